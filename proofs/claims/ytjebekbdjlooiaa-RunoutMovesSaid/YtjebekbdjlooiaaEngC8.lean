/- ENGINE C8. Slice literals, slicing. -/
import Derived.Test.YtjebekbdjlooiaaEngC7
namespace Go.Eng

theorem freeze1_length (h : List Blk) (b : Nat) : (freeze1 h b).length = h.length := by unfold freeze1; split <;> simp
theorem freezeL_length : ∀ (l : List Nat) (h : List Blk), (freezeL h l).length = h.length
  | [], _ => rfl
  | b :: l, h => by simp [freezeL, freezeL_length l, freeze1_length]

theorem replicate_get {α : Type} {l : List α} : ∀ {n i : Nat}, i < n * l.length → (List.replicate n l).flatten[i]? = l[i % l.length]?
  | 0, i, h => by simp at h
  | n + 1, i, h => by
    rw [List.replicate_succ, List.flatten_cons]
    by_cases hi : i < l.length
    · rw [List.getElem?_append_left hi, Nat.mod_eq_of_lt hi]
    · rw [List.getElem?_append_right (by omega), replicate_get (by rw [Nat.add_mul] at h; omega), Nat.mod_eq_sub_mod (by omega : l.length ≤ i)]

theorem zeros_eq (z : Array Value) (n : Nat) : ((Array.range (n * z.size)).map (z[· % z.size]!)).toList = (List.replicate n z.toList).flatten := by
  apply List.ext_getElem?
  intro i
  by_cases hi : i < n * z.size
  · rw [replicate_get (by simpa using hi)]
    have hz : 0 < z.size := by
      rcases Nat.eq_zero_or_pos z.size with h | h
      · rw [h] at hi; omega
      · exact h
    have hlt := Nat.mod_lt i hz
    simp [hi, hlt]
  · have h1 : ((Array.range (n * z.size)).map (z[· % z.size]!)).toList.length ≤ i := by simp; omega
    have h2 : (List.replicate n z.toList).flatten.length ≤ i := by simp; omega
    rw [List.getElem?_eq_none h1, List.getElem?_eq_none h2]

theorem repL_replicate {X : Ctx} {as : List AV} {vs : List Value} (h : RepL X as vs) : ∀ n, RepL X (List.replicate n as).flatten (List.replicate n vs).flatten
  | 0 => .nil
  | n + 1 => by simp only [List.replicate_succ, List.flatten_cons]; exact h.append (repL_replicate h n)

theorem vec_new {X : Ctx} {e : TypeId} {sh : List Sh} {l : R} {n cap : Nat} {w' : World} {c : Array Value} {T : TypeId} {fr : Nat × Nat} (h1 : l.length ≤ cap) (h2 : cap ≤ maxLen)
    (h3 : w'.heap[n]? = some (.cells c T fr)) (h4 : c.size = cap * sh.length) : Rep (X.pushW (.vec e sh l) (some n) w') (.vec X.h.length) (.slice (some ⟨n, 0, none⟩) l.length cap) := by
  refine .vec _ _ _ _ (by simp [Ctx.pushW]) fun sh' m ⟨e', l', q1, q2⟩ => ?_
  have : (X.h ++ [Blk.vec e sh l])[X.h.length]? = some (.vec e sh l) := by simp
  simp only [Ctx.pushW, this] at q1
  rcases q1 with q1 | q1 <;> cases q1
  subst q2
  unfold VecV
  simp only [Ctx.pushW, if_true]
  exact ⟨cap, rfl, h1, h2, c, T, fr, h3, h4⟩

theorem evBuildSlice_good {E : Env} {P : Program} (hE : E.tok P) {B : Base} {X : Ctx} (hs : HSim B X) {t : TypeId} {len : Nat} {parts : List (Nat × AV)} {vparts : Array (Nat × Value)} (hp : RepP X parts vparts.toList) {r : Res}
    (h : (evBuildSlice E X.h t len parts).run = some r) : OpGood P B X (do pure (.value (← Instr.buildSlice t len vparts))) r := by
  unfold evBuildSlice at h
  cases hd : (E.ty t).d <;> rw [hd] at h <;> try (cases h)
  rename_i e es
  obtain ⟨ht, rfl⟩ := ty_slice hE hd
  simp only at h
  by_cases hc : len * P.cellsOf e ≤ 16777216 ∧ 0 < P.cellsOf e ∧ (E.ty e).zero.length = P.cellsOf e
  · rw [if_pos hc] at h
    obtain ⟨hc1, hc2, hc3⟩ := hc
    cases hf : fillL (fun i => some (i * P.cellsOf e, P.cellsOf e)) (List.replicate len ((E.ty e).zero.map ofCell)).flatten parts with
    | none => rw [hf] at h; cases h
    | some cs =>
      cases hsh : E.shape 16 e with
      | none => rw [hf, hsh] at h; cases h
      | some sh =>
        rw [hf, hsh] at h
        simp only at h
        by_cases hl : sh.length = P.cellsOf e
        · rw [if_pos hl] at h
          cases hch : chunk X.h sh len cs with
          | none => rw [hch] at h; cases h
          | some l =>
            rw [hch] at h; cases h
            obtain ⟨z, z1, z2, _⟩ := ty_zero hE (t := e) (by omega) X.w
            have hzs : z.cells.size = P.cellsOf e := by rw [← hc3, ← z2]; simp
            have hini : RepL X (List.replicate len ((E.ty e).zero.map ofCell)).flatten ((Array.range (len * P.cellsOf e)).map (z.cells[· % z.cells.size]!)).toList := by
              rw [← hzs, zeros_eq, z2]; exact repL_replicate (repL_ofCells X _) len
            obtain ⟨vc, f1, f2⟩ := fill_sound (vc := (Array.range (len * P.cellsOf e)).map (z.cells[· % z.cells.size]!)) hf hp hini
            -- the own slices among the parts are frozen
            obtain ⟨X1, fz⟩ := freezeL_good (vecIdx cs) hs
            have hmem : ∀ a ∈ cs, ∀ b e sh l, a = .vec b → (X.h[b]? = some (.vec e sh l) ∨ X.h[b]? = some (.frz e sh l)) → X1.h[b]? = some (.frz e sh l) := by
              intro a ha b e sh l hab hb
              subst hab
              rw [fz.h]
              exact freezeL_mem _ (List.mem_filterMap.2 ⟨_, ha, rfl⟩) hb
            obtain ⟨g1, g2, g3⟩ := chunk_sound fz.hs fz.ext len hch hmem f2
            have hpw := PushW.alloc X1 (.cells vc e)
            have hlenv : vc.size = len * P.cellsOf e := by rw [← hl, ← g1]; simpa using g2
            have hx2 := Ctx.push_ext fz.hs (.vec e sh l) hpw
            have hlenh : X1.h.length = X.h.length := by rw [fz.h, freezeL_length]
            have hvec := vec_new (X := X1) (e := e) (sh := sh) (l := l) (n := X1.w.heap.size) (cap := len) (w' := X1.w.alloc (.cells vc e)) (by omega) (by
              have : len ≤ len * P.cellsOf e := Nat.le_mul_of_pos_right _ hc2
              unfold maxLen; omega) (heap_alloc_at _ _) (by rw [hl]; exact hlenv)
            rw [g1, hlenh, fz.w] at hvec
            refine ⟨.value (.slice (some ⟨X.w.heap.size, 0, none⟩) len len), _, X1.pushW (.vec e sh l) (some X1.w.heap.size) (X1.w.alloc (.cells vc e)), ?_, .inl rfl, ?_, fz.hs.push hpw ?_, ?_, fz.ext.trans hx2⟩
            · have hbig : ¬ (len * P.cellsOf e > 2 ^ 24) := by omega
              simp only [Instr.buildSlice, Sem.run_bind, run_underlying ht, Result.andThen_ok, run_sizeOf_pos hc2, Sem.run_ite, hbig, if_false, Sem.run_pure, Result.andThen_ite, z1]
              by_cases h0 : len * P.cellsOf e = 0
              · rw [if_pos h0, show Instr.fill (fun i => some (i * P.cellsOf e, P.cellsOf e)) (Array.map (fun x => (#[] : Array Value)[x % (#[] : Array Value).size]!) (Array.range (len * P.cellsOf e))) vparts.toList = some vc by
                  have e0 : ∀ f : Nat → Value, Array.map f (Array.range (len * P.cellsOf e)) = #[] := by intro f; rw [h0]; simp
                  rw [e0] at f1 ⊢; exact f1, fz.w]
                rfl
              · rw [if_neg h0, f1, fz.w]
                rfl
            · rw [fz.w]; exact hvec
            · refine .inr ⟨X1.w.heap.size, vc, by simp [Ctx.pushW], heap_alloc_at _ _, fun r j hj hr => ?_⟩
              obtain ⟨v, q1, q2⟩ := g3 r j hj hr
              exact ⟨v, by simpa using q1, q2.mono hx2.M hx2.w⟩
            · show X1.h ++ [_] = _; rw [fz.h, freezeAll_eq]
        · rw [if_neg hl] at h; cases h
  · rw [if_neg hc] at h; cases h

/-! ### Slicing -/
inductive RepO (X : Ctx) : Option AV → Option Value → Prop
  | none : RepO X none none
  | some {a : AV} {v : Value} (h : Rep X a v) : RepO X (some a) (some v)

theorem run_sliceBound {P : Program} {w : World} {k : IntKind} {i : Int} {y : Nat} {c : BoundsCode} (h0 : 0 ≤ i) (h1 : i ≤ y) : (Instr.sliceBound (.int k i) y c).run P w = .ok i.toNat w := by
  simp [Instr.sliceBound, asIntOf, h0, h1]

theorem optI_val {X : Ctx} {o : Option AV} {v : Option Value} (h : RepO X o v) {d a : Int} (ha : optI o d = some a) : (v = none ∧ a = d) ∨ ∃ k, v = some (.int k a) := by
  cases h with
  | none => simp only [optI, Option.some.injEq] at ha; exact .inl ⟨rfl, ha.symm⟩
  | some hv =>
    simp only [optI] at ha
    rename_i a0 v0
    cases h3 : asI a0 with
    | none => rw [h3] at ha; cases ha
    | some p =>
      obtain ⟨k, n⟩ := p
      rw [h3] at ha
      simp only [Option.map_some, Option.some.injEq] at ha
      subst ha
      obtain rfl := rep_asI hv h3
      exact .inr ⟨k, rfl⟩

theorem run_sliceBounds {P : Program} {X : Ctx} {isS : Bool} {len cap : Nat} {lo hi : Option AV} {vlo vhi : Option Value} (hlo : RepO X lo vlo) (hhi : RepO X hi vhi) {a b : Int} {d : Int}
    (h1 : optI lo 0 = some a) (h2 : optI hi d = some b) (hd : d = len) (hb0 : 0 ≤ b) (hb : b ≤ cap) (ha0 : 0 ≤ a) (ha : a ≤ b) (w : World) :
    (Instr.sliceBounds isS len cap vlo vhi none).run P w = .ok (a.toNat, b.toNat, cap) w := by
  have hba : a ≤ (b.toNat : Nat) := by omega
  rcases optI_val hlo h1 with ⟨rfl, rfl⟩ | ⟨k, rfl⟩ <;> rcases optI_val hhi h2 with ⟨rfl, rfl⟩ | ⟨k', rfl⟩
  · subst hd; simp [Instr.sliceBounds]
  · simp [Instr.sliceBounds, run_sliceBound hb0 hb]
  · subst hd
    have : a ≤ (len : Int) := ha
    simp [Instr.sliceBounds, run_sliceBound ha0 this]
  · simp [Instr.sliceBounds, run_sliceBound hb0 hb, run_sliceBound ha0 hba]

theorem cellU_rsub {l : R} {a b : Int} {r : Nat} (h : r < b.toNat - a.toNat) {j : Nat} : cellU (rsub l a b) r j = cellU l ((a.toNat + r : Nat) : Int) j := by
  unfold cellU rsub
  rw [Int.toNat_natCast, Int.toNat_natCast]
  have : ((l.take b.toNat).drop a.toNat).getD r [] = l.getD (a.toNat + r) [] := by
    simp only [List.getD_eq_getElem?_getD, List.getElem?_drop, List.getElem?_take]
    rw [if_pos (by omega)]
  rw [this]

theorem rsub_length {l : R} {a b : Int} (hb : b.toNat ≤ l.length) : (rsub l a b).length = b.toNat - a.toNat := by
  simp [rsub]; omega

theorem immAt_sub {w : World} {M : Nat → Prop} {sh : List Sh} {l : R} {p : Option Addr} {n c : Nat} {a b : Int} (h : ImmAt w M sh l (.slice p n c)) (ha0 : 0 ≤ a) (ha : a ≤ b) (hb : b ≤ rlen l) :
    b.toNat ≤ c ∧ n = l.length ∧ ImmAt w M sh (rsub l a b) (.slice (if c = a.toNat then p else p.map (·.add (a.toNat * sh.length))) (b.toNat - a.toNat) (c - a.toNat)) := by
  have hb' : b.toNat ≤ l.length := by simp only [rlen] at hb; omega
  rcases h with ⟨h1, h2⟩ | ⟨ad, cap, h1, h2, h3, h4⟩
  · cases h1; subst h2
    simp at hb'
    have e1 : a.toNat = 0 := by omega
    have e2 : b.toNat = 0 := by omega
    refine ⟨by omega, rfl, .inl ⟨?_, by simp [rsub]⟩⟩
    rw [e1, e2]; simp
  · cases h1
    refine ⟨by omega, rfl, .inr ⟨if c = a.toNat then ad else ad.add (a.toNat * sh.length), c - a.toNat, ?_, ?_, ?_, ?_⟩⟩
    · rw [rsub_length hb']; split <;> rfl
    · intro hl
      rw [rsub_length hb'] at hl
      have h2' := h2 (by omega)
      split
      · exact h2'
      · rw [Addr.add_of h2']
    · rw [rsub_length hb']; omega
    · intro r j hj hr
      rw [rsub_length hb'] at hr
      rw [if_neg (by omega), Addr.add_of (h2 (by omega))]
      obtain ⟨g1, v, g2, g3⟩ := h4 (a.toNat + r) j hj (by omega)
      refine ⟨g1, v, ?_, by rw [cellU_rsub hr]; exact g3⟩
      rw [← g2]
      show _ = World.cell? w ⟨ad.block, ad.off + (a.toNat + r) * sh.length + j, none⟩
      congr 2
      rw [Nat.add_mul]; show ad.off + a.toNat * sh.length + r * sh.length + j = _; omega

theorem run_sliceAt_slice {P : Program} {t e : TypeId} {w : World} {p : Option Addr} {n c : Nat} {vlo vhi : Option Value} {a b : Nat} (ht : P.underlying t = some (.slice e)) (hp : 0 < P.cellsOf e)
    (hb : (Instr.sliceBounds true n c vlo vhi none).run P w = .ok (a, b, c) w) :
    (Instr.sliceAt t (.slice p n c) vlo vhi none).run P w = .ok (.slice (if c = a then p else p.map (·.add (a * P.cellsOf e))) (b - a) (c - a)) w := by
  simp only [Instr.sliceAt, Sem.run_bind, run_underlying ht, Result.andThen_ok, Instr.slice, hb, run_sizeOf_pos hp]
  rfl

theorem run_sliceAt_string {P : Program} {t : TypeId} {w : World} {s : List UInt8} {vlo vhi : Option Value} {a b : Int} (ht : P.underlying t = some .string)
    (hb : (Instr.sliceBounds false s.length s.length vlo vhi none).run P w = .ok (a.toNat, b.toNat, s.length) w) :
    (Instr.sliceAt t (.string ⟨s.toArray⟩) vlo vhi none).run P w = .ok (.string ⟨(ssub s a b).toArray⟩) w := by
  have h1 : (ByteArray.mk s.toArray).size = s.length := rfl
  simp only [Instr.sliceAt, Sem.run_bind, run_underlying ht, Result.andThen_ok, Instr.slice, h1, hb, Option.isSome_none, Bool.false_eq_true, if_false, Sem.run_pure]
  congr 2
  apply ByteArray.ext
  have : (ByteArray.mk s.toArray).extract a.toNat b.toNat = ⟨s.toArray.extract a.toNat b.toNat⟩ := by
    apply ByteArray.ext; simp
  rw [this]
  simp [ssub, List.extract, List.drop_take]

theorem evSlice_good {E : Env} {P : Program} (hE : E.tok P) {B : Base} {X : Ctx} (hs : HSim B X) {t : TypeId} {a : AV} {v : Value} {lo hi mx : Option AV} {vlo vhi vmx : Option Value} (hv : Rep X a v)
    (hlo : RepO X lo vlo) (hhi : RepO X hi vhi) (hmx : RepO X mx vmx) {r : Res} (h : (evSlice E X.h t a lo hi mx).run = some r) :
    OpGood P B X (do pure (.value (← Instr.sliceAt t v vlo vhi vmx))) r := by
  unfold evSlice at h
  cases hmx with
  | some _ => cases h
  | none =>
    simp only at h
    cases hd : (E.ty t).d <;> rw [hd] at h <;> try (cases h)
    · -- a string
      have ht := ty_str hE hd
      cases hv <;> simp only at h <;> try (cases h)
      rename_i s
      cases h1 : optI lo 0 with
      | none => rw [h1] at h; cases h
      | some l =>
        cases h2 : optI hi (slen s) with
        | none => rw [h1, h2] at h; cases h
        | some b =>
          rw [h1, h2] at h
          obtain ⟨g1, g2⟩ := br_run h
          obtain ⟨g3, g4⟩ := br_run g2
          cases g4
          obtain ⟨q1, q2⟩ := inbe_iff g1
          obtain ⟨q3, q4⟩ := inbe_iff g3
          exact OpGood.ofV hs (run_sliceAt_string ht (run_sliceBounds hlo hhi h1 h2 rfl q1 q2 q3 q4 _)) (.str _)
    · rename_i e es
      obtain ⟨ht, rfl⟩ := ty_slice hE hd
      cases hv <;> simp only at h <;> try (cases h)
      · rename_i sh l himm
        cases h1 : optI lo 0 with
        | none => rw [h1] at h; cases h
        | some x =>
          cases h2 : optI hi (rlen l) with
          | none => rw [h1, h2] at h; cases h
          | some y =>
            rw [h1, h2] at h
            simp only at h
            by_cases hc : sh.length = P.cellsOf e ∧ 0 < P.cellsOf e
            · rw [if_pos hc] at h
              obtain ⟨g1, g2⟩ := br_run h
              obtain ⟨g3, g4⟩ := br_run g2
              cases g4
              obtain ⟨q1, q2⟩ := inbe_iff g1
              obtain ⟨q3, q4⟩ := inbe_iff g3
              obtain ⟨p, n, c, rfl⟩ : ∃ p n c, v = .slice p n c := by
                rcases himm with ⟨rfl, _⟩ | ⟨ad, cap, rfl, _⟩ <;> exact ⟨_, _, _, rfl⟩
              obtain ⟨w1, rfl, w3⟩ := immAt_sub himm q3 q4 q2
              rw [hc.1] at w3
              exact OpGood.ofV hs (run_sliceAt_slice ht hc.2 (run_sliceBounds hlo hhi h1 h2 rfl q1 (by omega) q3 q4 _)) (.imm _ _ _ w3)
            · rw [if_neg hc] at h; cases h
      · rename_i b p n c hb hv
        have hb' := hb
        have key : ∀ e0 sh l (h' : List Blk), (X.h[b]? = some (.vec e0 sh l) ∨ X.h[b]? = some (.frz e0 sh l)) → h' = freeze1 X.h b → (match optI lo 0, optI hi (rlen l) with
          | some x, some y => if sh.length = P.cellsOf e ∧ 0 < P.cellsOf e then Tree.br (inbe y (rlen l)) (.br (inbe x y) (.leaf ((.imm sh (rsub l x y), h', none) : Res)) .fail) .fail else .fail
          | _, _ => .fail).run = some r → OpGood P B X (do pure (.value (← Instr.sliceAt t (.slice p n c) vlo vhi none))) r := by
          intro e0 sh l h' hh hh' hr
          cases h1 : optI lo 0 with
          | none => rw [h1] at hr; cases hr
          | some x =>
            cases h2 : optI hi (rlen l) with
            | none => rw [h1, h2] at hr; cases hr
            | some y =>
              rw [h1, h2] at hr
              simp only at hr
              by_cases hc : sh.length = P.cellsOf e ∧ 0 < P.cellsOf e
              · rw [if_pos hc] at hr
                obtain ⟨g1, g2⟩ := br_run hr
                obtain ⟨g3, g4⟩ := br_run g2
                cases g4
                obtain ⟨q1, q2⟩ := inbe_iff g1
                obtain ⟨q3, q4⟩ := inbe_iff g3
                obtain ⟨X1, fz⟩ := freeze1_good hs b
                have hfr : X1.h[b]? = some (.frz e0 sh l) := by rw [fz.h]; exact freeze1_self hh
                have hrep : Rep X (.vec b) (.slice p n c) := .vec b p n c hb hv
                have himm := imm_of_frz fz.hs hfr (hrep.ext fz.ext)
                obtain ⟨w1, rfl, w3⟩ := immAt_sub himm q3 q4 q2
                rw [hc.1] at w3
                refine ⟨_, _, X1, ?_, .inl rfl, .imm _ _ _ w3, fz.hs, by rw [fz.h, hh'], fz.ext⟩
                rw [Sem.run_bind, run_sliceAt_slice ht hc.2 (run_sliceBounds hlo hhi h1 h2 rfl q1 (by omega) q3 q4 _), fz.w]
                rfl
              · rw [if_neg hc] at hr; cases hr
        cases hbk : X.h[b]? with
        | none => rw [hbk] at h; cases h
        | some k =>
          rw [hbk] at h
          cases k <;> try (cases h; done)
          · rename_i e0 sh l
            simp only at h
            cases hbt : byteTail sh hi with
            | false => rw [hbt] at h; exact key _ _ _ _ (.inl hbk) rfl h
            | true =>
              rw [hbt] at h
              simp only at h
              cases h1 : optI lo 0 with
              | none => rw [h1] at h; cases h
              | some x =>
                rw [h1] at h
                simp only at h
                by_cases hc : P.cellsOf e = 1
                · rw [if_pos hc] at h
                  obtain ⟨g1, g2⟩ := br_run h
                  obtain ⟨g3, g4⟩ := br_run g2
                  cases g4
                  have hpos : (0 : Int) < rlen l := of_decide_eq_true g1
                  obtain ⟨q1, q2⟩ := inbe_iff g3
                  have hhin : hi = none ∧ isBytes sh = true := by
                    unfold byteTail at hbt
                    cases hi with
                    | none => exact ⟨rfl, hbt⟩
                    | some y => cases hbt
                  obtain ⟨rfl, hby⟩ := hhin
                  have hsh : sh.length = 1 := by
                    unfold isBytes at hby
                    split at hby
                    · rfl
                    · cases hby
                  have hvv := hv sh l.length ⟨e0, l, .inl hbk, rfl⟩
                  unfold VecV at hvv
                  rcases hs.blk b _ hbk with ⟨e1, rfl⟩ | ⟨n0, c0, e1, e2, e3⟩
                  · simp [rlen] at hpos
                  · rw [e1] at hvv
                    obtain ⟨cap, q3, q4, q5, _⟩ := hvv
                    cases q3
                    have hb := run_sliceBounds (P := P) (isS := true) (len := l.length) (cap := c) hlo hhi h1 (b := rlen l) (d := rlen l) rfl rfl (by omega) (by unfold rlen; omega) q1 q2 X.w
                    have hrun := run_sliceAt_slice (p := some ⟨n0, 0, none⟩) ht (by omega) hb
                    refine OpGood.ofV hs hrun ?_
                    have hnn : (rlen l).toNat = l.length := by unfold rlen; omega
                    rw [hnn, hc]
                    by_cases hcx : c = x.toNat
                    · rw [if_pos hcx]
                      refine .vsub b x n0 0 _ _ hb' e1 fun sh' m' hv' => ?_
                      obtain ⟨e', l', w1, w2⟩ := hv'
                      rw [hbk] at w1
                      rcases w1 with w1 | w1 <;> cases w1
                      unfold rlen at q2
                      exact ⟨q1, by omega, .inr ⟨by omega, rfl⟩, by omega⟩
                    · rw [if_neg hcx]
                      have hadd : (some (⟨n0, 0, none⟩ : Addr)).map (·.add (x.toNat * 1)) = some ⟨n0, x.toNat, none⟩ := by
                        simp only [Option.map_some, Addr.add]; congr 1; split <;> (try simp_all) <;> (try omega)
                      rw [hadd]
                      refine .vsub b x n0 x.toNat _ _ hb' e1 fun sh' m' hv' => ?_
                      obtain ⟨e', l', w1, w2⟩ := hv'
                      rw [hbk] at w1
                      rcases w1 with w1 | w1 <;> cases w1
                      unfold rlen at q2
                      exact ⟨q1, by omega, .inl (by rw [hsh]; omega), by omega⟩
                · rw [if_neg hc] at h; cases h
          · exact key _ _ _ X.h (.inr hbk) (by simp only [freeze1, hbk]) h

end Go.Eng
