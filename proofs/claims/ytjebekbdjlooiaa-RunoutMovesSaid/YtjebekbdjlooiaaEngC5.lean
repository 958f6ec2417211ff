/- ENGINE C5. Operations that make or write memory: new variables, stores, struct and slice literals. -/
import Derived.Test.YtjebekbdjlooiaaEngC4
namespace Go.Eng

theorem evEqAgg_sound {E : Env} {P : Program} (hE : E.tok P) {X : Ctx} {op : BinOp} {t : TypeId} {x y : Operand} {xs ys : List AV} {vx vy : Value} (hx : Rep X (.agg xs) vx) (hy : Rep X (.agg ys) vy) {r : Res}
    (h : (evEqAgg E X.h op t (.agg xs) (.agg ys)).run = some r) : ∃ av u, r = (av, X.h, none) ∧ (do eqGuard op t x y vx vy; binOp op t vx vy : Sem Value).run P X.w = .ok u X.w ∧ Rep X av u := by
  unfold evEqAgg at h
  cases he : eqT E 32 t (.agg xs) (.agg ys) with
  | none => rw [he] at h; cases h
  | some b =>
    rw [he] at h
    simp only at h
    have heq := run_equal (eqT_sound hE 32 t _ _ b vx vy he hx hy (9999 + 1) (by omega) X.w)
    -- the type is a struct whose equality is plain
    have hg : ∀ op w, (eqGuard op t x y vx vy).run P w = .ok () w := by
      intro op w
      simp only [eqT] at he
      cases ht : (E.ty t).d <;> rw [ht] at he <;> try (simp only [asI, asB] at he; cases he)
      rename_i fs
      simp only at he
      by_cases hok : (E.ty t).eqok = true
      · have hk := ty_known hE (t := t) (by rw [ht]; rfl)
        obtain ⟨fields, e1, e2⟩ := ty_struct hE ht
        rw [hk.1] at hok
        unfold mkTI at hok
        obtain ⟨_, i, dd, h1, h2, _⟩ := hk
        rw [h1] at hok
        simp only [e1, Bool.and_eq_true, Bool.not_eq_true'] at hok
        cases hx; cases hy
        unfold eqGuard
        cases op <;> simp [run_program, hok.1.2]
      · rw [if_neg hok] at he; cases he
    cases hx with
    | agg _ vxs hxs =>
      cases hy with
      | agg _ vys hys =>
        cases op <;> simp only [okb] at h <;> cases h
        · refine ⟨_, _, rfl, ?_, .bool b⟩
          rw [Sem.run_bind, hg, Result.andThen_ok]
          simp [binOp, heq]
        · refine ⟨_, _, rfl, ?_, .bool (!b)⟩
          rw [Sem.run_bind, hg, Result.andThen_ok]
          simp [binOp, heq]

/-! ### New variables -/
theorem rep_cell_one {X : Ctx} {a : AV} {v : Value} (h : Rep X a v) (hc : a.isCell = true) : v.cells = #[v] ∧ v.oneCell' = true := by
  cases h with
  | imm sh l v h =>
    rcases h with ⟨rfl, rfl⟩ | ⟨a, cap, rfl, h1, h2, h3⟩ <;> exact ⟨rfl, rfl⟩
  | undef => simp [AV.isCell] at hc
  | skip => simp [AV.isCell] at hc
  | agg => simp [AV.isCell] at hc
  | tuple => simp [AV.isCell] at hc
  | bagg => simp [AV.isCell] at hc
  | _ => exact ⟨rfl, rfl⟩

theorem rep_cells {X : Ctx} {a : AV} {v : Value} (h : Rep X a v) (hc : allCells a.cells = true) : RepL X a.cells v.cells.toList := by
  cases h with
  | agg cs vs h => simpa [AV.cells, Value.cells] using h
  | undef => simp [AV.cells, allCells, AV.isCell] at hc
  | skip => simp [AV.cells, allCells, AV.isCell] at hc
  | tuple => simp [AV.cells, allCells, AV.isCell] at hc
  | bagg => simp [AV.cells, allCells, AV.isCell] at hc
  | yld => exact .cons .yld .nil
  | blit => exact .cons (.blit _) .nil
  | bool => exact .cons (.bool _) .nil
  | ilit => exact .cons (.ilit _ _) .nil
  | int => exact .cons (.int _ _) .nil
  | str => exact .cons (.str _) .nil
  | nilp => exact .cons .nilp .nil
  | ptr b off n h1 h2 => exact .cons (.ptr b off n h1 h2) .nil
  | eptr sh l i off a h1 h2 h3 h4 => exact .cons (.eptr sh l i off a h1 h2 h3 h4) .nil
  | mnil sh l i off => exact .cons (.mnil sh l i off) .nil
  | mptr sh l i off a h1 h2 h3 h4 => exact .cons (.mptr sh l i off a h1 h2 h3 h4) .nil
  | vptr b i off n k h1 h2 h3 => exact .cons (.vptr b i off n k h1 h2 h3) .nil
  | vsub b i n k m c h1 h2 h3 => exact .cons (.vsub b i n k m c h1 h2 h3) .nil
  | aptr b o i n h1 h2 h3 => exact .cons (.aptr b o i n h1 h2 h3) .nil
  | asub b o N i m n k c h1 h2 h3 h4 h5 h6 => exact .cons (.asub b o N i m n k c h1 h2 h3 h4 h5 h6) .nil
  | nils => exact .cons .nils .nil
  | imm sh l v h =>
    rcases h with ⟨rfl, rfl⟩ | ⟨a, cap, rfl, h1, h2, h3⟩
    · exact .cons (.imm _ _ _ (.inl ⟨rfl, rfl⟩)) .nil
    · exact .cons (.imm _ _ _ (.inr ⟨a, cap, rfl, h1, h2, h3⟩)) .nil
  | vec b p n c h1 h2 => exact .cons (.vec b p n c h1 h2) .nil
  | nilf => exact .cons .nilf .nil
  | fn f first caps vf vc h1 h2 => exact .cons (.fn f first caps vf vc h1 h2) .nil

theorem repL_oneCell {X : Ctx} : ∀ {cs : List AV} {vs : List Value}, RepL X cs vs → allCells cs = true → ∀ v ∈ vs, v.oneCell' = true
  | _, _, .nil, _, v, h => by simp at h
  | _, _, .cons ha ht, hc, v, h => by
    simp only [allCells, List.all_cons, Bool.and_eq_true] at hc
    rcases List.mem_cons.1 h with rfl | h
    · exact (rep_cell_one ha hc.1).2
    · exact repL_oneCell ht hc.2 v h

/-- a new block of cells -/
theorem push_cells {B : Base} {X : Ctx} (hs : HSim B X) {cs : List AV} {c : Array Value} {T : TypeId} (hr : RepL X cs c.toList) :
    HSim B (X.pushW (.cells cs) (some X.w.heap.size) (X.w.alloc (.cells c T))) := by
  have hw := PushW.alloc X (.cells c T)
  refine hs.push hw ⟨X.w.heap.size, c, T, by simp [Ctx.pushW], heap_alloc_at _ _, hr.ext (Ctx.push_ext hs _ hw)⟩

theorem push_ptr {X : Ctx} {k : Blk} {n : Nat} {w' : World} : Rep (X.pushW k (some n) w') (.ptr X.h.length 0) (.pointer (some ⟨n, 0, none⟩)) :=
  .ptr _ _ _ (by simp [Ctx.pushW]) (by simp [Ctx.pushW])

theorem newVar_good {P : Program} {B : Base} {X : Ctx} (hs : HSim B X) {cs : List AV} {v : Value} {t : TypeId} (hr : RepL X cs v.cells.toList) {m : Sem Value}
    (hm : m.run P X.w = .ok (.pointer (some ⟨X.w.heap.size, 0, none⟩)) (X.w.alloc (.cells v.cells t))) :
    OpGood P B X (do pure (.value (← m))) (.ptr X.h.length 0, X.h ++ [.cells cs], none) :=
  ⟨.value (.pointer (some ⟨X.w.heap.size, 0, none⟩)), _, X.pushW (.cells cs) (some X.w.heap.size) (X.w.alloc (.cells v.cells t)), by simp [hm]; rfl, .inl rfl, push_ptr, push_cells hs hr, rfl,
    Ctx.push_ext hs _ (PushW.alloc X _)⟩

theorem run_newVar (P : Program) (w : World) (t : TypeId) (v : Value) : (newVar t v).run P w = .ok ⟨w.heap.size, 0, none⟩ (w.alloc (.cells v.cells t)) := rfl

theorem box_good {P : Program} {B : Base} {X : Ctx} (hs : HSim B X) {a : AV} {v : Value} (hv : Rep X a v) {t : TypeId} (hc : allCells a.cells = true) :
    OpGood P B X (do pure (.value (← Instr.box t v))) (.ptr X.h.length 0, X.h ++ [.cells a.cells], none) :=
  newVar_good (t := t) hs (rep_cells hv hc) (by simp [Instr.box, run_newVar])

theorem ty_zero {E : Env} {P : Program} (hE : E.tok P) {t : TypeId} (h : (E.ty t).zero.length ≠ 0) (w : World) : ∃ v, (zeroValue t).run P w = .ok v w ∧ v.cells.toList = (E.ty t).zero ∧
    ∃ i, P.info? t = some i ∧ i.zero = some v := by
  rcases ty_cases hE t with h1 | h1
  · rw [h1] at h; simp [noTI] at h
  · rw [h1] at h ⊢
    unfold mkTI at *
    cases hi : P.info? t with
    | none => rw [hi] at h; simp at h
    | some i =>
      cases hz : i.zero with
      | none => simp [hi, hz] at h
      | some v => exact ⟨v, by simp [zeroValue, typeInfo, hi, hz], by simp [hz], i, rfl, hz⟩

theorem alloc_good {E : Env} {P : Program} (hE : E.tok P) {B : Base} {X : Ctx} (hs : HSim B X) {t : TypeId} (hz : ((E.ty t).zero.map ofCell).length ≠ 0) :
    OpGood P B X (do pure (.value (← Instr.alloc t true (.tuple #[])))) (.ptr X.h.length 0, X.h ++ [.cells ((E.ty t).zero.map ofCell)], none) := by
  obtain ⟨v, h1, h2, _⟩ := ty_zero hE (t := t) (by simpa using hz) X.w
  refine newVar_good (t := t) (v := v) hs (by rw [h2]; exact repL_ofCells X _) ?_
  simp [Instr.alloc, h1, run_newVar]

/-! ### Stores -/
theorem repL_splice {X : Ctx} {cs vs : List AV} {us ws : List Value} (h1 : RepL X cs us) (h2 : RepL X vs ws) (off : Nat) : RepL X (splice cs off vs) (us.take off ++ ws ++ us.drop (off + vs.length)) :=
  ((h1.take off).append h2).append (h1.drop _)

theorem splice_length {cs vs : List AV} {off : Nat} (h : off + vs.length ≤ cs.length) : (splice cs off vs).length = cs.length := by
  simp [splice]; omega

mutual
theorem Sh.beq_eq : ∀ a b : Sh, a.beq b = true → a = b
  | .int k, b, h => by cases b <;> simp [Sh.beq] at h; rw [h]
  | .bool, b, h => by cases b <;> simp [Sh.beq] at h; rfl
  | .str, b, h => by cases b <;> simp [Sh.beq] at h; rfl
  | .sl r, b, h => by
    cases b <;> simp [Sh.beq] at h
    rw [Sh.beqL_eq _ _ h]
theorem Sh.beqL_eq : ∀ a b : List Sh, Sh.beqL a b = true → a = b
  | [], b, h => by cases b <;> simp [Sh.beqL] at h; rfl
  | a :: l, b, h => by
    cases b <;> simp [Sh.beqL] at h
    rw [Sh.beq_eq _ _ h.1, Sh.beqL_eq _ _ h.2]
end

theorem toU_sound {X : Ctx} {s : Sh} {a : AV} {u : U} {v : Value} (h : toU X.h s a = some u) (hm : a.men = []) (hr : Rep X a v) : RepU X.w X.M s u v := by
  cases hr with
  | ilit k n =>
    cases s <;> simp only [toU] at h <;> try (cases h)
    rename_i k'
    by_cases hk : k' = k
    · subst hk; rw [if_pos rfl] at h; cases h; exact .int _ (.i n)
    · rw [if_neg hk] at h; cases h
  | int k n =>
    cases s <;> simp only [toU] at h <;> try (cases h)
    rename_i k'
    by_cases hk : k' = k
    · subst hk; rw [if_pos rfl] at h; cases h; exact .int _ (.i n)
    · rw [if_neg hk] at h; cases h
  | blit b => cases s <;> simp only [toU] at h <;> cases h; exact .bool (.b b)
  | bool b => cases s <;> simp only [toU] at h <;> cases h; exact .bool (.b b)
  | str t => cases s <;> simp only [toU] at h <;> cases h; exact .str (.s t)
  | nils => cases s <;> simp only [toU] at h <;> cases h; exact .slnil _ _ rfl
  | imm sh l v himm =>
    cases s <;> simp only [toU] at h <;> try (cases h)
    rename_i row
    by_cases hb : Sh.beqL row sh = true
    · rw [if_pos hb] at h; cases h
      obtain rfl := Sh.beqL_eq _ _ hb
      exact repU_of_immAt himm
    · rw [if_neg hb] at h; cases h
  | vec b p n c h1 h2 => simp [AV.men] at hm
  | _ => cases s <;> simp only [toU] at h <;> cases h

theorem toUs_sound {X : Ctx} : ∀ {sh : List Sh} {as : List AV} {us : List U} {vs : List Value}, toUs X.h sh as = some us → AV.menL as = [] → RepL X as vs →
    us.length = sh.length ∧ as.length = sh.length ∧ ∀ j (hj : j < sh.length), ∃ v, vs[j]? = some v ∧ RepU X.w X.M sh[j] (us.getD j (.i 0)) v
  | [], [], us, vs, h, _, hr => by simp [toUs] at h; subst h; exact ⟨rfl, rfl, fun j hj => by simp at hj⟩
  | [], _ :: _, us, vs, h, _, _ => by simp [toUs] at h
  | _ :: _, [], us, vs, h, _, _ => by simp [toUs] at h
  | s :: sh, a :: as, us, vs, h, hm, hr => by
    simp only [toUs] at h
    cases h1 : toU X.h s a with
    | none => rw [h1] at h; cases h
    | some u =>
      cases h2 : toUs X.h sh as with
      | none => rw [h1, h2] at h; cases h
      | some us' =>
        rw [h1, h2] at h; cases h
        simp only [AV.menL, List.append_eq_nil_iff] at hm
        cases hr with
        | cons ha ht =>
          obtain ⟨g1, g2, g3⟩ := toUs_sound h2 hm.2 ht
          refine ⟨by simp [g1], by simp [g2], fun j hj => ?_⟩
          cases j with
          | zero => exact ⟨_, rfl, by simpa using toU_sound h1 hm.1 ha⟩
          | succ j =>
            obtain ⟨v, q1, q2⟩ := g3 j (by simpa using hj)
            exact ⟨v, by simpa using q1, by simpa using q2⟩

theorem run_storeVar_at {P : Program} {X : Ctx} {t : TypeId} {n o : Nat} {c : Array Value} {T : TypeId} {v : Value} (hc : X.w.heap[n]? = some (.cells c T (0, 0)))
    (hsz : (sizeOf t).run P X.w = .ok v.cells.size X.w) (hle : o + v.cells.size ≤ c.size) (h1 : ∀ u ∈ v.cells.toList, u.oneCell' = true) :
    (storeVar t ⟨n, o, none⟩ v).run P X.w = .ok () (X.w.setRow n (c.toList.take o ++ v.cells.toList ++ c.toList.drop (o + v.cells.size)).toArray) := by
  have := run_storeCells_at P n o T v.cells.toList 0 c X.w hc (by simpa using hle) h1
  simp only [Nat.add_zero, Array.length_toList] at this
  simp [storeVar, hsz, this]

theorem rowSet_getD (row : List U) (off : Nat) (us : List U) (j : Nat) :
    (rowSet row off us).getD j (.i 0) = if off ≤ j ∧ j < off + us.length then us.getD (j - off) (.i 0) else row.getD j (.i 0) := by
  unfold rowSet
  by_cases hj : j < max row.length (off + us.length)
  · simp [List.getD_eq_getElem?_getD, hj]
  · have h1 : ¬ (off ≤ j ∧ j < off + us.length) := by omega
    have h2 : row.length ≤ j := by omega
    rw [if_neg h1]
    simp [List.getD_eq_getElem?_getD, hj, h2]

theorem cellU_rset_same {l : R} {i : Int} {off : Nat} {us : List U} (hi : i.toNat < l.length) {j : Nat} : cellU (rset l i off us) i j =
    if off ≤ j ∧ j < off + us.length then us.getD (j - off) (.i 0) else cellU l i j := by
  have : (rset l i off us).getD i.toNat [] = rowSet (l.getD i.toNat []) off us := by
    simp [rset, List.getD_eq_getElem?_getD, hi]
  unfold cellU
  rw [this, rowSet_getD]

theorem cellU_rset_other {l : R} {i : Int} {off : Nat} {us : List U} {r : Nat} (hr : r ≠ i.toNat) {j : Nat} : cellU (rset l i off us) r j = cellU l r j := by
  unfold cellU rset
  simp [List.getD_eq_getElem?_getD, List.getElem?_set_ne (Ne.symm hr)]

theorem run_sizeOf_of {E : Env} {P : Program} (hE : E.tok P) {t : TypeId} {n : Nat} (h : n = (E.ty t).size) (h0 : n ≠ 0) (w : World) : (sizeOf t).run P w = .ok n w := by
  rcases ty_cases hE t with h1 | h1
  · rw [h1] at h; exact absurd h h0
  · rw [h1] at h
    unfold mkTI at h
    cases hi : P.info? t with
    | none => rw [hi] at h; exact absurd h h0
    | some i => rw [hi] at h; simp [sizeOf, typeInfo, hi]; exact h.symm

theorem row_apart {r i es j : Nat} (hj : j < es) (h : r ≠ i) : r * es + j < i * es ∨ i * es + es ≤ r * es + j := by
  rcases Nat.lt_or_gt_of_ne h with h | h
  · left
    have : (r + 1) * es ≤ i * es := Nat.mul_le_mul_right _ h
    rw [Nat.add_mul] at this; omega
  · right
    have : (i + 1) * es ≤ r * es := Nat.mul_le_mul_right _ h
    rw [Nat.add_mul] at this; omega

theorem splice_get {c vs : List Value} {o k : Nat} (h : o + vs.length ≤ c.length) : (c.take o ++ vs ++ c.drop (o + vs.length))[k]? = if o ≤ k ∧ k < o + vs.length then vs[k - o]? else c[k]? := by
  by_cases h1 : k < o
  · rw [if_neg (by omega), List.append_assoc, List.getElem?_append_left (by simp; omega), List.getElem?_take, if_pos h1]
  · by_cases h2 : k < o + vs.length
    · rw [if_pos (by omega), List.append_assoc, List.getElem?_append_right (by simp; omega), List.getElem?_append_left (by simp; omega)]
      congr 1; simp; omega
    · rw [if_neg (by omega), List.getElem?_append_right (by simp; omega), List.getElem?_drop]
      congr 1; simp; omega

theorem evStore_good {E : Env} {P : Program} (hE : E.tok P) {B : Base} {X : Ctx} (hs : HSim B X) {t : TypeId} {p a : AV} {vp v : Value} (hp : Rep X p vp) (hv : Rep X a v) {r : Res}
    (h : (evStore E X.h t p a).run = some r) : OpGood P B X (do Instr.storeAt t vp v; pure .skip) r := by
  unfold evStore at h
  by_cases hc : a.cells.length = (E.ty t).size ∧ allCells a.cells = true ∧ a.cells.length ≠ 0
  · rw [if_pos hc] at h
    have hrl := rep_cells hv hc.2.1
    have hlen : v.cells.size = a.cells.length := by have := hrl.length; simpa using this.symm
    have hone := repL_oneCell hrl hc.2.1
    have hsz : (sizeOf t).run P X.w = .ok v.cells.size X.w := by rw [hlen]; exact run_sizeOf_of hE hc.1 hc.2.2 X.w
    cases hp with
    | ptr b off n hb hσ =>
      simp only at h
      cases hh : X.h[b]? with
      | none => rw [hh] at h; cases h
      | some k =>
        rw [hh] at h
        cases k <;> try (cases h)
        rename_i cs
        simp only at h
        by_cases hle : off + a.cells.length ≤ cs.length
        · rw [if_pos hle] at h; cases h
          obtain ⟨n', c, T, e1, e2, e3⟩ := hs.blk b _ hh
          rw [hσ] at e1; cases e1
          have hcl := e3.length
          simp only [Array.length_toList] at hcl
          have hrun := run_storeVar_at (P := P) (t := t) (o := off) (v := v) e2 hsz (by omega) hone
          have hup := UpdW.setRow (X := X) (c' := (c.toList.take off ++ v.cells.toList ++ c.toList.drop (off + v.cells.size)).toArray) e2 (by simp; omega)
          have hown : X.own b n := ⟨hσ, _, hh, rfl⟩
          have hx := Ctx.upd_ext hs hh hown hup (k' := .cells (splice cs off a.cells)) trivial
          refine ⟨.skip, Go.undef, X.upd b (.cells (splice cs off a.cells)) (X.w.setRow n _), ?_, .inr ⟨rfl, rfl⟩, .skip, hs.upd hh hown hup trivial ?_, rfl, hx⟩
          · simp [Instr.storeAt, Instr.sureAddr, hrun]; rfl
          · refine ⟨n, _, T, hσ, hup.new, ?_⟩
            have := (repL_splice e3 hrl off).ext hx
            rw [← hlen] at this; simpa using this
        · rw [if_neg hle] at h; cases h
    | vptr b i off n k hb hσ hk =>
      simp only at h
      cases hh : X.h[b]? with
      | none => rw [hh] at h; cases h
      | some kk =>
        rw [hh] at h
        cases kk <;> try (cases h)
        rename_i e sh l
        simp only at h
        by_cases hm : (AV.menL a.cells).isEmpty = true
        · rw [if_pos hm] at h
          cases hu : toUs X.h ((sh.drop off).take a.cells.length) a.cells with
          | none => rw [hu] at h; cases h
          | some us =>
            rw [hu] at h; cases h
            obtain ⟨g1, g2, g3⟩ := toUs_sound hu (by simpa using hm) hrl
            have g2' : off + a.cells.length ≤ sh.length := by
              have := hc.2.2
              simp only [List.length_take, List.length_drop] at g2; omega
            have hul : us.length = a.cells.length := by rw [g1, ← g2]
            obtain ⟨q1, q2, q3⟩ := hk sh l.length ⟨e, l, .inl hh, rfl⟩
            rcases hs.blk b _ hh with ⟨e1, _⟩ | ⟨n', c, e1, e2, e3⟩
            · rw [hσ] at e1; cases e1
            rw [hσ] at e1; cases e1
            -- the block is long enough
            have hlast : i.toNat * sh.length + off + a.cells.length ≤ c.size := by
              have hlt : off + a.cells.length - 1 < sh.length := by have := hc.2.2; omega
              obtain ⟨v', w1, _⟩ := e3 i.toNat (off + a.cells.length - 1) hlt q2
              have := (Array.getElem?_eq_some_iff.1 w1).1
              omega
            subst q3
            have hrun := run_storeVar_at (P := P) (t := t) (o := i.toNat * sh.length + off) (v := v) e2 hsz (by omega) hone
            have hup := UpdW.setRow (X := X) (c' := (c.toList.take (i.toNat * sh.length + off) ++ v.cells.toList ++ c.toList.drop (i.toNat * sh.length + off + v.cells.size)).toArray) e2 (by simp; omega)
            have hown : X.own b n := ⟨hσ, _, hh, rfl⟩
            have hkk : kindOk (.vec e sh l) (.vec e sh (rset l i off us)) := ⟨rfl, rfl, by simp [rset]⟩
            have hx := Ctx.upd_ext hs hh hown hup hkk
            refine ⟨.skip, Go.undef, X.upd b (.vec e sh (rset l i off us)) (X.w.setRow n _), ?_, .inr ⟨rfl, rfl⟩, .skip, hs.upd hh hown hup hkk ?_, rfl, hx⟩
            · simp [Instr.storeAt, Instr.sureAddr, hrun]; rfl
            · refine .inr ⟨n, _, hσ, hup.new, fun r j hj hr => ?_⟩
              have hr' : r < l.length := by simpa [rset] using hr
              have hget : ∀ k, (c.toList.take (i.toNat * sh.length + off) ++ v.cells.toList ++ c.toList.drop (i.toNat * sh.length + off + v.cells.size)).toArray[k]? =
                  if i.toNat * sh.length + off ≤ k ∧ k < i.toNat * sh.length + off + v.cells.size then v.cells.toList[k - (i.toNat * sh.length + off)]? else c[k]? := by
                intro k
                have := splice_get (c := c.toList) (vs := v.cells.toList) (o := i.toNat * sh.length + off) (k := k) (by simp; omega)
                simpa using this
              rw [hget]
              by_cases hri : r = i.toNat
              · subst hri
                rw [cellU_toNat, cellU_rset_same q2]
                by_cases hin : off ≤ j ∧ j < off + us.length
                · rw [if_pos (by omega), if_pos hin]
                  obtain ⟨v', w1, w2⟩ := g3 (j - off) (by rw [← g1]; omega)
                  refine ⟨v', ?_, ?_⟩
                  · rw [show i.toNat * sh.length + j - (i.toNat * sh.length + off) = j - off by omega]; exact w1
                  · have : ((sh.drop off).take a.cells.length)[j - off]'(by rw [← g1]; omega) = sh[j] := by
                      simp only [List.getElem_take, List.getElem_drop]; congr 1; omega
                    rw [this] at w2
                    exact w2.mono hx.M hx.w
                · rw [if_neg (by omega), if_neg hin]
                  obtain ⟨v', w1, w2⟩ := e3 i.toNat j hj q2
                  rw [cellU_toNat] at w2
                  exact ⟨v', w1, w2.mono hx.M hx.w⟩
              · rw [cellU_rset_other hri]
                have := row_apart (i := i.toNat) hj hri
                rw [if_neg (by omega)]
                obtain ⟨v', w1, w2⟩ := e3 r j hj hr'
                exact ⟨v', w1, w2.mono hx.M hx.w⟩
        · rw [if_neg hm] at h; cases h
    | _ => simp only at h; cases h
  · rw [if_neg hc] at h; cases h

end Go.Eng
