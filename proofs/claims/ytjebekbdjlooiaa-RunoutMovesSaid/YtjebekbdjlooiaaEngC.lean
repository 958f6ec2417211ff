/- ENGINE C. Each operation of the interpreter does what the model's operation does: types, loads, new blocks. -/
import Derived.Test.YtjebekbdjlooiaaEngB
import Derived.Laws.Entries
import Derived.Laws.Cells
import Derived.Laws.Slices
import Derived.Laws.Build
namespace Go.Eng

/-! ### Types -/
def Env.tok (E : Env) (P : Program) : Prop := ∀ x, x ∈ E.tt → mkTI P x.1 = x.2

theorem ty_cases {E : Env} {P : Program} (hE : E.tok P) (t : TypeId) : E.ty t = noTI ∨ E.ty t = mkTI P t := by
  unfold Env.ty
  cases h : E.tt.find? fun x => x.1 == t with
  | none => exact .inl rfl
  | some x =>
    have h1 := List.find?_some h
    have h2 := hE x (List.mem_of_find?_eq_some h)
    have h3 : x.1 = t := by simpa using h1
    right
    simp only [Option.map_some, Option.getD_some]
    rw [← h2, h3]

theorem ty_known {E : Env} {P : Program} (hE : E.tok P) {t : TypeId} (h : (E.ty t).d.known = true) :
    E.ty t = mkTI P t ∧ ∃ i d, P.info? t = some i ∧ P.underlying t = some d ∧ (E.ty t).d = mkTD P d ∧ (E.ty t).size = i.size ∧ (E.ty t).bytes = i.bytes := by
  rcases ty_cases hE t with h1 | h1
  · rw [h1] at h; cases h
  · refine ⟨h1, ?_⟩
    rw [h1] at h ⊢
    unfold mkTI at *
    cases hi : P.info? t with
    | none => rw [hi] at h; cases h
    | some i =>
      rw [hi] at h
      cases hd : P.underlying t with
      | none => rw [hd] at h; cases h
      | some d => exact ⟨i, d, rfl, rfl, by simp, rfl, rfl⟩

theorem ty_slice {E : Env} {P : Program} (hE : E.tok P) {t e : TypeId} {es : Nat} (h : (E.ty t).d = .slice e es) : P.underlying t = some (.slice e) ∧ es = P.cellsOf e := by
  obtain ⟨_, i, d, _, h2, h3, _⟩ := ty_known hE (t := t) (by rw [h]; rfl)
  rw [h] at h3
  cases d <;> simp [mkTD] at h3
  obtain ⟨rfl, rfl⟩ := h3
  exact ⟨h2, rfl⟩

theorem ty_array {E : Env} {P : Program} (hE : E.tok P) {t e : TypeId} {n es : Nat} (h : (E.ty t).d = .array n e es) : P.underlying t = some (.array n e) ∧ es = P.cellsOf e := by
  obtain ⟨_, i, d, _, h2, h3, _⟩ := ty_known hE (t := t) (by rw [h]; rfl)
  rw [h] at h3
  cases d <;> simp [mkTD] at h3
  obtain ⟨rfl, rfl, rfl⟩ := h3
  exact ⟨h2, rfl⟩

theorem ty_struct {E : Env} {P : Program} (hE : E.tok P) {t : TypeId} {fs : List (Nat × TypeId × Nat)} (h : (E.ty t).d = .struct fs) :
    ∃ fields, P.underlying t = some (.struct fields) ∧ fs = fields.toList.map fun f => (f.offset, f.type, P.cellsOf f.type) := by
  obtain ⟨_, i, d, _, h2, h3, _⟩ := ty_known hE (t := t) (by rw [h]; rfl)
  rw [h] at h3
  cases d <;> simp [mkTD] at h3
  exact ⟨_, h2, h3⟩

theorem ty_int {E : Env} {P : Program} (hE : E.tok P) {t : TypeId} {k : IntKind} (h : (E.ty t).d = .int k) : P.underlying t = some (.int k) := by
  obtain ⟨_, i, d, _, h2, h3, _⟩ := ty_known hE (t := t) (by rw [h]; rfl)
  rw [h] at h3
  cases d <;> simp [mkTD] at h3
  rw [h2, h3]

theorem ty_str {E : Env} {P : Program} (hE : E.tok P) {t : TypeId} (h : (E.ty t).d = .str) : P.underlying t = some .string := by
  obtain ⟨_, i, d, _, h2, h3, _⟩ := ty_known hE (t := t) (by rw [h]; rfl)
  rw [h] at h3
  cases d <;> simp [mkTD] at h3
  exact h2

theorem run_isAgg {E : Env} {P : Program} (hE : E.tok P) {t : TypeId} (h : (E.ty t).d.known = true) (w : World) : (isAgg t).run P w = .ok (E.ty t).d.isAgg w := by
  obtain ⟨_, i, d, _, h2, h3, _⟩ := ty_known hE h
  rw [h3]
  unfold isAgg
  rw [Sem.run_bind, run_underlying h2, Result.andThen_ok]
  rw [h3] at h
  cases d <;> first | rfl | (simp [mkTD, TD.known] at h)

theorem run_sizeOf {E : Env} {P : Program} (hE : E.tok P) {t : TypeId} (h : (E.ty t).d.known = true) (w : World) : (sizeOf t).run P w = .ok (E.ty t).size w := by
  obtain ⟨_, i, d, h1, _, _, h4, _⟩ := ty_known hE h
  simp [sizeOf, typeInfo, h1, h4]

theorem run_sizeOf_pos {P : Program} {t : TypeId} (h : 0 < P.cellsOf t) (w : World) : (sizeOf t).run P w = .ok (P.cellsOf t) w := by
  unfold Program.cellsOf at *
  cases h1 : P.info? t with
  | none => rw [h1] at h; simp at h
  | some i => simp [sizeOf, typeInfo, h1]

/-! ### What an operation must show -/
def OpGood (P : Program) (B : Base) (X : Ctx) (m : Sem Next) (r : Res) : Prop :=
  ∃ nx v X', m.run P X.w = .ok nx X'.w ∧ (nx = .value v ∨ (nx = .skip ∧ v = Go.undef)) ∧ Rep X' r.1 v ∧ HSim B X' ∧
    match r.2.2 with
    | none => X'.h = r.2.1 ∧ Ext X X'
    | some b => X'.h = r.2.1.map (Blk.ren (void b)) ∧ Move X X' (void b)

theorem Ext.refl (X : Ctx) : Ext X X :=
  Move.of (fun _ h => h) (fun _ _ => rfl) (fun b b' hb h => by cases h; exact ⟨hb, rfl, fun _ _ h => h, fun _ _ _ _ _ c T fr h => ⟨c, T, fr, h, rfl⟩⟩)

theorem OpGood.val {P : Program} {B : Base} {X : Ctx} {m : Sem Next} {av : AV} {v : Value} (hs : HSim B X) (h : m.run P X.w = .ok (.value v) X.w) (hr : Rep X av v) : OpGood P B X m (av, X.h, none) :=
  ⟨_, v, X, h, .inl rfl, hr, hs, rfl, Ext.refl X⟩

/-! ### Loads -/
theorem cellU_toNat (l : R) (i : Int) (j : Nat) : cellU l (i.toNat : Int) j = cellU l i j := by unfold cellU; rw [Int.toNat_natCast]

theorem rep_cellAV {X : Ctx} {sh : List Sh} {l : R} {i : Int} {j : Nat} {av : AV} {v : Value} (h : cellAV sh l i j = some av) (hj : j < sh.length)
    (hr : RepU X.w X.M sh[j] (cellU l i j) v) : Rep X av v := by
  unfold cellAV at h
  rw [List.getElem?_eq_getElem hj] at h
  generalize sh[j] = s at *
  cases s with
  | int k => cases h; cases hr; exact .int _ _
  | bool => cases h; cases hr; exact .bool _
  | str => cases h; cases hr; exact .str _
  | sl row => cases h; exact .imm _ _ _ (immAt_of_repU hr)

theorem cellAV_lt {sh : List Sh} {l : R} {i : Int} {j : Nat} {av : AV} (h : cellAV sh l i j = some av) : j < sh.length := by
  unfold cellAV at h
  rcases Nat.lt_or_ge j sh.length with h' | h'
  · exact h'
  · rw [List.getElem?_eq_none h'] at h; cases h

/-- cells of a row, read one behind the other -/
theorem rep_cellsAV {X : Ctx} {sh : List Sh} {l : R} {i : Int} (g : Nat → Option Value)
    (hg : ∀ j (hj : j < sh.length), ∃ v, g j = some v ∧ RepU X.w X.M sh[j] (cellU l i j) v) :
    ∀ (n off : Nat) (cs : List AV), cellsAV sh l i off n = some cs → ∃ vs : List Value, vs.length = n ∧ RepL X cs vs ∧ ∀ j v, vs[j]? = some v → g (off + j) = some v
  | 0, off, cs, h => by
    simp [cellsAV] at h; subst h
    exact ⟨[], rfl, .nil, fun j v h => by simp at h⟩
  | n + 1, off, cs, h => by
    simp only [cellsAV] at h
    cases h1 : cellAV sh l i off with
    | none => rw [h1] at h; cases h
    | some a =>
      cases h2 : cellsAV sh l i (off + 1) n with
      | none => rw [h1, h2] at h; cases h
      | some r =>
        rw [h1, h2] at h; cases h
        obtain ⟨vs, e1, e2, e3⟩ := rep_cellsAV g hg n (off + 1) r h2
        obtain ⟨v, e4, e5⟩ := hg off (cellAV_lt h1)
        refine ⟨v :: vs, by simp [e1], .cons (rep_cellAV h1 (cellAV_lt h1) e5) e2, fun j u hj => ?_⟩
        cases j with
        | zero => simp at hj; subst hj; exact e4
        | succ j => rw [show off + (j + 1) = off + 1 + j by omega]; exact e3 j u (by simpa using hj)

theorem run_loadVar_of {E : Env} {P : Program} (hE : E.tok P) {X : Ctx} {t : TypeId} (hk : (E.ty t).d.known = true) {blk o : Nat} {sh : List Sh} {l : R} {i : Int} {off : Nat}
    (hg : ∀ j (hj : j < sh.length), ∃ v, X.w.cell? ⟨blk, o + j, none⟩ = some v ∧ RepU X.w X.M sh[j] (cellU l i j) v) {r : Res}
    (h : ((if (E.ty t).d.isAgg then (match cellsAV sh l i off (E.ty t).size with | some cs => okv X.h (.agg cs) | none => .fail)
      else (match cellAV sh l i off with | some v => okv X.h v | none => .fail)) : Tree Res).run = some r) :
    ∃ av u, r = (av, X.h, none) ∧ (loadVar t ⟨blk, o + off, none⟩).run P X.w = .ok u X.w ∧ Rep X av u := by
  unfold loadVar
  rw [Sem.run_bind, run_isAgg hE hk, Result.andThen_ok]
  cases ha : (E.ty t).d.isAgg with
  | true =>
    rw [ha] at h
    simp only [if_true] at h ⊢
    cases hc : cellsAV sh l i off (E.ty t).size with
    | none => rw [hc] at h; cases h
    | some cs =>
      rw [hc] at h
      cases h
      obtain ⟨vs, e1, e2, e3⟩ := rep_cellsAV (fun j => X.w.cell? ⟨blk, o + j, none⟩) hg _ _ _ hc
      refine ⟨_, .agg vs.toArray, rfl, ?_, .agg cs vs e2⟩
      have := run_loadCells_list (P := P) X.w ⟨blk, o + off, none⟩ vs (fun j v hj => by rw [Addr.add_lit]; have := e3 j v hj; rwa [← Nat.add_assoc] at this)
      rw [e1] at this
      simp [run_sizeOf hE hk, this]
  | false =>
    rw [ha] at h
    simp only [Bool.false_eq_true, if_false] at h ⊢
    cases hc : cellAV sh l i off with
    | none => rw [hc] at h; cases h
    | some v =>
      rw [hc] at h
      cases h
      obtain ⟨u, e1, e2⟩ := hg off (cellAV_lt hc)
      exact ⟨_, u, rfl, by simp [e1], rep_cellAV hc (cellAV_lt hc) e2⟩

theorem rowsOf_vec {h : List Blk} {b : Nat} {sh : List Sh} {l : R} (hr : rowsOf h (.vec b) = some (sh, l)) : ∃ e, h[b]? = some (.vec e sh l) ∨ h[b]? = some (.frz e sh l) := by
  simp only [rowsOf] at hr
  split at hr <;> first | (cases hr; rename_i hh; exact ⟨_, .inl hh⟩) | (cases hr; rename_i hh; exact ⟨_, .inr hh⟩) | cases hr

/-- the rows of an own slice, in memory -/
theorem HSim.rows {B : Base} {X : Ctx} (hs : HSim B X) {b : Nat} {e : TypeId} {sh : List Sh} {l : R} (h : X.h[b]? = some (.vec e sh l) ∨ X.h[b]? = some (.frz e sh l)) :
    (X.σ b = none ∧ l = []) ∨ ∃ n c, X.σ b = some n ∧ X.w.heap[n]? = some (.cells c e (0, 0)) ∧ RowsC X.w X.M sh l c := by
  rcases h with h | h
  · exact hs.blk b _ h
  · rcases hs.blk b _ h with h1 | ⟨n, c, h1, h2, h3, _⟩
    · exact .inl h1
    · exact .inr ⟨n, c, h1, h2, h3⟩

theorem evLoad_sound {E : Env} {P : Program} (hE : E.tok P) {B : Base} {X : Ctx} (hs : HSim B X) {t : TypeId} {p : AV} {v : Value} (hv : Rep X p v) {r : Res}
    (h : (evLoad E X.h t p).run = some r) : ∃ av u, r = (av, X.h, none) ∧ (Instr.loadAt t v).run P X.w = .ok u X.w ∧ Rep X av u := by
  unfold evLoad at h
  by_cases hk : (E.ty t).d.known = false
  · simp only [hk, if_true] at h; cases h
  simp only [hk] at h
  have hk' : (E.ty t).d.known = true := by simpa using hk
  cases hv with
  | ptr b off n0 hb hσ =>
    simp only at h
    cases hh : X.h[b]? with
    | none => rw [hh] at h; cases h
    | some blk =>
      rw [hh] at h
      cases blk with
      | vec => cases h
      | frz => cases h
      | dead => cases h
      | big => cases h
      | cells cs =>
        simp only at h
        obtain ⟨n, c, T, e1, e2, e3⟩ := hs.blk b _ hh
        rw [hσ] at e1; cases e1
        simp only [Instr.loadAt, Instr.sureAddr, Sem.run_bind, Sem.run_pure, Result.andThen_ok]
        unfold loadVar
        rw [Sem.run_bind, run_isAgg hE hk', Result.andThen_ok]
        cases ha : (E.ty t).d.isAgg with
        | true =>
          rw [ha] at h
          simp only [if_true] at h ⊢
          by_cases hle : off + (E.ty t).size ≤ cs.length
          · rw [if_pos hle] at h
            cases h
            have hlen := e3.length
            have h2 := (e3.drop off).take (E.ty t).size
            refine ⟨_, _, rfl, ?_, .agg _ _ h2⟩
            have hl : ((c.toList.drop off).take (E.ty t).size).length = (E.ty t).size := by simp only [List.length_take, List.length_drop] at *; omega
            have := run_loadCells_list (P := P) X.w ⟨n0, off, none⟩ ((c.toList.drop off).take (E.ty t).size) (fun j v hj => by
              rw [Addr.add_lit, cell?_of_cells e2]
              rw [List.getElem?_take] at hj
              split at hj
              · rw [List.getElem?_drop] at hj; simpa using hj
              · cases hj)
            rw [hl] at this
            simp [run_sizeOf hE hk', this]
          · rw [if_neg hle] at h; cases h
        | false =>
          rw [ha] at h
          simp only [Bool.false_eq_true, if_false] at h ⊢
          cases hc : cs[off]? with
          | none => rw [hc] at h; cases h
          | some u =>
            rw [hc] at h; cases h
            obtain ⟨u', e4, e5⟩ := e3.get off u hc
            refine ⟨_, u', rfl, ?_, e5⟩
            have : X.w.cell? ⟨n0, off, none⟩ = some u' := by rw [cell?_of_cells e2]; simpa using e4
            simp [this]
  | eptr sh l i off a hsp h0 h1 hr =>
    simp only at h
    simp only [Instr.loadAt, Instr.sureAddr, Sem.run_bind, Sem.run_pure, Result.andThen_ok]
    exact run_loadVar_of hE hk' (blk := a.block) (o := a.off + i.toNat * sh.length) (fun j hj => by
      obtain ⟨_, v, e1, e2⟩ := hr i.toNat j hj h1
      exact ⟨v, e1, by rwa [cellU_toNat] at e2⟩) h
  | vptr b i off n0 k0 hb hσ hv =>
    simp only at h
    cases hr : rowsOf X.h (.vec b) with
    | none => rw [hr] at h; cases h
    | some x =>
      obtain ⟨sh, l⟩ := x
      rw [hr] at h
      simp only at h
      obtain ⟨e, hh⟩ := rowsOf_vec hr
      rcases hs.rows hh with ⟨e1, rfl⟩ | ⟨n, c, e1, e2, e3⟩
      · rw [hσ] at e1; cases e1
      · rw [hσ] at e1; cases e1
        obtain ⟨f1, f2, rfl⟩ := hv sh l.length ⟨e, l, hh, rfl⟩
        simp only [Instr.loadAt, Instr.sureAddr, Sem.run_bind, Sem.run_pure, Result.andThen_ok]
        exact run_loadVar_of hE hk' (blk := n0) (o := i.toNat * sh.length) (fun j hj => by
          obtain ⟨v, g1, g2⟩ := e3 i.toNat j hj f2
          exact ⟨v, by rw [cell?_of_cells e2]; exact g1, by rwa [cellU_toNat] at g2⟩) h
  | _ => simp only at h; cases h

end Go.Eng
