/- ENGINE C6. Struct and array literals, slice literals, slicing, freezing. -/
import Derived.Test.YtjebekbdjlooiaaEngC5
namespace Go.Eng

/-! ### Literals -/
theorem foldl_cells : ∀ (xs : List Value) (cs : Array Value) (off k : Nat), off + k + xs.length ≤ cs.size →
    ((xs.zipIdx k).foldl (fun cs (x : Value × Nat) => cs.setIfInBounds (off + x.2) x.1) cs).toList = cs.toList.take (off + k) ++ xs ++ cs.toList.drop (off + k + xs.length)
  | [], cs, off, k, _ => by simp
  | x :: xs, cs, off, k, h => by
    simp only [List.zipIdx_cons, List.foldl_cons, List.length_cons] at h ⊢
    rw [foldl_cells xs (cs.setIfInBounds (off + k) x) off (k + 1) (by simp; omega)]
    rw [Array.toList_setIfInBounds]
    apply List.ext_getElem?
    intro i
    have hlen : (cs.toList.set (off + k) x).length = cs.size := by simp
    rw [splice_get (by simp; omega)]
    have := splice_get (c := cs.toList) (vs := x :: xs) (o := off + k) (k := i) (by simp; omega)
    simp only [List.length_cons] at this
    rw [this]
    by_cases h1 : i = off + k
    · subst h1
      rw [if_neg (by omega), if_pos (by omega), List.getElem?_set_self (by simp; omega)]
      simp
    · by_cases h2 : off + k ≤ i ∧ i < off + k + (xs.length + 1)
      · rw [if_pos (by omega), if_pos h2, show i - (off + k) = (i - (off + (k + 1))) + 1 by omega]
        simp
      · rw [if_neg (by omega), if_neg h2, List.getElem?_set_ne (by omega)]

theorem fold_cells (v : Array Value) (cs : Array Value) (off : Nat) (h : off + v.size ≤ cs.size) :
    (v.zipIdx.foldl (fun cs (x : Value × Nat) => cs.setIfInBounds (off + x.2) x.1) cs).toList = cs.toList.take off ++ v.toList ++ cs.toList.drop (off + v.size) := by
  rw [← Array.foldl_toList, Array.toList_zipIdx]
  have := foldl_cells v.toList cs off 0 (by simpa using h)
  simpa using this

inductive RepP (X : Ctx) : List (Nat × AV) → List (Nat × Value) → Prop
  | nil : RepP X [] []
  | cons {i : Nat} {a : AV} {v : Value} {l : List (Nat × AV)} {m : List (Nat × Value)} (h : Rep X a v) (t : RepP X l m) : RepP X ((i, a) :: l) ((i, v) :: m)

theorem fill_sound {X : Ctx} {place : Nat → Option (Nat × Nat)} : ∀ {parts : List (Nat × AV)} {vparts : List (Nat × Value)} {cells cs : List AV} {vc : Array Value},
    fillL place cells parts = some cs → RepP X parts vparts → RepL X cells vc.toList → ∃ vc', Instr.fill place vc vparts = some vc' ∧ RepL X cs vc'.toList
  | [], _, cells, cs, vc, h, .nil, hr => by simp [fillL] at h; subst h; exact ⟨vc, rfl, hr⟩
  | (i, a) :: parts, _, cells, cs, vc, h, .cons (v := v) ha ht, hr => by
    simp only [fillL] at h
    cases hp : place i with
    | none => rw [hp] at h; cases h
    | some q =>
      obtain ⟨off, size⟩ := q
      rw [hp] at h
      simp only at h
      by_cases hc : a.cells.length = size ∧ off + a.cells.length ≤ cells.length ∧ allCells a.cells = true
      · rw [if_pos hc] at h
        have hrl := rep_cells ha hc.2.2
        have hlen : v.cells.size = a.cells.length := by have := hrl.length; simpa using this.symm
        have hvc : cells.length = vc.size := by have := hr.length; simpa using this
        have hnot : ¬ (v.cells.size ≠ size ∨ off + v.cells.size > vc.size) := by omega
        have hf := fold_cells v.cells vc off (by omega)
        obtain ⟨vc', h1, h2⟩ := fill_sound (vc := v.cells.zipIdx.foldl (fun cs (x : Value × Nat) => cs.setIfInBounds (off + x.2) x.1) vc) h ht (by
          rw [hf, hlen]; exact repL_splice hr hrl off)
        refine ⟨vc', ?_, h2⟩
        simp only [Instr.fill, hp]
        rw [if_neg (by simpa using hnot)]
        exact h1
      · rw [if_neg hc] at h; cases h

theorem run_mapM_list {α β : Type} {P : Program} {f : α → Sem β} {g : α → β} : ∀ (l : List α), (∀ a ∈ l, ∀ w, (f a).run P w = .ok (g a) w) → ∀ w, (l.mapM f).run P w = .ok (l.map g) w
  | [], _, w => rfl
  | a :: l, h, w => by
    rw [List.mapM_cons, Sem.run_bind, h a List.mem_cons_self, Result.andThen_ok, Sem.run_bind, run_mapM_list l (fun b hb => h b (List.mem_cons_of_mem _ hb)) w]
    rfl

theorem run_mapM {α β : Type} {P : Program} {f : α → Sem β} {g : α → β} (l : Array α) (h : ∀ a ∈ l.toList, ∀ w, (f a).run P w = .ok (g a) w) (w : World) : (l.mapM f).run P w = .ok (l.map g) w := by
  rw [Array.mapM_eq_mapM_toList, Sem.run_map, run_mapM_list _ h, Result.andThen_ok]
  congr 1
  apply Array.ext'
  simp

theorem evBuild_sound {E : Env} {P : Program} (hE : E.tok P) {X : Ctx} {t : TypeId} {parts : List (Nat × AV)} {vparts : Array (Nat × Value)} (hp : RepP X parts vparts.toList) {r : Res}
    (h : (evBuild E X.h t parts).run = some r) : ∃ av u, r = (av, X.h, none) ∧ (Instr.build t vparts).run P X.w = .ok u X.w ∧ Rep X av u := by
  unfold evBuild at h
  by_cases hz : (E.ty t).zero.length = 0
  · rw [if_pos hz] at h; cases h
  rw [if_neg hz] at h
  obtain ⟨z, z1, z2, _⟩ := ty_zero hE hz X.w
  cases hd : (E.ty t).d <;> rw [hd] at h <;> try (cases h)
  · rename_i n e es
    obtain ⟨ht, rfl⟩ := ty_array hE hd
    simp only at h
    by_cases h0 : P.cellsOf e = 0
    · rw [if_pos h0] at h; cases h
    rw [if_neg h0] at h
    cases hf : fillL (fun i => some (i * P.cellsOf e, P.cellsOf e)) ((E.ty t).zero.map ofCell) parts with
    | none => rw [hf] at h; cases h
    | some cs =>
      rw [hf] at h; cases h
      obtain ⟨vc, f1, f2⟩ := fill_sound (vc := z.cells) hf hp (by rw [z2]; exact repL_ofCells X _)
      have : Rep X (.agg cs) (.agg vc.toList.toArray) := .agg _ _ f2
      refine ⟨_, .agg vc, rfl, ?_, by simpa using this⟩
      simp [Instr.build, z1, run_underlying ht, run_sizeOf_pos (show 0 < P.cellsOf e by omega), f1]
  · rename_i fs
    obtain ⟨fields, e1, e2⟩ := ty_struct hE hd
    simp only at h
    by_cases hok : (E.ty t).fok = true
    · rw [if_pos hok] at h
      have hinfo : ∀ f ∈ fields.toList, (P.info? f.type).isSome = true := by
        have hk := ty_known hE (t := t) (by rw [hd]; rfl)
        rw [hk.1] at hok
        unfold mkTI at hok
        obtain ⟨_, i, dd, h1, _⟩ := hk
        rw [h1] at hok
        simpa only [e1, List.all_eq_true] using hok
      cases hf : fillL (fun i => (fs[i]?).map fun (f : Nat × TypeId × Nat) => (f.1, f.2.2)) ((E.ty t).zero.map ofCell) parts with
      | none => rw [hf] at h; cases h
      | some cs =>
        rw [hf] at h; cases h
        have hpl : (fun i : Nat => (fs[i]?).map fun (f : Nat × TypeId × Nat) => (f.1, f.2.2)) = fun i : Nat => (fields.map fun f => (f.offset, P.cellsOf f.type))[i]? := by
          funext i
          rw [e2]; simp only [List.getElem?_map, Array.getElem?_toList, Array.getElem?_map, Option.map_map]; rfl
        rw [hpl] at hf
        obtain ⟨vc, f1, f2⟩ := fill_sound (vc := z.cells) hf hp (by rw [z2]; exact repL_ofCells X _)
        have : Rep X (.agg cs) (.agg vc.toList.toArray) := .agg _ _ f2
        refine ⟨_, .agg vc, rfl, ?_, by simpa using this⟩
        have hm := run_mapM (P := P) (f := fun f : Field => (do pure (f.offset, ← sizeOf f.type) : Sem (Nat × Nat))) (g := fun f => (f.offset, P.cellsOf f.type)) fields (fun f hf w => by
          have := hinfo f hf
          cases hi : P.info? f.type with
          | none => rw [hi] at this; cases this
          | some i => simp [sizeOf, typeInfo, hi, Program.cellsOf]) X.w
        simp only [Instr.build, Sem.run_bind, z1, Result.andThen_ok, run_underlying e1]
        rw [hm]
        simp only [Result.andThen_ok, f1]
        rfl
    · rw [if_neg hok] at h; cases h

end Go.Eng
