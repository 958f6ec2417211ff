/- ENGINE Y. From what an argument reads as to what it is in memory. -/
import Derived.Test.YtjebekbdjlooiaaEngW
import Derived.OpenShut
import Derived.Deep.Slices
namespace Go.Eng

mutual
def flat {H : Type} : DataW H → List U
  | .lit (.bool b) => [.b b]
  | .lit (.int _ n) => [.i n]
  | .lit (.string s) => [.s s]
  | .nil => [.l []]
  | .slice es _ => [.l (rowsD es)]
  | .agg ps => flatL ps
  | _ => [.i 0]
def flatL {H : Type} : List (DataW H) → List U
  | [] => []
  | d :: l => flat d ++ flatL l
def rowsD {H : Type} : List (DataW H) → List (List U)
  | [] => []
  | d :: l => flat d :: rowsD l
end

theorem flatL_eq {H : Type} : ∀ l : List (DataW H), flatL l = (l.map flat).flatten
  | [] => rfl
  | d :: l => by simp [flatL, flatL_eq l]
theorem rowsD_eq {H : Type} : ∀ l : List (DataW H), rowsD l = l.map flat
  | [] => rfl
  | d :: l => by simp [rowsD, rowsD_eq l]

/-- data that fit a shape -/
inductive UFit : Sh → U → Prop
  | int (k : IntKind) (n : Int) (h0 : k.min ≤ n) (h1 : n ≤ k.max) : UFit (.int k) (.i n)
  | bool (b : Bool) : UFit .bool (.b b)
  | str (s : List UInt8) (h : s.length ≤ maxLen) : UFit .str (.s s)
  | sl (row : List Sh) (l : R) (h : l.length ≤ maxLen) (hl : ∀ r, r ∈ l → r.length = row.length) (hf : ∀ (r : List U) (j : Nat) (s : Sh) (u : U), r ∈ l → row[j]? = some s → r[j]? = some u → UFit s u) : UFit (.sl row) (.l l)

inductive CR (W : World) (M : Nat → Prop) : List Sh → List U → List Value → Prop
  | nil : CR W M [] [] []
  | cons {s : Sh} {u : U} {v : Value} {sh : List Sh} {us : List U} {vs : List Value} (h : RepU W M s u v) (f : UFit s u) (t : CR W M sh us vs) : CR W M (s :: sh) (u :: us) (v :: vs)

theorem CR.append {W : World} {M : Nat → Prop} {a a' : List Sh} {b b' : List U} {c c' : List Value} (h : CR W M a b c) (k : CR W M a' b' c') : CR W M (a ++ a') (b ++ b') (c ++ c') := by
  induction h with
  | nil => exact k
  | cons h f t ih => exact .cons h f ih

theorem CR.len {W : World} {M : Nat → Prop} {a : List Sh} {b : List U} {c : List Value} (h : CR W M a b c) : b.length = a.length ∧ c.length = a.length := by
  induction h with
  | nil => exact ⟨rfl, rfl⟩
  | cons h f t ih => simp [ih.1, ih.2]

theorem CR.get {W : World} {M : Nat → Prop} {a : List Sh} {b : List U} {c : List Value} (h : CR W M a b c) : ∀ (j : Nat) (s : Sh), a[j]? = some s → ∃ u v, b[j]? = some u ∧ c[j]? = some v ∧ RepU W M s u v ∧ UFit s u := by
  induction h with
  | nil => intro j s hj; simp at hj
  | cons h f t ih =>
    intro j s hj
    cases j with
    | zero => simp at hj; subst hj; exact ⟨_, _, rfl, rfl, h, f⟩
    | succ j => simpa using ih j s (by simpa using hj)

/-- shapes whose rows are never of no cells -/
def Sh.good : Sh → Bool
  | .sl row => !row.isEmpty
  | _ => true

def layFrom : Nat → List (Nat × TypeId × Nat) → Bool
  | _, [] => true
  | o, f :: l => Nat.beq f.1 o && layFrom (o + f.2.2) l
def sumSz : List (Nat × TypeId × Nat) → Nat
  | [] => 0
  | f :: l => f.2.2 + sumSz l
def layOk (x : TI) : Bool := match x.d with
  | .struct fs => layFrom 0 fs && Nat.beq (sumSz fs) x.size
  | .array n _ es => Nat.beq (n * es) x.size
  | .slice _ es => Nat.blt 0 es
  | _ => true

theorem layOk_ty {E : Env} (h : E.tt.all (fun x => layOk x.2) = true) (t : TypeId) : layOk (E.ty t) = true := by
  unfold Env.ty
  cases hf : E.tt.find? fun x => x.1 == t with
  | none => rfl
  | some x => exact List.all_eq_true.1 h x (List.mem_of_find?_eq_some hf)

section
variable {H : Type} {enc : TypeId × Value → H} {P : Program} {W : World} {base : Nat} {sp : Nat → Bool} {held : Bool} {E : Env}

theorem fields_rep {M : Nat → Prop} {fuel n : Nat} {cs : List Value} (ih : ∀ t cs d ps sh, E.shape n t = some sh → DataW.trod enc P W base sp held fuel t cs = some (d, ps) → CR W M sh (flat d) cs) :
    ∀ (fs : List (Nat × TypeId × Nat)) (o : Nat) (xs : List (DataW H × List MemPlace)) (shs : List (List Sh)), layFrom o fs = true → o + sumSz fs = cs.length → fs.mapM (fun f => E.shape n f.2.1) = some shs →
      xs.length = fs.length → (∀ (i : Nat) (f : Nat × TypeId × Nat), fs[i]? = some f → DataW.trod enc P W base sp held fuel f.2.1 ((cs.drop f.1).take f.2.2) = xs[i]?) →
      CR W M shs.flatten (flatL (xs.map (·.1))) (cs.drop o)
  | [], o, xs, shs, _, hs, hsh, hl, _ => by
    simp [sumSz] at hs hsh hl
    subst hsh hl
    have : cs.drop o = [] := List.drop_eq_nil_of_le (by omega)
    rw [this]
    exact .nil
  | f :: fs, o, xs, shs, hlay, hs, hsh, hl, hx => by
    simp only [layFrom, Bool.and_eq_true] at hlay
    obtain ⟨h1, h2⟩ := hlay
    have ho : f.1 = o := Nat.eq_of_beq_eq_true h1
    simp only [sumSz] at hs
    rw [List.mapM_cons] at hsh
    cases hsf : E.shape n f.2.1 with
    | none => rw [hsf] at hsh; cases hsh
    | some shf =>
      cases hrest : fs.mapM (fun f => E.shape n f.2.1) with
      | none => rw [hsf, hrest] at hsh; cases hsh
      | some shr =>
        rw [hsf, hrest] at hsh
        cases hsh
        cases xs with
        | nil => simp at hl
        | cons x xs =>
          have h0 := hx 0 f rfl
          simp only [List.getElem?_cons_zero] at h0
          have c1 := ih f.2.1 _ x.1 x.2 shf hsf h0
          rw [ho] at c1
          have c2 := fields_rep (cs := cs) (M := M) (fuel := fuel) ih fs (o + f.2.2) xs shr h2 (by omega) hrest (by simpa using hl) fun i g hg => by
            have := hx (i + 1) g (by simpa using hg)
            simpa using this
          have hsplit : cs.drop o = (cs.drop o).take f.2.2 ++ cs.drop (o + f.2.2) := by
            rw [← List.drop_drop, List.take_append_drop]
          rw [hsplit]
          simp only [List.flatten_cons, List.map_cons, flatL]
          exact c1.append c2

theorem elems_rep {M : Nat → Prop} {fuel n es : Nat} {e : TypeId} {cs : List Value} {she : List Sh} (he : E.shape n e = some she)
    (ih : ∀ t cs d ps sh, E.shape n t = some sh → DataW.trod enc P W base sp held fuel t cs = some (d, ps) → CR W M sh (flat d) cs) :
    ∀ (m o : Nat) (xs : List (DataW H × List MemPlace)), (o + m) * es = cs.length → xs.length = m → (∀ i, i < m → DataW.trod enc P W base sp held fuel e ((cs.drop ((o + i) * es)).take es) = xs[i]?) →
      CR W M (List.replicate m she).flatten (flatL (xs.map (·.1))) (cs.drop (o * es))
  | 0, o, xs, hs, hl, _ => by
    simp at hl hs; subst hl
    have : cs.drop (o * es) = [] := List.drop_eq_nil_of_le (by omega)
    rw [this]
    exact .nil
  | m + 1, o, xs, hs, hl, hx => by
    cases xs with
    | nil => simp at hl
    | cons x xs =>
      have h0 := hx 0 (by omega)
      simp only [List.getElem?_cons_zero, Nat.add_zero] at h0
      have c1 := ih e _ x.1 x.2 she he h0
      have c2 := elems_rep (cs := cs) he ih m (o + 1) xs (by rw [← hs]; congr 1; omega) (by simpa using hl) fun i hi => by
        have := hx (i + 1) (by omega)
        rw [show o + (i + 1) = o + 1 + i by omega] at this
        simpa using this
      have hsplit : cs.drop (o * es) = (cs.drop (o * es)).take es ++ cs.drop ((o + 1) * es) := by
        rw [Nat.add_mul, Nat.one_mul, ← List.drop_drop, List.take_append_drop]
      rw [hsplit]
      simp only [List.replicate_succ, List.flatten_cons, List.map_cons, flatL]
      exact c1.append c2

/-- WHAT READS AS d IS d IN MEMORY -/
theorem trod_rep (hE : E.tok P) (hlay : E.tt.all (fun x => layOk x.2) = true) : ∀ (fuel n : Nat) (t : TypeId) (cs : List Value) (d : DataW H) (ps : List MemPlace) (sh : List Sh), E.shape n t = some sh →
    DataW.trod enc P W base sp held fuel t cs = some (d, ps) → CR W (fun b => b < W.heap.size) sh (flat d) cs := by
  intro fuel
  induction fuel with
  | zero => intro n t cs d ps sh _ h; simp [DataW.trod] at h
  | succ fuel ih =>
    intro n t cs d ps sh hsh h
    cases n with
    | zero => simp [Env.shape] at hsh
    | succ n =>
      simp only [Env.shape] at hsh
      have hl := layOk_ty hlay t
      unfold layOk at hl
      cases hd : (E.ty t).d <;> rw [hd] at hsh hl <;> simp only at hsh hl <;> try (cases hsh)
      · -- bool
        unfold DataW.trod at h
        rw [ty_bool hE hd] at h
        split at h <;> simp_all
        obtain ⟨rfl, _⟩ := h
        exact .cons (.bool (.b _)) (.bool _) .nil
      · -- int
        rename_i k
        unfold DataW.trod at h
        rw [ty_int hE hd] at h
        split at h <;> simp_all
        obtain ⟨⟨rfl, hw⟩, rfl, _⟩ := h
        simp [Lit.wf] at hw
        exact .cons (.int _ (.i _)) (.int _ _ hw.1 hw.2) .nil
      · -- string
        unfold DataW.trod at h
        rw [ty_str hE hd] at h
        split at h <;> simp_all
        rename_i s
        obtain ⟨hm, rfl, _⟩ := h
        refine .cons ?_ (.str _ (by simpa using hm)) .nil
        have := RepU.str (w := W) (M := fun b => b < W.heap.size) (.s s.data.toList)
        simpa [U.toS] using this
      · -- slice
        rename_i e es
        obtain ⟨ht, rfl⟩ := ty_slice hE hd
        cases he : E.shape n e with
        | none => rw [he] at hsh; cases hsh
        | some she =>
          rw [he] at hsh
          cases hsh
          have hpos : 0 < P.cellsOf e := by simpa [Nat.blt_eq] using hl
          rcases DataW.trod_slice ht h with ⟨rfl, hx⟩ | ⟨a, len, cap, elems, rest, k, hk, rfl, hx, hb, hlc, hcm, hlen, hel, _, _⟩
          · cases hx
            exact .cons (.slnil _ _ rfl) (.sl _ _ (by simp [maxLen]) (fun r hr => by cases hr) (fun r j s u hr => by cases hr)) .nil
          · cases hx
            cases hk
            have hrow : ∀ (i : Nat) (hi : i < len), ∃ cs', W.cells? base (a.add (i * P.cellsOf e)) (P.cellsOf e) = some cs' ∧ CR W (fun b => b < W.heap.size) she (flat (elems[i]'(by omega)).1) cs' := by
              intro i hi
              have h0 := hel i hi
              rw [List.getElem?_eq_getElem (by omega)] at h0
              obtain ⟨cs', g1, g2⟩ := Option.bind_eq_some_iff.1 h0
              exact ⟨cs', g1, ih n e cs' _ _ she he g2⟩
            have hget : ∀ (r : Nat) (hr : r < len), (((elems.map (·.1)).map flat).getD r [] : List U) = flat (elems[r]'(by omega)).1 := by
              intro r hr
              simp [List.getD_eq_getElem?_getD, hlen, hr]
            have hcell : ∀ (r j : Nat) (s : Sh) (hr : r < len), she[j]? = some s → ∃ v, W.cell? ⟨a.block, a.off + r * she.length + j, none⟩ = some v ∧ RepU W (fun b => b < W.heap.size) s (cellU (rowsD (elems.map (·.1))) r j) v ∧ UFit s ((flat (elems[r]'(by omega)).1).getD j (.i 0)) ∧ a.spot = none ∧ a.block < W.heap.size := by
              intro r j s hr hj
              obtain ⟨cs', g1, g2⟩ := hrow r hr
              obtain ⟨_, g4, g5⟩ := World.cells?_some g1
              obtain ⟨q1, q2⟩ := g2.len
              obtain ⟨u, v, e1, e2, e3, e4⟩ := g2.get j s hj
              have hlen : she.length = P.cellsOf e := by rw [← q2, g4]
              have hjl : j < P.cellsOf e := by rw [← hlen]; exact lt_of_get hj
              have hc := (g5 j hjl).trans e2
              have h00 := g5 0 hpos
              -- where the row lies
              obtain ⟨cs0, z1, z2⟩ := hrow 0 (by omega)
              obtain ⟨_, z4, z5⟩ := World.cells?_some z1
              have hz := z5 0 hpos
              obtain ⟨v0, hv0⟩ : ∃ v0, cs0[0]? = some v0 := ⟨cs0[0], List.getElem?_eq_getElem (by omega)⟩
              rw [hv0] at hz
              simp only [Nat.zero_mul, Addr.add, if_true] at hz
              have hspot := World.cell?_spot hz
              refine ⟨v, ?_, ?_, ?_, hspot, World.block_lt_of_cell? _ _ hz⟩
              · rw [← hc, Addr.add_of hspot, Addr.add_lit, hlen]
              · have : cellU (rowsD (elems.map (·.1))) r j = u := by
                  rw [rowsD_eq]
                  unfold cellU
                  rw [Int.toNat_natCast, hget r hr]
                  simp [List.getD_eq_getElem?_getD, e1]
                rw [this]; exact e3
              · simp [List.getD_eq_getElem?_getD, e1]; exact e4
            have hrl : (rowsD (elems.map (·.1))).length = len := by rw [rowsD_eq]; simp [hlen]
            have hsh0 : 0 < len → 0 < she.length := by
              intro hl0
              obtain ⟨cs', g1, g2⟩ := hrow 0 hl0
              obtain ⟨_, g4, _⟩ := World.cells?_some g1
              rw [← g2.len.2, g4]; exact hpos
            refine .cons ?_ (.sl _ _ (by rw [hrl]; omega) ?_ ?_) .nil
            · have hR := repU_of_immAt (w := W) (M := fun b => b < W.heap.size) (row := she) (l := rowsD (elems.map (·.1))) (v := .slice (some a) len cap) (.inr ⟨a, cap, by rw [hrl], fun h0 => by
                rw [hrl] at h0
                obtain ⟨_, _, _, _, h4, _⟩ := hcell 0 0 she[0] h0 (List.getElem?_eq_getElem (hsh0 h0))
                exact h4, by rw [hrl]; exact hlc, fun r j hj hr => by
                rw [hrl] at hr
                obtain ⟨v, h1, h2, _, _, h5⟩ := hcell r j she[j] hr (List.getElem?_eq_getElem hj)
                exact ⟨h5, v, h1, h2⟩⟩)
              exact hR
            · intro r hr
              rw [rowsD_eq] at hr
              obtain ⟨i, hi⟩ := List.getElem?_of_mem hr
              have hil : i < len := by have := lt_of_get hi; simpa [hlen] using this
              have : r = flat (elems[i]'(by omega)).1 := by
                rw [← hget i hil, List.getD_eq_getElem?_getD, hi]; rfl
              obtain ⟨cs', g1, g2⟩ := hrow i hil
              rw [this]; exact g2.len.1
            · intro r j s u hr hs hu
              rw [rowsD_eq] at hr
              obtain ⟨i, hi⟩ := List.getElem?_of_mem hr
              have hil : i < len := by have := lt_of_get hi; simpa [hlen] using this
              have : r = flat (elems[i]'(by omega)).1 := by
                rw [← hget i hil, List.getD_eq_getElem?_getD, hi]; rfl
              subst this
              obtain ⟨_, _, _, h3, _⟩ := hcell i j s hil hs
              simpa [List.getD_eq_getElem?_getD, hu] using h3
      · -- array
        rename_i m e es
        obtain ⟨ht, rfl⟩ := ty_array hE hd
        cases he : E.shape n e with
        | none => rw [he] at hsh; cases hsh
        | some she =>
          rw [he] at hsh
          cases hsh
          obtain ⟨xs, m0, hf, hx, hcl, hxl, hel⟩ := DataW.trod_array ht h
          cases hf
          cases hx
          have hsz : m * P.cellsOf e = cs.length := by
            rw [hcl]
            have h1 := Nat.eq_of_beq_eq_true hl
            obtain ⟨_, i, dd, h2, _, _, h4, _⟩ := ty_known hE (t := t) (by rw [hd]; rfl)
            rw [h1, h4]
            unfold Program.cellsOf
            rw [h2]; rfl
          have := elems_rep (cs := cs) he (fun t cs d ps sh h1 h2 => ih n t cs d ps sh h1 h2) m 0 xs (by simpa using hsz) hxl (fun i hi => by simpa using hel i hi)
          simpa [flat] using this
      · -- struct
        rename_i fs
        obtain ⟨fields, ht, rfl⟩ := ty_struct hE hd
        cases hm : (fields.toList.map fun f => (f.offset, f.type, P.cellsOf f.type)).mapM fun f => E.shape n f.2.1 with
        | none => rw [hm] at hsh; cases hsh
        | some shs =>
          rw [hm] at hsh
          cases hsh
          obtain ⟨xs, m0, hf, hx, hcl, hxl, hel⟩ := DataW.trod_struct ht h
          cases hf
          cases hx
          simp only [Bool.and_eq_true] at hl
          have hsz : sumSz (fields.toList.map fun f => (f.offset, f.type, P.cellsOf f.type)) = cs.length := by
            rw [hcl]
            have h1 := Nat.eq_of_beq_eq_true hl.2
            obtain ⟨_, i, dd, h2, _, _, h4, _⟩ := ty_known hE (t := t) (by rw [hd]; rfl)
            rw [h1, h4]
            unfold Program.cellsOf
            rw [h2]; rfl
          have := fields_rep (cs := cs) (fun t cs d ps sh h1 h2 => ih n t cs d ps sh h1 h2) _ 0 xs shs hl.1 (by simpa using hsz) hm (by simpa using hxl) (fun i f hf => by
            rw [List.getElem?_map] at hf
            cases hfi : fields.toList[i]? with
            | none => rw [hfi] at hf; cases hf
            | some g =>
              rw [hfi] at hf
              cases hf
              exact hel i g (by simpa using hfi))
          simpa [flat] using this
end

end Go.Eng
