/- ENGINE C7. Freezing, slice literals, slicing. -/
import Derived.Test.YtjebekbdjlooiaaEngC6
namespace Go.Eng

/-- own slices frozen: what it gives -/
structure Frozen (B : Base) (X X' : Ctx) (h' : List Blk) : Prop where
  h : X'.h = h'
  w : X'.w = X.w
  σ : X'.σ = X.σ
  hs : HSim B X'
  ext : Ext X X'

theorem Move.trans {X Y Z : Ctx} (h : Ext X Y) (k : Ext Y Z) : Ext X Z := by
  refine Move.of (fun n hn => k.M n (h.M n hn)) (fun a ha => (k.w a (h.M _ ha)).trans (h.w a ha)) (fun b b' hb hf => ?_) (k.y.trans h.y) (k.kept.trans h.kept)
  cases hf
  have h1 := h.b b b hb rfl
  have h2 := k.b b b h1.lt rfl
  refine ⟨h2.lt, h2.σ.trans h1.σ, fun sh m hv => h1.vec sh m (h2.vec sh m hv), fun sh m hv n hn c T fr hc => ?_⟩
  obtain ⟨c1, T1, fr1, e1, e2⟩ := h1.size sh m (h2.vec sh m hv) n hn c T fr hc
  obtain ⟨c2, T2, fr2, e3, e4⟩ := h2.size sh m hv n (by rw [h1.σ]; exact hn) c1 T1 fr1 e1
  exact ⟨c2, T2, fr2, e3, e4.trans e2⟩

theorem freeze1_good {B : Base} {X : Ctx} (hs : HSim B X) (b : Nat) : ∃ X', Frozen B X X' (freeze1 X.h b) := by
  unfold freeze1
  cases hb : X.h[b]? with
  | none => exact ⟨X, rfl, rfl, rfl, hs, Ext.refl X⟩
  | some k =>
    cases k with
    | vec e sh l => exact ⟨X.frz b e sh l, rfl, rfl, rfl, hs.frz hb, Ctx.frz_ext hb⟩
    | cells => exact ⟨X, rfl, rfl, rfl, hs, Ext.refl X⟩
    | big => exact ⟨X, rfl, rfl, rfl, hs, Ext.refl X⟩
    | frz => exact ⟨X, rfl, rfl, rfl, hs, Ext.refl X⟩
    | dead => exact ⟨X, rfl, rfl, rfl, hs, Ext.refl X⟩

theorem freeze1_get {h : List Blk} {b b' : Nat} {e : TypeId} {sh : List Sh} {l : R} (hb : h[b']? = some (.vec e sh l) ∨ h[b']? = some (.frz e sh l)) :
    (freeze1 h b)[b']? = some (.vec e sh l) ∨ (freeze1 h b)[b']? = some (.frz e sh l) := by
  unfold freeze1
  split
  · rename_i e1 sh1 l1 h1
    by_cases hbb : b' = b
    · subst hbb
      rw [List.getElem?_set_self (lt_of_get h1)]
      rcases hb with hb | hb <;> rw [h1] at hb <;> cases hb
      exact .inr rfl
    · rw [List.getElem?_set_ne (Ne.symm hbb)]; exact hb
  · exact hb

theorem freeze1_self {h : List Blk} {b : Nat} {e : TypeId} {sh : List Sh} {l : R} (hb : h[b]? = some (.vec e sh l) ∨ h[b]? = some (.frz e sh l)) :
    (freeze1 h b)[b]? = some (.frz e sh l) := by
  unfold freeze1
  rcases hb with hb | hb <;> rw [hb]
  · simp only; rw [List.getElem?_set_self (lt_of_get hb)]
  · exact hb

theorem freeze1_frz {h : List Blk} {b b' : Nat} {e : TypeId} {sh : List Sh} {l : R} (hb : h[b']? = some (.frz e sh l)) : (freeze1 h b)[b']? = some (.frz e sh l) := by
  rcases freeze1_get (b := b) (.inr hb) with h1 | h1
  · unfold freeze1 at h1
    split at h1
    · rename_i e1 sh1 l1 h2
      by_cases hbb : b' = b
      · subst hbb; rw [h2] at hb; cases hb
      · rw [List.getElem?_set_ne (Ne.symm hbb), hb] at h1; cases h1
    · rw [hb] at h1; cases h1
  · exact h1

theorem freezeL_good {B : Base} : ∀ (l : List Nat) {X : Ctx} (_ : HSim B X), ∃ X', Frozen B X X' (freezeL X.h l)
  | [], X, hs => ⟨X, rfl, rfl, rfl, hs, Ext.refl X⟩
  | b :: l, X, hs => by
    obtain ⟨X1, f1⟩ := freeze1_good hs b
    obtain ⟨X2, f2⟩ := freezeL_good l f1.hs
    refine ⟨X2, ?_, f2.w.trans f1.w, f2.σ.trans f1.σ, f2.hs, f1.ext.trans f2.ext⟩
    rw [f2.h, f1.h]; rfl

theorem freezeL_frz : ∀ (l : List Nat) {h : List Blk} {b : Nat} {e : TypeId} {sh : List Sh} {r : R}, h[b]? = some (.frz e sh r) → (freezeL h l)[b]? = some (.frz e sh r)
  | [], _, _, _, _, _, h => h
  | _ :: l, _, _, _, _, _, h => freezeL_frz l (freeze1_frz h)

theorem freezeL_mem : ∀ (l : List Nat) {h : List Blk} {b : Nat} {e : TypeId} {sh : List Sh} {r : R}, b ∈ l → (h[b]? = some (.vec e sh r) ∨ h[b]? = some (.frz e sh r)) → (freezeL h l)[b]? = some (.frz e sh r)
  | a :: l, h, b, e, sh, r, hm, hb => by
    rcases List.mem_cons.1 hm with rfl | hm
    · exact freezeL_frz l (freeze1_self hb)
    · exact freezeL_mem l hm (freeze1_get hb)

def vecIdx (l : List AV) : List Nat := l.filterMap fun | .vec b => some b | _ => none

theorem freezeAll_eq : ∀ (l : List AV) (h : List Blk), freezeAll h l = freezeL h (vecIdx l)
  | [], h => rfl
  | a :: l, h => by
    cases a <;> first | (simp only [freezeAll, vecIdx, List.filterMap_cons]; exact freezeAll_eq l _)

/-- a frozen own slice is a list -/
theorem imm_of_frz {B : Base} {X : Ctx} (hs : HSim B X) {b : Nat} {e : TypeId} {sh : List Sh} {l : R} {v : Value} (hb : X.h[b]? = some (.frz e sh l)) (hv : Rep X (.vec b) v) : ImmAt X.w X.M sh l v := by
  cases hv with
  | vec _ p n c hlt h =>
    have h1 := h sh l.length ⟨e, l, .inr hb, rfl⟩
    unfold VecV at h1
    rcases hs.blk b _ hb with ⟨e1, rfl⟩ | ⟨n0, c0, e1, e2, e3, e4⟩
    · rw [e1] at h1; exact .inl ⟨h1, rfl⟩
    · rw [e1] at h1
      obtain ⟨cap, f1, f2, f3, c1, T1, fr1, f4, f5⟩ := h1
      refine .inr ⟨⟨n0, 0, none⟩, cap, f1, fun _ => rfl, f2, fun r j hj hr => ⟨e4, ?_⟩⟩
      obtain ⟨v, q1, q2⟩ := e3 r j hj hr
      exact ⟨v, by rw [cell?_of_cells e2]; simpa using q1, q2⟩

/-- a cell as universal data, own slices having been frozen -/
theorem toU_sound' {B : Base} {X X1 : Ctx} {s : Sh} {a : AV} {u : U} {v : Value} (h : toU X.h s a = some u) (hs1 : HSim B X1) (hx : Ext X X1)
    (hf : ∀ b e sh l, a = .vec b → (X.h[b]? = some (.vec e sh l) ∨ X.h[b]? = some (.frz e sh l)) → X1.h[b]? = some (.frz e sh l)) (hr : Rep X a v) : RepU X1.w X1.M s u v := by
  by_cases hv : ∃ b, a = .vec b
  · obtain ⟨b, rfl⟩ := hv
    cases s <;> simp only [toU] at h <;> try (cases h)
    rename_i row
    have key : ∀ e row' l, (X.h[b]? = some (.vec e row' l) ∨ X.h[b]? = some (.frz e row' l)) → (if Sh.beqL row row' then some (U.l l) else none) = some u → RepU X1.w X1.M (.sl row) u v := by
      intro e row' l hb hh
      by_cases hq : Sh.beqL row row' = true
      · rw [if_pos hq] at hh; cases hh
        obtain rfl := Sh.beqL_eq _ _ hq
        exact repU_of_immAt (imm_of_frz hs1 (hf b e row l rfl hb) (hr.ext hx))
      · rw [if_neg hq] at hh; cases hh
    split at h
    · rename_i e row' l hb; exact key _ _ _ (.inl hb) h
    · rename_i e row' l hb; exact key _ _ _ (.inr hb) h
    · cases h
  · -- nothing of the own slices is involved
    have : RepU X.w X.M s u v := by
      cases hr with
      | vec b => exact absurd ⟨b, rfl⟩ hv
      | ilit k n => exact toU_sound h rfl (.ilit k n)
      | int k n => exact toU_sound h rfl (.int k n)
      | blit b => exact toU_sound h rfl (.blit b)
      | bool b => exact toU_sound h rfl (.bool b)
      | str t => exact toU_sound h rfl (.str t)
      | nils => exact toU_sound h rfl .nils
      | imm sh l v himm => exact toU_sound h rfl (.imm sh l v himm)
      | _ => cases s <;> simp only [toU] at h <;> cases h
    exact this.mono hx.M hx.w

/-- cells as rows, one behind the other -/
def FlatV (w : World) (M : Nat → Prop) (sh : List Sh) (l : R) (xs : List Value) : Prop :=
  xs.length = l.length * sh.length ∧ ∀ r j (hj : j < sh.length), r < l.length → ∃ v, xs[r * sh.length + j]? = some v ∧ RepU w M sh[j] (cellU l r j) v

theorem toUs_sound' {B : Base} {X X1 : Ctx} (hs1 : HSim B X1) (hx : Ext X X1) : ∀ {sh : List Sh} {as : List AV} {us : List U} {vs : List Value}, toUs X.h sh as = some us →
    (∀ a ∈ as, ∀ b e sh l, a = .vec b → (X.h[b]? = some (.vec e sh l) ∨ X.h[b]? = some (.frz e sh l)) → X1.h[b]? = some (.frz e sh l)) → RepL X as vs →
    us.length = sh.length ∧ as.length = sh.length ∧ ∀ j (hj : j < sh.length), ∃ v, vs[j]? = some v ∧ RepU X1.w X1.M sh[j] (us.getD j (.i 0)) v
  | [], [], us, vs, h, _, hr => by simp [toUs] at h; subst h; exact ⟨rfl, rfl, fun j hj => by simp at hj⟩
  | [], _ :: _, us, vs, h, _, _ => by simp [toUs] at h
  | _ :: _, [], us, vs, h, _, _ => by simp [toUs] at h
  | s :: sh, a :: as, us, vs, h, hm, hr => by
    simp only [toUs] at h
    cases h1 : toU X.h s a with
    | none => rw [h1] at h; cases h
    | some u =>
      cases h2 : toUs X.h sh as with
      | none => rw [h1, h2] at h; cases h
      | some us' =>
        rw [h1, h2] at h; cases h
        cases hr with
        | cons ha ht =>
          obtain ⟨g1, g2, g3⟩ := toUs_sound' hs1 hx h2 (fun a ha => hm a (List.mem_cons_of_mem _ ha)) ht
          refine ⟨by simp [g1], by simp [g2], fun j hj => ?_⟩
          cases j with
          | zero => exact ⟨_, rfl, by simpa using toU_sound' h1 hs1 hx (hm a List.mem_cons_self) ha⟩
          | succ j =>
            obtain ⟨v, q1, q2⟩ := g3 j (by simpa using hj)
            exact ⟨v, by simpa using q1, by simpa using q2⟩

theorem cellU_cons_zero (row : List U) (l : R) (j : Nat) : cellU (row :: l) (0 : Nat) j = row.getD j (.i 0) := by simp [cellU]
theorem cellU_cons_succ (row : List U) (l : R) (r j : Nat) : cellU (row :: l) ((r + 1 : Nat) : Int) j = cellU l r j := by
  unfold cellU; rw [Int.toNat_natCast, Int.toNat_natCast]; simp

theorem chunk_sound {B : Base} {X X1 : Ctx} (hs1 : HSim B X1) (hx : Ext X X1) {sh : List Sh} : ∀ (n : Nat) {as : List AV} {l : R} {vs : List Value}, chunk X.h sh n as = some l →
    (∀ a ∈ as, ∀ b e sh l, a = .vec b → (X.h[b]? = some (.vec e sh l) ∨ X.h[b]? = some (.frz e sh l)) → X1.h[b]? = some (.frz e sh l)) → RepL X as vs → l.length = n ∧ FlatV X1.w X1.M sh l vs
  | 0, as, l, vs, h, hm, hr => by
    cases as with
    | nil => simp [chunk] at h; subst h; cases hr; exact ⟨rfl, by simp, fun r j hj hr => by simp at hr⟩
    | cons => simp [chunk] at h
  | n + 1, as, l, vs, h, hm, hr => by
    simp only [chunk] at h
    cases h1 : toUs X.h sh (as.take sh.length) with
    | none => rw [h1] at h; cases h
    | some us =>
      cases h2 : chunk X.h sh n (as.drop sh.length) with
      | none => rw [h1, h2] at h; cases h
      | some l' =>
        rw [h1, h2] at h; cases h
        obtain ⟨g1, g2, g3⟩ := toUs_sound' hs1 hx h1 (fun a ha => hm a (List.mem_of_mem_take ha)) (hr.take _)
        obtain ⟨g4, g5, g6⟩ := chunk_sound hs1 hx n h2 (fun a ha => hm a (List.mem_of_mem_drop ha)) (hr.drop _)
        have hlen := hr.length
        have g2' : sh.length ≤ as.length := by simp only [List.length_take] at g2; omega
        refine ⟨by simp [g4], ?_, fun r j hj hr' => ?_⟩
        · simp only [List.length_drop] at g5
          rw [List.length_cons, Nat.add_mul, Nat.one_mul]; omega
        · cases r with
          | zero =>
            obtain ⟨v, q1, q2⟩ := g3 j hj
            rw [List.getElem?_take, if_pos hj] at q1
            exact ⟨v, by simpa using q1, by rw [cellU_cons_zero]; exact q2⟩
          | succ r =>
            obtain ⟨v, q1, q2⟩ := g6 r j hj (by simpa using hr')
            rw [List.getElem?_drop] at q1
            refine ⟨v, ?_, by rw [cellU_cons_succ]; exact q2⟩
            rw [← q1]; congr 1; rw [Nat.add_mul]; omega

end Go.Eng
