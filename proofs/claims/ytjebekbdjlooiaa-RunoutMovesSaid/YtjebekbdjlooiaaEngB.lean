/- ENGINE B. What abstract values stand for in the model's memory, and how that is kept. -/
import Derived.Test.YtjebekbdjlooiaaEngA
import Derived.Laws.AppendOwn
namespace Go.Eng

theorem Tree.run_bind {α β : Type} (t : Tree α) (f : α → Tree β) : (t.bind f).run = t.run.bind fun a => (f a).run := by
  induction t with
  | leaf a => rfl
  | br b t e iht ihe => cases b <;> simp [Tree.bind, Tree.run, iht, ihe]
  | fail => rfl

theorem Tree.holds_of_run {α : Type} {t : Tree α} {a : α} {Q : α → Prop} (h : t.run = some a) (hq : Q a) : t.holds Q := by
  induction t with
  | leaf x => simp [Tree.run] at h; subst h; exact hq
  | br b t e iht ihe => cases b <;> simp_all [Tree.run, Tree.holds]
  | fail => cases h

theorem Tree.run_of_holds {α : Type} {t : Tree α} {Q : α → Prop} (h : t.holds Q) : ∃ a, t.run = some a ∧ Q a := by
  induction t with
  | leaf x => exact ⟨x, rfl, h⟩
  | br b t e iht ihe => cases b <;> simp_all [Tree.run, Tree.holds]
  | fail => cases h

theorem bind_some {α β : Type} {t : Tree α} {f : α → Tree β} {b : β} (h : (t.bind f).run = some b) : ∃ a, t.run = some a ∧ (f a).run = some b := by
  rw [Tree.run_bind] at h
  cases ht : t.run with
  | none => rw [ht] at h; cases h
  | some a => rw [ht] at h; exact ⟨a, rfl, h⟩

/-! ### Rows in memory -/
inductive RepU (w : World) (M : Nat → Prop) : Sh → U → Value → Prop
  | int (k : IntKind) (u : U) : RepU w M (.int k) u (.int k u.toI)
  | bool (u : U) : RepU w M .bool u (.bool u.toB)
  | str (u : U) : RepU w M .str u (.string ⟨u.toS.toArray⟩)
  | slnil (row : List Sh) (u : U) (h : u.toR = []) : RepU w M (.sl row) u (.slice none 0 0)
  | sl (row : List Sh) (u : U) (a : Addr) (cap : Nat) (vs : Nat → Nat → Value) (hsp : 0 < u.toR.length → a.spot = none) (hcap : u.toR.length ≤ cap)
      (hM : ∀ r j, r < u.toR.length → j < row.length → M a.block)
      (hc : ∀ r j, r < u.toR.length → j < row.length → w.cell? ⟨a.block, a.off + r * row.length + j, none⟩ = some (vs r j))
      (hr : ∀ r j (hj : j < row.length), r < u.toR.length → RepU w M row[j] (cellU u.toR r j) (vs r j)) :
      RepU w M (.sl row) u (.slice (some a) u.toR.length cap)

def Rows (w : World) (M : Nat → Prop) (sh : List Sh) (l : R) (a : Addr) : Prop :=
  ∀ r j (hj : j < sh.length), r < l.length → M a.block ∧ ∃ v, w.cell? ⟨a.block, a.off + r * sh.length + j, none⟩ = some v ∧ RepU w M sh[j] (cellU l r j) v

def ImmAt (w : World) (M : Nat → Prop) (sh : List Sh) (l : R) (v : Value) : Prop :=
  (v = .slice none 0 0 ∧ l = []) ∨ ∃ a cap, v = .slice (some a) l.length cap ∧ (0 < l.length → a.spot = none) ∧ l.length ≤ cap ∧ Rows w M sh l a

theorem immAt_of_repU {w : World} {M : Nat → Prop} {row : List Sh} {u : U} {v : Value} (h : RepU w M (.sl row) u v) : ImmAt w M row u.toR v := by
  cases h with
  | slnil _ _ h => exact .inl ⟨rfl, h⟩
  | sl _ _ a cap vs hsp hcap hM hc hr => exact .inr ⟨a, cap, rfl, hsp, hcap, fun r j hj hrr => ⟨hM r j hrr hj, vs r j, hc r j hrr hj, hr r j hj hrr⟩⟩

open Classical in
theorem repU_of_immAt {w : World} {M : Nat → Prop} {row : List Sh} {l : R} {v : Value} (h : ImmAt w M row l v) : RepU w M (.sl row) (.l l) v := by
  rcases h with ⟨rfl, rfl⟩ | ⟨a, cap, rfl, hsp, hcap, hr⟩
  · exact .slnil _ _ rfl
  · exact .sl row (.l l) a cap (fun r j => if h : ∃ hj : j < row.length, r < l.length then Classical.choose (hr r j h.1 h.2).2 else undef) hsp hcap
      (fun r j h1 h2 => (hr r j h2 h1).1)
      (fun r j h1 h2 => by rw [dif_pos ⟨h2, h1⟩]; exact (Classical.choose_spec (hr r j h2 h1).2).1)
      (fun r j h2 h1 => by rw [dif_pos ⟨h2, h1⟩]; exact (Classical.choose_spec (hr r j h2 h1).2).2)

theorem RepU.mono {w w' : World} {M M' : Nat → Prop} {s : Sh} {u : U} {v : Value} (h : RepU w M s u v)
    (hM : ∀ n, M n → M' n) (hw : ∀ a : Addr, M a.block → w'.cell? a = w.cell? a) : RepU w' M' s u v := by
  induction h with
  | int => exact .int _ _
  | bool => exact .bool _
  | str => exact .str _
  | slnil row u h => exact .slnil _ _ h
  | sl row u a cap vs hsp hcap h1 hc hr ih =>
    exact .sl row u a cap vs hsp hcap (fun r j h2 h3 => hM _ (h1 r j h2 h3)) (fun r j h2 h3 => by rw [hw ⟨a.block, a.off + r * row.length + j, none⟩ (h1 r j h2 h3)]; exact hc r j h2 h3) ih

theorem Rows.mono {w w' : World} {M M' : Nat → Prop} {sh : List Sh} {l : R} {a : Addr} (h : Rows w M sh l a)
    (hM : ∀ n, M n → M' n) (hw : ∀ a : Addr, M a.block → w'.cell? a = w.cell? a) : Rows w' M' sh l a := by
  intro r j hj hr
  obtain ⟨h1, v, h2, h3⟩ := h r j hj hr
  exact ⟨hM _ h1, v, by rw [hw ⟨a.block, _, none⟩ h1]; exact h2, h3.mono hM hw⟩

theorem ImmAt.mono {w w' : World} {M M' : Nat → Prop} {sh : List Sh} {l : R} {v : Value} (h : ImmAt w M sh l v)
    (hM : ∀ n, M n → M' n) (hw : ∀ a : Addr, M a.block → w'.cell? a = w.cell? a) : ImmAt w' M' sh l v := by
  rcases h with h | ⟨a, cap, h1, h2, hc, h3⟩
  · exact .inl h
  · exact .inr ⟨a, cap, h1, h2, hc, h3.mono hM hw⟩

/-! ### Values -/
structure Ctx where
  σ : Nat → Option Nat
  h : List Blk
  w : World
  M : Nat → Prop
  kept : List (Nat × Obj) := []
  y : Nat := 0

def Ctx.isVec (X : Ctx) (b : Nat) (sh : List Sh) (n : Nat) : Prop := ∃ e l, (X.h[b]? = some (.vec e sh l) ∨ X.h[b]? = some (.frz e sh l)) ∧ l.length = n

def VecV (X : Ctx) (b : Nat) (sh : List Sh) (m : Nat) (v : Value) : Prop :=
  match X.σ b with
  | none => v = .slice none 0 0
  | some n => ∃ cap, v = .slice (some ⟨n, 0, none⟩) m cap ∧ m ≤ cap ∧ cap ≤ maxLen ∧ ∃ c T fr, X.w.heap[n]? = some (.cells c T fr) ∧ c.size = cap * sh.length

/-- the cells of an array of ints -/
def intsV (k : IntKind) (l : R) : List Value := l.map fun row => .int k (row.getD 0 (.i 0)).toI
theorem intsV_len (k : IntKind) (l : R) : (intsV k l).length = l.length := by simp [intsV]
theorem intsV_get {k : IntKind} {l : R} {i : Nat} (h : i < l.length) : (intsV k l)[i]? = some (.int k (cI l i 0)) := by
  simp [intsV, cI, cellU, List.getD_eq_getElem?_getD, h]

mutual
inductive Rep (X : Ctx) : AV → Value → Prop
  | undef (v : Value) : Rep X .undef v
  | skip : Rep X .skip Go.undef
  | yld : Rep X .yld (.func (.yield X.y) #[] #[])
  | blit (b : Bool) : Rep X (.blit b) (.bool b)
  | bool (b : Bool) : Rep X (.bool b) (.bool b)
  | ilit (k : IntKind) (n : Int) : Rep X (.ilit k n) (.int k n)
  | int (k : IntKind) (n : Int) : Rep X (.int k n) (.int k n)
  | str (s : List UInt8) : Rep X (.str s) (.string ⟨s.toArray⟩)
  | nilp : Rep X .nilp (.pointer none)
  | ptr (b off n : Nat) (hb : b < X.h.length) (hσ : X.σ b = some n) : Rep X (.ptr b off) (.pointer (some ⟨n, off, none⟩))
  | eptr (sh : List Sh) (l : R) (i : Int) (off : Nat) (a : Addr) (hsp : a.spot = none) (h0 : 0 ≤ i) (h1 : i.toNat < l.length) (hr : Rows X.w X.M sh l a) :
      Rep X (.eptr sh l i off) (.pointer (some ⟨a.block, a.off + i.toNat * sh.length + off, none⟩))
  | mnil (sh : List Sh) (l : R) (i : Int) (off : Nat) : Rep X (.mptr false sh l i off) (.pointer none)
  | mptr (sh : List Sh) (l : R) (i : Int) (off : Nat) (a : Addr) (hsp : a.spot = none) (h0 : 0 ≤ i) (h1 : i.toNat < l.length) (hr : Rows X.w X.M sh l a) :
      Rep X (.mptr true sh l i off) (.pointer (some ⟨a.block, a.off + i.toNat * sh.length + off, none⟩))
  | vptr (b : Nat) (i : Int) (off n k : Nat) (hb : b < X.h.length) (hσ : X.σ b = some n)
      (h : ∀ sh m, X.isVec b sh m → 0 ≤ i ∧ i.toNat < m ∧ k = i.toNat * sh.length) : Rep X (.vptr b i off) (.pointer (some ⟨n, k + off, none⟩))
  | vsub (b : Nat) (i : Int) (n k m c : Nat) (hb : b < X.h.length) (hσ : X.σ b = some n)
      (h : ∀ sh m', X.isVec b sh m' → 0 ≤ i ∧ i.toNat ≤ m' ∧ (k = i.toNat * sh.length ∨ (m = 0 ∧ k = 0)) ∧ m = m' - i.toNat) : Rep X (.vsub b i) (.slice (some ⟨n, k, none⟩) m c)
  | aptr (b o : Nat) (i : Int) (n : Nat) (hb : b < X.h.length) (hσ : X.σ b = some n) (h0 : 0 ≤ i) : Rep X (.aptr b o i) (.pointer (some ⟨n, o + i.toNat, none⟩))
  | asub (b o N : Nat) (i m : Int) (n k c : Nat) (hb : b < X.h.length) (hσ : X.σ b = some n) (h0 : 0 ≤ i) (h1 : 0 ≤ m) (h2 : i + m ≤ N) (hk : k = o + i.toNat ∨ m = 0) : Rep X (.asub b o N i m) (.slice (some ⟨n, k, none⟩) m.toNat c)
  | nils : Rep X .nils (.slice none 0 0)
  | imm (sh : List Sh) (l : R) (v : Value) (h : ImmAt X.w X.M sh l v) : Rep X (.imm sh l) v
  | vec (b : Nat) (p : Option Addr) (n c : Nat) (hb : b < X.h.length) (h : ∀ sh m, X.isVec b sh m → VecV X b sh m (.slice p n c)) : Rep X (.vec b) (.slice p n c)
  | nilf : Rep X .nilf .nilFunc
  | fn (f : FuncId) (first caps : List AV) (vf vc : List Value) (h1 : RepL X first vf) (h2 : RepL X caps vc) : Rep X (.fn f first caps) (.func (.func f) vf.toArray vc.toArray)
  | agg (cs : List AV) (vs : List Value) (h : RepL X cs vs) : Rep X (.agg cs) (.agg vs.toArray)
  | tuple (cs : List AV) (vs : List Value) (h : RepL X cs vs) : Rep X (.tuple cs) (.tuple vs.toArray)
  | bagg (cs : List AV) (k : IntKind) (n : Nat) (l : R) (vs : List Value) (h : RepL X cs vs) (hl : l.length = n) : Rep X (.bagg cs k n l) (.agg (vs ++ intsV k l).toArray)
inductive RepL (X : Ctx) : List AV → List Value → Prop
  | nil : RepL X [] []
  | cons {a : AV} {v : Value} {as : List AV} {vs : List Value} (h : Rep X a v) (t : RepL X as vs) : RepL X (a :: as) (v :: vs)
end

structure MoveB (X X' : Ctx) (b b' : Nat) : Prop where
  lt : b' < X'.h.length
  σ : X'.σ b' = X.σ b
  vec : ∀ sh m, X'.isVec b' sh m → X.isVec b sh m
  size : ∀ sh m, X'.isVec b' sh m → ∀ n, X.σ b = some n → ∀ c T fr, X.w.heap[n]? = some (.cells c T fr) → ∃ c' T' fr', X'.w.heap[n]? = some (.cells c' T' fr') ∧ c'.size = c.size

structure Move0 (X X' : Ctx) (f : Nat → Option Nat) : Prop where
  M : ∀ n, X.M n → X'.M n
  w : ∀ a : Addr, X.M a.block → X'.w.cell? a = X.w.cell? a
  b : ∀ b b', b < X.h.length → f b = some b' → MoveB X X' b b'
  y : X'.y = X.y
structure Move (X X' : Ctx) (f : Nat → Option Nat) : Prop extends Move0 X X' f where
  kept : X'.kept = X.kept
theorem Move.of {X X' : Ctx} {f : Nat → Option Nat} (M : ∀ n, X.M n → X'.M n) (w : ∀ a : Addr, X.M a.block → X'.w.cell? a = X.w.cell? a)
    (b : ∀ b b', b < X.h.length → f b = some b' → MoveB X X' b b') (y : X'.y = X.y := by rfl) (k : X'.kept = X.kept := by rfl) : Move X X' f := ⟨⟨M, w, b, y⟩, k⟩

mutual
theorem Rep.ren {X X' : Ctx} {f : Nat → Option Nat} (hm : Move0 X X' f) : ∀ {av : AV} {v : Value}, Rep X av v → Rep X' (av.ren f) v
  | _, _, .undef v => .undef v
  | _, _, .skip => .skip
  | _, _, .yld => by rw [← hm.y]; exact .yld
  | _, _, .blit b => .blit b
  | _, _, .bool b => .bool b
  | _, _, .ilit k n => .ilit k n
  | _, _, .int k n => .int k n
  | _, _, .str s => .str s
  | _, _, .nilp => .nilp
  | _, _, .ptr b off n hb hσ => by
    unfold AV.ren
    cases hf : f b with
    | none => exact .undef _
    | some b' => exact .ptr b' off n (hm.b b b' hb hf).lt (by rw [(hm.b b b' hb hf).σ]; exact hσ)
  | _, _, .eptr sh l i off a hsp h0 h1 hr => .eptr sh l i off a hsp h0 h1 (hr.mono hm.M hm.w)
  | _, _, .mnil sh l i off => .mnil sh l i off
  | _, _, .mptr sh l i off a hsp h0 h1 hr => .mptr sh l i off a hsp h0 h1 (hr.mono hm.M hm.w)
  | _, _, .vptr b i off n k hb hσ h => by
    unfold AV.ren
    cases hf : f b with
    | none => exact .undef _
    | some b' => exact .vptr b' i off n k (hm.b b b' hb hf).lt (by rw [(hm.b b b' hb hf).σ]; exact hσ) fun sh m hv => h sh m ((hm.b b b' hb hf).vec sh m hv)
  | _, _, .vsub b i n k m c hb hσ h => by
    unfold AV.ren
    cases hf : f b with
    | none => exact .undef _
    | some b' => exact .vsub b' i n k m c (hm.b b b' hb hf).lt (by rw [(hm.b b b' hb hf).σ]; exact hσ) fun sh m' hv => h sh m' ((hm.b b b' hb hf).vec sh m' hv)
  | _, _, .aptr b o i n hb hσ h0 => by
    unfold AV.ren
    cases hf : f b with
    | none => exact .undef _
    | some b' => exact .aptr b' o i n (hm.b b b' hb hf).lt (by rw [(hm.b b b' hb hf).σ]; exact hσ) h0
  | _, _, .asub b o N i m n k c hb hσ h0 h1 h2 hk => by
    unfold AV.ren
    cases hf : f b with
    | none => exact .undef _
    | some b' => exact .asub b' o N i m n k c (hm.b b b' hb hf).lt (by rw [(hm.b b b' hb hf).σ]; exact hσ) h0 h1 h2 hk
  | _, _, .nils => .nils
  | _, _, .imm sh l v h => .imm sh l v (h.mono hm.M hm.w)
  | _, _, .vec b p nn cc hb h => by
    unfold AV.ren
    cases hf : f b with
    | none => exact .undef _
    | some b' =>
      refine .vec b' p nn cc (hm.b b b' hb hf).lt fun sh m hv => ?_
      have h1 := h sh m ((hm.b b b' hb hf).vec sh m hv)
      unfold VecV at *
      rw [(hm.b b b' hb hf).σ]
      cases hs : X.σ b with
      | none => rw [hs] at h1; exact h1
      | some n =>
        rw [hs] at h1
        obtain ⟨cap, e1, e2, e2', c, T, fr, e3, e4⟩ := h1
        obtain ⟨c', T', fr', e5, e6⟩ := (hm.b b b' hb hf).size sh m hv n hs c T fr e3
        exact ⟨cap, e1, e2, e2', c', T', fr', e5, e6.trans e4⟩
  | _, _, .nilf => .nilf
  | _, _, .fn g first caps vf vc h1 h2 => .fn g _ _ vf vc (RepL.ren hm h1) (RepL.ren hm h2)
  | _, _, .agg cs vs h => .agg _ vs (RepL.ren hm h)
  | _, _, .tuple cs vs h => .tuple _ vs (RepL.ren hm h)
  | _, _, .bagg cs k n l vs h hl => .bagg _ k n l vs (RepL.ren hm h) hl
theorem RepL.ren {X X' : Ctx} {f : Nat → Option Nat} (hm : Move0 X X' f) : ∀ {av : List AV} {v : List Value}, RepL X av v → RepL X' (AV.renL f av) v
  | _, _, .nil => .nil
  | _, _, .cons h t => .cons (Rep.ren hm h) (RepL.ren hm t)
end

mutual
theorem AV.ren_some : ∀ av : AV, av.ren some = av
  | .undef | .skip | .yld | .blit _ | .bool _ | .ilit _ _ | .int _ _ | .str _ | .nilp | .eptr _ _ _ _ | .mptr _ _ _ _ _ | .nils | .imm _ _ | .nilf => rfl
  | .ptr _ _ => rfl
  | .vptr _ _ _ => rfl
  | .vsub _ _ => rfl
  | .aptr _ _ _ => rfl
  | .asub _ _ _ _ _ => rfl
  | .vec _ => rfl
  | .fn g first caps => by simp [AV.ren, AV.renL_some first, AV.renL_some caps]
  | .agg cs => by simp [AV.ren, AV.renL_some cs]
  | .tuple cs => by simp [AV.ren, AV.renL_some cs]
  | .bagg cs k n l => by simp [AV.ren, AV.renL_some cs]
theorem AV.renL_some : ∀ l : List AV, AV.renL some l = l
  | [] => rfl
  | a :: l => by simp [AV.renL, AV.ren_some a, AV.renL_some l]
end

/-- nothing is forgotten -/
abbrev Ext (X X' : Ctx) : Prop := Move X X' some

theorem Rep.ext {X X' : Ctx} (hm : Ext X X') {av : AV} {v : Value} (h : Rep X av v) : Rep X' av v := by
  have := h.ren hm.toMove0; rwa [AV.ren_some] at this
theorem RepL.ext {X X' : Ctx} (hm : Ext X X') {av : List AV} {v : List Value} (h : RepL X av v) : RepL X' av v := by
  have := h.ren hm.toMove0; rwa [AV.renL_some] at this

theorem RepL.length {X : Ctx} : ∀ {as : List AV} {vs : List Value}, RepL X as vs → as.length = vs.length
  | _, _, .nil => rfl
  | _, _, .cons _ t => by simp [RepL.length t]

theorem RepL.get {X : Ctx} : ∀ {as : List AV} {vs : List Value} (_ : RepL X as vs) (i : Nat) (a : AV), as[i]? = some a → ∃ v, vs[i]? = some v ∧ Rep X a v
  | _, _, .nil, i, a, h => by simp at h
  | _, _, .cons h _, 0, a, e => by simp at e; subst e; exact ⟨_, by simp, h⟩
  | _, _, .cons _ t, i + 1, a, e => by
    obtain ⟨v, h1, h2⟩ := RepL.get t i a (by simpa using e)
    exact ⟨v, by simpa using h1, h2⟩

theorem RepL.getD {X : Ctx} {as : List AV} {vs : List Value} (h : RepL X as vs) (i : Nat) : Rep X (as.getD i .undef) (vs.getD i Go.undef) := by
  cases e : as[i]? with
  | none =>
    have : as.getD i .undef = .undef := by simp [List.getD_eq_getElem?_getD, e]
    rw [this]; exact .undef _
  | some a =>
    obtain ⟨v, h1, h2⟩ := h.get i a e
    simp [List.getD_eq_getElem?_getD, e, h1]; exact h2

theorem RepL.append {X : Ctx} : ∀ {as : List AV} {vs : List Value} {bs : List AV} {us : List Value}, RepL X as vs → RepL X bs us → RepL X (as ++ bs) (vs ++ us)
  | _, _, _, _, .nil, h => h
  | _, _, _, _, .cons h t, h' => .cons h (RepL.append t h')

theorem RepL.take {X : Ctx} : ∀ {as : List AV} {vs : List Value}, RepL X as vs → ∀ n, RepL X (as.take n) (vs.take n)
  | _, _, .nil, n => by simp; exact .nil
  | _, _, .cons h t, 0 => by simp; exact .nil
  | _, _, .cons h t, n + 1 => by simp; exact .cons h (RepL.take t n)

theorem RepL.drop {X : Ctx} : ∀ {as : List AV} {vs : List Value}, RepL X as vs → ∀ n, RepL X (as.drop n) (vs.drop n)
  | _, _, .nil, n => by simp; exact .nil
  | _, _, .cons h t, 0 => by simp; exact .cons h t
  | _, _, .cons h t, n + 1 => by simp; exact RepL.drop t n

theorem RepL.set {X : Ctx} {a : AV} {v : Value} (hv : Rep X a v) : ∀ {as : List AV} {vs : List Value}, RepL X as vs → ∀ n, RepL X (as.set n a) (vs.set n v)
  | _, _, .nil, n => by simp; exact .nil
  | _, _, .cons h t, 0 => by simp; exact .cons hv t
  | _, _, .cons h t, n + 1 => by simp; exact .cons h (RepL.set hv t n)

/-! ### Blocks -/
def RowsC (w : World) (M : Nat → Prop) (sh : List Sh) (l : R) (c : Array Value) : Prop :=
  ∀ r j (hj : j < sh.length), r < l.length → ∃ v, c[r * sh.length + j]? = some v ∧ RepU w M sh[j] (cellU l r j) v

theorem RowsC.mono {w w' : World} {M M' : Nat → Prop} {sh : List Sh} {l : R} {c : Array Value} (h : RowsC w M sh l c)
    (hM : ∀ n, M n → M' n) (hw : ∀ a : Addr, M a.block → w'.cell? a = w.cell? a) : RowsC w' M' sh l c := by
  intro r j hj hr
  obtain ⟨v, h2, h3⟩ := h r j hj hr
  exact ⟨v, h2, h3.mono hM hw⟩

def BlkRep (X : Ctx) (b : Nat) : Blk → Prop
  | .cells cs => ∃ n c T, X.σ b = some n ∧ X.w.heap[n]? = some (.cells c T (0, 0)) ∧ RepL X cs c.toList
  | .big cs k N l => ∃ n c T vs, X.σ b = some n ∧ X.w.heap[n]? = some (.cells c T (0, 0)) ∧ RepL X cs vs ∧ c.toList = vs ++ intsV k l ∧ l.length = N
  | .vec e sh l => (X.σ b = none ∧ l = []) ∨ ∃ n c, X.σ b = some n ∧ X.w.heap[n]? = some (.cells c e (0, 0)) ∧ RowsC X.w X.M sh l c
  | .frz e sh l => (X.σ b = none ∧ l = []) ∨ ∃ n c, X.σ b = some n ∧ X.w.heap[n]? = some (.cells c e (0, 0)) ∧ RowsC X.w X.M sh l c ∧ X.M n
  | .dead => True

def Blk.mut : Blk → Bool
  | .cells _ | .vec _ _ _ | .big _ _ _ _ => true
  | _ => false
def Blk.solid : Blk → Bool
  | .cells _ | .big _ _ _ _ => true
  | _ => false

/-- own block b lies at real block n and may be written -/
def Ctx.own (X : Ctx) (b n : Nat) : Prop := X.σ b = some n ∧ ∃ k, X.h[b]? = some k ∧ k.mut = true

structure Base where
  w0 : World
  imps : List (Option Nat)
  M0 : Nat → Prop
  fs : List (List Value)
  ro : Option Nat := none
  y : Nat := 0
  pin : Option Ex → List (Nat × Obj) := fun _ => []

theorem Rep.ext0 {X X' : Ctx} (hm : Move0 X X' some) {av : AV} {v : Value} (h : Rep X av v) : Rep X' av v := by
  have := h.ren hm; rwa [AV.ren_some] at this
theorem RepL.ext0 {X X' : Ctx} (hm : Move0 X X' some) {av : List AV} {v : List Value} (h : RepL X av v) : RepL X' av v := by
  have := h.ren hm; rwa [AV.renL_some] at this

structure HSim (B : Base) (X : Ctx) : Prop where
  blk : ∀ b k, X.h[b]? = some k → BlkRep X b k
  inj : ∀ b b' n, X.own b n → X.own b' n → b = b'
  notM : ∀ b n, X.own b n → ¬ X.M n
  ltM : ∀ n, X.M n → n < X.w.heap.size
  M0 : ∀ n, B.M0 n → X.M n
  newM : ∀ n, X.M n → B.M0 n ∨ B.w0.heap.size ≤ n
  os : X.w.os = B.w0.os
  tape : X.w.tape = B.w0.tape
  output : X.w.output = B.w0.output
  size : B.w0.heap.size ≤ X.w.heap.size
  frame : ∀ n, n < B.w0.heap.size → some n ∉ B.imps → X.w.heap[n]? = B.w0.heap[n]?
  imps : ∀ b, b < B.imps.length → X.σ b = (B.imps[b]?).join
  impc : ∀ b, b < B.imps.length → ∃ k, X.h[b]? = some k ∧ k.solid = true
  fresh : ∀ b n, X.own b n → B.imps.length ≤ b → B.w0.heap.size ≤ n
  kept : ∀ p, p ∈ X.kept → X.w.heap[p.1]? = some p.2 ∧ (∀ c T fr, p.2 ≠ .cells c T fr) ∧ B.w0.heap.size ≤ p.1

theorem Ctx.own.lt {B : Base} {X : Ctx} (hs : HSim B X) {b n : Nat} (h : X.own b n) : n < X.w.heap.size := by
  obtain ⟨h1, k, h2, h3⟩ := h
  have := hs.blk b k h2
  cases k with
  | cells cs =>
    obtain ⟨n', c, T, e1, e2, _⟩ := this
    rw [h1] at e1; cases e1
    exact (Array.getElem?_eq_some_iff.1 e2).1
  | big cs k N l =>
    obtain ⟨n', c, T, vs, e1, e2, _⟩ := this
    rw [h1] at e1; cases e1
    exact (Array.getElem?_eq_some_iff.1 e2).1
  | vec e sh l =>
    rcases this with ⟨e1, _⟩ | ⟨n', c, e1, e2, _⟩
    · rw [h1] at e1; cases e1
    · rw [h1] at e1; cases e1
      exact (Array.getElem?_eq_some_iff.1 e2).1
  | frz e sh l => cases h3
  | dead => cases h3

theorem Ctx.own.cells {B : Base} {X : Ctx} (hs : HSim B X) {b n : Nat} (h : X.own b n) : ∃ c T fr, X.w.heap[n]? = some (.cells c T fr) := by
  obtain ⟨h1, k, h2, h3⟩ := h
  have := hs.blk b k h2
  cases k with
  | cells cs =>
    obtain ⟨n', c, T, e1, e2, _⟩ := this
    rw [h1] at e1; cases e1
    exact ⟨_, _, _, e2⟩
  | big cs k N l =>
    obtain ⟨n', c, T, vs, e1, e2, _⟩ := this
    rw [h1] at e1; cases e1
    exact ⟨_, _, _, e2⟩
  | vec e sh l =>
    rcases this with ⟨e1, _⟩ | ⟨n', c, e1, e2, _⟩
    · rw [h1] at e1; cases e1
    · rw [h1] at e1; cases e1
      exact ⟨_, _, _, e2⟩
  | frz e sh l => cases h3
  | dead => cases h3


theorem cell?_of_cells {w : World} {n : Nat} {c : Array Value} {T : TypeId} {fr : Nat × Nat} (h : w.heap[n]? = some (.cells c T fr)) (off : Nat) : w.cell? ⟨n, off, none⟩ = c[off]? := by
  simp [World.cell?, h]

end Go.Eng
