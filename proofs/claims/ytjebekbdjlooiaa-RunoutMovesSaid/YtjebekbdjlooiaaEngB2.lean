/- ENGINE B2. How memory moves: a new block, an own block written, an own slice frozen. -/
import Derived.Test.YtjebekbdjlooiaaEngB
namespace Go.Eng

theorem Blk.mut_ren (f : Nat → Option Nat) (k : Blk) : (k.ren f).mut = k.mut := by cases k <;> rfl
theorem Blk.solid_ren (f : Nat → Option Nat) (k : Blk) : (k.ren f).solid = k.solid := by cases k <;> rfl
theorem Blk.ren_some (k : Blk) : k.ren some = k := by cases k <;> simp [Blk.ren, AV.renL_some]

theorem HSim.hlen {B : Base} {X : Ctx} (hs : HSim B X) : B.imps.length ≤ X.h.length := by
  rcases Nat.lt_or_ge X.h.length B.imps.length with h | h
  · obtain ⟨cs, e, _⟩ := hs.impc X.h.length h
    rw [List.getElem?_eq_none (Nat.le_refl _)] at e; cases e
  · exact h

theorem BlkRep.move {X X' : Ctx} {f : Nat → Option Nat} (hm : Move0 X X' f) {b b' : Nat} {k : Blk} (hσ : X'.σ b' = X.σ b)
    (hw : ∀ n, X.σ b = some n → X'.w.heap[n]? = X.w.heap[n]?) (h : BlkRep X b k) : BlkRep X' b' (k.ren f) := by
  cases k with
  | cells cs =>
    obtain ⟨n, c, T, e1, e2, e3⟩ := h
    exact ⟨n, c, T, by rw [hσ]; exact e1, by rw [hw n e1]; exact e2, e3.ren hm⟩
  | big cs k N l =>
    obtain ⟨n, c, T, vs, e1, e2, e3, e4, e5⟩ := h
    exact ⟨n, c, T, vs, by rw [hσ]; exact e1, by rw [hw n e1]; exact e2, e3.ren hm, e4, e5⟩
  | vec e sh l =>
    rcases h with ⟨e1, e2⟩ | ⟨n, c, e1, e2, e3⟩
    · exact .inl ⟨by rw [hσ]; exact e1, e2⟩
    · exact .inr ⟨n, c, by rw [hσ]; exact e1, by rw [hw n e1]; exact e2, e3.mono hm.M hm.w⟩
  | frz e sh l =>
    rcases h with ⟨e1, e2⟩ | ⟨n, c, e1, e2, e3, e4⟩
    · exact .inl ⟨by rw [hσ]; exact e1, e2⟩
    · exact .inr ⟨n, c, by rw [hσ]; exact e1, by rw [hw n e1]; exact e2, e3.mono hm.M hm.w, hm.M n e4⟩
  | dead => trivial

theorem BlkRep.ext {X X' : Ctx} (hm : Ext X X') {b : Nat} {k : Blk} (hσ : X'.σ b = X.σ b)
    (hw : ∀ n, X.σ b = some n → X'.w.heap[n]? = X.w.heap[n]?) (h : BlkRep X b k) : BlkRep X' b k := by
  have := BlkRep.move hm.toMove0 (b' := b) hσ hw h
  rwa [Blk.ren_some] at this

/-- the real block of an own one is there -/
theorem HSim.lt {B : Base} {X : Ctx} (hs : HSim B X) {b n : Nat} {k : Blk} (h : X.h[b]? = some k) (hd : k ≠ .dead) (hn : X.σ b = some n) : n < X.w.heap.size := by
  have := hs.blk b k h
  cases k with
  | cells cs =>
    obtain ⟨n', c, T, e1, e2, _⟩ := this
    rw [hn] at e1; cases e1
    exact (Array.getElem?_eq_some_iff.1 e2).1
  | big cs k N l =>
    obtain ⟨n', c, T, vs, e1, e2, _⟩ := this
    rw [hn] at e1; cases e1
    exact (Array.getElem?_eq_some_iff.1 e2).1
  | vec e sh l =>
    rcases this with ⟨e1, _⟩ | ⟨n', c, e1, e2, _⟩ <;> rw [hn] at e1 <;> cases e1
    exact (Array.getElem?_eq_some_iff.1 e2).1
  | frz e sh l =>
    rcases this with ⟨e1, _⟩ | ⟨n', c, e1, e2, _⟩ <;> rw [hn] at e1 <;> cases e1
    exact (Array.getElem?_eq_some_iff.1 e2).1
  | dead => exact absurd rfl hd

/-! ### A new block -/
def Ctx.pushW (X : Ctx) (k : Blk) (s' : Option Nat) (w' : World) : Ctx :=
  { σ := fun b => if b = X.h.length then s' else X.σ b, h := X.h ++ [k], w := w', M := X.M, kept := X.kept, y := X.y }

structure PushW (X : Ctx) (s' : Option Nat) (w' : World) : Prop where
  old : ∀ m, m < X.w.heap.size → w'.heap[m]? = X.w.heap[m]?
  size : X.w.heap.size ≤ w'.heap.size
  os : w'.os = X.w.os
  tape : w'.tape = X.w.tape
  output : w'.output = X.w.output
  new : ∀ m, s' = some m → X.w.heap.size ≤ m

theorem heap_alloc_lt (w : World) (o : Obj) {n : Nat} (h : n < w.heap.size) : (w.alloc o).heap[n]? = w.heap[n]? := by
  show (w.heap.push o)[n]? = _
  rw [Array.getElem?_push, if_neg (by omega)]
theorem heap_alloc_at (w : World) (o : Obj) : (w.alloc o).heap[w.heap.size]? = some o := by
  show (w.heap.push o)[w.heap.size]? = _
  rw [Array.getElem?_push, if_pos rfl]

theorem PushW.alloc (X : Ctx) (o : Obj) : PushW X (some X.w.heap.size) (X.w.alloc o) :=
  ⟨fun _ h => heap_alloc_lt _ _ h, by simp, rfl, rfl, rfl, fun m h => by cases h; exact Nat.le_refl _⟩
theorem PushW.same (X : Ctx) : PushW X none X.w := ⟨fun _ _ => rfl, Nat.le_refl _, rfl, rfl, rfl, fun m h => by cases h⟩

theorem Ctx.push_ext {B : Base} {X : Ctx} (hs : HSim B X) (k : Blk) {s' : Option Nat} {w' : World} (hw : PushW X s' w') : Ext X (X.pushW k s' w') := by
  refine Move.of (fun _ h => h) (fun a ha => World.cell?_of_block (hw.old _ (hs.ltM _ ha))) (fun b b' hb h => ?_)
  cases h
  refine ⟨by simp [Ctx.pushW]; omega, by simp [Ctx.pushW]; omega, fun sh m ⟨e, l, h1, h2⟩ => ⟨e, l, ?_, h2⟩, fun _ _ _ n hn c T fr hc => ⟨c, T, fr, ?_, rfl⟩⟩
  · simpa [Ctx.pushW, List.getElem?_append_left hb] using h1
  · rw [show (X.pushW k s' w').w = w' from rfl, hw.old _ (Array.getElem?_eq_some_iff.1 hc).1]; exact hc

theorem HSim.push {B : Base} {X : Ctx} (hs : HSim B X) {k : Blk} {s' : Option Nat} {w' : World} (hw : PushW X s' w') (hk : BlkRep (X.pushW k s' w') X.h.length k) : HSim B (X.pushW k s' w') := by
  have hx := Ctx.push_ext hs k hw
  have hget : ∀ b k', (X.pushW k s' w').h[b]? = some k' → b < X.h.length ∧ X.h[b]? = some k' ∨ b = X.h.length ∧ k' = k := by
    intro b k' h
    rcases Nat.lt_or_ge b X.h.length with hb | hb
    · exact .inl ⟨hb, by simpa [Ctx.pushW, List.getElem?_append_left hb] using h⟩
    · have : (X.h ++ [k])[b]? = some k' := h
      rw [List.getElem?_append_right hb] at this
      rcases Nat.eq_or_lt_of_le hb with hb' | hb'
      · rw [← hb'] at this; simp at this; exact .inr ⟨hb'.symm, this.symm⟩
      · rw [List.getElem?_eq_none (by simp; omega)] at this; cases this
  have hσ : ∀ b, b < X.h.length → (X.pushW k s' w').σ b = X.σ b := fun b hb => by simp [Ctx.pushW]; omega
  have hσn : (X.pushW k s' w').σ X.h.length = s' := by simp [Ctx.pushW]
  have hown : ∀ b n, (X.pushW k s' w').own b n → X.own b n ∨ b = X.h.length ∧ X.w.heap.size ≤ n := by
    intro b n ⟨h1, k', h2, h3⟩
    rcases hget b k' h2 with ⟨hb, h4⟩ | ⟨rfl, rfl⟩
    · exact .inl ⟨by rw [← hσ b hb]; exact h1, k', h4, h3⟩
    · rw [hσn] at h1; exact .inr ⟨rfl, hw.new n h1⟩
  constructor
  · intro b k' h
    rcases hget b k' h with ⟨hb, h4⟩ | ⟨rfl, rfl⟩
    · by_cases hd : k' = .dead
      · subst hd; trivial
      · exact BlkRep.ext hx (hσ b hb) (fun n hn => hw.old n (hs.lt h4 hd hn)) (hs.blk b k' h4)
    · exact hk
  · intro b b' n h h'
    rcases hown b n h with h1 | ⟨g1, g2⟩
    · rcases hown b' n h' with h2 | ⟨g3, g4⟩
      · exact hs.inj b b' n h1 h2
      · exact absurd (Ctx.own.lt hs h1) (by omega)
    · rcases hown b' _ h' with h2 | ⟨g3, _⟩
      · exact absurd (Ctx.own.lt hs h2) (by omega)
      · rw [g1, g3]
  · intro b n h hM
    rcases hown b n h with h1 | ⟨g1, g2⟩
    · exact hs.notM b n h1 hM
    · exact absurd (hs.ltM _ hM) (by omega)
  · intro n h
    have := hs.ltM n h
    have := hw.size
    show n < w'.heap.size
    omega
  · exact hs.M0
  · exact hs.newM
  · exact hw.os.trans hs.os
  · exact hw.tape.trans hs.tape
  · exact hw.output.trans hs.output
  · have := hs.size; have := hw.size; show _ ≤ w'.heap.size; omega
  · intro n hn hni
    have := hs.size
    rw [show (X.pushW k s' w').w = w' from rfl, hw.old _ (by omega)]
    exact hs.frame n hn hni
  · intro b hb
    have := hs.hlen
    rw [hσ b (by omega)]; exact hs.imps b hb
  · intro b hb
    obtain ⟨cs, h, hc⟩ := hs.impc b hb
    exact ⟨cs, by have := hs.hlen; simpa [Ctx.pushW, List.getElem?_append_left (show b < X.h.length by omega)] using h, hc⟩
  · intro b n h hb
    rcases hown b n h with h1 | ⟨g1, g2⟩
    · exact hs.fresh b n h1 hb
    · have := hs.size; omega
  · intro p hp
    obtain ⟨q1, q2, q3⟩ := hs.kept p hp
    exact ⟨(hw.old _ (Array.getElem?_eq_some_iff.1 q1).1).trans q1, q2, q3⟩

/-! ### An own block is written -/
def kindOk : Blk → Blk → Prop
  | .cells _, .cells _ => True
  | .big _ _ _ _, .big _ _ _ _ => True
  | .vec e sh l, .vec e' sh' l' => e = e' ∧ sh = sh' ∧ l.length = l'.length
  | _, _ => False

def Ctx.upd (X : Ctx) (b : Nat) (k' : Blk) (w' : World) : Ctx := { X with h := X.h.set b k', w := w' }

structure UpdW (X : Ctx) (n : Nat) (c c' : Array Value) (T : TypeId) (w' : World) : Prop where
  old : X.w.heap[n]? = some (.cells c T (0, 0))
  new : w'.heap[n]? = some (.cells c' T (0, 0))
  sz : c'.size = c.size
  other : ∀ m, m ≠ n → w'.heap[m]? = X.w.heap[m]?
  size : w'.heap.size = X.w.heap.size
  os : w'.os = X.w.os
  tape : w'.tape = X.w.tape
  output : w'.output = X.w.output

theorem UpdW.setRow {X : Ctx} {n : Nat} {c c' : Array Value} {T : TypeId} (h : X.w.heap[n]? = some (.cells c T (0, 0))) (hs : c'.size = c.size) : UpdW X n c c' T (X.w.setRow n c') :=
  ⟨h, setRow_heap _ _ _ _ _ _ h, hs, fun m hm => setRow_other _ _ _ _ hm, by simp, rfl, rfl, rfl⟩

theorem set_get {α : Type} {l : List α} {b : Nat} {k : α} (hb : b < l.length) {b' : Nat} {x : α} (h : (l.set b k)[b']? = some x) : b' = b ∧ x = k ∨ b' ≠ b ∧ l[b']? = some x := by
  rcases Nat.decEq b' b with hne | rfl
  · right; rw [List.getElem?_set_ne (Ne.symm hne)] at h; exact ⟨hne, h⟩
  · left; rw [List.getElem?_set_self hb] at h; cases h; exact ⟨rfl, rfl⟩

theorem lt_of_get {α : Type} {l : List α} {b : Nat} {x : α} (h : l[b]? = some x) : b < l.length := by
  rcases Nat.lt_or_ge b l.length with h' | h'
  · exact h'
  · rw [List.getElem?_eq_none h'] at h; cases h

theorem Ctx.upd_ext {B : Base} {X : Ctx} (hs : HSim B X) {b n : Nat} {k k' : Blk} {c c' : Array Value} {T : TypeId} {w' : World} (hb : X.h[b]? = some k) (hn : X.own b n)
    (hw : UpdW X n c c' T w') (hk : kindOk k k') : Ext X (X.upd b k' w') := by
  refine Move.of (fun _ h => h) (fun a ha => World.cell?_of_block (hw.other _ fun e => hs.notM b n hn (e ▸ ha))) (fun b1 b2 hb1 h => ?_)
  cases h
  refine ⟨by simpa [Ctx.upd] using hb1, rfl, fun sh m ⟨e, l, h1, h2⟩ => ?_, fun _ _ _ m hm c1 T1 fr1 hc1 => ?_⟩
  · simp only [Ctx.upd] at h1
    have hbl := lt_of_get hb
    rcases h1 with h1 | h1
    · rcases set_get hbl h1 with ⟨rfl, rfl⟩ | ⟨hne, h1⟩
      · cases k <;> simp [kindOk] at hk
        obtain ⟨rfl, rfl, h3⟩ := hk
        exact ⟨_, _, .inl hb, by omega⟩
      · exact ⟨e, l, .inl h1, h2⟩
    · rcases set_get hbl h1 with ⟨rfl, rfl⟩ | ⟨hne, h1⟩
      · cases k <;> simp [kindOk] at hk
      · exact ⟨e, l, .inr h1, h2⟩
  · by_cases hmn : m = n
    · subst hmn
      rw [hw.old] at hc1; cases hc1
      exact ⟨c', T, _, hw.new, hw.sz⟩
    · exact ⟨c1, T1, fr1, by rw [show (X.upd b k' w').w = w' from rfl, hw.other m hmn]; exact hc1, rfl⟩

theorem HSim.upd {B : Base} {X : Ctx} (hs : HSim B X) {b n : Nat} {k k' : Blk} {c c' : Array Value} {T : TypeId} {w' : World} (hb : X.h[b]? = some k) (hn : X.own b n)
    (hw : UpdW X n c c' T w') (hk : kindOk k k') (hk' : BlkRep (X.upd b k' w') b k') : HSim B (X.upd b k' w') := by
  have hx := Ctx.upd_ext hs hb hn hw hk
  have hbl := lt_of_get hb
  have hmut : k'.mut = true := by cases k <;> cases k' <;> simp [kindOk] at hk <;> rfl
  have hown : ∀ b1 n1, (X.upd b k' w').own b1 n1 → X.own b1 n1 := by
    intro b1 n1 ⟨h1, k1, h2, h3⟩
    rcases set_get hbl h2 with ⟨rfl, rfl⟩ | ⟨hne, h2⟩
    · have : n1 = n := by have := hn.1; rw [show (X.upd b1 k1 w').σ = X.σ from rfl, this] at h1; exact (Option.some.inj h1).symm
      subst this; exact hn
    · exact ⟨h1, k1, h2, h3⟩
  constructor
  · intro b1 k1 h
    rcases set_get hbl h with ⟨rfl, rfl⟩ | ⟨hne, h1⟩
    · exact hk'
    · by_cases hd : k1 = .dead
      · subst hd; trivial
      · refine BlkRep.ext hx rfl (fun m hm => hw.other m fun e => ?_) (hs.blk b1 k1 h1)
        subst e
        by_cases hm1 : k1.mut = true
        · exact hne (hs.inj b1 b m ⟨hm, k1, h1, hm1⟩ hn)
        · cases k1 with
          | cells => exact hm1 rfl
          | big => exact hm1 rfl
          | vec => exact hm1 rfl
          | dead => exact hd rfl
          | frz e sh l =>
            rcases hs.blk b1 _ h1 with ⟨e1, _⟩ | ⟨n1, c1, e1, _, _, e4⟩
            · rw [hm] at e1; cases e1
            · rw [hm] at e1; cases e1; exact hs.notM b m hn e4
  · intro b1 b2 m h1 h2; exact hs.inj b1 b2 m (hown b1 m h1) (hown b2 m h2)
  · intro b1 m h1 h2; exact hs.notM b1 m (hown b1 m h1) h2
  · intro m h; have := hs.ltM m h; simpa [Ctx.upd, hw.size] using this
  · exact hs.M0
  · exact hs.newM
  · exact hw.os.trans hs.os
  · exact hw.tape.trans hs.tape
  · exact hw.output.trans hs.output
  · have := hs.size; simpa [Ctx.upd, hw.size] using this
  · intro m hm hni
    have : m ≠ n := by
      intro e; subst e
      rcases Nat.lt_or_ge b B.imps.length with hlt | hge
      · have h1 := hs.imps b hlt
        rw [hn.1] at h1
        rw [List.getElem?_eq_getElem hlt] at h1
        simp at h1
        exact hni (h1 ▸ List.getElem_mem hlt)
      · have := hs.fresh b m hn hge; omega
    rw [show (X.upd b k' w').w = w' from rfl, hw.other m this]; exact hs.frame m hm hni
  · exact hs.imps
  · intro b1 hb1
    obtain ⟨cs, h, hc⟩ := hs.impc b1 hb1
    by_cases hbb : b1 = b
    · subst hbb
      rw [hb] at h; cases h
      refine ⟨k', by simp [Ctx.upd, List.getElem?_set_self hbl], ?_⟩
      cases k <;> cases k' <;> simp [kindOk] at hk <;> simp [Blk.solid] at hc <;> rfl
    · exact ⟨cs, by simpa [Ctx.upd, List.getElem?_set_ne (Ne.symm hbb)] using h, hc⟩
  · intro b1 m h1 h2; exact hs.fresh b1 m (hown b1 m h1) h2
  · intro p hp
    obtain ⟨q1, q2, q3⟩ := hs.kept p hp
    refine ⟨(hw.other _ fun e => ?_).trans q1, q2, q3⟩
    rw [e, hw.old] at q1
    exact q2 _ _ _ (Option.some.inj q1).symm

/-! ### An own slice is frozen -/
def Ctx.frz (X : Ctx) (b : Nat) (e : TypeId) (sh : List Sh) (l : R) : Ctx :=
  { X with h := X.h.set b (.frz e sh l), M := fun m => X.M m ∨ X.σ b = some m }

theorem vec_not_imp {B : Base} {X : Ctx} (hs : HSim B X) {b : Nat} {k : Blk} (hb : X.h[b]? = some k) (hk : k.solid = false) : B.imps.length ≤ b := by
  rcases Nat.lt_or_ge b B.imps.length with h | h
  · obtain ⟨cs, e, hc⟩ := hs.impc b h
    rw [hb] at e; cases e; rw [hk] at hc; cases hc
  · exact h

theorem Ctx.frz_ext {X : Ctx} {b : Nat} {e : TypeId} {sh : List Sh} {l : R} (hb : X.h[b]? = some (.vec e sh l)) : Ext X (X.frz b e sh l) := by
  refine Move.of (fun _ h => .inl h) (fun _ _ => rfl) (fun b1 b2 hb1 h => ?_)
  cases h
  refine ⟨by simpa [Ctx.frz] using hb1, rfl, fun sh1 m ⟨e1, l1, h1, h2⟩ => ?_, fun _ _ _ m hm c T fr hc => ⟨c, T, fr, hc, rfl⟩⟩
  have hbl := lt_of_get hb
  rcases h1 with h1 | h1
  · rcases set_get hbl h1 with ⟨rfl, h3⟩ | ⟨hne, h1⟩
    · cases h3
    · exact ⟨_, _, .inl h1, h2⟩
  · rcases set_get hbl h1 with ⟨rfl, h3⟩ | ⟨hne, h1⟩
    · cases h3; exact ⟨_, _, .inl hb, h2⟩
    · exact ⟨_, _, .inr h1, h2⟩

theorem HSim.frz {B : Base} {X : Ctx} (hs : HSim B X) {b : Nat} {e : TypeId} {sh : List Sh} {l : R} (hb : X.h[b]? = some (.vec e sh l)) : HSim B (X.frz b e sh l) := by
  have hx := Ctx.frz_ext hb
  have hbl := lt_of_get hb
  have hown : ∀ b1 n1, (X.frz b e sh l).own b1 n1 → b1 ≠ b ∧ X.own b1 n1 := by
    intro b1 n1 ⟨h1, k1, h2, h3⟩
    rcases set_get hbl h2 with ⟨rfl, rfl⟩ | ⟨hne, h2⟩
    · cases h3
    · exact ⟨hne, h1, k1, h2, h3⟩
  have hob : ∀ m, X.σ b = some m → X.own b m := fun m hm => ⟨hm, _, hb, rfl⟩
  constructor
  · intro b1 k1 h
    rcases set_get hbl h with ⟨rfl, rfl⟩ | ⟨hne, h1⟩
    · rcases hs.blk b1 _ hb with h1 | ⟨n, c, h1, h2, h3⟩
      · exact .inl h1
      · exact .inr ⟨n, c, h1, h2, h3.mono hx.M hx.w, .inr h1⟩
    · exact BlkRep.ext hx rfl (fun _ _ => rfl) (hs.blk b1 k1 h1)
  · intro b1 b2 m h1 h2; exact hs.inj b1 b2 m (hown b1 m h1).2 (hown b2 m h2).2
  · intro b1 m h1 h2
    rcases h2 with h2 | h2
    · exact hs.notM b1 m (hown b1 m h1).2 h2
    · exact (hown b1 m h1).1 (hs.inj b1 b m (hown b1 m h1).2 (hob m h2))
  · intro m h
    rcases h with h | h
    · exact hs.ltM m h
    · exact Ctx.own.lt hs (hob m h)
  · intro m h; exact .inl (hs.M0 m h)
  · intro m h
    rcases h with h | h
    · exact hs.newM m h
    · exact .inr (hs.fresh b m (hob m h) (vec_not_imp hs hb rfl))
  · exact hs.os
  · exact hs.tape
  · exact hs.output
  · exact hs.size
  · exact hs.frame
  · exact hs.imps
  · intro b1 hb1
    obtain ⟨cs, h, hc⟩ := hs.impc b1 hb1
    by_cases hbb : b1 = b
    · subst hbb; rw [hb] at h; cases h; cases hc
    · exact ⟨cs, by simpa [Ctx.frz, List.getElem?_set_ne (Ne.symm hbb)] using h, hc⟩
  · intro b1 m h1 h2; exact hs.fresh b1 m (hown b1 m h1).2 h2
  · exact hs.kept

/-! ### An own slice takes another place -/
def Ctx.repl (X : Ctx) (b : Nat) (s' : Option Nat) (k' : Blk) (w' : World) : Ctx :=
  { σ := fun x => if x = b then s' else X.σ x, h := (X.h.set b k').map (Blk.ren (void b)), w := w', M := X.M, kept := X.kept, y := X.y }

structure ReplW (X : Ctx) (b : Nat) (s' : Option Nat) (w' : World) : Prop where
  other : ∀ m, m < X.w.heap.size → X.σ b ≠ some m → w'.heap[m]? = X.w.heap[m]?
  same : ∀ m c T fr, X.σ b = some m → X.w.heap[m]? = some (.cells c T fr) → ∃ c' T' fr', w'.heap[m]? = some (.cells c' T' fr') ∧ c'.size = c.size
  size : X.w.heap.size ≤ w'.heap.size
  os : w'.os = X.w.os
  tape : w'.tape = X.w.tape
  output : w'.output = X.w.output
  at_ : s' = X.σ b ∨ ∀ m, s' = some m → X.w.heap.size ≤ m

theorem repl_get {X : Ctx} {b : Nat} {k' : Blk} {s' : Option Nat} {w' : World} (hb : b < X.h.length) {b1 : Nat} {k1 : Blk} (h : (X.repl b s' k' w').h[b1]? = some k1) :
    b1 = b ∧ k1 = k'.ren (void b) ∨ b1 ≠ b ∧ ∃ k0, X.h[b1]? = some k0 ∧ k1 = k0.ren (void b) := by
  simp only [Ctx.repl, List.getElem?_map] at h
  cases h1 : (X.h.set b k')[b1]? with
  | none => rw [h1] at h; cases h
  | some k0 =>
    rw [h1] at h
    simp only [Option.map_some, Option.some.injEq] at h
    rcases set_get hb h1 with ⟨rfl, rfl⟩ | ⟨hne, h2⟩
    · exact .inl ⟨rfl, h.symm⟩
    · exact .inr ⟨hne, k0, h2, h.symm⟩

theorem ren_vec {k : Blk} {f : Nat → Option Nat} {e : TypeId} {sh : List Sh} {l : R} (h : Blk.vec e sh l = k.ren f ∨ Blk.frz e sh l = k.ren f) : k = .vec e sh l ∨ k = .frz e sh l := by
  cases k <;> simp [Blk.ren] at h
  · exact .inl (by simp [h])
  · exact .inr (by simp [h])

theorem Ctx.repl_move {B : Base} {X : Ctx} (hs : HSim B X) {b : Nat} {e : TypeId} {sh : List Sh} {l : R} (hb : X.h[b]? = some (.vec e sh l)) {s' : Option Nat} {k' : Blk} {w' : World}
    (hw : ReplW X b s' w') : Move X (X.repl b s' k' w') (void b) := by
  have hbl := lt_of_get hb
  have hob : ∀ m, X.σ b = some m → X.own b m := fun m hm => ⟨hm, _, hb, rfl⟩
  refine Move.of (fun _ h => h) (fun a ha => World.cell?_of_block (hw.other _ (hs.ltM _ ha) fun hm => hs.notM b _ (hob _ hm) ha)) (fun b1 b2 hb1 h => ?_)
  have hne : b1 ≠ b := by intro e; subst e; simp [void] at h
  have : b2 = b1 := by simp [void, hne] at h; exact h.symm
  subst this
  refine ⟨by simpa [Ctx.repl] using hb1, by simp [Ctx.repl, hne], fun sh1 m ⟨e1, l1, h1, h2⟩ => ?_, fun _ _ _ m hm c T fr hc => ?_⟩
  · rcases h1 with h1 | h1
    · rcases repl_get hbl h1 with ⟨h3, _⟩ | ⟨_, k0, h3, h4⟩
      · exact absurd h3 hne
      · rcases ren_vec (.inl h4) with rfl | rfl
        · exact ⟨_, _, .inl h3, h2⟩
        · exact ⟨_, _, .inr h3, h2⟩
    · rcases repl_get hbl h1 with ⟨h3, _⟩ | ⟨_, k0, h3, h4⟩
      · exact absurd h3 hne
      · rcases ren_vec (.inr h4) with rfl | rfl
        · exact ⟨_, _, .inl h3, h2⟩
        · exact ⟨_, _, .inr h3, h2⟩
  · by_cases hbm : X.σ b = some m
    · exact hw.same m c T fr hbm hc
    · exact ⟨c, T, fr, by rw [show (X.repl b s' k' w').w = w' from rfl, hw.other m (Array.getElem?_eq_some_iff.1 hc).1 hbm]; exact hc, rfl⟩

theorem HSim.repl {B : Base} {X : Ctx} (hs : HSim B X) {b : Nat} {e : TypeId} {sh : List Sh} {l : R} (hb : X.h[b]? = some (.vec e sh l)) {s' : Option Nat} {k' : Blk} {w' : World}
    (hw : ReplW X b s' w') (hk' : BlkRep (X.repl b s' k' w') b (k'.ren (void b))) : HSim B (X.repl b s' k' w') := by
  have hx := Ctx.repl_move hs hb (k' := k') hw
  have hbl := lt_of_get hb
  have hni := vec_not_imp hs hb rfl
  have hob : ∀ m, X.σ b = some m → X.own b m := fun m hm => ⟨hm, _, hb, rfl⟩
  have hown : ∀ b1 n1, (X.repl b s' k' w').own b1 n1 → b1 ≠ b ∧ X.own b1 n1 ∨ b1 = b ∧ s' = some n1 := by
    intro b1 n1 ⟨h1, k1, h2, h3⟩
    rcases repl_get hbl h2 with ⟨rfl, _⟩ | ⟨hne, k0, h4, rfl⟩
    · exact .inr ⟨rfl, by simpa [Ctx.repl] using h1⟩
    · exact .inl ⟨hne, by simpa [Ctx.repl, hne] using h1, k0, h4, by rwa [Blk.mut_ren] at h3⟩
  have hnew : ∀ m, s' = some m → X.own b m ∨ X.w.heap.size ≤ m := by
    intro m hm
    rcases hw.at_ with h | h
    · exact .inl (hob m (h ▸ hm))
    · exact .inr (h m hm)
  constructor
  · intro b1 k1 h
    rcases repl_get hbl h with ⟨rfl, rfl⟩ | ⟨hne, k0, h1, rfl⟩
    · exact hk'
    · by_cases hd : k0 = .dead
      · subst hd; trivial
      · refine BlkRep.move hx.toMove0 (by simp [Ctx.repl, hne]) (fun m hm => hw.other m (hs.lt h1 hd hm) fun hbm => ?_) (hs.blk b1 k0 h1)
        by_cases hm1 : k0.mut = true
        · exact hne (hs.inj b1 b m ⟨hm, k0, h1, hm1⟩ (hob m hbm))
        · cases k0 with
          | cells => exact hm1 rfl
          | big => exact hm1 rfl
          | vec => exact hm1 rfl
          | dead => exact hd rfl
          | frz e sh l =>
            rcases hs.blk b1 _ h1 with ⟨e1, _⟩ | ⟨n1, c1, e1, _, _, e4⟩
            · rw [hm] at e1; cases e1
            · rw [hm] at e1; cases e1; exact hs.notM b m (hob m hbm) e4
  · intro b1 b2 m h1 h2
    rcases hown b1 m h1 with ⟨n1, g1⟩ | ⟨n1, g1⟩
    · rcases hown b2 m h2 with ⟨n2, g2⟩ | ⟨n2, g2⟩
      · exact hs.inj b1 b2 m g1 g2
      · rcases hnew m g2 with h3 | h3
        · rw [n2]; exact hs.inj b1 _ m g1 h3
        · exact absurd (Ctx.own.lt hs g1) (by omega)
    · rcases hown b2 m h2 with ⟨n2, g2⟩ | ⟨n2, g2⟩
      · rcases hnew m g1 with h3 | h3
        · rw [n1]; exact hs.inj _ b2 m h3 g2
        · exact absurd (Ctx.own.lt hs g2) (by omega)
      · rw [n1, n2]
  · intro b1 m h1 h2
    rcases hown b1 m h1 with ⟨n1, g1⟩ | ⟨n1, g1⟩
    · exact hs.notM b1 m g1 h2
    · rcases hnew m g1 with h3 | h3
      · exact hs.notM _ m h3 h2
      · exact absurd (hs.ltM m h2) (by omega)
  · intro m h; have := hs.ltM m h; have := hw.size; show m < w'.heap.size; omega
  · exact hs.M0
  · exact hs.newM
  · exact hw.os.trans hs.os
  · exact hw.tape.trans hs.tape
  · exact hw.output.trans hs.output
  · have := hs.size; have := hw.size; show _ ≤ w'.heap.size; omega
  · intro m hm hnm
    have h1 := hs.size
    have : X.σ b ≠ some m := fun e => by have := hs.fresh b m (hob m e) hni; omega
    rw [show (X.repl b s' k' w').w = w' from rfl, hw.other m (by omega) this]; exact hs.frame m hm hnm
  · intro b1 hb1
    have : b1 ≠ b := by omega
    simp only [Ctx.repl, this, if_false]; exact hs.imps b1 hb1
  · intro b1 hb1
    obtain ⟨cs, h, hc⟩ := hs.impc b1 hb1
    have hne : b1 ≠ b := by omega
    exact ⟨cs.ren (void b), by simp [Ctx.repl, List.getElem?_set_ne (Ne.symm hne), h], by rw [Blk.solid_ren]; exact hc⟩
  · intro b1 m h1 h2
    rcases hown b1 m h1 with ⟨n1, g1⟩ | ⟨n1, g1⟩
    · exact hs.fresh b1 m g1 h2
    · rcases hnew m g1 with h3 | h3
      · exact hs.fresh _ m h3 hni
      · have := hs.size; omega
  · intro p hp
    obtain ⟨q1, q2, q3⟩ := hs.kept p hp
    refine ⟨(hw.other _ (Array.getElem?_eq_some_iff.1 q1).1 fun e => ?_).trans q1, q2, q3⟩
    obtain ⟨c, T, fr, hc⟩ := (hob _ e).cells hs
    rw [hc] at q1
    exact q2 _ _ _ (Option.some.inj q1).symm

end Go.Eng
