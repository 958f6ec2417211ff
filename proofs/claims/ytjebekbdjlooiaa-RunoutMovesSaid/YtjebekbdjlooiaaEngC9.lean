/- ENGINE C9. append. -/
import Derived.Test.YtjebekbdjlooiaaEngC8
namespace Go.Eng

/-- the cells of rows that lie in memory -/
theorem flat_of_rows {w : World} {M : Nat → Prop} {sh : List Sh} {m : R} {ad : Addr} (hp : 0 < sh.length) (hsp : 0 < m.length → ad.spot = none) (h : Rows w M sh m ad) :
    ∃ news : List Value, FlatV w M sh m news ∧ (∀ j u, news[j]? = some u → w.cell? (ad.add j) = some u) ∧ ∀ u ∈ news, u.oneCell' = true := by
  have key : ∀ k, k < m.length * sh.length → ∃ v, w.cell? ⟨ad.block, ad.off + k, none⟩ = some v ∧ v.oneCell' = true := by
    intro k hk
    have h1 : k / sh.length < m.length := (Nat.div_lt_iff_lt_mul hp).2 hk
    have h2 : k % sh.length < sh.length := Nat.mod_lt _ hp
    obtain ⟨_, v, e1, e2⟩ := h (k / sh.length) (k % sh.length) h2 h1
    refine ⟨v, ?_, ?_⟩
    · rw [← e1]; congr 2
      have := Nat.div_add_mod k sh.length
      rw [Nat.mul_comm] at this; omega
    · generalize sh[k % sh.length] = s at e2
      cases e2 <;> rfl
  refine ⟨(List.range (m.length * sh.length)).map fun k => (w.cell? ⟨ad.block, ad.off + k, none⟩).getD undef, ⟨by simp, fun r j hj hr => ?_⟩, fun j u hu => ?_, fun u hu => ?_⟩
  · obtain ⟨_, v, e1, e2⟩ := h r j hj hr
    have hlt : r * sh.length + j < m.length * sh.length := by
      have : (r + 1) * sh.length ≤ m.length * sh.length := Nat.mul_le_mul_right _ hr
      rw [Nat.add_mul] at this; omega
    refine ⟨v, ?_, e2⟩
    rw [List.getElem?_map, List.getElem?_range hlt]
    simp only [Option.map_some, ← Nat.add_assoc, e1, Option.getD_some]
  · rw [List.getElem?_map] at hu
    by_cases hj : j < m.length * sh.length
    · rw [List.getElem?_range hj] at hu
      obtain ⟨v, e1, _⟩ := key j hj
      simp only [Option.map_some, e1, Option.getD_some, Option.some.injEq] at hu
      rw [Addr.add_of (hsp (Nat.pos_of_ne_zero fun h0 => by rw [h0] at hj; simp at hj)), e1, hu]
    · rw [List.getElem?_eq_none (by simpa using hj)] at hu; cases hu
  · obtain ⟨k, hk, rfl⟩ := List.mem_map.1 hu
    obtain ⟨v, e1, e2⟩ := key k (by simpa using hk)
    rw [e1]; exact e2

theorem cellU_app_left {l m : R} {r j : Nat} (h : r < l.length) : cellU (rapp l m) r j = cellU l r j := by
  unfold cellU rapp; rw [Int.toNat_natCast]
  simp [List.getD_eq_getElem?_getD, List.getElem?_append_left h]
theorem cellU_app_right {l m : R} {r j : Nat} (h : l.length ≤ r) : cellU (rapp l m) r j = cellU m ((r - l.length : Nat) : Int) j := by
  unfold cellU rapp; rw [Int.toNat_natCast, Int.toNat_natCast]
  simp [List.getD_eq_getElem?_getD, List.getElem?_append_right h]

theorem FlatV.app {w : World} {M : Nat → Prop} {sh : List Sh} {l m : R} {xs ys : List Value} (h1 : FlatV w M sh l xs) (h2 : FlatV w M sh m ys) : FlatV w M sh (rapp l m) (xs ++ ys) := by
  refine ⟨by simp [rapp, h1.1, h2.1, Nat.add_mul], fun r j hj hr => ?_⟩
  by_cases hl : r < l.length
  · obtain ⟨v, e1, e2⟩ := h1.2 r j hj hl
    exact ⟨v, by rw [List.getElem?_append_left (lt_of_get e1)]; exact e1, by rw [cellU_app_left hl]; exact e2⟩
  · have hr' : r - l.length < m.length := by simp only [rapp, List.length_append] at hr; omega
    obtain ⟨v, e1, e2⟩ := h2.2 (r - l.length) j hj hr'
    refine ⟨v, ?_, by rw [cellU_app_right (by omega)]; exact e2⟩
    have h3 : l.length * sh.length ≤ r * sh.length := Nat.mul_le_mul_right _ (by omega)
    rw [List.getElem?_append_right (by rw [h1.1]; omega), h1.1, ← e1]
    congr 1
    rw [Nat.sub_mul]; omega

theorem FlatV.rowsC {w : World} {M : Nat → Prop} {sh : List Sh} {l : R} {xs : List Value} {c : Array Value} (h : FlatV w M sh l xs) (hc : ∃ rest, c.toList = xs ++ rest) : RowsC w M sh l c := by
  obtain ⟨rest, hc⟩ := hc
  intro r j hj hr
  obtain ⟨v, e1, e2⟩ := h.2 r j hj hr
  refine ⟨v, ?_, e2⟩
  rw [← Array.getElem?_toList, hc, List.getElem?_append_left (lt_of_get e1)]; exact e1

theorem flat_of_rowsC {w : World} {M : Nat → Prop} {sh : List Sh} {l : R} {c : Array Value} {cap : Nat} (h : RowsC w M sh l c) (hsz : c.size = cap * sh.length) (hl : l.length ≤ cap) :
    FlatV w M sh l (c.toList.take (l.length * sh.length)) := by
  have h3 : l.length * sh.length ≤ cap * sh.length := Nat.mul_le_mul_right _ hl
  refine ⟨by simp; omega, fun r j hj hr => ?_⟩
  obtain ⟨v, e1, e2⟩ := h r j hj hr
  refine ⟨v, ?_, e2⟩
  have hlt : r * sh.length + j < l.length * sh.length := by
    have : (r + 1) * sh.length ≤ l.length * sh.length := Nat.mul_le_mul_right _ hr
    rw [Nat.add_mul] at this; omega
  rw [List.getElem?_take, if_pos hlt]; simpa using e1

/-- what is appended, read off memory: nothing, or cells that lie there -/
structure Src (P : Program) (X : Ctx) (sh : List Sh) (m : R) (v : Value) : Prop where
  nil : v = .slice none 0 0 ∧ m = [] ∨ ∃ ad c, v = .slice (some ad) m.length c ∧ (0 < m.length → ad.spot = none) ∧ Rows X.w X.M sh m ad

theorem src_of_imm {P : Program} {X : Ctx} {sh : List Sh} {m : R} {v : Value} (h : ImmAt X.w X.M sh m v) : Src P X sh m v := by
  rcases h with h | ⟨ad, c, h1, h2, _, h3⟩
  · exact ⟨.inl h⟩
  · exact ⟨.inr ⟨ad, c, h1, h2, h3⟩⟩

theorem ty_info {P : Program} {e : TypeId} (h : 0 < P.cellsOf e) : ∃ i, P.info? e = some i ∧ i.size = P.cellsOf e := by
  unfold Program.cellsOf at *
  cases hi : P.info? e with
  | none => rw [hi] at h; simp at h
  | some i => exact ⟨i, rfl, by simp⟩

theorem run_append_nothing {P : Program} {t e ty : TypeId} {w : World} {p q : Option Addr} {n c d : Nat} (ht : P.underlying t = some (.slice e)) (hp : 0 < P.cellsOf e) (hnc : n ≤ c) :
    (Builtin.append_ #[t, t] ty #[.slice p n c, .slice q 0 d]).run P w = .ok (.slice p n c) w := by
  cases p with
  | none => cases q <;> simp [Builtin.append_, run_underlying ht, run_sizeOf_pos hp, Builtin.lenOf, hnc, Builtin.firstCells, loadCells, loadCellsFrom]
  | some a => cases q <;> simp [Builtin.append_, run_underlying ht, run_sizeOf_pos hp, Builtin.lenOf, hnc, Builtin.firstCells, storeCells, loadCells, loadCellsFrom]

/-- the element's type, as append needs it -/
structure ElemOk (rm : Int) (P : Program) (e : TypeId) (es : Nat) (i : TypeInfo) (z : Value) : Prop where
  hi : P.info? e = some i
  hz : i.zero = some z
  size : i.size = es
  zs : z.cells.size = es
  by_ : ∀ n : Nat, (n : Int) ≤ rm → n * i.bytes ≤ 140737488355328 ∧ n ≤ 140737488355328

theorem elemOk {E : Env} {P : Program} (hE : E.tok P) {e : TypeId} (hp : 0 < P.cellsOf e) (hz : (E.ty e).zero.length = P.cellsOf e) : ∃ i z, ElemOk (roomE (E.ty e).bytes) P e (P.cellsOf e) i z := by
  obtain ⟨z, _, z2, i, hi, hz'⟩ := ty_zero hE (t := e) (by omega) default
  obtain ⟨i', hi', hs⟩ := ty_info hp
  rw [hi] at hi'; cases hi'
  refine ⟨i, z, hi, hz', hs, by rw [← hz, ← z2]; simp, ?_⟩
  rcases ty_cases hE e with h1 | h1
  · rw [h1] at hz; simp [noTI] at hz; omega
  · intro n hn
    have hb : (E.ty e).bytes = i.bytes := by rw [h1]; unfold mkTI; rw [hi]
    rw [hb] at hn
    unfold roomE at hn
    have hn' : n ≤ 140737488355328 / (if i.bytes = 0 then 1 else i.bytes) := by omega
    by_cases h0 : i.bytes = 0
    · rw [if_pos h0] at hn'; rw [h0]; omega
    · rw [if_neg h0] at hn'
      have h2 : n * i.bytes ≤ 140737488355328 := Nat.le_trans (Nat.mul_le_mul_right _ hn') (Nat.div_mul_le_self _ _)
      exact ⟨h2, Nat.le_trans (Nat.le_mul_of_pos_right n (by omega)) h2⟩

theorem block_size {es n cap : Nat} {xs ys : List Value} {z : Value} (h1 : xs.length + ys.length = n * es) (h2 : z.cells.size = es) (h3 : n ≤ cap) :
    (xs.toArray ++ ys.toArray ++ Builtin.zeroCells z.cells (cap - n)).size = cap * es := by
  simp only [Array.size_append, List.size_toArray, size_zeroCells, h2, h1]
  rw [← Nat.add_mul]; congr 1; omega

/-! #### to nil -/
theorem append_nil_good {P : Program} {B : Base} {X : Ctx} (hs : HSim B X) {t e ty : TypeId} {sh : List Sh} {m : R} {v : Value} {i : TypeInfo} {z : Value} (ht : P.underlying t = some (.slice e)) (hp : 0 < P.cellsOf e)
    (hsh : sh.length = P.cellsOf e) {rm : Int} (he : ElemOk rm P e (P.cellsOf e) i z) (hsrc : Src P X sh m v) (hm : rlen m ≤ rm) :
    OpGood P B X (do pure (.value (← Builtin.append_ #[t, t] ty #[.slice none 0 0, v]))) (.vec X.h.length, X.h ++ [.vec e sh m], none) := by
  by_cases h0 : m = []
  · subst h0
    have hv : ∃ q d, v = .slice q 0 d := by
      rcases hsrc.nil with ⟨rfl, _⟩ | ⟨ad, c, rfl, _⟩ <;> exact ⟨_, _, rfl⟩
    obtain ⟨q, d, rfl⟩ := hv
    have hpw := PushW.same X
    refine ⟨.value (.slice none 0 0), _, X.pushW (.vec e sh []) none X.w, ?_, .inl rfl, ?_, hs.push hpw (.inl ⟨by simp [Ctx.pushW], rfl⟩), rfl, Ctx.push_ext hs _ hpw⟩
    · rw [Sem.run_bind, run_append_nothing ht hp (Nat.le_refl 0)]; rfl
    · exact .vec _ _ _ _ (by simp [Ctx.pushW]) fun sh' m' _ => by unfold VecV; simp [Ctx.pushW]
  · rcases hsrc.nil with ⟨_, h⟩ | ⟨ad, c, rfl, hsp, hr⟩
    · exact absurd h h0
    obtain ⟨news, f1, f2, f3⟩ := flat_of_rows (by omega) hsp hr
    have hml : 0 < m.length := List.length_pos_iff.2 h0
    have hby := (he.by_ m.length (by simpa [rlen] using hm)).1
    have hroom : m.length ≤ 140737488355328 := (he.by_ m.length (by simpa [rlen] using hm)).2
    have hrun := run_append_nil (P := P) X.w t ty e i z ht he.hi he.hz ad m.length c news (by rw [f1.1, he.size, hsh]) f2 hml (by omega) (by omega)
    have hge := grownCap_ge X.w m.length 0 e
    have hcm := grownCap_le_maxLen X.w m.length 0 e (by unfold maxLen; omega)
    have hsz : (news.toArray ++ Builtin.zeroCells z.cells (grownCap X.w m.length 0 e - m.length)).size = grownCap X.w m.length 0 e * sh.length := by
      have := block_size (es := P.cellsOf e) (n := m.length) (cap := grownCap X.w m.length 0 e) (xs := []) (ys := news) (z := z) (by rw [List.length_nil, Nat.zero_add, f1.1, hsh]) he.zs hge
      rw [hsh, ← this]; simp
    have hpw : PushW X (some X.w.heap.size) (X.w.drew.alloc (.cells (news.toArray ++ Builtin.zeroCells z.cells (grownCap X.w m.length 0 e - m.length)) e)) :=
      ⟨fun _ h => heap_alloc_lt X.w.drew _ h, by simp, rfl, rfl, rfl, fun m h => by cases h; exact Nat.le_refl _⟩
    have hx := Ctx.push_ext hs (.vec e sh m) hpw
    have hnew := heap_alloc_at X.w.drew (.cells (news.toArray ++ Builtin.zeroCells z.cells (grownCap X.w m.length 0 e - m.length)) e)
    refine ⟨_, _, X.pushW (.vec e sh m) (some X.w.heap.size) _, ?_, .inl rfl, vec_new (n := X.w.heap.size) hge hcm hnew hsz, hs.push hpw (.inr ⟨X.w.heap.size, _, by simp [Ctx.pushW], hnew, ?_⟩), rfl, hx⟩
    · rw [Sem.run_bind, hrun]; rfl
    · have := FlatV.rowsC (c := news.toArray ++ Builtin.zeroCells z.cells (grownCap X.w m.length 0 e - m.length)) f1 ⟨_, by simp; rfl⟩
      exact this.mono hx.M hx.w

/-! #### to an own slice -/
theorem vec_repl {X : Ctx} {b : Nat} {e : TypeId} {sh : List Sh} {l : R} {n cap : Nat} {w' : World} {c : Array Value} {T : TypeId} {fr : Nat × Nat} (hb : b < X.h.length) (h1 : l.length ≤ cap) (h2 : cap ≤ maxLen)
    (h3 : w'.heap[n]? = some (.cells c T fr)) (h4 : c.size = cap * sh.length) : Rep (X.repl b (some n) (.vec e sh l) w') (.vec b) (.slice (some ⟨n, 0, none⟩) l.length cap) := by
  refine .vec _ _ _ _ (by simpa [Ctx.repl] using hb) fun sh' m ⟨e', l', q1, q2⟩ => ?_
  have : (X.repl b (some n) (.vec e sh l) w').h[b]? = some (.vec e sh l) := by simp [Ctx.repl, hb, Blk.ren]
  rw [this] at q1
  rcases q1 with q1 | q1 <;> cases q1
  subst q2
  unfold VecV
  simp only [Ctx.repl, if_true]
  exact ⟨cap, rfl, h1, h2, c, T, fr, h3, h4⟩

theorem append_vec_good {P : Program} {B : Base} {X : Ctx} (hs : HSim B X) {t e ty : TypeId} {sh : List Sh} {l m : R} {b : Nat} {v vs : Value} {i : TypeInfo} {z : Value} (ht : P.underlying t = some (.slice e)) (hp : 0 < P.cellsOf e)
    (hsh : sh.length = P.cellsOf e) {rm : Int} (he : ElemOk rm P e (P.cellsOf e) i z) (hb : X.h[b]? = some (.vec e sh l)) (hv : Rep X (.vec b) vs) (hsrc : Src P X sh m v) (hm : rlen l + rlen m ≤ rm) :
    OpGood P B X (do pure (.value (← Builtin.append_ #[t, t] ty #[vs, v]))) (.vec b, X.h.set b (.vec e sh (rapp l m)), some b) := by
  have hbl := lt_of_get hb
  have hroom : ((l.length + m.length : Nat) : Int) ≤ rm := by simpa [rlen] using hm
  have hroom' : l.length + m.length ≤ 140737488355328 := (he.by_ _ hroom).2
  have hren : ∀ k : R, (Blk.vec e sh k).ren (void b) = .vec e sh k := fun _ => rfl
  have hvl : (rapp l m).length = l.length + m.length := by simp [rapp]
  cases hv with
  | vec _ p n cap hlt hvv =>
    have hvv := hvv sh l.length ⟨e, l, .inl hb, rfl⟩
    unfold VecV at hvv
    rcases hs.blk b _ hb with ⟨e1, rfl⟩ | ⟨n0, c0, e1, e2, e3⟩
    · -- still nil
      rw [e1] at hvv; cases hvv
      by_cases h0 : m = []
      · subst h0
        have hv : ∃ q d, v = .slice q 0 d := by
          rcases hsrc.nil with ⟨rfl, _⟩ | ⟨ad, c, rfl, _⟩ <;> exact ⟨_, _, rfl⟩
        obtain ⟨q, d, rfl⟩ := hv
        have hw : ReplW X b none X.w := ⟨fun _ _ _ => rfl, fun _ c T fr _ h => ⟨c, T, fr, h, rfl⟩, Nat.le_refl _, rfl, rfl, rfl, .inl e1.symm⟩
        refine ⟨.value (.slice none 0 0), _, X.repl b none (.vec e sh (rapp [] [])) X.w, ?_, .inl rfl, ?_, hs.repl hb hw (.inl ⟨by simp [Ctx.repl], rfl⟩), rfl, Ctx.repl_move hs hb hw⟩
        · rw [Sem.run_bind, run_append_nothing ht hp (Nat.le_refl 0)]; rfl
        · exact .vec _ _ _ _ (by simpa [Ctx.repl] using hbl) fun sh' m' _ => by unfold VecV; simp [Ctx.repl]
      · rcases hsrc.nil with ⟨_, h⟩ | ⟨ad, c, rfl, hsp, hr⟩
        · exact absurd h h0
        obtain ⟨news, f1, f2, f3⟩ := flat_of_rows (by omega) hsp hr
        have hml : 0 < m.length := List.length_pos_iff.2 h0
        simp only [List.length_nil, Nat.zero_add] at hroom hroom'
        have hby := (he.by_ _ hroom).1
        have hrun := run_append_nil (P := P) X.w t ty e i z ht he.hi he.hz ad m.length c news (by rw [f1.1, he.size, hsh]) f2 hml (by omega) (by omega)
        have hge := grownCap_ge X.w m.length 0 e
        have hcm := grownCap_le_maxLen X.w m.length 0 e (by unfold maxLen; omega)
        have hsz : (news.toArray ++ Builtin.zeroCells z.cells (grownCap X.w m.length 0 e - m.length)).size = grownCap X.w m.length 0 e * sh.length := by
          have := block_size (es := P.cellsOf e) (n := m.length) (cap := grownCap X.w m.length 0 e) (xs := []) (ys := news) (z := z) (by rw [List.length_nil, Nat.zero_add, f1.1, hsh]) he.zs hge
          rw [hsh, ← this]; simp
        have hnew := heap_alloc_at X.w.drew (.cells (news.toArray ++ Builtin.zeroCells z.cells (grownCap X.w m.length 0 e - m.length)) e)
        have hw : ReplW X b (some X.w.heap.size) (X.w.drew.alloc (.cells (news.toArray ++ Builtin.zeroCells z.cells (grownCap X.w m.length 0 e - m.length)) e)) :=
          ⟨fun _ h _ => heap_alloc_lt X.w.drew _ h, fun m0 _ _ _ h _ => (by rw [e1] at h; cases h), by simp, rfl, rfl, rfl, .inr fun m h => by cases h; exact Nat.le_refl _⟩
        have hx := Ctx.repl_move hs hb (k' := .vec e sh (rapp [] m)) hw
        have hrl : rapp [] m = m := rfl
        rw [hrl] at hx ⊢
        refine ⟨_, _, X.repl b (some X.w.heap.size) (.vec e sh m) _, ?_, .inl rfl, vec_repl (n := X.w.heap.size) hbl hge hcm hnew hsz, hs.repl hb hw (.inr ⟨X.w.heap.size, _, by simp [Ctx.repl], hnew, ?_⟩), rfl, hx⟩
        · rw [Sem.run_bind, hrun]; rfl
        · have := FlatV.rowsC (c := news.toArray ++ Builtin.zeroCells z.cells (grownCap X.w m.length 0 e - m.length)) f1 ⟨_, by simp; rfl⟩
          exact this.mono hx.M hx.w
    · rw [e1] at hvv
      obtain ⟨cap', q1, q2, q3, c1, T1, fr1, q4, q5⟩ := hvv
      cases q1
      rw [e2] at q4; cases q4
      have hflat := flat_of_rowsC e3 q5 q2
      by_cases h0 : m = []
      · subst h0
        have hv : ∃ q d, v = .slice q 0 d := by
          rcases hsrc.nil with ⟨rfl, _⟩ | ⟨ad, c, rfl, _⟩ <;> exact ⟨_, _, rfl⟩
        obtain ⟨q, d, rfl⟩ := hv
        have hrl : rapp l [] = l := by simp [rapp]
        have hw : ReplW X b (some n0) X.w := ⟨fun _ _ _ => rfl, fun _ c T fr _ h => ⟨c, T, fr, h, rfl⟩, Nat.le_refl _, rfl, rfl, rfl, .inl e1.symm⟩
        have hx := Ctx.repl_move hs hb (k' := .vec e sh l) hw
        rw [hrl]
        refine ⟨.value (.slice (some ⟨n0, 0, none⟩) l.length cap), _, X.repl b (some n0) (.vec e sh l) X.w, ?_, .inl rfl, vec_repl hbl q2 q3 e2 q5, hs.repl hb hw (.inr ⟨n0, _, by simp [Ctx.repl], e2, e3.mono hx.M hx.w⟩), rfl, hx⟩
        rw [Sem.run_bind, run_append_nothing ht hp q2]; rfl
      · rcases hsrc.nil with ⟨_, h⟩ | ⟨ad, c, rfl, hsp, hr⟩
        · exact absurd h h0
        obtain ⟨news, f1, f2, f3⟩ := flat_of_rows (by omega) hsp hr
        have hml : 0 < m.length := List.length_pos_iff.2 h0
        have hby := (he.by_ _ hroom).1
        have happ := hflat.app f1
        by_cases hfit : l.length + m.length ≤ cap
        · -- in place
          have hfitc : l.length * i.size + news.length ≤ c0.size := by
            rw [he.size, f1.1, ← hsh, q5, ← Nat.add_mul]; exact Nat.mul_le_mul_right _ hfit
          have hrun := run_append_room (P := P) X.w t ty e i ht he.hi n0 l.length cap c0 e2 ad m.length c news (by rw [f1.1, he.size, hsh]) f2 f3 hfit hfitc
          have hsz : ((c0.toList.take (l.length * i.size) ++ news ++ c0.toList.drop (l.length * i.size + news.length)).toArray).size = c0.size := by
            simp; omega
          have hup := UpdW.setRow (X := X) (c' := (c0.toList.take (l.length * i.size) ++ news ++ c0.toList.drop (l.length * i.size + news.length)).toArray) e2 hsz
          have hw : ReplW X b (some n0) (X.w.setRow n0 (c0.toList.take (l.length * i.size) ++ news ++ c0.toList.drop (l.length * i.size + news.length)).toArray) :=
            ⟨fun m' _ hne => hup.other m' (fun e => hne (by rw [e]; exact e1)), fun m' c' T' fr' hm' hc' => by
              rw [e1] at hm'; cases hm'
              rw [e2] at hc'; cases hc'
              exact ⟨_, _, _, hup.new, hsz⟩, by simp, rfl, rfl, rfl, .inl e1.symm⟩
          have hx := Ctx.repl_move hs hb (k' := .vec e sh (rapp l m)) hw
          have hrep := vec_repl (X := X) (e := e) (l := rapp l m) (n := n0) (cap := cap) (w' := X.w.setRow n0 (c0.toList.take (l.length * i.size) ++ news ++ c0.toList.drop (l.length * i.size + news.length)).toArray) hbl (by rw [hvl]; exact hfit) q3 hup.new (by rw [hsz]; exact q5)
          rw [hvl] at hrep
          refine ⟨_, _, X.repl b (some n0) (.vec e sh (rapp l m)) _, ?_, .inl rfl, hrep, hs.repl hb hw (.inr ⟨n0, _, by simp [Ctx.repl], hup.new, ?_⟩), rfl, hx⟩
          · rw [Sem.run_bind, hrun]; rfl
          · have := FlatV.rowsC (c := (c0.toList.take (l.length * i.size) ++ news ++ c0.toList.drop (l.length * i.size + news.length)).toArray) happ ⟨c0.toList.drop (l.length * i.size + news.length), by rw [he.size, ← hsh]⟩
            exact this.mono hx.M hx.w
        · -- a new place
          have holds : ∀ j u, (c0.toList.take (l.length * sh.length))[j]? = some u → X.w.cell? ((⟨n0, 0, none⟩ : Addr).add j) = some u := by
            intro j u hu
            rw [List.getElem?_take] at hu
            split at hu
            · rw [Addr.add_lit, cell?_of_cells e2]; simpa using hu
            · cases hu
          have hrun := run_append_grow (P := P) X.w t ty e i z ht he.hi he.hz ⟨n0, 0, none⟩ l.length cap (c0.toList.take (l.length * sh.length)) (by rw [hflat.1, he.size, hsh]) holds ad m.length c news (by rw [f1.1, he.size, hsh]) f2 (by omega) (by omega) (growslice_fits (by omega) hby)
          have hge := grownCap_ge X.w (l.length + m.length) cap e
          have hcm := grownCap_le_maxLen X.w (l.length + m.length) cap e (by unfold maxLen; omega)
          have hsz := block_size (es := P.cellsOf e) (n := l.length + m.length) (cap := grownCap X.w (l.length + m.length) cap e) (xs := c0.toList.take (l.length * sh.length)) (ys := news) (z := z) (by rw [hflat.1, f1.1, hsh, ← Nat.add_mul]) he.zs hge
          rw [← hsh] at hsz
          have hnew := heap_alloc_at X.w.drew (.cells ((c0.toList.take (l.length * sh.length)).toArray ++ news.toArray ++ Builtin.zeroCells z.cells (grownCap X.w (l.length + m.length) cap e - (l.length + m.length))) e)
          have hw : ReplW X b (some X.w.heap.size) (X.w.drew.alloc (.cells ((c0.toList.take (l.length * sh.length)).toArray ++ news.toArray ++ Builtin.zeroCells z.cells (grownCap X.w (l.length + m.length) cap e - (l.length + m.length))) e)) :=
            ⟨fun _ h _ => heap_alloc_lt X.w.drew _ h, fun m0 c' T' fr' h hc' => ⟨c', T', fr', by rw [heap_alloc_lt X.w.drew _ (Array.getElem?_eq_some_iff.1 hc').1]; exact hc', rfl⟩, by simp, rfl, rfl, rfl, .inr fun m h => by cases h; exact Nat.le_refl _⟩
          have hx := Ctx.repl_move hs hb (k' := .vec e sh (rapp l m)) hw
          have hrep := vec_repl (X := X) (e := e) (l := rapp l m) hbl (by rw [hvl]; exact hge) hcm hnew hsz
          rw [hvl] at hrep
          refine ⟨_, _, X.repl b (some X.w.heap.size) (.vec e sh (rapp l m)) _, ?_, .inl rfl, hrep, hs.repl hb hw (.inr ⟨X.w.heap.size, _, by simp [Ctx.repl], hnew, ?_⟩), rfl, hx⟩
          · rw [Sem.run_bind, hrun]; rfl
          · have := FlatV.rowsC (c := (c0.toList.take (l.length * sh.length)).toArray ++ news.toArray ++ Builtin.zeroCells z.cells (grownCap X.w (l.length + m.length) cap e - (l.length + m.length))) happ ⟨_, by simp; rfl⟩
            exact this.mono hx.M hx.w

end Go.Eng
