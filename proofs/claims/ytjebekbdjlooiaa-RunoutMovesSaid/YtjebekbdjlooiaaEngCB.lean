/- ENGINE CB. Structs that end in a great array of ints. -/
import Derived.Test.YtjebekbdjlooiaaEngCA
namespace Go.Eng

theorem isZ_eq {k : IntKind} {v : Value} (h : isZ k v = true) : v = .int k 0 := by
  unfold isZ at h
  split at h
  · simp only [Bool.and_eq_true, decide_eq_true_eq] at h
    rw [h.1, h.2]
  · cases h

theorem bigTy_spec {E : Env} {t : TypeId} {o n : Nat} {k : IntKind} (h : bigTy E t = some (o, k, n)) :
    (E.ty t).zero.length = o + n ∧ (E.ty t).size = o + n ∧ 32 ≤ n ∧ (E.ty t).zero.drop o = List.replicate n (.int k 0) ∧ ∃ fs, (E.ty t).d = .struct fs := by
  unfold bigTy at h
  split at h
  · rename_i fs hd
    split at h
    · rename_i o' ty sz hl
      split at h
      · rename_i n' e es ha
        split at h
        · rename_i k' hk
          split at h
          · rename_i hc
            cases h
            simp only [Bool.and_eq_true, Nat.ble_eq, Nat.beq_eq, List.all_eq_true] at hc
            obtain ⟨⟨⟨c1, c2⟩, c3⟩, c4⟩ := hc
            refine ⟨c2, c3, c1, ?_, fs, hd⟩
            apply List.eq_replicate_iff.2
            exact ⟨by simp [c2], fun v hv => isZ_eq (c4 v hv)⟩
          · cases h
        · cases h
      · cases h
    · cases h
  · cases h

theorem intsV_zero (k : IntKind) (n : Nat) : intsV k (rmake n [.i 0]) = List.replicate n (.int k 0) := by
  simp [intsV, rmake, U.toI]
theorem rmake_len (n : Nat) (r : List U) : (rmake n r).length = n := by simp [rmake]

theorem zero_split {E : Env} {t : TypeId} {o n : Nat} {k : IntKind} (h : bigTy E t = some (o, k, n)) : (E.ty t).zero = (E.ty t).zero.take o ++ intsV k (rmake n [.i 0]) := by
  obtain ⟨h1, h2, h3, h4, _⟩ := bigTy_spec h
  rw [intsV_zero, ← h4, List.take_append_drop]

/-- a new block -/
theorem push_big {B : Base} {X : Ctx} (hs : HSim B X) {cs : List AV} {vs : List Value} {k : IntKind} {n : Nat} {l : R} {c : Array Value} {T : TypeId} (hr : RepL X cs vs) (hc : c.toList = vs ++ intsV k l) (hl : l.length = n) :
    HSim B (X.pushW (.big cs k n l) (some X.w.heap.size) (X.w.alloc (.cells c T))) := by
  have hw := PushW.alloc X (.cells c T)
  exact hs.push hw ⟨X.w.heap.size, c, T, vs, by simp [Ctx.pushW], heap_alloc_at _ _, hr.ext (Ctx.push_ext hs _ hw), hc, hl⟩

theorem newBig_good {P : Program} {B : Base} {X : Ctx} (hs : HSim B X) {cs : List AV} {vs : List Value} {k : IntKind} {n : Nat} {l : R} {v : Value} {t : TypeId} (hr : RepL X cs vs) (hc : v.cells.toList = vs ++ intsV k l) (hl : l.length = n) {m : Sem Value}
    (hm : m.run P X.w = .ok (.pointer (some ⟨X.w.heap.size, 0, none⟩)) (X.w.alloc (.cells v.cells t))) :
    OpGood P B X (do pure (.value (← m))) (.ptr X.h.length 0, X.h ++ [.big cs k n l], none) :=
  ⟨.value (.pointer (some ⟨X.w.heap.size, 0, none⟩)), _, X.pushW (.big cs k n l) (some X.w.heap.size) (X.w.alloc (.cells v.cells t)), by simp [hm]; rfl, .inl rfl, push_ptr, push_big hs hr hc hl, rfl,
    Ctx.push_ext hs _ (PushW.alloc X _)⟩

theorem newBlk_run {h : List Blk} {k : Option Blk} {r : Res} (hr : (newBlk h k).run = some r) : ∃ z, k = some z ∧ r = (.ptr h.length 0, h ++ [z], none) := by
  cases k with
  | none => cases hr
  | some z => cases hr; exact ⟨z, rfl, rfl⟩

theorem box_goodB {P : Program} {B : Base} {X : Ctx} (hs : HSim B X) {a : AV} {v : Value} (hv : Rep X a v) {t : TypeId} {z : Blk} (hz : boxBlk a = some z) :
    OpGood P B X (do pure (.value (← Instr.box t v))) (.ptr X.h.length 0, X.h ++ [z], none) := by
  unfold boxBlk at hz
  split at hz
  · rename_i cs k n l
    split at hz
    · cases hz
      cases hv with
      | bagg _ _ _ _ vs h hl => exact newBig_good (t := t) (v := .agg (vs ++ intsV k l).toArray) hs h (by simp [Value.cells]) hl (by simp [Instr.box, run_newVar])
    · cases hz
  · split at hz
    · rename_i hc
      cases hz
      exact box_good hs hv hc
    · cases hz

theorem alloc_goodB {E : Env} {P : Program} (hE : E.tok P) {B : Base} {X : Ctx} (hs : HSim B X) {t : TypeId} {z : Blk} (hz : allocBlk E t = some z) :
    OpGood P B X (do pure (.value (← Instr.alloc t true (.tuple #[])))) (.ptr X.h.length 0, X.h ++ [z], none) := by
  unfold allocBlk at hz
  split at hz
  · rename_i o k n hb
    split at hz
    · cases hz
      obtain ⟨b1, b2, b3, b4, _⟩ := bigTy_spec hb
      obtain ⟨v, h1, h2, _⟩ := ty_zero hE (t := t) (by omega) X.w
      refine newBig_good (t := t) (v := v) (vs := (E.ty t).zero.take o) hs (repL_ofCells X _) ?_ (rmake_len _ _) ?_
      · rw [h2]; exact zero_split hb
      · simp [Instr.alloc, h1, run_newVar]
    · cases hz
  · split at hz
    · rename_i hc
      cases hz
      exact alloc_good hE hs hc.2
    · cases hz

/-! ### Loads -/
theorem big_get {vs : List Value} {k : IntKind} {l : R} {c : Array Value} (hc : c.toList = vs ++ intsV k l) {j : Nat} (hj : j < l.length) : c[vs.length + j]? = some (.int k (cI l j 0)) := by
  have : c.toList[vs.length + j]? = some (.int k (cI l j 0)) := by
    rw [hc, List.getElem?_append_right (by omega), Nat.add_sub_cancel_left, intsV_get hj]
  simpa using this
theorem cI_toNat (l : R) {i : Int} (h : 0 ≤ i) (j : Nat) : cI l ((i.toNat : Nat) : Int) j = cI l i j := by rw [Int.toNat_of_nonneg h]

theorem ldBig_sound {E : Env} {P : Program} (hE : E.tok P) {B : Base} {X : Ctx} (hs : HSim B X) {t : TypeId} {b off n0 : Nat} (hσ : X.σ b = some n0) {cs : List AV} {k : IntKind} {n : Nat} {l : R} (hh : X.h[b]? = some (.big cs k n l)) {r : Res}
    (h : (ldBig E X.h t off cs k n l).run = some r) : ∃ av u, r = (av, X.h, none) ∧ (Instr.loadAt t (.pointer (some ⟨n0, off, none⟩))).run P X.w = .ok u X.w ∧ Rep X av u := by
  obtain ⟨n1, c, T, vs, e1, e2, e3, e4, e5⟩ := hs.blk b _ hh
  rw [hσ] at e1; cases e1
  have hlen := e3.length
  have hcl : c.size = vs.length + n := by
    have : c.toList.length = (vs ++ intsV k l).length := by rw [e4]
    simpa [intsV_len, e5] using this
  unfold ldBig at h
  by_cases hk : (E.ty t).d.known = false
  · rw [if_pos hk] at h; cases h
  rw [if_neg hk] at h
  have hk' : (E.ty t).d.known = true := by simpa using hk
  simp only [Instr.loadAt, Instr.sureAddr, Sem.run_bind, Sem.run_pure, Result.andThen_ok]
  unfold loadVar
  rw [Sem.run_bind, run_isAgg hE hk', Result.andThen_ok]
  cases ha : (E.ty t).d.isAgg with
  | true =>
    rw [ha] at h
    simp only [if_true] at h ⊢
    split at h
    · rename_i hc
      obtain ⟨rfl, hc2⟩ := hc
      cases h
      refine ⟨_, .agg (vs ++ intsV k l).toArray, rfl, ?_, .bagg _ _ _ _ vs e3 e5⟩
      have := run_loadCells_list (P := P) X.w ⟨n0, 0, none⟩ (vs ++ intsV k l) (fun j v hj => by
        rw [Addr.add_lit, cell?_of_cells e2, Nat.zero_add]
        rw [← e4] at hj
        simpa using hj)
      have hl : (vs ++ intsV k l).length = (E.ty t).size := by simp [intsV_len]; omega
      rw [hl] at this
      simp [run_sizeOf hE hk', this]
    · cases h
  | false =>
    rw [ha] at h
    simp only [Bool.false_eq_true, if_false] at h ⊢
    split at h
    · rename_i v hv
      cases h
      obtain ⟨u, g1, g2⟩ := e3.get off v hv
      have h2 : X.w.cell? ⟨n0, off, none⟩ = some u := by
        rw [cell?_of_cells e2]
        have : c.toList[off]? = some u := by rw [e4, List.getElem?_append_left (lt_of_get g1)]; exact g1
        simpa using this
      exact ⟨_, u, rfl, by simp [h2], g2⟩
    · rename_i hv
      have hge : cs.length ≤ off := by
        rcases Nat.lt_or_ge off cs.length with hlt | hge
        · rw [List.getElem?_eq_getElem hlt] at hv; cases hv
        · exact hge
      split at h
      · rename_i hlt
        cases h
        have h2 : X.w.cell? ⟨n0, off, none⟩ = some (.int k (cI l ((off - cs.length : Nat) : Int) 0)) := by
          rw [cell?_of_cells e2]
          have := big_get e4 (j := off - cs.length) (by omega)
          rwa [show vs.length + (off - cs.length) = off by omega] at this
        exact ⟨_, _, rfl, by simp [h2], .int _ _⟩
      · cases h

theorem evLoadB_sound {E : Env} {P : Program} (hE : E.tok P) {B : Base} {X : Ctx} (hs : HSim B X) {t : TypeId} {p : AV} {v : Value} (hv : Rep X p v) {r : Res}
    (h : (evLoadB E X.h t p).run = some r) : ∃ av u, r = (av, X.h, none) ∧ (Instr.loadAt t v).run P X.w = .ok u X.w ∧ Rep X av u := by
  unfold evLoadB at h
  split at h
  · rename_i b off
    split at h
    · rename_i cs k n l hh
      cases hv with
      | ptr _ _ n0 hb hσ => exact ldBig_sound hE hs hσ hh h
    · exact evLoad_sound hE hs hv h
  · rename_i b o i
    split at h
    · rename_i cs k n l hh
      split at h
      · rename_i hc
        obtain ⟨hc1, hc2, hc3⟩ := hc
        obtain ⟨g1, g2⟩ := br_run h
        cases g2
        obtain ⟨g3, g4⟩ := inb_iff g1
        cases hv with
        | aptr _ _ _ n0 hb hσ h0 =>
          obtain ⟨n1, c, T, vs, e1, e2, e3, e4, e5⟩ := hs.blk b _ hh
          rw [hσ] at e1; cases e1
          have hlen := e3.length
          have h2 : X.w.cell? ⟨n0, o + i.toNat, none⟩ = some (.int k (cI l i 0)) := by
            rw [cell?_of_cells e2]
            have := big_get e4 (j := i.toNat) (by omega)
            rw [cI_toNat l g3] at this
            rwa [show vs.length + i.toNat = o + i.toNat by omega] at this
          refine ⟨_, _, rfl, ?_, .int _ _⟩
          simp only [Instr.loadAt, Instr.sureAddr, Sem.run_bind, Sem.run_pure, Result.andThen_ok]
          unfold loadVar
          rw [Sem.run_bind, run_isAgg hE hc1, Result.andThen_ok, hc2]
          simp [h2]
      · cases h
    · cases h
  · exact evLoad_sound hE hs hv h

/-! ### Stores -/
theorem intsV_set (k : IntKind) (l : R) (j : Nat) (x : Int) : intsV k (rset l (j : Int) 0 [.i x]) = (intsV k l).set j (.int k x) := by
  apply List.ext_getElem?
  intro i
  have hl : (rset l (j : Int) 0 [.i x]).length = l.length := by simp [rset]
  by_cases hi : i < l.length
  · rw [intsV_get (by omega)]
    by_cases hij : i = j
    · subst hij
      rw [List.getElem?_set_self (by rw [intsV_len]; exact hi)]
      have := cellU_rset_same (l := l) (i := (i : Int)) (off := 0) (us := [.i x]) (by simpa using hi) (j := 0)
      simp only [cI, this]; rfl
    · rw [List.getElem?_set_ne (Ne.symm hij), intsV_get hi]
      have := cellU_rset_other (l := l) (i := (j : Int)) (off := 0) (us := [.i x]) (r := i) (by simpa using hij) (j := 0)
      simp only [cI, this]
  · rw [List.getElem?_eq_none (by rw [intsV_len]; omega), List.getElem?_eq_none (by simp [intsV_len]; omega)]

/-- one cell of the array written -/
theorem store_at {E : Env} {P : Program} (hE : E.tok P) {B : Base} {X : Ctx} (hs : HSim B X) {t : TypeId} {b n0 j : Nat} (hσ : X.σ b = some n0) {cs : List AV} {k : IntKind} {n : Nat} {l : R} (hh : X.h[b]? = some (.big cs k n l))
    (hj : j < n) (hsz : (E.ty t).size = 1) (x : Int) : OpGood P B X (do Instr.storeAt t (.pointer (some ⟨n0, cs.length + j, none⟩)) (.int k x); pure .skip) (.skip, X.h.set b (.big cs k n (rset l (j : Int) 0 [.i x])), none) := by
  obtain ⟨n1, c, T, vs, e1, e2, e3, e4, e5⟩ := hs.blk b _ hh
  rw [hσ] at e1; cases e1
  have hlen := e3.length
  have hcl : c.size = vs.length + n := by
    have : c.toList.length = (vs ++ intsV k l).length := by rw [e4]
    simpa [intsV_len, e5] using this
  have hsz' : (sizeOf t).run P X.w = .ok (Value.int k x).cells.size X.w := run_sizeOf_of hE (by rw [hsz]; rfl) (by show 1 ≠ 0; omega) X.w
  have hrun := run_storeVar_at (P := P) (t := t) (o := cs.length + j) (v := .int k x) e2 hsz' (by show cs.length + j + 1 ≤ _; omega) (fun u hu => by
    have : u = .int k x := by simpa [Value.cells] using hu
    rw [this]; rfl)
  have hc' : c.toList.take (cs.length + j) ++ (Value.int k x).cells.toList ++ c.toList.drop (cs.length + j + (Value.int k x).cells.size) = vs ++ intsV k (rset l (j : Int) 0 [.i x]) := by
    rw [intsV_set, e4]
    have h1 : (Value.int k x).cells.toList = [.int k x] := rfl
    have h2 : (Value.int k x).cells.size = 1 := rfl
    rw [h1, h2]
    apply List.ext_getElem?
    intro i
    have hsp := splice_get (c := vs ++ intsV k l) (vs := [Value.int k x]) (o := cs.length + j) (k := i) (by simp [intsV_len]; omega)
    simp only [List.length_cons, List.length_nil, Nat.zero_add] at hsp
    rw [hsp]
    by_cases hi : i = cs.length + j
    · subst hi
      rw [if_pos (by omega), List.getElem?_append_right (by omega), show cs.length + j - vs.length = j by omega, List.getElem?_set_self (by rw [intsV_len]; omega)]
      simp
    · rw [if_neg (by omega)]
      rcases Nat.lt_or_ge i vs.length with hlt | hge
      · rw [List.getElem?_append_left hlt, List.getElem?_append_left hlt]
      · rw [List.getElem?_append_right hge, List.getElem?_append_right hge, List.getElem?_set_ne (by omega)]
  have hup := UpdW.setRow (X := X) (c' := (c.toList.take (cs.length + j) ++ (Value.int k x).cells.toList ++ c.toList.drop (cs.length + j + (Value.int k x).cells.size)).toArray) e2 (by
    have h1 : (Value.int k x).cells.toList = [.int k x] := rfl
    have h2 : (Value.int k x).cells.size = 1 := rfl
    rw [h1, h2]; simp; omega)
  have hown : X.own b n0 := ⟨hσ, _, hh, rfl⟩
  have hkk : kindOk (.big cs k n l) (.big cs k n (rset l (j : Int) 0 [.i x])) := trivial
  have hx := Ctx.upd_ext hs hh hown hup hkk
  refine ⟨.skip, Go.undef, X.upd b (.big cs k n (rset l (j : Int) 0 [.i x])) (X.w.setRow n0 _), ?_, .inr ⟨rfl, rfl⟩, .skip, hs.upd hh hown hup hkk ?_, rfl, hx⟩
  · simp [Instr.storeAt, Instr.sureAddr, hrun]; rfl
  · exact ⟨n0, _, T, vs, hσ, hup.new, e3.ext hx, by rw [← hc'], by simp [rset, e5]⟩

theorem stBig_good {E : Env} {P : Program} (hE : E.tok P) {B : Base} {X : Ctx} (hs : HSim B X) {t : TypeId} {b off n0 : Nat} (hσ : X.σ b = some n0) {cs : List AV} {k : IntKind} {n : Nat} {l : R} (hh : X.h[b]? = some (.big cs k n l))
    {a : AV} {v : Value} (hv : Rep X a v) {r : Res} (h : (stBig E X.h t b off cs k n l a).run = some r) : OpGood P B X (do Instr.storeAt t (.pointer (some ⟨n0, off, none⟩)) v; pure .skip) r := by
  obtain ⟨n1, c, T, vs, e1, e2, e3, e4, e5⟩ := hs.blk b _ hh
  rw [hσ] at e1; cases e1
  have hlen := e3.length
  have hcl : c.size = vs.length + n := by
    have : c.toList.length = (vs ++ intsV k l).length := by rw [e4]
    simpa [intsV_len, e5] using this
  have hown : X.own b n0 := ⟨hσ, _, hh, rfl⟩
  unfold stBig at h
  split at h
  · rename_i cs' k' n' l'
    split at h
    · rename_i hc
      obtain ⟨rfl, rfl, rfl, c1, c2, c3, c4⟩ := hc
      cases h
      cases hv with
      | bagg _ _ _ _ vs' h' hl' =>
        have hlen' := h'.length
        have hcs : (Value.agg (vs' ++ intsV k l').toArray).cells.toList = vs' ++ intsV k l' := by simp [Value.cells]
        have hcz : (Value.agg (vs' ++ intsV k l').toArray).cells.size = c.size := by simp [Value.cells, intsV_len]; omega
        have hsz' : (sizeOf t).run P X.w = .ok (Value.agg (vs' ++ intsV k l').toArray).cells.size X.w := run_sizeOf_of hE (by rw [hcz]; omega) (by rw [hcz]; omega) X.w
        have hrun := run_storeVar_at (P := P) (t := t) (o := 0) (v := .agg (vs' ++ intsV k l').toArray) e2 hsz' (by omega) (fun u hu => by
          rw [hcs] at hu
          rcases List.mem_append.1 hu with hu | hu
          · exact repL_oneCell h' c4 u hu
          · unfold intsV at hu
            obtain ⟨row, _, hr⟩ := List.mem_map.1 hu
            rw [← hr]; rfl)
        have hup := UpdW.setRow (X := X) (c' := (c.toList.take 0 ++ (Value.agg (vs' ++ intsV k l').toArray).cells.toList ++ c.toList.drop (0 + (Value.agg (vs' ++ intsV k l').toArray).cells.size)).toArray) e2 (by
          rw [hcs]; simp [hcz, intsV_len]; omega)
        have hkk : kindOk (.big cs k n l) (.big cs' k n l') := trivial
        have hx := Ctx.upd_ext hs hh hown hup hkk
        refine ⟨.skip, Go.undef, X.upd b (.big cs' k n l') (X.w.setRow n0 _), ?_, .inr ⟨rfl, rfl⟩, .skip, hs.upd hh hown hup hkk ?_, rfl, hx⟩
        · simp only [Instr.storeAt, Instr.sureAddr, Sem.run_bind, Sem.run_pure, Result.andThen_ok, hrun]; rfl
        · refine ⟨n0, _, T, vs', hσ, hup.new, h'.ext hx, ?_, hl'⟩
          rw [hcs]; simp [hcz]
    · cases h
  · rename_i hnb
    split at h
    · rename_i hc
      obtain ⟨c1, c2, c3⟩ := hc
      split at h
      · rename_i hle
        have hle' : off + a.cells.length ≤ cs.length := Nat.le_of_ble_eq_true hle
        cases h
        have hrl := rep_cells hv c2
        have hlenv : v.cells.size = a.cells.length := by have := hrl.length; simpa using this.symm
        have hone := repL_oneCell hrl c2
        have hsz : (sizeOf t).run P X.w = .ok v.cells.size X.w := by rw [hlenv]; exact run_sizeOf_of hE c1 c3 X.w
        have hrun := run_storeVar_at (P := P) (t := t) (o := off) (v := v) e2 hsz (by omega) hone
        have hup := UpdW.setRow (X := X) (c' := (c.toList.take off ++ v.cells.toList ++ c.toList.drop (off + v.cells.size)).toArray) e2 (by simp; omega)
        have hkk : kindOk (.big cs k n l) (.big (splice cs off a.cells) k n l) := trivial
        have hx := Ctx.upd_ext hs hh hown hup hkk
        refine ⟨.skip, Go.undef, X.upd b (.big (splice cs off a.cells) k n l) (X.w.setRow n0 _), ?_, .inr ⟨rfl, rfl⟩, .skip, hs.upd hh hown hup hkk ?_, rfl, hx⟩
        · simp [Instr.storeAt, Instr.sureAddr, hrun]; rfl
        · refine ⟨n0, _, T, vs.take off ++ v.cells.toList ++ vs.drop (off + a.cells.length), hσ, hup.new, (repL_splice e3 hrl off).ext hx, ?_, e5⟩
          show c.toList.take off ++ v.cells.toList ++ c.toList.drop (off + v.cells.size) = _
          rw [e4, hlenv, List.take_append_of_le_length (by omega), List.drop_append_of_le_length (by omega)]
          simp
      · split at h
        · rename_i k' x hx
          split at h
          · rename_i hc2
            obtain ⟨rfl, d1, d2⟩ := hc2
            cases h
            obtain rfl := rep_asI hv hx
            have hone : a.cells.length = 1 := by cases a <;> simp [asI] at hx <;> rfl
            have := store_at (P := P) hE hs hσ hh (j := off - cs.length) (by omega) (t := t) (by omega) x
            rwa [show cs.length + (off - cs.length) = off by omega] at this
          · cases h
        · cases h
    · cases h

theorem evStoreB_good {E : Env} {P : Program} (hE : E.tok P) {B : Base} {X : Ctx} (hs : HSim B X) {t : TypeId} {p a : AV} {vp v : Value} (hp : Rep X p vp) (hv : Rep X a v) {r : Res}
    (h : (evStoreB E X.h t p a).run = some r) : OpGood P B X (do Instr.storeAt t vp v; pure .skip) r := by
  unfold evStoreB at h
  split at h
  · rename_i b off
    split at h
    · rename_i cs k n l hh
      cases hp with
      | ptr _ _ n0 hb hσ => exact stBig_good hE hs hσ hh hv h
    · exact evStore_good hE hs hp hv h
  · rename_i b o i
    split at h
    · rename_i cs k n l hh
      split at h
      · rename_i k' x hx
        split at h
        · rename_i hc
          obtain ⟨rfl, rfl, hc3⟩ := hc
          obtain ⟨g1, g2⟩ := br_run h
          cases g2
          obtain ⟨g3, g4⟩ := inb_iff g1
          obtain rfl := rep_asI hv hx
          cases hp with
          | aptr _ _ _ n0 hb hσ h0 =>
            have := store_at (P := P) hE hs hσ hh (j := i.toNat) (by omega) (t := t) hc3 x
            rwa [Int.toNat_of_nonneg h0] at this
        · cases h
      · cases h
    · cases h
  · exact evStore_good hE hs hp hv h

/-! ### Indices, literals, parts of the array -/
theorem evIndexAddrB_sound {E : Env} {P : Program} (hE : E.tok P) {B : Base} {X : Ctx} (hs : HSim B X) {t : TypeId} {a ai : AV} {v vi : Value} (hv : Rep X a v) (hi : Rep X ai vi) {r : Res}
    (h : (evIndexAddrB E X.h t a ai).run = some r) : ∃ av u, r = (av, X.h, none) ∧ (Instr.indexAt t v vi).run P X.w = .ok u X.w ∧ Rep X av u := by
  unfold evIndexAddrB at h
  split at h
  · rename_i n e es hd
    split at h
    · split at h
      · rename_i b off
        split at h
        · rename_i k i
          split at h
          · rename_i hes
            obtain ⟨ht, hce⟩ := ty_array hE hd
            obtain ⟨g1, g2⟩ := br_run h
            cases g2
            obtain ⟨g3, g4⟩ := inb_iff g1
            obtain rfl := rep_asI hi rfl
            cases hv with
            | ptr _ _ n0 hb hσ =>
              refine ⟨_, _, rfl, run_indexAt_array ht (by omega) g3 g4, ?_⟩
              rw [Addr.add_lit, ← hce, hes, Nat.mul_one]
              exact .aptr b off i n0 hb hσ g3
          · cases h
        · exact evIndexAddr_sound hE hs hv hi h
      · exact evIndexAddr_sound hE hs hv hi h
    · exact evIndexAddr_sound hE hs hv hi h
  · exact evIndexAddr_sound hE hs hv hi h

theorem fill_sound_pre {X : Ctx} {place : Nat → Option (Nat × Nat)} (tl : List Value) : ∀ {parts : List (Nat × AV)} {vparts : List (Nat × Value)} {cells cs : List AV} {vc : Array Value} {vs : List Value},
    fillL place cells parts = some cs → RepP X parts vparts → RepL X cells vs → vc.toList = vs ++ tl → ∃ vc' vs', Instr.fill place vc vparts = some vc' ∧ RepL X cs vs' ∧ vc'.toList = vs' ++ tl
  | [], _, cells, cs, vc, vs, h, hp, hr, hv => by
    cases hp
    simp only [fillL, Option.some.injEq] at h
    subst h
    exact ⟨vc, vs, rfl, hr, hv⟩
  | (i, a) :: rest, _, cells, cs, vc, vs, h, hp, hr, hv => by
    cases hp with
    | cons ha ht =>
    rename_i v m
    simp only [fillL] at h
    cases hpl : place i with
    | none => rw [hpl] at h; cases h
    | some q =>
      obtain ⟨off, size⟩ := q
      rw [hpl] at h
      simp only at h
      by_cases hc : a.cells.length = size ∧ off + a.cells.length ≤ cells.length ∧ allCells a.cells = true
      · rw [if_pos hc] at h
        have hrl := rep_cells ha hc.2.2
        have hlen : v.cells.size = a.cells.length := by have := hrl.length; simpa using this.symm
        have hvs : cells.length = vs.length := hr.length
        have hvc : vc.size = vs.length + tl.length := by
          have : vc.toList.length = (vs ++ tl).length := by rw [hv]
          simpa using this
        have hnot : ¬ (v.cells.size ≠ size ∨ off + v.cells.size > vc.size) := by omega
        have hf := fold_cells v.cells vc off (by omega)
        obtain ⟨vc', vs', h1, h2, h3⟩ := fill_sound_pre tl (vc := v.cells.zipIdx.foldl (fun cs (x : Value × Nat) => cs.setIfInBounds (off + x.2) x.1) vc) (vs := vs.take off ++ v.cells.toList ++ vs.drop (off + a.cells.length)) h ht (repL_splice hr hrl off) (by
          rw [hf, hlen, hv, List.take_append_of_le_length (by omega), List.drop_append_of_le_length (by omega)]
          simp)
        refine ⟨vc', vs', ?_, h2, h3⟩
        simp only [Instr.fill, hpl]
        rw [if_neg (by simpa using hnot)]
        exact h1
      · rw [if_neg hc] at h; cases h

theorem evBuildB_sound {E : Env} {P : Program} (hE : E.tok P) {X : Ctx} {t : TypeId} {parts : List (Nat × AV)} {vparts : Array (Nat × Value)} (hp : RepP X parts vparts.toList) {r : Res}
    (h : (evBuildB E X.h t parts).run = some r) : ∃ av u, r = (av, X.h, none) ∧ (Instr.build t vparts).run P X.w = .ok u X.w ∧ Rep X av u := by
  unfold evBuildB at h
  split at h
  · rename_i o k n hb
    obtain ⟨b1, b2, b3, b4, _⟩ := bigTy_spec hb
    split at h
    · rename_i fs hd
      split at h
      · rename_i hok
        obtain ⟨z, z1, z2, _⟩ := ty_zero hE (t := t) (by omega) X.w
        obtain ⟨fields, e1, e2⟩ := ty_struct hE hd
        have hinfo : ∀ f ∈ fields.toList, (P.info? f.type).isSome = true := by
          have hk := ty_known hE (t := t) (by rw [hd]; rfl)
          rw [hk.1] at hok
          unfold mkTI at hok
          obtain ⟨_, i, dd, h1, _⟩ := hk
          rw [h1] at hok
          simpa only [e1, List.all_eq_true] using hok
        cases hf : fillL (fun i => (fs[i]?).map fun (f : Nat × TypeId × Nat) => (f.1, f.2.2)) (((E.ty t).zero.take o).map ofCell) parts with
        | none => rw [hf] at h; cases h
        | some cs =>
          rw [hf] at h; cases h
          have hpl : (fun i : Nat => (fs[i]?).map fun (f : Nat × TypeId × Nat) => (f.1, f.2.2)) = fun i : Nat => (fields.map fun f => (f.offset, P.cellsOf f.type))[i]? := by
            funext i
            rw [e2]; simp only [List.getElem?_map, Array.getElem?_toList, Array.getElem?_map, Option.map_map]; rfl
          rw [hpl] at hf
          obtain ⟨vc, vs', f1, f2, f3⟩ := fill_sound_pre (intsV k (rmake n [.i 0])) (vc := z.cells) (vs := (E.ty t).zero.take o) hf hp (repL_ofCells X _) (by rw [z2]; exact zero_split hb)
          have : Rep X (.bagg cs k n (rmake n [.i 0])) (.agg (vs' ++ intsV k (rmake n [.i 0])).toArray) := .bagg _ _ _ _ _ f2 (rmake_len _ _)
          rw [← f3] at this
          refine ⟨_, .agg vc, rfl, ?_, by simpa using this⟩
          have hm := run_mapM (P := P) (f := fun f : Field => (do pure (f.offset, ← sizeOf f.type) : Sem (Nat × Nat))) (g := fun f => (f.offset, P.cellsOf f.type)) fields (fun f hf w => by
            have := hinfo f hf
            cases hi : P.info? f.type with
            | none => rw [hi] at this; cases this
            | some i => simp [sizeOf, typeInfo, hi, Program.cellsOf]) X.w
          simp only [Instr.build, Sem.run_bind, z1, Result.andThen_ok, run_underlying e1]
          rw [hm]
          simp only [Result.andThen_ok, f1]
          rfl
      · cases h
    · cases h
  · exact evBuild_sound hE hp h

theorem run_sliceAt_array {P : Program} {t arr e : TypeId} {w : World} {ad : Addr} {n : Nat} {vlo vhi : Option Value} {a b : Nat} (ht : P.underlying t = some (.pointer arr)) (ha : P.underlying arr = some (.array n e)) (hp : 0 < P.cellsOf e)
    (hb : (Instr.sliceBounds false n n vlo vhi none).run P w = .ok (a, b, n) w) :
    (Instr.sliceAt t (.pointer (some ad)) vlo vhi none).run P w = .ok (.slice (some (if n = a then ad else ad.add (a * P.cellsOf e))) (b - a) (n - a)) w := by
  simp only [Instr.sliceAt, Sem.run_bind, run_underlying ht, Result.andThen_ok, Instr.sureAddr, Sem.run_pure]
  simp [Instr.slice, run_underlying ht, run_underlying ha, hb, run_sizeOf_pos hp, asAddr]

theorem evSliceB_good {E : Env} {P : Program} (hE : E.tok P) {B : Base} {X : Ctx} (hs : HSim B X) {t : TypeId} {a : AV} {v : Value} {lo hi mx : Option AV} {vlo vhi vmx : Option Value} (hv : Rep X a v)
    (hlo : RepO X lo vlo) (hhi : RepO X hi vhi) (hmx : RepO X mx vmx) {r : Res} (h : (evSliceB E X.h t a lo hi mx).run = some r) :
    OpGood P B X (do pure (.value (← Instr.sliceAt t v vlo vhi vmx))) r := by
  unfold evSliceB at h
  split at h
  · rename_i arr hd
    have ht := ty_ptr hE hd
    split at h
    · rename_i b off
      split at h
      · cases hmx
        split at h
        · rename_i n e es hda
          obtain ⟨hta, hce⟩ := ty_array hE hda
          split at h
          · rename_i hes
            unfold slArr at h
            cases h1 : optI lo 0 with
            | none => rw [h1] at h; cases h
            | some x =>
              cases h2 : optI hi n with
              | none => rw [h1, h2] at h; cases h
              | some y =>
                rw [h1, h2] at h
                obtain ⟨g1, g2⟩ := br_run h
                obtain ⟨g3, g4⟩ := br_run g2
                cases g4
                obtain ⟨q1, q2⟩ := inbe_iff g1
                obtain ⟨q3, q4⟩ := inbe_iff g3
                cases hv with
                | ptr _ _ n0 hb hσ =>
                  have hrun := run_sliceAt_array (P := P) (w := X.w) (ad := ⟨n0, off, none⟩) ht hta (by omega) (run_sliceBounds hlo hhi h1 h2 rfl q1 (by omega) q3 q4 _)
                  refine OpGood.ofV hs hrun ?_
                  have he1 : P.cellsOf e = 1 := by omega
                  have hk : (if n = x.toNat then (⟨n0, off, none⟩ : Addr) else Addr.add ⟨n0, off, none⟩ (x.toNat * P.cellsOf e)) = ⟨n0, if n = x.toNat then off else off + x.toNat, none⟩ := by
                    split
                    · rfl
                    · rw [Addr.add_lit, he1, Nat.mul_one]
                  rw [hk]
                  have hyx : isub y x = y - x := rfl
                  have hn : y.toNat - x.toNat = (isub y x).toNat := by rw [hyx]; omega
                  rw [hn]
                  refine .asub b off n x (isub y x) n0 _ _ hb hσ q3 (by rw [hyx]; omega) (by rw [hyx]; omega) ?_
                  split
                  · right; rw [hyx]; omega
                  · exact .inl rfl
          · cases h
        · cases h
      · cases h
    · cases h
  · exact evSlice_good hE hs hv hlo hhi hmx h

theorem racpy_len {l l' : R} {i i' c : Int} (h0 : 0 ≤ i) (h0' : 0 ≤ i') (hc : 0 ≤ c) (h1 : i + c ≤ l.length) (h2 : i' + c ≤ l'.length) : (racpy l i l' i' c).length = l.length := by
  simp [racpy]; omega

theorem evCopyB_good {E : Env} {P : Program} (hE : E.tok P) {B : Base} {X : Ctx} (hs : HSim B X) {ts : List TypeId} {as : List AV} {vs : List Value} (hv : RepL X as vs) {r : Res} (h : (evBCopyB E X.h ts as).run = some r) (ty : TypeId) :
    OpGood P B X (do pure (.value (← Builtin.copy_ ts.toArray ty vs.toArray))) r := by
  unfold evBCopyB at h
  split at h
  · rename_i t t' b o n i m b' o' n' i' m'
    split at h
    · rename_i e es hd
      obtain ⟨ht, hce⟩ := ty_slice hE hd
      split at h
      · rename_i cs k N l hb
        split at h
        · rename_i cs' k' N' l' hb'
          split at h
          · rename_i hc
            obtain ⟨hes, rfl, rfl, rfl, rfl, rfl⟩ := hc
            cases h
            cases hv with
            | cons hv1 hv => cases hv with
              | cons hv2 hv => cases hv with
                | nil =>
                  cases hv1 with
                  | asub _ _ _ _ _ n0 k0 c0 hbl hσ i0 m0 im hk =>
                    cases hv2 with
                    | asub _ _ _ _ _ n1 k1 c1 hbl' hσ' i0' m0' im' hk' =>
                      obtain ⟨q, c, T, us, e1, e2, e3, e4, e5⟩ := hs.blk b _ hb
                      rw [hσ] at e1; cases e1
                      obtain ⟨q', c', T', us', f1, f2, f3, f4, f5⟩ := hs.blk b' _ hb'
                      rw [hσ'] at f1; cases f1
                      have hlen := e3.length
                      have hlen' := f3.length
                      have hcl : c.size = us.length + n := by
                        have : c.toList.length = (us ++ intsV k l).length := by rw [e4]
                        simpa [intsV_len, e5] using this
                      -- how many
                      obtain ⟨d, hd0, hd1⟩ : ∃ d : Int, d = imin m' m ∧ 0 ≤ d ∧ d ≤ m ∧ d ≤ m' := by
                        refine ⟨_, rfl, ?_⟩
                        unfold imin; split <;> omega
                      rw [← hd0]
                      have hdn : d.toNat = Nat.min m'.toNat m.toNat := by
                        rw [hd0]; unfold imin
                        show _ = min m'.toNat m.toNat
                        split <;> omega
                      -- the cells that are copied
                      let ws : List Value := (List.range d.toNat).map fun j : Nat => Value.int k (cI l' ((i'.toNat + j : Nat) : Int) 0)
                      have hwl : ws.length = d.toNat := by simp [ws]
                      have hcell : ∀ j v, ws[j]? = some v → X.w.cell? (Addr.add ⟨n1, k1, none⟩ j) = some v := by
                        intro j v hj
                        have hjd : j < d.toNat := by have := lt_of_get hj; omega
                        simp only [ws, List.getElem?_map, List.getElem?_range hjd, Option.map_some, Option.some.injEq] at hj
                        rw [Addr.add_lit, cell?_of_cells f2, ← hj]
                        rcases hk' with hk' | hk'
                        · rw [hk', show cs'.length + i'.toNat + j = us'.length + (i'.toNat + j) by omega]
                          exact big_get f4 (by omega)
                        · omega
                      have hone : ∀ v ∈ ws, v.oneCell' = true := by
                        intro v hv
                        obtain ⟨j, _, hj⟩ := List.mem_map.1 hv
                        rw [← hj]; rfl
                      have hkd : k0 = cs.length + i.toNat ∨ ws = [] := by
                        rcases hk with hk | hk
                        · exact .inl hk
                        · exact .inr (List.eq_nil_of_length_eq_zero (by omega))
                      have hinfo : (P.info? e).map (·.size) = some 1 := by
                        obtain ⟨ii, w1, w2⟩ := ty_info (P := P) (e := e) (by omega)
                        rw [w1, Option.map_some, w2, ← hce, hes]
                      have hmin : ws.length = Nat.min m'.toNat m.toNat := by omega
                      -- where they go
                      have hown : X.own b n0 := ⟨hσ, _, hb, rfl⟩
                      have hkk : kindOk (.big cs k n l) (.big cs k n (racpy l i l' i' d)) := trivial
                      have hrl : (racpy l i l' i' d).length = l.length := racpy_len i0 i0' hd1.1 (by omega) (by omega)
                      have hint : intsV k (racpy l i l' i' d) = (intsV k l).take i.toNat ++ ws ++ (intsV k l).drop (i.toNat + d.toNat) := by
                        apply List.ext_getElem?
                        intro j
                        have hsp := splice_get (c := intsV k l) (vs := ws) (o := i.toNat) (k := j) (by rw [hwl, intsV_len]; omega)
                        rw [hwl] at hsp
                        rw [hsp]
                        by_cases hj : j < l.length
                        · rw [intsV_get (by omega)]
                          have hli : (l.take i.toNat).length = i.toNat := by simp; omega
                          have hld : ((l'.drop i'.toNat).take d.toNat).length = d.toNat := by simp; omega
                          have hcu : ∀ (f : R) (k : Nat), cI f (k : Int) 0 = ((f[k]?.getD []).getD 0 (.i 0)).toI := fun f k => by unfold cI cellU; rw [Int.toNat_natCast, List.getD_eq_getElem?_getD (l := f)]
                          split
                          · rename_i hin
                            simp only [ws, List.getElem?_map, List.getElem?_range (show j - i.toNat < d.toNat by omega), Option.map_some, Option.some.injEq]
                            congr 1
                            rw [hcu, hcu]
                            unfold racpy
                            rw [List.append_assoc, List.getElem?_append_right (by omega), hli, List.getElem?_append_left (by omega), List.getElem?_take, if_pos (by omega), List.getElem?_drop]
                          · rename_i hout
                            rw [intsV_get hj]
                            congr 2
                            rw [hcu, hcu]
                            unfold racpy
                            rcases Nat.lt_or_ge j i.toNat with hlt | hge
                            · rw [List.append_assoc, List.getElem?_append_left (by omega), List.getElem?_take, if_pos hlt]
                            · rw [List.getElem?_append_right (by simp only [List.length_append]; omega), List.getElem?_drop]
                              simp only [List.length_append, hli, hld]
                              rw [show i.toNat + d.toNat + (j - (i.toNat + d.toNat)) = j by omega]
                        · rw [List.getElem?_eq_none (by rw [intsV_len]; omega)]
                          rw [if_neg (by omega), List.getElem?_eq_none (by rw [intsV_len]; omega)]
                      have hrow : c.toList.take k0 ++ ws ++ c.toList.drop (k0 + ws.length) = us ++ intsV k (racpy l i l' i' d) := by
                        rw [hint]
                        rcases hkd with hkd | hkd
                        · rw [e4, hkd, hwl, hlen, List.take_append, List.drop_append, List.take_of_length_le (by omega), List.drop_eq_nil_of_le (show us.length ≤ us.length + i.toNat + d.toNat by omega)]
                          rw [show us.length + i.toNat - us.length = i.toNat by omega, show us.length + i.toNat + d.toNat - us.length = i.toNat + d.toNat by omega]
                          simp
                        · have hd00 : d.toNat = 0 := by rw [← hwl, hkd]; rfl
                          rw [hkd, hd00]
                          simp [e4]
                      have hfit : k0 + ws.length ≤ c.size ∨ ws = [] := by
                        rcases hkd with hkd | hkd
                        · left; omega
                        · exact .inr hkd
                      rcases hfit with hfit | hfit
                      · have hrun := run_copy_row (P := P) X.w t t' ty e n0 k0 m.toNat c0 ⟨n1, k1, none⟩ m'.toNat c1 c T ws ht hinfo e2 hmin hcell hfit hone
                        have hup := UpdW.setRow (X := X) (c' := (c.toList.take k0 ++ ws ++ c.toList.drop (k0 + ws.length)).toArray) e2 (by simp; omega)
                        have hx := Ctx.upd_ext hs hb hown hup hkk
                        refine ⟨.value (goInt ws.length), goInt ws.length, X.upd b (.big cs k n (racpy l i l' i' d)) (X.w.setRow n0 _), ?_, .inl rfl, ?_, hs.upd hb hown hup hkk ?_, rfl, hx⟩
                        · rw [Sem.run_bind]
                          have : (#[Value.slice (some ⟨n0, k0, none⟩) m.toNat c0, Value.slice (some ⟨n1, k1, none⟩) m'.toNat c1] : Array Value) = List.toArray [.slice (some ⟨n0, k0, none⟩) m.toNat c0, .slice (some ⟨n1, k1, none⟩) m'.toNat c1] := rfl
                          rw [← this]
                          have h2 : (#[t, t'] : Array TypeId) = List.toArray [t, t'] := rfl
                          rw [← h2, hrun]; rfl
                        · have : goInt ws.length = .int .i64 d := by
                            show Value.int .i64 (ws.length : Int) = _
                            rw [hwl, Int.toNat_of_nonneg hd1.1]
                          rw [this]; exact .int _ _
                        · exact ⟨n0, _, T, us, hσ, hup.new, e3.ext hx, by rw [← hrow], by rw [hrl]; exact e5⟩
                      · -- nothing is copied: the row stays
                        have hd00 : d.toNat = 0 := by rw [← hwl, hfit]; rfl
                        have hrun : (Builtin.copy_ (List.toArray [t, t']) ty (List.toArray [.slice (some ⟨n0, k0, none⟩) m.toNat c0, .slice (some ⟨n1, k1, none⟩) m'.toNat c1])).run P X.w = .ok (goInt 0) X.w := by
                          have hl := run_loadCells_list (P := P) X.w ⟨n1, k1, none⟩ ws hcell
                          cases hq : P.info? e with
                          | none => rw [hq] at hinfo; cases hinfo
                          | some ii =>
                            have hsize : ii.size = 1 := by rw [hq] at hinfo; simpa using hinfo
                            have hmz : Nat.min m'.toNat m.toNat = 0 := by omega
                            rw [hfit] at hl
                            simp only [List.length_nil] at hl
                            simp [Builtin.copy_, run_underlying ht, Builtin.lenOf, Builtin.firstCells, sizeOf, typeInfo, hq, hsize, hmz, hl, Sem.run_pure, storeCells]
                        have hw : X.w = X.w.setRow n0 c := (setRow_self X.w n0 c T (0, 0) e2).symm
                        have hup : UpdW X n0 c c T X.w := ⟨e2, e2, rfl, fun _ _ => rfl, rfl, rfl, rfl, rfl⟩
                        have hx := Ctx.upd_ext hs hb hown hup hkk
                        refine ⟨.value (goInt 0), goInt 0, X.upd b (.big cs k n (racpy l i l' i' d)) X.w, ?_, .inl rfl, ?_, hs.upd hb hown hup hkk ?_, rfl, hx⟩
                        · rw [Sem.run_bind, hrun]; rfl
                        · have : goInt 0 = .int .i64 d := by
                            show Value.int .i64 (0 : Int) = _
                            congr 1; omega
                          rw [this]; exact .int _ _
                        · refine ⟨n0, c, T, us, hσ, e2, e3.ext hx, ?_, by rw [hrl]; exact e5⟩
                          rw [← hrow, hfit]; simp
          · cases h
        · cases h
      · cases h
    · cases h
  · exact evCopy_good hE hs hv h ty

end Go.Eng
