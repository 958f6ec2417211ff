/- ENGINE C3. More operations: addresses, parts, indices, conversions, lengths. -/
import Derived.Test.YtjebekbdjlooiaaEngC2
namespace Go.Eng

theorem evUn_sound {P : Program} {X : Ctx} {op : UnOp} {a : AV} {v : Value} (hv : Rep X a v) {r : Res} (h : (evUn X.h op a).run = some r) :
    ∃ av u, r = (av, X.h, none) ∧ (Op.unary op v).run P X.w = .ok u X.w ∧ Rep X av u := by
  unfold evUn at h
  cases op <;> cases hv <;> simp only [okv] at h <;> cases h
  · exact ⟨_, _, rfl, rfl, .ilit _ _⟩
  · exact ⟨_, _, rfl, rfl, .int _ _⟩
  · exact ⟨_, _, rfl, rfl, .blit _⟩
  · exact ⟨_, _, rfl, rfl, .bool _⟩

theorem evConv_sound {E : Env} {P : Program} (hE : E.tok P) {X : Ctx} {src dst : TypeId} {a : AV} {v : Value} (hv : Rep X a v) {r : Res} (h : (evConv E X.h src dst a).run = some r) :
    ∃ av u, r = (av, X.h, none) ∧ (convert src dst v).run P X.w = .ok u X.w ∧ Rep X av u := by
  unfold evConv at h
  cases hs : (E.ty src).d <;> rw [hs] at h <;> try (cases h)
  · rename_i k1
    cases hd : (E.ty dst).d <;> rw [hd] at h <;> try (cases h)
    rename_i k2
    have e1 := ty_int hE hs
    have e2 := ty_int hE hd
    cases hv <;> simp only [okv] at h <;> cases h
    · refine ⟨_, _, rfl, ?_, .ilit _ _⟩
      simp only [convert, Sem.run_bind, run_underlying e1, run_underlying e2, Result.andThen_ok]; rfl
    · refine ⟨_, _, rfl, ?_, .int _ _⟩
      simp only [convert, Sem.run_bind, run_underlying e1, run_underlying e2, Result.andThen_ok]; rfl
  · cases hd : (E.ty dst).d <;> rw [hd] at h <;> try (cases h)
    have e1 := ty_str hE hs
    have e2 := ty_str hE hd
    cases hv <;> simp only [okv] at h <;> cases h
    refine ⟨_, _, rfl, ?_, .str _⟩
    simp only [convert, Sem.run_bind, run_underlying e1, run_underlying e2, Result.andThen_ok]; rfl

theorem run_fieldPlace {P : Program} {w : World} {a : Addr} {f : Field} (h : 0 < P.cellsOf f.type) : (fieldPlace a f).run P w = .ok (a.add f.offset) w := by
  have : P.cellsOf f.type ≠ 0 := by omega
  simp [fieldPlace, run_sizeOf_pos h, this]

theorem evFieldAddr_sound {E : Env} {P : Program} (hE : E.tok P) {X : Ctx} {s : TypeId} {a : AV} {v : Value} (hv : Rep X a v) {f : Nat} {r : Res} (h : (evFieldAddr E X.h s a f).run = some r) :
    ∃ av u, r = (av, X.h, none) ∧ (Instr.fieldAt s v f).run P X.w = .ok u X.w ∧ Rep X av u := by
  unfold evFieldAddr at h
  cases hs : (E.ty s).d <;> rw [hs] at h <;> try (cases h)
  rename_i fs
  obtain ⟨fields, e1, e2⟩ := ty_struct hE hs
  simp only at h
  cases hf : fs[f]? with
  | none => rw [hf] at h; cases h
  | some x =>
    obtain ⟨o, t, sz⟩ := x
    rw [hf] at h
    simp only at h
    have hfield : ∃ fd, fields[f]? = some fd ∧ fd.offset = o ∧ P.cellsOf fd.type = sz := by
      rw [e2, List.getElem?_map] at hf
      cases hg : fields.toList[f]? with
      | none => rw [hg] at hf; cases hf
      | some fd =>
        rw [hg] at hf
        simp only [Option.map_some, Option.some.injEq, Prod.mk.injEq] at hf
        exact ⟨fd, by simpa using hg, hf.1, hf.2.2⟩
    obtain ⟨fd, g1, rfl, g3⟩ := hfield
    by_cases hz : sz = 0
    · rw [if_pos hz] at h; cases h
    rw [if_neg hz] at h
    have hp : 0 < P.cellsOf fd.type := by omega
    have hrun : ∀ a : Addr, (Instr.fieldAt s (.pointer (some a)) f).run P X.w = .ok (.pointer (some (a.add fd.offset))) X.w := by
      intro a
      simp [Instr.fieldAt, run_underlying e1, g1, Instr.sureAddr, run_fieldPlace hp]
    cases hv with
    | ptr b off n hb hσ =>
      simp only [okv] at h; cases h
      refine ⟨_, _, rfl, hrun _, ?_⟩
      rw [Addr.add_lit]
      exact .ptr _ _ _ hb hσ
    | eptr sh l i off a hsp h0 h1 hr =>
      simp only [okv] at h; cases h
      refine ⟨_, _, rfl, hrun _, ?_⟩
      rw [Addr.add_lit, Nat.add_assoc]
      exact .eptr _ _ _ _ _ hsp h0 h1 hr
    | vptr b i off n k hb hσ hp =>
      simp only [okv] at h; cases h
      refine ⟨_, _, rfl, hrun _, ?_⟩
      rw [Addr.add_lit, Nat.add_assoc]
      exact .vptr _ _ _ _ _ hb hσ hp
    | _ => simp only at h; cases h

end Go.Eng
namespace Go.Eng

theorem evPart_sound {E : Env} {P : Program} (hE : E.tok P) {X : Ctx} {t : TypeId} {cs : List AV} {vs : List Value} (hv : RepL X cs vs) {off : Nat} {a : AV}
    (h : partAV E t cs off = some a) (w : World) : ∃ u, (part t vs.toArray off).run P w = .ok u w ∧ Rep X a u := by
  unfold partAV at h
  by_cases hk : (E.ty t).d.known = false
  · simp only [hk, if_true] at h; cases h
  simp only [hk] at h
  have hk' : (E.ty t).d.known = true := by simpa using hk
  unfold part
  rw [Sem.run_bind, run_isAgg hE hk', Result.andThen_ok]
  cases ha : (E.ty t).d.isAgg with
  | true =>
    rw [ha] at h
    simp only [if_true] at h ⊢
    by_cases hle : off + (E.ty t).size ≤ cs.length
    · have h' : (some (AV.agg ((cs.drop off).take (E.ty t).size)) : Option AV) = some a := by simpa [hle] using h
      cases h'
      refine ⟨.agg ((vs.drop off).take (E.ty t).size).toArray, ?_, .agg _ _ ((hv.drop off).take _)⟩
      rw [Sem.run_bind, run_sizeOf hE hk', Result.andThen_ok, Sem.run_pure]
      congr 2
      apply Array.ext'
      simp [List.extract, Nat.add_sub_cancel_left]
    · simp [hle] at h
  | false =>
    rw [ha] at h
    simp only [Bool.false_eq_true, if_false] at h ⊢
    obtain ⟨u, e1, e2⟩ := hv.get off a h
    exact ⟨u, by simp [e1], e2⟩

theorem evPart_run {E : Env} {h : List Blk} {t : TypeId} {cs : List AV} {off : Nat} {r : Res} (hr : (evPart E h t cs off).run = some r) : ∃ a, partAV E t cs off = some a ∧ r = (a, h, none) := by
  unfold evPart at hr
  cases hp : partAV E t cs off with
  | none => rw [hp] at hr; cases hr
  | some a => rw [hp] at hr; cases hr; exact ⟨a, rfl, rfl⟩

theorem evField_sound {E : Env} {P : Program} (hE : E.tok P) {X : Ctx} {s : TypeId} {a : AV} {v : Value} (hv : Rep X a v) {f : Nat} {r : Res} (h : (evField E X.h s a f).run = some r) :
    ∃ av u, r = (av, X.h, none) ∧ (Instr.field s v f).run P X.w = .ok u X.w ∧ Rep X av u := by
  unfold evField at h
  cases hs : (E.ty s).d <;> rw [hs] at h <;> try (cases h)
  rename_i fs
  obtain ⟨fields, e1, e2⟩ := ty_struct hE hs
  cases hv <;> simp only at h <;> try (cases h)
  rename_i cs vs hv
  cases hf : fs[f]? with
  | none => rw [hf] at h; cases h
  | some x =>
    obtain ⟨o, t, sz⟩ := x
    rw [hf] at h
    simp only at h
    rw [e2, List.getElem?_map] at hf
    cases hg : fields.toList[f]? with
    | none => rw [hg] at hf; cases hf
    | some fd =>
      rw [hg] at hf
      simp only [Option.map_some, Option.some.injEq, Prod.mk.injEq] at hf
      obtain ⟨rfl, rfl, _⟩ := hf
      obtain ⟨a, h1, rfl⟩ := evPart_run h
      obtain ⟨u, h2, h3⟩ := evPart_sound hE hv h1 X.w
      have hg' : fields[f]? = some fd := by simpa using hg
      exact ⟨_, u, rfl, by simp [Instr.field, run_underlying e1, hg', asAgg, h2], h3⟩

theorem inb_iff {i n : Int} (h : inb i n = true) : 0 ≤ i ∧ i < n := by simpa [inb] using h
theorem inbe_iff {i n : Int} (h : inbe i n = true) : 0 ≤ i ∧ i ≤ n := by simpa [inbe] using h

theorem run_indexAt_slice {P : Program} {t e : TypeId} {w : World} {a : Addr} {n c : Nat} {k : IntKind} {i : Int} (ht : P.underlying t = some (.slice e)) (hp : 0 < P.cellsOf e) (h0 : 0 ≤ i) (h1 : i < n) :
    (Instr.indexAt t (.slice (some a) n c) (.int k i)).run P w = .ok (.pointer (some (a.add (i.toNat * P.cellsOf e)))) w := by
  simp [Instr.indexAt, asIntOf, run_underlying ht, h0, h1, run_sizeOf_pos hp]

theorem run_indexAt_array {P : Program} {t e : TypeId} {w : World} {a : Addr} {n : Nat} {k : IntKind} {i : Int} (ht : P.underlying t = some (.array n e)) (hp : 0 < P.cellsOf e) (h0 : 0 ≤ i) (h1 : i < n) :
    (Instr.indexAt t (.pointer (some a)) (.int k i)).run P w = .ok (.pointer (some (a.add (i.toNat * P.cellsOf e)))) w := by
  simp [Instr.indexAt, asIntOf, run_underlying ht, h0, h1, run_sizeOf_pos hp, Instr.sureAddr]

theorem Addr.add_of {a : Addr} (h : a.spot = none) (n : Nat) : a.add n = ⟨a.block, a.off + n, none⟩ := by
  obtain ⟨b, o, s⟩ := a
  subst h
  exact Addr.add_lit b o n

theorem idxTree_run {h : List Blk} {i : Int} {f : Nat → AV} {r : Res} : ∀ n, (idxTree h i f n).run = some r → ∃ m : Nat, m < n ∧ i = m ∧ r = (f m, h, none)
  | 0, h => by cases h
  | n + 1, hr => by
    simp only [idxTree, Tree.run] at hr
    cases hb : ieq i n with
    | true =>
      rw [hb] at hr
      cases hr
      exact ⟨n, Nat.lt_succ_self n, by simpa [ieq] using hb, rfl⟩
    | false =>
      rw [hb] at hr
      obtain ⟨m, h1, h2, h3⟩ := idxTree_run n hr
      exact ⟨m, by omega, h2, h3⟩

theorem evIndexAddr_sound {E : Env} {P : Program} (hE : E.tok P) {B : Base} {X : Ctx} (hs : HSim B X) {t : TypeId} {a ai : AV} {v vi : Value} (hv : Rep X a v) (hi : Rep X ai vi) {r : Res}
    (h : (evIndexAddr E X.h t a ai).run = some r) : ∃ av u, r = (av, X.h, none) ∧ (Instr.indexAt t v vi).run P X.w = .ok u X.w ∧ Rep X av u := by
  unfold evIndexAddr at h
  cases hd : (E.ty t).d <;> rw [hd] at h <;> try (cases h)
  · rename_i e es
    obtain ⟨ht, rfl⟩ := ty_slice hE hd
    cases hai : asI ai with
    | none => rw [hai] at h; cases hv <;> simp only at h <;> cases h
    | some p =>
      obtain ⟨k, i⟩ := p
      rw [hai] at h
      obtain rfl := rep_asI hi hai
      cases hv <;> simp only at h <;> try (cases h)
      · rename_i sh l himm
        by_cases hc : sh.length = P.cellsOf e ∧ 0 < P.cellsOf e
        · rw [if_pos hc] at h
          obtain ⟨g1, g2⟩ := br_run h
          cases g2
          obtain ⟨g3, g4⟩ := inb_iff g1
          rcases himm with ⟨rfl, rfl⟩ | ⟨a, cap, rfl, hsp, hcap, hr⟩
          · simp [rlen] at g4; omega
          · refine ⟨_, _, rfl, run_indexAt_slice ht hc.2 g3 g4, ?_⟩
            have hsp := hsp (by simp [rlen] at g4; omega)
            rw [Addr.add_of hsp, ← hc.1]
            have : Rep X (.eptr sh l i 0) (.pointer (some ⟨a.block, a.off + i.toNat * sh.length + 0, none⟩)) := .eptr _ _ _ _ _ hsp g3 (by simp [rlen] at g4; omega) hr
            simpa using this
        · rw [if_neg hc] at h; cases h
      · rename_i b p n c hb hv
        cases hr : rowsOf X.h (.vec b) with
        | none => rw [hr] at h; cases h
        | some x =>
          obtain ⟨sh, l⟩ := x
          rw [hr] at h
          simp only at h
          by_cases hc : sh.length = P.cellsOf e ∧ 0 < P.cellsOf e
          · rw [if_pos hc] at h
            obtain ⟨g1, g2⟩ := br_run h
            cases g2
            obtain ⟨g3, g4⟩ := inb_iff g1
            obtain ⟨e0, hh⟩ := rowsOf_vec hr
            have hvv := hv sh l.length ⟨e0, l, hh, rfl⟩
            unfold VecV at hvv
            rcases hs.rows hh with ⟨e1, rfl⟩ | ⟨n0, c0, e1, e2, e3⟩
            · simp [rlen] at g4; omega
            · rw [e1] at hvv
              obtain ⟨cap, f1, f2, f3, c1, T1, fr1, f4, f5⟩ := hvv
              cases f1
              refine ⟨_, _, rfl, run_indexAt_slice ht hc.2 g3 g4, ?_⟩
              rw [Addr.add_lit, ← hc.1]
              have : Rep X (.vptr b i 0) (.pointer (some ⟨n0, i.toNat * sh.length + 0, none⟩)) := .vptr _ _ _ _ _ hb e1 fun sh' m ⟨e', l', q1, q2⟩ => by
                have : sh' = sh ∧ l' = l := by
                  rcases hh with hh | hh <;> rcases q1 with q1 | q1 <;> rw [hh] at q1 <;> cases q1 <;> exact ⟨rfl, rfl⟩
                obtain ⟨rfl, rfl⟩ := this
                exact ⟨g3, by simp [rlen] at g4; omega, rfl⟩
              simpa using this
          · rw [if_neg hc] at h; cases h
  · rename_i n e es
    obtain ⟨ht, rfl⟩ := ty_array hE hd
    cases hv <;> simp only at h <;> try (cases h)
    · rename_i b off n0 hb hσ
      cases hi <;> simp only at h <;> try (cases h)
      · rename_i k i
        by_cases hc : 0 ≤ i ∧ i < n ∧ 0 < P.cellsOf e
        · rw [if_pos hc] at h
          cases h
          refine ⟨_, _, rfl, run_indexAt_array ht hc.2.2 hc.1 hc.2.1, ?_⟩
          rw [Addr.add_lit]
          exact .ptr _ _ _ hb hσ
        · rw [if_neg hc] at h; cases h
      · rename_i k i
        by_cases hc : n ≤ 16 ∧ 0 < P.cellsOf e
        · rw [if_pos hc] at h
          obtain ⟨m, g1, rfl, rfl⟩ := idxTree_run _ h
          refine ⟨_, _, rfl, run_indexAt_array ht hc.2 (by omega) (by omega), ?_⟩
          rw [Addr.add_lit]
          exact .ptr _ _ _ hb hσ
        · rw [if_neg hc] at h; cases h
    · rename_i sh l i0 off a hsp h0 h1 hr
      cases hi <;> simp only at h <;> try (cases h)
      · rename_i k i
        by_cases hc : 0 ≤ i ∧ i < n ∧ 0 < P.cellsOf e
        · rw [if_pos hc] at h
          cases h
          refine ⟨_, _, rfl, run_indexAt_array ht hc.2.2 hc.1 hc.2.1, ?_⟩
          rw [Addr.add_lit, Nat.add_assoc]
          exact .eptr _ _ _ _ _ hsp h0 h1 hr
        · rw [if_neg hc] at h; cases h
      · rename_i k i
        by_cases hc : n ≤ 16 ∧ 0 < P.cellsOf e
        · rw [if_pos hc] at h
          obtain ⟨m, g1, rfl, rfl⟩ := idxTree_run _ h
          refine ⟨_, _, rfl, run_indexAt_array ht hc.2 (by omega) (by omega), ?_⟩
          rw [Addr.add_lit, Nat.add_assoc]
          exact .eptr _ _ _ _ _ hsp h0 h1 hr
        · rw [if_neg hc] at h; cases h

end Go.Eng
