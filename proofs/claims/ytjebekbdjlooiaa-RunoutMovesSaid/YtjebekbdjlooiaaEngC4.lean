/- ENGINE C4. Indices of values, lengths, least and greatest, equality of structs. -/
import Derived.Test.YtjebekbdjlooiaaEngC3
namespace Go.Eng

theorem intsOf_spec {X : Ctx} {k : IntKind} : ∀ {cs : List AV} {l : List Int} {vs : List Value}, intsOf k cs = some l → RepL X cs vs → vs = l.map (Value.int k)
  | [], l, vs, h, hr => by cases hr; simp [intsOf] at h; subst h; rfl
  | a :: cs, l, vs, h, hr => by
    cases hr with
    | cons ha ht =>
      simp only [intsOf] at h
      cases h1 : asI a with
      | none => rw [h1] at h; cases h
      | some p =>
        obtain ⟨k', n⟩ := p
        cases h2 : intsOf k cs with
        | none => rw [h1, h2] at h; cases h
        | some r =>
          rw [h1, h2] at h
          simp only at h
          by_cases hk : k = k'
          · subst hk
            rw [if_pos rfl] at h; cases h
            rw [rep_asI ha h1, intsOf_spec h2 ht]; rfl
          · rw [if_neg hk] at h; cases h

theorem evIndex_sound {E : Env} {P : Program} (hE : E.tok P) {X : Ctx} {t : TypeId} {a ai : AV} {v vi : Value} (hv : Rep X a v) (hi : Rep X ai vi) {r : Res}
    (h : (evIndex E X.h t a ai).run = some r) : ∃ av u, r = (av, X.h, none) ∧ (Instr.index t v vi).run P X.w = .ok u X.w ∧ Rep X av u := by
  unfold evIndex at h
  cases hd : (E.ty t).d <;> rw [hd] at h <;> try (cases h)
  · cases hai : asI ai with
    | none => rw [hai] at h; cases hv <;> simp only at h <;> cases h
    | some p =>
      obtain ⟨k, i⟩ := p
      rw [hai] at h
      obtain rfl := rep_asI hi hai
      have ht := ty_str hE hd
      cases hv <;> simp only at h <;> try (cases h)
      rename_i s
      obtain ⟨g1, g2⟩ := br_run h
      cases g2
      obtain ⟨g3, g4⟩ := inb_iff g1
      refine ⟨_, .int .u8 (sat s i), rfl, ?_, .int _ _⟩
      have hlt : i.toNat < s.length := by simp only [slen] at g4; omega
      have hsz : (ByteArray.mk s.toArray)[i.toNat]? = some s[i.toNat] := by
        have : (ByteArray.mk s.toArray)[i.toNat]? = (s.toArray)[i.toNat]? := by
          simp only [getElem?_def]; rfl
        rw [this]; simp [hlt]
      simp only [Instr.index, asIntOf, Sem.run_bind, Sem.run_pure, Result.andThen_ok, run_underlying ht, g3, if_true, hsz]
      simp [sat, List.getD_eq_getElem?_getD, hlt]
  · rename_i n e es
    obtain ⟨ht, rfl⟩ := ty_array hE hd
    cases hai : asI ai with
    | none => rw [hai] at h; cases hv <;> simp only at h <;> cases h
    | some p =>
      obtain ⟨k, i⟩ := p
      rw [hai] at h
      obtain rfl := rep_asI hi hai
      cases hv <;> simp only at h <;> try (cases h)
      rename_i cs vs hv
      have lit : ∀ (_ : 0 ≤ i) (_ : i < n) (_ : 0 < P.cellsOf e) (_ : (evPart E X.h e cs (i.toNat * P.cellsOf e)).run = some r),
          ∃ av u, r = (av, X.h, none) ∧ (Instr.index t (.agg vs.toArray) (.int k i)).run P X.w = .ok u X.w ∧ Rep X av u := by
        intro h0 h1 hp hh
        obtain ⟨a, q1, rfl⟩ := evPart_run hh
        obtain ⟨u, q2, q3⟩ := evPart_sound hE hv q1 X.w
        exact ⟨_, u, rfl, by simp [Instr.index, asIntOf, run_underlying ht, h0, h1, run_sizeOf_pos hp, q2], q3⟩
      have sym : ∀ (_ : (match (E.ty e).d with
          | .int k => if P.cellsOf e = 1 ∧ cs.length = n then (match intsOf k cs with
            | some l => Tree.br (inb i n) (okv X.h (.int k (isel l i))) .fail
            | none => .fail) else .fail
          | _ => .fail).run = some r),
          ∃ av u, r = (av, X.h, none) ∧ (Instr.index t (.agg vs.toArray) (.int k i)).run P X.w = .ok u X.w ∧ Rep X av u := by
        intro hh
        cases he : (E.ty e).d <;> rw [he] at hh <;> try (cases hh)
        rename_i k'
        simp only at hh
        by_cases hc : P.cellsOf e = 1 ∧ cs.length = n
        · rw [if_pos hc] at hh
          cases hl : intsOf k' cs with
          | none => rw [hl] at hh; cases hh
          | some l =>
            rw [hl] at hh
            obtain ⟨g1, g2⟩ := br_run hh
            cases g2
            obtain ⟨g3, g4⟩ := inb_iff g1
            have hvs := intsOf_spec hl hv
            have hlen := hv.length
            refine ⟨_, .int k' (isel l i), rfl, ?_, .int _ _⟩
            have hlt : i.toNat < l.length := by rw [hvs] at hlen; simp at hlen; omega
            have hag : (isAgg e).run P X.w = .ok false X.w := by rw [run_isAgg hE (by rw [he]; rfl), he]; rfl
            have hget : vs[i.toNat]? = some (.int k' (isel l i)) := by
              rw [hvs]; simp [hlt, isel]
            simp [Instr.index, asIntOf, run_underlying ht, g3, g4, run_sizeOf_pos (show 0 < P.cellsOf e by omega), part, hag, hc.1, hget]
        · rw [if_neg hc] at hh; cases hh
      cases ai with
      | ilit k2 i2 =>
        simp only [asI] at hai; cases hai
        simp only at h
        by_cases hc : 0 ≤ i ∧ i < n ∧ 0 < P.cellsOf e
        · rw [if_pos hc] at h; exact lit hc.1 hc.2.1 hc.2.2 h
        · rw [if_neg hc] at h; cases h
      | int k2 i2 => exact sym h
      | _ => simp [asI] at hai

theorem evLen_sound {E : Env} {P : Program} (hE : E.tok P) {B : Base} {X : Ctx} (hs : HSim B X) {t ty : TypeId} {ts : Array TypeId} (h0 : ts[0]? = some t) {a : AV} {v : Value} (hv : Rep X a v) {r : Res}
    (h : (evLen E X.h t a).run = some r) : ∃ av u, r = (av, X.h, none) ∧ (Builtin.len_ ts ty #[v]).run P X.w = .ok u X.w ∧ Rep X av u := by
  unfold evLen at h
  cases hd : (E.ty t).d <;> rw [hd] at h <;> try (cases h)
  · have ht := ty_str hE hd
    cases hv <;> simp only at h <;> try (cases h)
    rename_i s
    refine ⟨_, .int .i64 (slen s), rfl, ?_, .int _ _⟩
    simp [Builtin.len_, h0, run_underlying ht, goInt, slen]; rfl
  · rename_i e es
    obtain ⟨ht, rfl⟩ := ty_slice hE hd
    have run : ∀ p n c, (Builtin.len_ ts ty #[.slice p n c]).run P X.w = .ok (.int .i64 n) X.w := by
      intro p n c
      simp [Builtin.len_, h0, run_underlying ht, goInt]
    have gen : ∀ (_ : (match rowsOf X.h a with | some (_, l) => okv X.h (.int .i64 (rlen l)) | none => .fail).run = some r),
        ∃ av u, r = (av, X.h, none) ∧ (Builtin.len_ ts ty #[v]).run P X.w = .ok u X.w ∧ Rep X av u := by
      intro hh
      cases hr : rowsOf X.h a with
      | none => rw [hr] at hh; cases hh
      | some x =>
        obtain ⟨sh, l⟩ := x
        rw [hr] at hh; cases hh
        cases hv <;> simp only [rowsOf] at hr <;> try (cases hr)
        · rename_i himm
          rcases himm with ⟨rfl, rfl⟩ | ⟨a, cap, rfl, _⟩
          · exact ⟨_, _, rfl, run _ _ _, .int _ _⟩
          · exact ⟨_, _, rfl, run _ _ _, .int _ _⟩
        · rename_i b p n c hb hv
          obtain ⟨e0, hh⟩ := rowsOf_vec (b := b) (h := X.h) (sh := sh) (l := l) (by simpa only [rowsOf] using hr)
          have hvv := hv sh l.length ⟨e0, l, hh, rfl⟩
          unfold VecV at hvv
          rcases hs.rows hh with ⟨e1, rfl⟩ | ⟨n0, c0, e1, e2, e3⟩
          · rw [e1] at hvv; cases hvv
            exact ⟨_, _, rfl, run _ _ _, .int _ _⟩
          · rw [e1] at hvv
            obtain ⟨cap, f1, _⟩ := hvv
            cases f1
            exact ⟨_, _, rfl, run _ _ _, .int _ _⟩
    cases hv with
    | nils => simp only at h; cases h; exact ⟨_, _, rfl, run _ _ _, .ilit _ _⟩
    | _ => exact gen h
  · rename_i n e es
    obtain ⟨ht, rfl⟩ := ty_array hE hd
    refine ⟨_, .int .i64 n, rfl, ?_, .ilit _ _⟩
    simp [Builtin.len_, h0, run_underlying ht, goInt]

theorem max2_int {k k' : IntKind} {x y : Int} {P : Program} {w : World} : (Builtin.max2 (.int k x) (.int k' y)).run P w = .ok (.int k (imax x y)) w := rfl
theorem min2_int {k k' : IntKind} {x y : Int} {P : Program} {w : World} : (Builtin.min2 (.int k x) (.int k' y)).run P w = .ok (.int k (imin x y)) w := rfl

theorem foldI_sound {P : Program} {X : Ctx} {f : Int → Int → Int} {g : Value → Value → Sem Value} (hg : ∀ k k' x y w, (g (.int k x) (.int k' y)).run P w = .ok (.int k (f x y)) w) (k : IntKind) :
    ∀ (l : List AV) (a m : Int) (vs : List Value), foldI f k a l = some m → RepL X l vs → (vs.foldlM g (.int k a)).run P X.w = .ok (.int k m) X.w
  | [], a, m, vs, h, hr => by cases hr; simp [foldI] at h; subst h; rfl
  | x :: l, a, m, vs, h, hr => by
    cases hr with
    | cons hx ht =>
      simp only [foldI] at h
      cases h1 : asI x with
      | none => rw [h1] at h; cases h
      | some p =>
        obtain ⟨k', b⟩ := p
        rw [h1] at h
        simp only at h
        by_cases hk : k = k'
        · rw [if_pos hk] at h
          rw [rep_asI hx h1, List.foldlM_cons, Sem.run_bind, hg, Result.andThen_ok]
          exact foldI_sound hg k l _ m _ h ht
        · rw [if_neg hk] at h; cases h

mutual
theorem eqT_sound {E : Env} {P : Program} (hE : E.tok P) {X : Ctx} : ∀ (n : Nat) (t : TypeId) (x y : AV) (r : Bool) (vx vy : Value), eqT E n t x y = some r → Rep X x vx → Rep X y vy →
    ∀ d, n ≤ d → ∀ w, (Op.equalIn d t vx vy).run P w = .ok r w
  | 0, _, _, _, _, _, _, h, _, _, _, _, _ => by simp [eqT] at h
  | n + 1, t, x, y, r, vx, vy, h, hx, hy, d, hd, w => by
    obtain ⟨d, rfl⟩ : ∃ d', d = d' + 1 := ⟨d - 1, by omega⟩
    simp only [eqT] at h
    cases ht : (E.ty t).d <;> rw [ht] at h <;> try (cases h)
    · have hu := ty_bool hE ht
      simp only at h
      cases h1 : asB x with
      | none => rw [h1] at h; cases h
      | some a =>
        cases h2 : asB y with
        | none => rw [h1, h2] at h; cases h
        | some b =>
          rw [h1, h2] at h; cases h
          rw [rep_asB hx h1, rep_asB hy h2]
          exact run_equalIn_bool' w d t a b hu
    · have hu := ty_int hE ht
      simp only at h
      cases h1 : asI x with
      | none => rw [h1] at h; cases h
      | some a =>
        cases h2 : asI y with
        | none => rw [h1, h2] at h; cases h
        | some b =>
          obtain ⟨k, a⟩ := a
          obtain ⟨k', b⟩ := b
          rw [h1, h2] at h
          simp only at h
          by_cases hk : k = k'
          · subst hk
            rw [if_pos rfl] at h; cases h
            rw [rep_asI hx h1, rep_asI hy h2]
            exact run_equalIn_int w d t k _ a b hu
          · rw [if_neg hk] at h; cases h
    · have hu := ty_str hE ht
      simp only at h
      cases hx <;> try (cases h)
      cases hy <;> try (cases h)
      rw [run_equalIn_string w d t _ _ hu, seq_data]
    · rename_i fs
      simp only at h
      by_cases hok : (E.ty t).eqok = true
      · rw [if_pos hok] at h
        cases hx <;> try (cases h)
        cases hy <;> try (cases h)
        rename_i xs vxs hxs ys vys hys
        obtain ⟨fields, e1, e2⟩ := ty_struct hE ht
        have hk := ty_known hE (t := t) (by rw [ht]; rfl)
        have hst : P.stoodInHeld t = false ∧ ∀ f ∈ fields.toList, f.name ≠ "_" := by
          rw [hk.1] at hok
          unfold mkTI at hok
          obtain ⟨_, i, dd, h1, h2, _⟩ := hk
          rw [h1] at hok
          simp only [e1, Bool.and_eq_true, Bool.not_eq_true', List.all_eq_true, bne_iff_ne] at hok
          exact ⟨hok.1.1, hok.2⟩
        have hfo : P.fieldsOf t = fields := by simp [Program.fieldsOf, e1]
        have hrun := run_equalIn_struct (P := P) w d t vxs.toArray vys.toArray (by rw [hfo]; exact e1) hst.1
        rw [hrun, hfo]
        rw [e2] at h
        exact eqFs_sound hE n fields.toList xs ys r vxs vys h hxs hys hst.2 d (by omega) w
      · rw [if_neg hok] at h; cases h
theorem eqFs_sound {E : Env} {P : Program} (hE : E.tok P) {X : Ctx} : ∀ (n : Nat) (fs : List Field) (xs ys : List AV) (r : Bool) (vxs vys : List Value),
    eqFs E n (fs.map fun f => (f.offset, f.type, P.cellsOf f.type)) xs ys = some r → RepL X xs vxs → RepL X ys vys → (∀ f ∈ fs, f.name ≠ "_") →
    ∀ d, n ≤ d → ∀ w, (Op.eqFields d vxs.toArray vys.toArray fs).run P w = .ok r w
  | n, [], xs, ys, r, vxs, vys, h, hx, hy, hn, d, hd, w => by
    cases n <;> simp [eqFs] at h <;> subst h <;> rfl
  | 0, f :: fs, xs, ys, r, vxs, vys, h, hx, hy, hn, d, hd, w => by simp [eqFs] at h
  | n + 1, f :: fs, xs, ys, r, vxs, vys, h, hx, hy, hn, d, hd, w => by
    simp only [List.map_cons, eqFs] at h
    cases h1 : partAV E f.type xs f.offset with
    | none => rw [h1] at h; cases h
    | some a =>
      cases h2 : partAV E f.type ys f.offset with
      | none => rw [h1, h2] at h; cases h
      | some b =>
        rw [h1, h2] at h
        simp only at h
        cases h3 : eqT E n f.type a b with
        | none => rw [h3] at h; cases h
        | some r1 =>
          cases h4 : eqFs E n (fs.map fun f => (f.offset, f.type, P.cellsOf f.type)) xs ys with
          | none => rw [h3, h4] at h; cases h
          | some r2 =>
            rw [h3, h4] at h; cases h
            obtain ⟨u1, q1, q2⟩ := evPart_sound hE hx h1 w
            obtain ⟨u2, q3, q4⟩ := evPart_sound hE hy h2 w
            have q5 := eqT_sound hE n f.type a b r1 u1 u2 h3 q2 q4 d (by omega) w
            have q6 := eqFs_sound hE n fs xs ys r2 vxs vys h4 hx hy (fun g hg => hn g (List.mem_cons_of_mem _ hg)) d (by omega) w
            have hn0 := hn f List.mem_cons_self
            simp only [Op.eqFields, hn0, ne_eq, not_false_eq_true, if_true, Sem.run_bind, q1, q3, q5, Result.andThen_ok]
            cases r1 with
            | true => simp [band, q6]
            | false => simp [band]
end

end Go.Eng
