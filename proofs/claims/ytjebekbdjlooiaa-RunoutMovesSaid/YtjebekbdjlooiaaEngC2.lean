/- ENGINE C2. Operations that leave memory alone; new blocks; stores. -/
import Derived.Test.YtjebekbdjlooiaaEngB2
import Derived.Test.YtjebekbdjlooiaaEngC
import Derived.Laws.StructEq
import Derived.Laws.Rows
import Derived.Laws.CopyRow
namespace Go.Eng

/-- an operation of the value kind -/
theorem OpGood.ofV {P : Program} {B : Base} {X : Ctx} {m : Sem Value} {av : AV} {v : Value} (hs : HSim B X) (h : m.run P X.w = .ok v X.w) (hr : Rep X av v) :
    OpGood P B X (do pure (.value (← m))) (av, X.h, none) :=
  OpGood.val (v := v) hs (by simp [h]) hr

theorem rep_asI {X : Ctx} {a : AV} {v : Value} {k : IntKind} {n : Int} (hr : Rep X a v) (h : asI a = some (k, n)) : v = .int k n := by
  cases hr <;> simp [asI] at h
  · obtain ⟨rfl, rfl⟩ := h; rfl
  · obtain ⟨rfl, rfl⟩ := h; rfl

theorem rep_asB {X : Ctx} {a : AV} {v : Value} {b : Bool} (hr : Rep X a v) (h : asB a = some b) : v = .bool b := by
  cases hr <;> simp [asB] at h
  · subst h; rfl
  · subst h; rfl

theorem rep_str {X : Ctx} {s : List UInt8} {v : Value} (hr : Rep X (.str s) v) : v = .string ⟨s.toArray⟩ := by cases hr; rfl

theorem rep_ofCell (X : Ctx) (v : Value) : Rep X (ofCell v) v := by
  unfold ofCell
  split <;> first | exact .blit _ | exact .ilit _ _ | exact .nilp | exact .nils | exact .nilf | exact .undef _ | skip
  rename_i s
  have : Rep X (.str s.data.toList) (.string ⟨s.data.toList.toArray⟩) := .str _
  simpa using this

theorem repL_ofCells (X : Ctx) : ∀ l : List Value, RepL X (l.map ofCell) l
  | [] => .nil
  | v :: l => .cons (rep_ofCell X v) (repL_ofCells X l)

theorem rep_ofV (X : Ctx) (v : Value) : Rep X (ofV v) v := by
  unfold ofV
  split
  · rename_i cs
    have : Rep X (.agg (cs.toList.map ofCell)) (.agg cs.toList.toArray) := .agg _ _ (repL_ofCells X _)
    simpa using this
  · exact rep_ofCell X v

/-! ### comparisons, arithmetic -/
theorem iarith_run {h : List Blk} {k : IntKind} {f : Int → Int → Int} {lit : Bool} {x y : Int} {r : Res} (hr : (iarith h k f lit x y).run = some r) (X : Ctx) :
    ∃ av, r = (av, h, none) ∧ Rep X av (.int k (f x y)) := by
  unfold iarith at hr
  split at hr <;> cases hr
  · exact ⟨_, rfl, .ilit _ _⟩
  · exact ⟨_, rfl, .int _ _⟩

theorem icmp_run {h : List Blk} {f : Int → Int → Bool} {lit : Bool} {x y : Int} {r : Res} (hr : (icmp h f lit x y).run = some r) (X : Ctx) :
    ∃ av, r = (av, h, none) ∧ Rep X av (.bool (f x y)) := by
  unfold icmp at hr
  split at hr <;> cases hr
  · exact ⟨_, rfl, .blit _⟩
  · exact ⟨_, rfl, .bool _⟩

theorem br_run {b : Bool} {t : Tree Res} {r : Res} (h : (Tree.br b t .fail).run = some r) : b = true ∧ t.run = some r := by
  cases b
  · cases h
  · exact ⟨rfl, h⟩

theorem ty_bool {E : Env} {P : Program} (hE : E.tok P) {t : TypeId} (h : (E.ty t).d = .bool) : P.underlying t = some .bool := by
  obtain ⟨_, i, d, _, h2, h3, _⟩ := ty_known hE (t := t) (by rw [h]; rfl)
  rw [h] at h3
  cases d <;> simp [mkTD] at h3
  exact h2

theorem ty_ptr {E : Env} {P : Program} (hE : E.tok P) {t e : TypeId} (h : (E.ty t).d = .ptr e) : P.underlying t = some (.pointer e) := by
  obtain ⟨_, i, d, _, h2, h3, _⟩ := ty_known hE (t := t) (by rw [h]; rfl)
  rw [h] at h3
  cases d <;> simp [mkTD] at h3
  rw [h2, h3]

theorem seq_data (s t : List UInt8) : (ByteArray.toList ⟨s.toArray⟩ == ByteArray.toList ⟨t.toArray⟩) = seq s t := by
  rw [ByteArray.toList_eq, ByteArray.toList_eq]; rfl
theorem slt_data (s t : List UInt8) : Op.bytesLess (ByteArray.toList ⟨s.toArray⟩) (ByteArray.toList ⟨t.toArray⟩) = slt s t := by
  rw [ByteArray.toList_eq, ByteArray.toList_eq]; rfl

theorem run_equal {P : Program} {t : TypeId} {vx vy : Value} {r : Bool} {w : World} (h : (Op.equalIn (9999 + 1) t vx vy).run P w = .ok r w) : (Op.equal t vx vy).run P w = .ok r w := h

theorem run_eq_of {P : Program} {t : TypeId} {x y : Operand} {vx vy : Value} {r : Bool} {w : World} (h : (Op.equal t vx vy).run P w = .ok r w)
    (h1 : ∀ op, eqGuard op t x y vx vy = pure ()) (h2 : binOp .eql t vx vy = (do pure (.bool (← Op.equal t vx vy)))) :
    (do eqGuard .eql t x y vx vy; binOp .eql t vx vy : Sem Value).run P w = .ok (.bool r) w := by
  simp [h1, h2, h]
theorem run_neq_of {P : Program} {t : TypeId} {x y : Operand} {vx vy : Value} {r : Bool} {w : World} (h : (Op.equal t vx vy).run P w = .ok r w)
    (h1 : ∀ op, eqGuard op t x y vx vy = pure ()) (h2 : binOp .neq t vx vy = (do pure (.bool (!(← Op.equal t vx vy))))) :
    (do eqGuard .neq t x y vx vy; binOp .neq t vx vy : Sem Value).run P w = .ok (.bool (!r)) w := by
  simp [h1, h2, h]

theorem run_equal_bool {P : Program} {t : TypeId} (ht : P.underlying t = some .bool) (a b : Bool) (w : World) : (Op.equal t (.bool a) (.bool b)).run P w = .ok (a == b) w :=
  run_equal (run_equalIn_bool' w 9999 t a b ht)
theorem run_equal_nil {P : Program} {t e : TypeId} (ht : P.underlying t = some (.pointer e)) (w : World) : (Op.equal t (.pointer none) (.pointer none)).run P w = .ok true w :=
  run_equal (by rw [Op.equalIn, Sem.run_bind, run_underlying ht]; rfl)
theorem run_equal_ptr {P : Program} {t e : TypeId} (ht : P.underlying t = some (.pointer e)) (a : Addr) (w : World) : (Op.equal t (.pointer (some a)) (.pointer none)).run P w = .ok false w :=
  run_equal (by rw [Op.equalIn, Sem.run_bind, run_underlying ht]; rfl)

theorem run_equal_slice {P : Program} {t e : TypeId} (ht : P.underlying t = some (.slice e)) (a : Addr) (n c : Nat) {w : World} : (Op.equal t (.slice (some a) n c) (.slice none 0 0)).run P w = .ok false w :=
  run_equal (by rw [Op.equalIn, Sem.run_bind, run_underlying ht]; rfl)

theorem evBin_sound {E : Env} {P : Program} (hE : E.tok P) {B : Base} {X : Ctx} (hs : HSim B X) {op : BinOp} {t : TypeId} {x y : Operand} {ax ay : AV} {vx vy : Value} (hx : Rep X ax vx) (hy : Rep X ay vy) {r : Res}
    (h : (evBin (E.ty t).d X.h op ax ay).run = some r) : ∃ av u, r = (av, X.h, none) ∧ (do eqGuard op t x y vx vy; binOp op t vx vy : Sem Value).run P X.w = .ok u X.w ∧ Rep X av u := by
  unfold evBin at h
  cases h1 : asI ax with
  | some p =>
    obtain ⟨k, a⟩ := p
    cases h2 : asI ay with
    | some q =>
      obtain ⟨k', b⟩ := q
      rw [h1, h2] at h
      simp only at h
      have e1 := rep_asI hx h1
      have e2 := rep_asI hy h2
      subst e1 e2
      by_cases hk : k = k'
      · subst hk
        simp only [if_true] at h
        have hz : ∀ (f : Int → Int → Int) (lit : Bool), (match ay with
          | .ilit _ c => if c = 0 then Tree.fail else iarith X.h k f lit a b
          | _ => .br (ine b 0) (iarith X.h k f lit a b) .fail).run = some r → b ≠ 0 ∧ (iarith X.h k f lit a b).run = some r := by
          intro f lit hh
          cases ay <;> simp only [asI] at h2 <;> cases h2
          · have hh2 : (if b = 0 then Tree.fail else iarith X.h k f lit a b).run = some r := hh
            by_cases h0 : b = 0
            · rw [if_pos h0] at hh2; cases hh2
            · rw [if_neg h0] at hh2; exact ⟨h0, hh2⟩
          · obtain ⟨g1, g2⟩ := br_run hh
            exact ⟨by simpa [ine] using g1, g2⟩
        cases op with
        | add => obtain ⟨av, e, f⟩ := iarith_run h X; exact ⟨av, _, e, by simp [eqGuard, binOp, Op.intArith]; rfl, f⟩
        | sub => obtain ⟨av, e, f⟩ := iarith_run h X; exact ⟨av, _, e, by simp [eqGuard, binOp, Op.intArith]; rfl, f⟩
        | mul => obtain ⟨av, e, f⟩ := iarith_run h X; exact ⟨av, _, e, by simp [eqGuard, binOp, Op.intArith]; rfl, f⟩
        | quo => obtain ⟨h0, hh⟩ := hz _ _ h; obtain ⟨av, e, f⟩ := iarith_run hh X; exact ⟨av, _, e, by simp [eqGuard, binOp, Op.intDiv, h0]; rfl, f⟩
        | rem => obtain ⟨h0, hh⟩ := hz _ _ h; obtain ⟨av, e, f⟩ := iarith_run hh X; exact ⟨av, _, e, by simp [eqGuard, binOp, Op.intDiv, h0]; rfl, f⟩
        | eql => obtain ⟨av, e, f⟩ := icmp_run h X; exact ⟨av, _, e, by simp [eqGuard, binOp, Op.intCmp]; rfl, f⟩
        | neq => obtain ⟨av, e, f⟩ := icmp_run h X; exact ⟨av, _, e, by simp [eqGuard, binOp, Op.intCmp]; rfl, f⟩
        | lss => obtain ⟨av, e, f⟩ := icmp_run h X; exact ⟨av, _, e, by simp [eqGuard, binOp, Op.intCmp]; rfl, f⟩
        | leq => obtain ⟨av, e, f⟩ := icmp_run h X; exact ⟨av, _, e, by simp [eqGuard, binOp, Op.intCmp]; rfl, f⟩
        | gtr => obtain ⟨av, e, f⟩ := icmp_run h X; exact ⟨av, _, e, by simp [eqGuard, binOp, Op.intCmp]; rfl, f⟩
        | geq => obtain ⟨av, e, f⟩ := icmp_run h X; exact ⟨av, _, e, by simp [eqGuard, binOp, Op.intCmp]; rfl, f⟩
        | _ => cases h
      · simp only [hk, if_false] at h; cases h
    | none =>
      rw [h1, h2] at h
      cases ax <;> simp [asI] at h1 <;> simp [asB] at h <;> cases h
  | none =>
    rw [h1] at h
    simp only at h
    cases h2 : asB ax with
    | some a =>
      cases h3 : asB ay with
      | some b =>
        rw [h2, h3] at h
        simp only at h
        have e1 := rep_asB hx h2
        have e2 := rep_asB hy h3
        subst e1 e2
        cases hd : (E.ty t).d <;> rw [hd] at h <;> try (cases h)
        have ht := ty_bool hE hd
        cases op <;> simp only [okb] at h <;> cases h
        · exact ⟨_, _, rfl, run_eq_of (run_equal_bool ht _ _ _) (fun op => by cases op <;> rfl) rfl, .bool _⟩
        · exact ⟨_, _, rfl, run_neq_of (run_equal_bool ht _ _ _) (fun op => by cases op <;> rfl) rfl, .bool _⟩
      | none =>
        rw [h2, h3] at h
        cases ax <;> simp [asB] at h2 <;> simp only at h <;> cases h
    | none =>
      rw [h2] at h
      simp only at h
      cases ax with
      | str s =>
        cases ay <;> simp only at h <;> try (cases h)
        rename_i s'
        obtain rfl := rep_str hx
        obtain rfl := rep_str hy
        cases op <;> simp only [okb, okv] at h <;> try (cases h)
        · obtain ⟨g1, g2⟩ := br_run h
          cases g2
          refine ⟨_, .string ⟨(sapp s s').toArray⟩, rfl, ?_, .str _⟩
          have g3 : (s.length : Int) + s'.length ≤ 140737488355328 := of_decide_eq_true g1
          have g4 : ¬ (((ByteArray.mk s.toArray).size + (ByteArray.mk s'.toArray).size : Nat) : Int) > IntKind.i64.max := by
            have : IntKind.i64.max = 9223372036854775807 := by decide
            have h1 : (ByteArray.mk s.toArray).size = s.length := rfl
            have h2 : (ByteArray.mk s'.toArray).size = s'.length := rfl
            omega
          have g5 : (ByteArray.mk s.toArray ++ ByteArray.mk s'.toArray) = ⟨(sapp s s').toArray⟩ := by
            apply ByteArray.ext; simp [sapp]
          simp only [eqGuard, binOp, Op.stringOp, Sem.run_bind, Sem.run_pure, Result.andThen_ok, Bool.not_false, if_true, g4, if_false, g5]
        all_goals exact ⟨_, _, rfl, by simp only [eqGuard, binOp, Op.stringOp, seq_data, slt_data]; rfl, .bool _⟩
      | nilp =>
        cases ay <;> simp only at h <;> try (cases h)
        cases hd : (E.ty t).d <;> rw [hd] at h <;> try (cases h)
        have ht := ty_ptr hE hd
        cases hx; cases hy
        cases op <;> simp only [okv] at h <;> cases h
        · exact ⟨_, _, rfl, run_eq_of (run_equal_nil ht _) (fun op => by cases op <;> rfl) rfl, .blit _⟩
        · exact ⟨_, _, rfl, run_neq_of (run_equal_nil ht _) (fun op => by cases op <;> rfl) rfl, .blit _⟩
      | ptr b o =>
        cases ay <;> simp only at h <;> try (cases h)
        cases hd : (E.ty t).d <;> rw [hd] at h <;> try (cases h)
        have ht := ty_ptr hE hd
        cases hb : X.h[b]? with
        | none => rw [hb] at h; cases h
        | some k =>
          rw [hb] at h
          cases k <;> try (cases h)
          obtain ⟨n, c, T, e1, _, _⟩ := hs.blk b _ hb
          cases hy
          cases hx with
          | ptr _ _ n0 hbl hσ =>
            cases op <;> simp only [okv] at h <;> cases h
            · exact ⟨_, _, rfl, run_eq_of (run_equal_ptr ht _ _) (fun op => by cases op <;> rfl) rfl, .blit _⟩
            · exact ⟨_, _, rfl, run_neq_of (run_equal_ptr ht _ _) (fun op => by cases op <;> rfl) rfl, .blit _⟩
      | eptr sh l i o =>
        cases ay <;> simp only at h <;> try (cases h)
        cases hd : (E.ty t).d <;> rw [hd] at h <;> try (cases h)
        have ht := ty_ptr hE hd
        cases hy
        cases hx
        cases op <;> simp only [okv] at h <;> cases h
        · exact ⟨_, _, rfl, run_eq_of (run_equal_ptr ht _ _) (fun op => by cases op <;> rfl) rfl, .blit _⟩
        · exact ⟨_, _, rfl, run_neq_of (run_equal_ptr ht _ _) (fun op => by cases op <;> rfl) rfl, .blit _⟩
      | imm sh l =>
        cases ay <;> simp only at h <;> try (cases h)
        cases hd : (E.ty t).d <;> rw [hd] at h <;> try (cases h)
        have ht := ty_slice hE hd
        cases hy
        cases hx with
        | imm _ _ _ himm =>
          have hne : ilt 0 (rlen l) = true → ∃ a c, vx = .slice (some a) l.length c := by
            intro hl
            have hl' : (0 : Int) < rlen l := of_decide_eq_true hl
            rcases himm with ⟨rfl, rfl⟩ | ⟨a, cap, rfl, _⟩
            · simp [rlen] at hl'
            · exact ⟨a, cap, rfl⟩
          cases op <;> simp only [okv] at h <;> try (cases h)
          · obtain ⟨g1, g2⟩ := br_run h
            cases g2
            obtain ⟨a, c, rfl⟩ := hne g1
            exact ⟨_, _, rfl, run_eq_of (run_equal_slice ht.1 _ _ _) (fun op => by cases op <;> rfl) rfl, .blit _⟩
          · obtain ⟨g1, g2⟩ := br_run h
            cases g2
            obtain ⟨a, c, rfl⟩ := hne g1
            exact ⟨_, _, rfl, run_neq_of (run_equal_slice ht.1 _ _ _) (fun op => by cases op <;> rfl) rfl, .blit _⟩
      | mptr c sh l i o =>
        cases ay <;> simp only at h <;> try (cases h)
        cases hd : (E.ty t).d <;> rw [hd] at h <;> try (cases h)
        have ht := ty_ptr hE hd
        cases hy
        cases hx with
        | mnil =>
          cases op <;> simp only [okb] at h <;> cases h
          · exact ⟨_, _, rfl, run_eq_of (run_equal_nil ht _) (fun op => by cases op <;> rfl) rfl, .bool _⟩
          · exact ⟨_, _, rfl, run_neq_of (run_equal_nil ht _) (fun op => by cases op <;> rfl) rfl, .bool _⟩
        | mptr =>
          cases op <;> simp only [okb] at h <;> cases h
          · exact ⟨_, _, rfl, run_eq_of (run_equal_ptr ht _ _) (fun op => by cases op <;> rfl) rfl, .bool _⟩
          · exact ⟨_, _, rfl, run_neq_of (run_equal_ptr ht _ _) (fun op => by cases op <;> rfl) rfl, .bool _⟩
      | _ => simp only at h; cases h

end Go.Eng
