/- ENGINE CA. Slices that are made; bytes as text; text laid over bytes. -/
import Derived.Test.YtjebekbdjlooiaaEngC9
import Derived.Laws.MakeOwn
import Derived.Laws.BytesString
import Derived.Laws.IdiomStrings
import Derived.Laws.CopyRow
namespace Go.Eng

/-- the rows that a slice reads as, in memory -/
theorem rows_cells {B : Base} {X : Ctx} (hs : HSim B X) {x : AV} {vx : Value} (hx : Rep X x vx) {sh : List Sh} {l : R} (h : rowsOf X.h x = some (sh, l)) :
    (vx = .slice none 0 0 ∧ l = []) ∨ ∃ a cap, vx = .slice (some a) l.length cap ∧ (0 < l.length → a.spot = none) ∧
      ∀ r j (hj : j < sh.length), r < l.length → ∃ v, X.w.cell? ⟨a.block, a.off + r * sh.length + j, none⟩ = some v ∧ RepU X.w X.M sh[j] (cellU l r j) v := by
  cases hx with
  | imm sh' l' v himm =>
    simp only [rowsOf, Option.some.injEq, Prod.mk.injEq] at h
    obtain ⟨rfl, rfl⟩ := h
    rcases himm with h | ⟨a, cap, h1, h2, _, h3⟩
    · exact .inl h
    · exact .inr ⟨a, cap, h1, h2, fun r j hj hr => (h3 r j hj hr).2⟩
  | vec b p n c hb hv =>
    obtain ⟨e, hh⟩ := rowsOf_vec h
    have hvv := hv sh l.length ⟨e, l, hh, rfl⟩
    unfold VecV at hvv
    rcases hs.rows hh with ⟨e1, rfl⟩ | ⟨n0, c0, e1, e2, e3⟩
    · rw [e1] at hvv; exact .inl ⟨hvv, rfl⟩
    · rw [e1] at hvv
      obtain ⟨cap, q1, _⟩ := hvv
      refine .inr ⟨⟨n0, 0, none⟩, cap, q1, fun _ => rfl, fun r j hj hr => ?_⟩
      obtain ⟨v, g1, g2⟩ := e3 r j hj hr
      exact ⟨v, by rw [cell?_of_cells e2]; simpa using g1, g2⟩
  | _ => simp [rowsOf] at h

theorem isBytes_eq {sh : List Sh} (h : isBytes sh = true) : sh = [.int .u8] := by
  unfold isBytes at h
  split at h
  · rfl
  · cases h

theorem foldl_bytes : ∀ (ns : List Int) (r : ByteArray), ns.foldl (fun r n => r.push (UInt8.ofNat n.toNat)) r = ⟨r.data ++ (ns.map fun n => UInt8.ofNat n.toNat).toArray⟩
  | [], r => by simp
  | n :: ns, r => by
    simp only [List.foldl_cons, List.map_cons]
    rw [foldl_bytes ns]
    simp [ByteArray.push]

theorem evBytes_sound {E : Env} {P : Program} (hE : E.tok P) {B : Base} {X : Ctx} (hs : HSim B X) {src dst e : TypeId} {es : Nat} (h1 : (E.ty src).d = .slice e es) (h2 : (E.ty dst).d = .str) {a : AV} {v : Value} (hv : Rep X a v) {r : Res}
    (h : (evBytes E X.h e a).run = some r) : ∃ av u, r = (av, X.h, none) ∧ (convert src dst v).run P X.w = .ok u X.w ∧ Rep X av u := by
  unfold evBytes at h
  cases hd : (E.ty e).d with
  | int k =>
    rw [hd] at h
    cases k <;> first | (cases h; done) | skip
    simp only at h
    cases hr : rowsOf X.h a with
    | none => rw [hr] at h; cases h
    | some q =>
      obtain ⟨sh, l⟩ := q
      rw [hr] at h
      simp only at h
      split at h
      · rename_i hb
        cases h
        have hsh := isBytes_eq hb
        subst hsh
        have e1 := (ty_slice hE h1).1
        have e2 := ty_str hE h2
        have e3 := ty_int hE hd
        refine ⟨_, .string ⟨(rstr l).toArray⟩, rfl, ?_, .str _⟩
        rcases rows_cells hs hv hr with ⟨rfl, rfl⟩ | ⟨ad, cap, rfl, hsp, hc⟩
        · rw [run_convert_bytes_string X.w src dst e none 0 0 e1 e3 e2]
          simp [Conv.bytesToString, rstr, Sem.run_pure]
          rfl
        · rw [run_convert_bytes_string X.w src dst e (some ad) l.length cap e1 e3 e2]
          have hl := run_loadCells_list (P := P) X.w ad (((List.range l.length).map fun r : Nat => (cellU l r 0).toI).map (Value.int .u8)) (fun j v hj => by
            have hj' : j < l.length := by
              have := (List.getElem?_eq_some_iff.1 hj).1
              simpa using this
            obtain ⟨u, g1, g2⟩ := hc j 0 (by simp) hj'
            simp only [List.map_map, List.getElem?_map, List.getElem?_range hj', Option.map_some, Option.some.injEq] at hj
            have hs0 := hsp (by omega)
            have hadd : ad.add j = ⟨ad.block, ad.off + j, none⟩ := by
              obtain ⟨b, o, s⟩ := ad
              simp only at hs0
              subst hs0
              unfold Addr.add; split <;> simp_all
            rw [hadd]
            simp only [List.length_cons, List.length_nil, Nat.zero_add, Nat.mul_one, Nat.add_zero] at g1
            rw [g1]
            cases g2
            rw [← hj]; rfl)
          simp only [List.length_map, List.length_range] at hl
          rw [run_bytesToString X.w ad l.length cap _ hl, foldl_bytes]
          congr 3
          have he0 : ByteArray.empty.data = #[] := rfl
          rw [he0]
          rw [Array.empty_append]
          congr 1
          unfold rstr
          apply List.ext_getElem?
          intro i
          by_cases hi : i < l.length
          · simp [hi, cellU, List.getD_eq_getElem?_getD]
          · simp [List.getElem?_eq_none (Nat.le_of_not_lt hi), hi]
      · cases h
  | _ => rw [hd] at h; cases h

theorem evConvB_sound {E : Env} {P : Program} (hE : E.tok P) {B : Base} {X : Ctx} (hs : HSim B X) {src dst : TypeId} {a : AV} {v : Value} (hv : Rep X a v) {r : Res} (h : (evConvB E X.h src dst a).run = some r) :
    ∃ av u, r = (av, X.h, none) ∧ (convert src dst v).run P X.w = .ok u X.w ∧ Rep X av u := by
  unfold evConvB at h
  split at h
  · rename_i e es h1
    split at h
    · rename_i h2; exact evBytes_sound hE hs h1 h2 hv h
    · cases h
  · exact evConv_sound hE hv h

/-! ### make -/
theorem ofCell_novec (v : Value) (b : Nat) : ofCell v ≠ .vec b := by unfold ofCell; split <;> simp

theorem chunk_replicate {h : List Blk} {sh : List Sh} {zs : List AV} {us : List U} (hu : toUs h sh zs = some us) (hl : zs.length = sh.length) : ∀ n, chunk h sh n (List.replicate n zs).flatten = some (List.replicate n us)
  | 0 => by simp [chunk]
  | n + 1 => by
    simp only [List.replicate_succ, List.flatten_cons, chunk]
    have h2 := chunk_replicate hu hl n
    rw [← hl, List.take_left, List.drop_left, hu]
    simp only [h2]

theorem evMake_good {E : Env} {P : Program} (hE : E.tok P) {B : Base} {X : Ctx} (hs : HSim B X) {t : TypeId} {x y : AV} {vx vy : Value} (hx : Rep X x vx) (hy : Rep X y vy) {r : Res} (h : (evMake E X.h t x y).run = some r) :
    OpGood P B X (do pure (.value (← Instr.makeSlice t vx vy))) r := by
  unfold evMake at h
  cases hd : (E.ty t).d <;> rw [hd] at h <;> try (cases h; done)
  rename_i e es
  obtain ⟨ht, rfl⟩ := ty_slice hE hd
  cases h1 : asI x with
  | none => rw [h1] at h; cases h
  | some p =>
    obtain ⟨k, n⟩ := p
    cases h2 : asI y with
    | none => rw [h1, h2] at h; cases h
    | some q =>
      obtain ⟨k', m⟩ := q
      rw [h1, h2] at h
      simp only at h
      obtain rfl := rep_asI hx h1
      obtain rfl := rep_asI hy h2
      cases hsh : E.shape 16 e with
      | none => rw [hsh] at h; cases h
      | some sh =>
        rw [hsh] at h
        simp only at h
        by_cases hc : sh.length = P.cellsOf e ∧ 0 < P.cellsOf e ∧ (E.ty e).zero.length = P.cellsOf e
        · rw [if_pos hc] at h
          obtain ⟨hc1, hc2, hc3⟩ := hc
          cases hu : toUs X.h sh ((E.ty e).zero.map ofCell) with
          | none => rw [hu] at h; cases h
          | some us =>
            rw [hu] at h
            obtain ⟨g1, g2⟩ := br_run h
            obtain ⟨g3, g4⟩ := br_run g2
            cases g4
            have hnm : n = m := by simpa [ieq] using g1
            subst hnm
            obtain ⟨q1, q2⟩ := inbe_iff g3
            obtain ⟨i, z, he⟩ := elemOk hE hc2 hc3
            obtain ⟨b1, b2⟩ := he.by_ n.toNat (by rw [Int.toNat_of_nonneg q1]; exact q2)
            have hzz : (E.ty e).zero.map ofCell = z.cells.toList.map ofCell := by
              obtain ⟨z', z1, z2, i', hi', hz'⟩ := ty_zero hE (t := e) (by omega) X.w
              rw [he.hi] at hi'; cases hi'
              rw [he.hz] at hz'; cases hz'
              rw [z2]
            have hrun := run_make (P := P) X.w t e i z ht he.hi he.hz k k' n n q1 (Int.le_refl _) (by
              have : (i.bytes : Int) * n = ((n.toNat * i.bytes : Nat) : Int) := by
                rw [Int.natCast_mul, Int.toNat_of_nonneg q1, Int.mul_comm]
              rw [this]; omega) (by omega)
            have hmk : madeCells z.cells (n.toNat * i.size) = (Array.range (n.toNat * z.cells.size)).map (z.cells[· % z.cells.size]!) := by
              rw [he.size, ← he.zs]; rfl
            have hini : RepL X (List.replicate n.toNat ((E.ty e).zero.map ofCell)).flatten (madeCells z.cells (n.toNat * i.size)).toList := by
              rw [hmk, zeros_eq, hzz]; exact repL_replicate (repL_ofCells X _) _
            have hzl : ((E.ty e).zero.map ofCell).length = sh.length := by rw [List.length_map, hc3, hc1]
            obtain ⟨f1, f2⟩ := chunk_sound hs (Ext.refl X) n.toNat (chunk_replicate hu hzl n.toNat) (fun a ha b e sh l hab _ => by
              exfalso
              obtain ⟨l', hl', ha'⟩ := List.mem_flatten.1 ha
              rw [(List.mem_replicate.1 hl').2] at ha'
              obtain ⟨v, _, hv⟩ := List.mem_map.1 ha'
              exact ofCell_novec v b (hv.trans hab)) hini
            have hpw := PushW.alloc X (.cells (madeCells z.cells (n.toNat * i.size)) e)
            have hx2 := Ctx.push_ext hs (.vec e sh (rmake n us)) hpw
            have hsz : (madeCells z.cells (n.toNat * i.size)).size = n.toNat * sh.length := by rw [size_madeCells, he.size, hc1]
            have hvec := vec_new (X := X) (e := e) (sh := sh) (l := rmake n us) (n := X.w.heap.size) (cap := n.toNat) (w' := X.w.alloc (.cells (madeCells z.cells (n.toNat * i.size)) e)) (Nat.le_of_eq f1) (by unfold maxLen; omega) (heap_alloc_at _ _) hsz
            have hvl : (rmake n us).length = n.toNat := f1
            rw [hvl] at hvec
            refine ⟨.value (.slice (some ⟨X.w.heap.size, 0, none⟩) n.toNat n.toNat), _, X.pushW (.vec e sh (rmake n us)) (some X.w.heap.size) _, ?_, .inl rfl, hvec, hs.push hpw ?_, rfl, hx2⟩
            · rw [Sem.run_bind, hrun]; rfl
            · refine .inr ⟨X.w.heap.size, _, by simp [Ctx.pushW], heap_alloc_at _ _, fun r j hj hr => ?_⟩
              obtain ⟨v, w1, w2⟩ := f2.2 r j hj hr
              exact ⟨v, by simpa using w1, w2.mono hx2.M hx2.w⟩
        · rw [if_neg hc] at h; cases h

/-! ### copy of a text -/
theorem evCopy_good {E : Env} {P : Program} (hE : E.tok P) {B : Base} {X : Ctx} (hs : HSim B X) {ts : List TypeId} {as : List AV} {vs : List Value} (hv : RepL X as vs) {r : Res} (h : (evBCopy E X.h ts as).run = some r) (ty : TypeId) :
    OpGood P B X (do pure (.value (← Builtin.copy_ ts.toArray ty vs.toArray))) r := by
  unfold evBCopy at h
  split at h
  · rename_i t t' b i s
    cases hd : (E.ty t).d <;> rw [hd] at h <;> try (cases h; done)
    rename_i e0 es
    obtain ⟨ht, rfl⟩ := ty_slice hE hd
    cases hb : X.h[b]? with
    | none => rw [hb] at h; cases h
    | some kb =>
      rw [hb] at h
      cases kb with
      | vec e sh l =>
        simp only at h
        split at h
        · rename_i hc
          obtain ⟨hc1, hc2⟩ := hc
          have hsh := isBytes_eq hc1
          subst hsh
          obtain ⟨g1, g2⟩ := br_run h
          cases g2
          have hle : (s.length : Int) ≤ (l.length : Int) - i := of_decide_eq_true g1
          cases hv with
          | cons hv1 hv => cases hv with
            | cons hv2 hv => cases hv with
              | nil =>
                obtain rfl := rep_str hv2
                cases hv1 with
                | vsub _ _ n k m c hbl hσ hk =>
                  obtain ⟨q1, q2, q3, q4⟩ := hk _ _ ⟨e, l, .inl hb, rfl⟩
                  simp only [List.length_cons, List.length_nil, Nat.zero_add, Nat.mul_one] at q3
                  subst q4
                  rcases hs.blk b _ hb with ⟨e1, _⟩ | ⟨n', cc, e1, e2, e3⟩
                  · rw [hσ] at e1; cases e1
                  rw [hσ] at e1; cases e1
                  have hsl : i.toNat + s.length ≤ l.length := by omega
                  -- the block is long enough
                  have hlast : l.length ≤ cc.size := by
                    rcases Nat.eq_zero_or_pos l.length with h0 | h0
                    · omega
                    · obtain ⟨v', w1, _⟩ := e3 (l.length - 1) 0 (by simp) (by omega)
                      have := (Array.getElem?_eq_some_iff.1 w1).1
                      simp at this; omega
                  have hk2 : k = i.toNat ∨ (s = [] ∧ k = 0) := by
                    rcases q3 with h1 | ⟨h1, h2⟩
                    · exact .inl h1
                    · exact .inr ⟨List.eq_nil_of_length_eq_zero (by omega), h2⟩
                  let cs : List Value := s.map fun c => Value.int .u8 (c.toNat : Int)
                  have hcl : cs.length = s.length := by simp [cs]
                  have hkl : k + s.length ≤ cc.size := by
                    rcases hk2 with h1 | ⟨h1, h2⟩
                    · omega
                    · rw [h1, h2]; simp
                  have hst := run_storeCells_at P n k e cs 0 cc X.w e2 (by rw [hcl]; omega) (fun v hv => by
                    obtain ⟨c, _, hc⟩ := List.mem_map.1 hv
                    rw [← hc]; rfl)
                  rw [Nat.add_zero, hcl] at hst
                  have hup := UpdW.setRow (X := X) (c' := (cc.toList.take k ++ cs ++ cc.toList.drop (k + s.length)).toArray) e2 (by simp [hcl]; omega)
                  have hown : X.own b n := ⟨hσ, _, hb, rfl⟩
                  have hrl : (rcpy l i s).length = l.length := by simp [rcpy]; omega
                  have hkk : kindOk (.vec e [.int .u8] l) (.vec e [.int .u8] (rcpy l i s)) := ⟨rfl, rfl, hrl.symm⟩
                  have hx := Ctx.upd_ext hs hb hown hup hkk
                  have hinfo : (P.info? e0).map (·.size) = some 1 := by
                    obtain ⟨ii, w1, w2⟩ := ty_info (P := P) (e := e0) (by omega)
                    rw [w1, Option.map_some, w2, ← hc2]
                  have hmin : Nat.min s.length (l.length - i.toNat) = s.length := Nat.min_eq_left (by omega)
                  have hcsE : (((ByteArray.mk s.toArray).extract 0 s.length).data.map fun b => Value.int .u8 (b.toNat : Int)).toList = cs := by
                    have : ((ByteArray.mk s.toArray).extract 0 s.length).data = s.toArray := by
                      simp
                    rw [this]; simp [cs]
                  refine ⟨.value (goInt s.length), goInt s.length, X.upd b (.vec e [.int .u8] (rcpy l i s)) (X.w.setRow n _), ?_, .inl rfl, ?_, hs.upd hb hown hup hkk ?_, rfl, hx⟩
                  · cases hq : P.info? e0 with
                    | none => rw [hq] at hinfo; cases hinfo
                    | some ii =>
                      have hsize : ii.size = 1 := by rw [hq] at hinfo; simpa using hinfo
                      have hsz : (ByteArray.mk s.toArray).size = s.length := rfl
                      have hcopy : (Builtin.copy_ (List.toArray [t, t']) ty (List.toArray [.slice (some ⟨n, k, none⟩) (l.length - i.toNat) c, .string ⟨s.toArray⟩])).run P X.w =
                          .ok (goInt s.length) (X.w.setRow n (cc.toList.take k ++ cs ++ cc.toList.drop (k + s.length)).toArray) := by
                        have htk : List.take s.length (List.map (fun b : UInt8 => Value.int IntKind.u8 (b.toNat : Int)) s) = cs := by rw [List.take_of_length_le (by simp)]
                        simp [Builtin.copy_, run_underlying ht, Builtin.lenOf, Builtin.firstCells, sizeOf, typeInfo, hq, hsz, hmin, Sem.run_pure]
                        rw [htk, hst]
                        simp [Result.andThen]
                      rw [Sem.run_bind, hcopy]; rfl
                  · have : goInt s.length = .int .i64 (slen s) := rfl
                    rw [this]; exact .int _ _
                  · refine .inr ⟨n, _, hσ, hup.new, fun r j hj hr => ?_⟩
                    rw [hrl] at hr
                    have hj0 : j = 0 := by simpa using hj
                    subst hj0
                    obtain ⟨v, w1, w2⟩ := e3 r 0 hj hr
                    simp only [List.length_cons, List.length_nil, Nat.zero_add, Nat.mul_one, Nat.add_zero] at w1 ⊢
                    have hcu : ∀ (f : R) (k : Nat), cellU f (k : Int) 0 = (f[k]?.getD []).getD 0 (.i 0) := fun f k => by unfold cellU; rw [Int.toNat_natCast, List.getD_eq_getElem?_getD (l := f)]
                    rw [List.getElem?_toArray]
                    rcases hk2 with hki | ⟨hs0, hk0⟩
                    · subst hki
                      have hcl2 : (cc.toList.take i.toNat).length = i.toNat := by simp; omega
                      have hll : (l.take i.toNat).length = i.toNat := by simp; omega
                      rcases Nat.lt_or_ge r i.toNat with hlt | hge
                      · refine ⟨v, ?_, ?_⟩
                        · rw [List.append_assoc, List.getElem?_append_left (by omega), List.getElem?_take, if_pos hlt]
                          simpa using w1
                        · have : cellU (rcpy l i s) r 0 = cellU l r 0 := by
                            rw [hcu, hcu]; unfold rcpy
                            rw [List.append_assoc, List.getElem?_append_left (by omega), List.getElem?_take, if_pos hlt]
                          rw [this]; exact w2.mono hx.M hx.w
                      · rcases Nat.lt_or_ge r (i.toNat + s.length) with hlt2 | hge2
                        · have hrs : r - i.toNat < s.length := by omega
                          refine ⟨.int .u8 (s[r - i.toNat].toNat : Int), ?_, ?_⟩
                          · rw [List.append_assoc, List.getElem?_append_right (by omega), hcl2, List.getElem?_append_left (by rw [hcl]; omega)]
                            simp [cs, hrs]
                          · have : cellU (rcpy l i s) r 0 = .i (s[r - i.toNat].toNat : Int) := by
                              rw [hcu]; unfold rcpy
                              rw [List.append_assoc, List.getElem?_append_right (by omega), hll, List.getElem?_append_left (by simp; omega)]
                              simp [hrs]
                            rw [this]; exact .int .u8 (.i _)
                        · refine ⟨v, ?_, ?_⟩
                          · rw [List.getElem?_append_right (by simp [hcl2, hcl]; omega)]
                            simp only [List.length_append, hcl2, hcl, List.getElem?_drop]
                            rw [show i.toNat + s.length + (r - (i.toNat + s.length)) = r by omega]
                            simpa using w1
                          · have : cellU (rcpy l i s) r 0 = cellU l r 0 := by
                              rw [hcu, hcu]; unfold rcpy
                              rw [List.getElem?_append_right (by simp; omega), List.getElem?_drop]
                              simp only [List.length_append, hll, List.length_map]
                              rw [show i.toNat + s.length + (r - (i.toNat + s.length)) = r by omega]
                            rw [this]; exact w2.mono hx.M hx.w
                    · subst hs0 hk0
                      refine ⟨v, by simpa [cs] using w1, ?_⟩
                      have : rcpy l i [] = l := by simp [rcpy]
                      rw [this]; exact w2.mono hx.M hx.w
        · cases h
      | _ => cases h
  · cases h

end Go.Eng
