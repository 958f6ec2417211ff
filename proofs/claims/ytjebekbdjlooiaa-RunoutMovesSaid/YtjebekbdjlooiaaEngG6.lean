/- ENGINE G6. One block more changes nothing for an operation that leaves the blocks alone. -/
import Derived.Test.YtjebekbdjlooiaaEngG2
namespace Go.Eng

def MonoT (k : Blk) (h : List Blk) : Tree Res → Tree Res → Prop
  | .leaf r, t' => t' = .leaf (r.1, h ++ [k], none)
  | .br b t e, .br b' t' e' => b = b' ∧ MonoT k h t t' ∧ MonoT k h e e'
  | .fail, _ => True
  | .br _ _ _, _ => False

theorem MonoT.run {k : Blk} {h : List Blk} : ∀ {t t' : Tree Res} {r : Res}, MonoT k h t t' → t.run = some r → t'.run = some (r.1, h ++ [k], none)
  | .leaf _, t', _, hm, hr => by cases hr; simp only [MonoT] at hm; subst hm; rfl
  | .fail, _, _, _, hr => by cases hr
  | .br b t e, .br b' t' e', r, hm, hr => by
    simp only [MonoT] at hm
    obtain ⟨rfl, h1, h2⟩ := hm
    cases b <;> simp only [Tree.run] at hr ⊢
    · exact MonoT.run h2 hr
    · exact MonoT.run h1 hr
  | .br _ _ _, .leaf _, _, hm, _ => by cases hm
  | .br _ _ _, .fail, _, hm, _ => by cases hm

section
variable {k : Blk} {h : List Blk}
theorem mono_okv (v : AV) : MonoT k h (okv h v) (okv (h ++ [k]) v) := rfl
theorem mono_okb (b : Bool) : MonoT k h (okb h b) (okb (h ++ [k]) b) := rfl
theorem mono_br {b : Bool} {t t' e e' : Tree Res} (h1 : MonoT k h t t') (h2 : MonoT k h e e') : MonoT k h (.br b t e) (.br b t' e') := ⟨rfl, h1, h2⟩
theorem mono_ite {c : Prop} [Decidable c] {t t' e e' : Tree Res} (h1 : MonoT k h t t') (h2 : MonoT k h e e') : MonoT k h (if c then t else e) (if c then t' else e') := by
  split <;> assumption
theorem mono_iarith (kk : IntKind) (f : Int → Int → Int) (l : Bool) (x y : Int) : MonoT k h (iarith h kk f l x y) (iarith (h ++ [k]) kk f l x y) := by
  unfold iarith; cases l <;> rfl
theorem mono_icmp (f : Int → Int → Bool) (l : Bool) (x y : Int) : MonoT k h (icmp h f l x y) (icmp (h ++ [k]) f l x y) := by
  unfold icmp; cases l <;> rfl
theorem get_app {b : Nat} {x : Blk} (hb : h[b]? = some x) : (h ++ [k])[b]? = some x := by
  rw [List.getElem?_append_left (lt_of_get hb)]; exact hb
theorem rowsOf_app {v : AV} {x : List Sh × R} (hv : rowsOf h v = some x) : rowsOf (h ++ [k]) v = some x := by
  cases v <;> simp only [rowsOf] at hv ⊢ <;> try (first | exact hv | cases hv)
  rename_i b
  cases hb : h[b]? with
  | none => rw [hb] at hv; cases hv
  | some y => rw [hb] at hv; rw [get_app hb]; exact hv
theorem mono_load (E : Env) (t : TypeId) (p : AV) : MonoT k h (evLoad E h t p) (evLoad E (h ++ [k]) t p) := by
  unfold evLoad
  dsimp only
  refine mono_ite trivial ?_
  cases p with
  | ptr b off =>
    simp only
    cases hb : h[b]? with
    | none => trivial
    | some x =>
      rw [get_app hb]
      cases x with
      | cells cs =>
        simp only
        refine mono_ite (mono_ite (mono_okv _) trivial) ?_
        cases cs[off]? <;> first | trivial | rfl
      | _ => trivial
  | eptr sh l i off =>
    simp only
    refine mono_ite ?_ ?_
    · cases cellsAV sh l i off (E.ty t).size <;> first | trivial | rfl
    · cases cellAV sh l i off <;> first | trivial | rfl
  | vptr b i off =>
    simp only
    cases hb : rowsOf h (.vec b) with
    | none => trivial
    | some x =>
      rw [rowsOf_app hb]
      obtain ⟨sh, l⟩ := x
      simp only
      refine mono_ite ?_ ?_
      · cases cellsAV sh l i off (E.ty t).size <;> first | trivial | rfl
      · cases cellAV sh l i off <;> first | trivial | rfl
  | _ => trivial
theorem mono_loadB (E : Env) (t : TypeId) (p : AV) : MonoT k h (evLoadB E h t p) (evLoadB E (h ++ [k]) t p) := by
  cases p with
  | ptr b off =>
    have hm := mono_load (k := k) (h := h) E t (.ptr b off)
    unfold evLoadB
    simp only
    cases hb : h[b]? with
    | none =>
      have : evLoad E h t (.ptr b off) = .fail := by unfold evLoad; simp only [hb]; split <;> rfl
      simp only [this]; trivial
    | some x =>
      rw [get_app hb]
      cases x with
      | big cs kk n l =>
        simp only
        unfold ldBig
        refine mono_ite trivial (mono_ite (mono_ite (mono_okv _) trivial) ?_)
        cases cs[off]? with
        | none => exact mono_ite (mono_okv _) trivial
        | some v => exact mono_okv _
      | _ => exact hm
  | aptr b o i =>
    unfold evLoadB
    simp only
    cases hb : h[b]? with
    | none => trivial
    | some x =>
      rw [get_app hb]
      cases x with
      | big cs kk n l => exact mono_ite (mono_br (mono_okv _) trivial) trivial
      | _ => trivial
  | _ => unfold evLoadB; exact mono_load _ _ _
theorem mono_build (E : Env) (t : TypeId) (ps : List (Nat × AV)) : MonoT k h (evBuild E h t ps) (evBuild E (h ++ [k]) t ps) := by
  unfold evBuild
  refine mono_ite trivial ?_
  cases (E.ty t).d with
  | struct fs =>
    simp only
    refine mono_ite ?_ trivial
    cases fillL (fun i => (fs[i]?).map fun f => (f.1, f.2.2)) ((E.ty t).zero.map ofCell) ps <;> first | trivial | rfl
  | array n e es =>
    simp only
    refine mono_ite trivial ?_
    cases fillL (fun i => some (i * es, es)) ((E.ty t).zero.map ofCell) ps <;> first | trivial | rfl
  | _ => trivial
theorem mono_buildB (E : Env) (t : TypeId) (ps : List (Nat × AV)) : MonoT k h (evBuildB E h t ps) (evBuildB E (h ++ [k]) t ps) := by
  unfold evBuildB
  cases bigTy E t with
  | none => exact mono_build _ _ _
  | some q =>
    obtain ⟨o, kk, n⟩ := q
    simp only
    cases (E.ty t).d with
    | struct fs =>
      simp only
      refine mono_ite ?_ trivial
      cases fillL (fun i => (fs[i]?).map fun f => (f.1, f.2.2)) (((E.ty t).zero.take o).map ofCell) ps <;> first | trivial | rfl
    | _ => trivial
theorem mono_fieldAddr (E : Env) (s : TypeId) (x : AV) (f : Nat) : MonoT k h (evFieldAddr E h s x f) (evFieldAddr E (h ++ [k]) s x f) := by
  unfold evFieldAddr
  cases (E.ty s).d with
  | struct fs =>
    simp only
    cases fs[f]? with
    | none => trivial
    | some o =>
      obtain ⟨o, tt, sz⟩ := o
      simp only
      refine mono_ite trivial ?_
      cases x <;> first | rfl | trivial
  | _ => trivial
theorem mono_part (E : Env) (t : TypeId) (cs : List AV) (o : Nat) : MonoT k h (evPart E h t cs o) (evPart E (h ++ [k]) t cs o) := by
  unfold evPart
  cases partAV E t cs o <;> first | rfl | trivial
theorem mono_field (E : Env) (s : TypeId) (x : AV) (f : Nat) : MonoT k h (evField E h s x f) (evField E (h ++ [k]) s x f) := by
  unfold evField
  cases (E.ty s).d with
  | struct fs =>
    cases x with
    | agg cs =>
      simp only
      cases fs[f]? with
      | none => trivial
      | some o => exact mono_part _ _ _ _
    | _ => trivial
  | _ => trivial
theorem mono_idxTree (i : Int) (f : Nat → AV) : ∀ n, MonoT k h (idxTree h i f n) (idxTree (h ++ [k]) i f n)
  | 0 => trivial
  | n + 1 => ⟨rfl, rfl, mono_idxTree i f n⟩
theorem mono_indexAddr (E : Env) (t : TypeId) (x i : AV) : MonoT k h (evIndexAddr E h t x i) (evIndexAddr E (h ++ [k]) t x i) := by
  unfold evIndexAddr
  cases (E.ty t).d with
  | slice e es =>
    cases x with
    | imm sh l =>
      cases asI i with
      | none => trivial
      | some y => exact mono_ite (mono_br (mono_okv _) trivial) trivial
    | vec b =>
      cases asI i with
      | none => trivial
      | some y =>
        simp only
        cases hb : rowsOf h (.vec b) with
        | none => trivial
        | some z => rw [rowsOf_app hb]; exact mono_ite (mono_br (mono_okv _) trivial) trivial
    | _ => trivial
  | array n e es =>
    cases x with
    | ptr b off =>
      simp only
      cases i with
      | ilit kk j => exact mono_ite (mono_okv _) trivial
      | int kk j => exact mono_ite (mono_idxTree _ _ _) trivial
      | _ => trivial
    | eptr sh l i0 off =>
      simp only
      cases i with
      | ilit kk j => exact mono_ite (mono_okv _) trivial
      | int kk j => exact mono_ite (mono_idxTree _ _ _) trivial
      | _ => trivial
    | _ => trivial
  | _ => trivial
theorem mono_indexAddrB (E : Env) (t : TypeId) (x i : AV) : MonoT k h (evIndexAddrB E h t x i) (evIndexAddrB E (h ++ [k]) t x i) := by
  have hm := mono_indexAddr (k := k) (h := h) E t x i
  unfold evIndexAddrB
  split
  · split
    · split
      · split
        · exact mono_ite (mono_br (mono_okv _) trivial) trivial
        · exact hm
      · exact hm
    · exact hm
  · exact hm
theorem mono_index (E : Env) (t : TypeId) (x i : AV) : MonoT k h (evIndex E h t x i) (evIndex E (h ++ [k]) t x i) := by
  unfold evIndex
  cases (E.ty t).d with
  | array n e es =>
    cases x with
    | agg cs =>
      cases hi : asI i with
      | none => trivial
      | some y =>
        cases i with
        | ilit kk j => exact mono_ite (mono_part _ _ _ _) trivial
        | int kk j =>
          simp only
          cases (E.ty e).d with
          | int k2 =>
            simp only
            refine mono_ite ?_ trivial
            cases intsOf k2 cs with
            | none => trivial
            | some l => exact mono_br (mono_okv _) trivial
          | _ => trivial
        | _ => cases hi
    | _ => trivial
  | str =>
    cases x with
    | str s =>
      cases asI i with
      | none => trivial
      | some y => exact mono_br (mono_okv _) trivial
    | _ => trivial
  | _ => trivial
theorem mono_bin (d : TD) (op : BinOp) (x y : AV) : MonoT k h (evBin d h op x y) (evBin d (h ++ [k]) op x y) := by
  unfold evBin
  cases hx : asI x with
  | some p =>
    obtain ⟨kk, a⟩ := p
    cases hy : asI y with
    | some q =>
      obtain ⟨kk', b⟩ := q
      simp only
      refine mono_ite ?_ trivial
      cases op <;> simp only <;> first
        | exact mono_iarith _ _ _ _ _
        | exact mono_icmp _ _ _ _
        | trivial
        | skip
      · cases y <;> simp only <;> first | exact mono_ite trivial (mono_iarith _ _ _ _ _) | exact mono_br (mono_iarith _ _ _ _ _) trivial
      · cases y <;> simp only <;> first | exact mono_ite trivial (mono_iarith _ _ _ _ _) | exact mono_br (mono_iarith _ _ _ _ _) trivial
    | none => cases x <;> first | cases hx; done | (cases y <;> first | (cases hy; done) | trivial)
  | none =>
    simp only
    cases hbx : asB x with
    | some a =>
      cases hby : asB y with
      | some b => simp only; cases d <;> simp only <;> first | trivial | (cases op <;> first | rfl | trivial)
      | none => cases x <;> first | (cases hbx; done) | (cases y <;> first | (cases hby; done) | trivial)
    | none =>
      simp only
      cases x with
      | str a =>
        cases y with
        | str b => cases op <;> first | rfl | trivial | exact mono_br (mono_okv _) trivial
        | _ => trivial
      | nilp =>
        cases y with
        | nilp => cases d <;> first | trivial | (cases op <;> first | rfl | trivial)
        | _ => trivial
      | ptr b off =>
        cases y with
        | nilp =>
          cases d <;> first | trivial | skip
          simp only
          cases hb : h[b]? with
          | none => trivial
          | some z => rw [get_app hb]; cases z <;> first | trivial | (cases op <;> first | rfl | trivial)
        | _ => trivial
      | eptr sh l i o =>
        cases y with
        | nilp => cases d <;> first | trivial | (cases op <;> first | rfl | trivial)
        | _ => trivial
      | imm sh l =>
        cases y with
        | nils => cases d <;> first | trivial | (cases op <;> first | trivial | exact mono_br (mono_okv _) trivial)
        | _ => trivial
      | mptr c sh l i o =>
        cases y with
        | nilp => cases d <;> first | trivial | (cases op <;> first | rfl | trivial)
        | _ => trivial
      | _ => trivial
theorem mono_binOp (E : Env) (op : BinOp) (t : TypeId) (x y : AV) : MonoT k h (evBinOp E h op t x y) (evBinOp E (h ++ [k]) op t x y) := by
  unfold evBinOp
  cases x with
  | agg xs =>
    cases y with
    | agg ys =>
      simp only
      unfold evEqAgg
      cases eqT E 32 t (.agg xs) (.agg ys) with
      | none => trivial
      | some r => cases op <;> first | rfl | trivial
    | _ => exact mono_bin _ _ _ _
  | _ => exact mono_bin _ _ _ _
theorem mono_un (op : UnOp) (x : AV) : MonoT k h (evUn h op x) (evUn (h ++ [k]) op x) := by
  cases op <;> cases x <;> first | rfl | trivial
theorem mono_conv (E : Env) (s d : TypeId) (x : AV) : MonoT k h (evConv E h s d x) (evConv E (h ++ [k]) s d x) := by
  unfold evConv
  cases (E.ty s).d <;> cases (E.ty d).d <;> cases x <;> first | rfl | trivial
theorem mono_convB (E : Env) (s d : TypeId) (x : AV) : MonoT k h (evConvB E h s d x) (evConvB E (h ++ [k]) s d x) := by
  unfold evConvB
  cases (E.ty s).d with
  | slice e es =>
    simp only
    cases (E.ty d).d with
    | str =>
      simp only
      unfold evBytes
      cases (E.ty e).d with
      | int kk =>
        cases kk <;> first | trivial | skip
        simp only
        cases hr : rowsOf h x with
        | none => trivial
        | some q =>
          obtain ⟨sh, l⟩ := q
          rw [rowsOf_app hr]
          simp only
          split
          · rfl
          · trivial
      | _ => trivial
    | _ => trivial
  | _ => exact mono_conv _ _ _ _
theorem mono_len (E : Env) (ts : List TypeId) (as : List AV) : MonoT k h (evBLen E h ts as) (evBLen E (h ++ [k]) ts as) := by
  unfold evBLen
  cases ts with
  | nil => trivial
  | cons t ts =>
    cases as with
    | nil => trivial
    | cons x as =>
      cases as with
      | cons _ _ => trivial
      | nil =>
        simp only
        unfold evLen
        cases (E.ty t).d with
        | str => cases x <;> first | rfl | trivial
        | array n e es => rfl
        | slice e es =>
          cases x with
          | nils => rfl
          | vec b =>
            simp only
            cases hb : rowsOf h (.vec b) with
            | none => trivial
            | some z => rw [rowsOf_app hb]; rfl
          | imm sh l => rfl
          | _ => trivial
        | _ => cases x <;> trivial
theorem mono_mm (f : Int → Int → Int) (as : List AV) : MonoT k h (evBMM f h as) (evBMM f (h ++ [k]) as) := by
  unfold evBMM
  cases as with
  | nil => trivial
  | cons x l =>
    simp only
    cases asI x with
    | none => trivial
    | some p =>
      obtain ⟨kk, n⟩ := p
      simp only
      cases foldI f kk n l with
      | none => trivial
      | some m => exact mono_ite (mono_okv _) (mono_okv _)
theorem mono_slice {E : Env} {t : TypeId} (ht : (E.ty t).d = .str) (x : AV) (lo hi mx : Option AV) : MonoT k h (evSlice E h t x lo hi mx) (evSlice E (h ++ [k]) t x lo hi mx) := by
  unfold evSlice
  rw [ht]
  cases mx with
  | some _ => trivial
  | none =>
    cases x <;> first | trivial | skip
    rename_i s
    simp only
    cases optI lo 0 with
    | none => trivial
    | some l =>
      cases optI hi (slen s) with
      | none => trivial
      | some r => exact mono_br (mono_br (mono_okv _) trivial) trivial

theorem mono_sliceB {E : Env} {t : TypeId} (ht : (E.ty t).d = .str) (x : AV) (lo hi mx : Option AV) : MonoT k h (evSliceB E h t x lo hi mx) (evSliceB E (h ++ [k]) t x lo hi mx) := by
  unfold evSliceB
  rw [ht]
  exact mono_slice ht _ _ _ _

theorem evOp_mono {E : Env} {ev : Operand → AV} {op : Op} (hs : stillOp E op = true) : MonoT k h (evOp E h ev op) (evOp E (h ++ [k]) ev op) := by
  unfold evOp
  cases op <;> simp only [stillOp] at hs <;> try (cases hs)
  case move => exact mono_okv _
  case assign => exact mono_okv _
  case pick c a b => simp only; cases ev c <;> first | exact mono_okv _ | exact mono_br (mono_okv _) (mono_okv _) | trivial
  case build => exact mono_buildB _ _ _
  case load => exact mono_loadB _ _ _
  case nilCheck x =>
    simp only
    cases ev x with
    | ptr b o =>
      simp only
      cases hb : h[b]? with
      | none => trivial
      | some z => rw [get_app hb]; cases z <;> first | rfl | trivial
    | eptr sh l i o => rfl
    | mptr c sh l i o => exact mono_br (mono_okv _) trivial
    | _ => trivial
  case binOp => exact mono_binOp _ _ _ _ _
  case unOp => exact mono_un _ _
  case convert => exact mono_convB _ _ _ _
  case makeFunc fn _ _ => cases fn <;> first | rfl | trivial
  case slice t x lo hi mx =>
    split at hs
    · rename_i ht; exact mono_sliceB ht _ _ _ _
    · cases hs
  case fieldAddr => exact mono_fieldAddr _ _ _ _
  case field => exact mono_field _ _ _ _
  case indexAddr => exact mono_indexAddrB _ _ _ _
  case index => exact mono_index _ _ _ _
  case extract x i =>
    simp only
    cases ev x with
    | tuple vs => simp only; cases vs[i]? <;> first | rfl | trivial
    | _ => trivial
  case call c =>
    obtain ⟨callee, args, tys⟩ := c
    cases callee with
    | builtin b =>
      cases b <;> first | exact mono_len _ _ _ | exact mono_mm _ _ | (cases hs; done)
    | value x => simp only at hs; cases hs
    | invoke x n => simp only at hs; cases hs

theorem isFrz_app {b : Nat} (hb : isFrz h b = true) : isFrz (h ++ [k]) b = true ∧ (h ++ [k])[b]? = h[b]? := by
  unfold isFrz at hb ⊢
  cases hx : h[b]? with
  | none => rw [hx] at hb; cases hb
  | some x => rw [hx] at hb; rw [get_app hx]; exact ⟨hb, rfl⟩
theorem frz_app {z : Blk} (hz : z.isFrzB = false) {b : Nat} : (match (h ++ [z])[b]? with | some (Blk.frz _ sh l) => AV.imm sh l | _ => AV.undef) = (match h[b]? with | some (Blk.frz _ sh l) => AV.imm sh l | _ => AV.undef) := by
  rcases Nat.lt_or_ge b h.length with hb | hb
  · rw [List.getElem?_append_left hb]
  · rw [List.getElem?_append_right hb, List.getElem?_eq_none hb]
    cases hd : b - h.length with
    | zero => cases z <;> first | rfl | cases hz
    | succ n => simp
mutual
theorem lend_app {z : Blk} (hz : z.isFrzB = false) : ∀ (a : AV), a.lend (h ++ [z]) = a.lend h
  | .vec b => by simp only [AV.lend]; exact frz_app hz
  | .agg cs => by simp only [AV.lend]; rw [lendL_app hz cs]
  | .tuple cs => by simp only [AV.lend]; rw [lendL_app hz cs]
  | .undef | .yld | .skip | .blit _ | .bool _ | .ilit _ _ | .int _ _ | .str _ | .nilp | .ptr _ _ | .eptr _ _ _ _ | .mptr _ _ _ _ _ | .vptr _ _ _ | .vsub _ _ | .aptr _ _ _ | .asub _ _ _ _ _ | .bagg _ _ _ _ | .nils | .imm _ _ | .nilf | .fn _ _ _ => rfl
theorem lendL_app {z : Blk} (hz : z.isFrzB = false) : ∀ (l : List AV), AV.lendL (h ++ [z]) l = AV.lendL h l
  | [] => rfl
  | a :: l => by simp only [AV.lendL]; rw [lend_app hz a, lendL_app hz l]
end
theorem isFrz_all {l : List Nat} (hl : l.all (isFrz h) = true) : l.all (isFrz (h ++ [k])) = true := by
  rw [List.all_eq_true] at hl ⊢
  exact fun b hb => (isFrz_app (hl b hb)).1

theorem callStill_mono {E : Env} {z : Blk} (hz : z.isFrzB = false) {f : FuncId} {args : List AV} {v : AV} (hr : (callStill E h f args).run = some v) : (callStill E (h ++ [z]) f args).run = some v := by
  unfold callStill at hr ⊢
  cases hf : E.spec.find? fun x => x.1 == f with
  | none => rw [hf] at hr; cases hr
  | some G =>
    rw [hf] at hr
    simp only at hr ⊢
    split at hr
    · rename_i hc
      rw [if_pos ⟨isFrz_all hc.1, by rw [lendL_app hz]; exact hc.2⟩, lendL_app hz]
      exact hr
    · cases hr

theorem callStill_mono' (E : Env) : StillMono (callStill E) := fun _ _ hz _ _ _ h => callStill_mono hz h

theorem evStill_mono {E : Env} {callS : List Blk → CallS} (hm : StillMono callS) {z : Blk} (hz : z.isFrzB = false) {ev : Operand → AV} {op : Op} {v : AV} (hr : (evStill E (callS h) h ev op).run = some v) :
    (evStill E (callS (h ++ [z])) (h ++ [z]) ev op).run = some v := by
  unfold evStill at hr ⊢
  split at hr
  · rename_i x args tys
    cases hx : ev x with
    | fn f first caps => rw [hx] at hr; exact hm _ _ hz _ _ _ hr
    | _ => rw [hx] at hr; cases hr
  · split at hr
    · rename_i hst
      rw [if_pos hst]
      obtain ⟨r, h1, h2⟩ := bind_some hr
      cases h2
      rw [Tree.run_bind, MonoT.run (evOp_mono (k := z) hst) h1]
      rfl
    · cases hr

theorem freezeAll_noVec : ∀ (cs : List AV), cs.all noVec = true → freezeAll h cs = h
  | [], _ => rfl
  | c :: cs, hc => by
    simp only [List.all_cons, Bool.and_eq_true] at hc
    cases c <;> first | (simp only [freezeAll]; exact freezeAll_noVec cs hc.2) | (cases hc.1)
theorem allocBlk_frz {E : Env} {t : TypeId} {z : Blk} (hz : allocBlk E t = some z) : z.isFrzB = false := by
  unfold allocBlk at hz
  split at hz <;> split at hz <;> cases hz <;> rfl
theorem boxBlk_frz {x : AV} {z : Blk} (hz : boxBlk x = some z) : z.isFrzB = false := by
  unfold boxBlk at hz
  split at hz <;> split at hz <;> cases hz <;> rfl
/-- an operation that makes one block more, as an operation -/
theorem evGrow_op {E : Env} {ev : Operand → AV} {op : Op} {v : AV} {z : Blk} (hr : (evGrow E h ev op).run = some (v, z)) : (evOp E h ev op).run = some (v, h ++ [z], none) ∧ z.isFrzB = false ∧ (∀ b, v ≠ .bool b) := by
  unfold evGrow at hr
  cases op <;> simp only at hr <;> first | (cases hr; done) | skip
  case alloc t =>
    unfold growBlk at hr
    cases hz : allocBlk E t with
    | none => rw [hz] at hr; cases hr
    | some y =>
      rw [hz] at hr
      cases hr
      refine ⟨?_, allocBlk_frz hz, fun b hb => by cases hb⟩
      unfold evOp
      simp only
      rw [hz]; rfl
  case box t x =>
    unfold growBlk at hr
    cases hz : boxBlk (ev x) with
    | none => rw [hz] at hr; cases hr
    | some y =>
      rw [hz] at hr
      cases hr
      refine ⟨?_, boxBlk_frz hz, fun b hb => by cases hb⟩
      unfold evOp
      simp only
      rw [hz]; rfl
  case buildSlice t len parts =>
    unfold evOp
    simp only
    unfold evBuildSlice
    cases hd : (E.ty t).d <;> rw [hd] at hr <;> simp only at hr ⊢ <;> first | (cases hr; done) | skip
    rename_i e es
    split at hr
    · rename_i hc
      rw [if_pos hc]
      cases hf : fillL (fun i => some (i * es, es)) ((List.replicate len ((E.ty e).zero.map ofCell)).flatten) (parts.toList.map fun p => (p.1, ev p.2)) with
      | none => rw [hf] at hr; cases hr
      | some cs =>
        cases hs : E.shape 16 e with
        | none => rw [hf, hs] at hr; cases hr
        | some sh =>
          rw [hf, hs] at hr
          simp only at hr ⊢
          split at hr
          · rename_i hl
            rw [if_pos hl.1]
            cases hch : chunk h sh len cs with
            | none => rw [hch] at hr; cases hr
            | some l =>
              rw [hch] at hr
              cases hr
              exact ⟨by simp only [freezeAll_noVec cs hl.2]; rfl, rfl, fun b hb => by cases hb⟩
          · cases hr
    · cases hr
theorem evGrow_congr {E : Env} {f g : Operand → AV} {op : Op} (hfg : ∀ x ∈ op.operands.toList, f x = g x) : evGrow E h f op = evGrow E h g op := by
  unfold evGrow
  cases op <;> simp only
  case box t x => rw [hfg x (by simp [Op.operands])]
  case buildSlice t len ps =>
    have : (ps.toList.map fun p => (p.1, f p.2)) = ps.toList.map fun p => (p.1, g p.2) := List.map_congr_left fun p hp => by
      rw [hfg p.2 (by simp only [Op.operands]; exact List.mem_map_of_mem hp)]
    rw [this]
end
end Go.Eng
