/- ENGINE G. Regions whose order is open. -/
import Derived.Test.YtjebekbdjlooiaaEngF
namespace Go.Eng

/-! ### Operations that leave the blocks alone -/
def okTree (h : List Blk) : Tree Res → Prop
  | .leaf r => r.2 = (h, none)
  | .br _ t e => okTree h t ∧ okTree h e
  | .fail => True

theorem okTree.run {h : List Blk} {t : Tree Res} {r : Res} (ht : okTree h t) (hr : t.run = some r) : r.2 = (h, none) := by
  induction t with
  | leaf x => cases hr; exact ht
  | br b t e iht ihe => cases b <;> simp only [Tree.run] at hr <;> first | exact iht ht.1 hr | exact ihe ht.2 hr
  | fail => cases hr

theorem okTree_okv (h : List Blk) (v : AV) : okTree h (okv h v) := rfl
theorem okTree_okb (h : List Blk) (b : Bool) : okTree h (okb h b) := rfl
theorem okTree_fail (h : List Blk) : okTree h .fail := trivial
theorem okTree_br {h : List Blk} {b : Bool} {t e : Tree Res} (h1 : okTree h t) (h2 : okTree h e) : okTree h (.br b t e) := ⟨h1, h2⟩
theorem okTree_iarith (h : List Blk) (k : IntKind) (f : Int → Int → Int) (l : Bool) (x y : Int) : okTree h (iarith h k f l x y) := by unfold iarith; split <;> rfl
theorem okTree_icmp (h : List Blk) (f : Int → Int → Bool) (l : Bool) (x y : Int) : okTree h (icmp h f l x y) := by unfold icmp; split <;> rfl

theorem still_load (E : Env) (h : List Blk) (t : TypeId) (p : AV) : okTree h (evLoad E h t p) := by
  unfold evLoad
  dsimp only
  repeat' (first | exact rfl | exact trivial | split)
theorem still_build (E : Env) (h : List Blk) (t : TypeId) (ps : List (Nat × AV)) : okTree h (evBuild E h t ps) := by
  unfold evBuild
  repeat' (first | exact rfl | exact trivial | split)
theorem still_loadB (E : Env) (h : List Blk) (t : TypeId) (p : AV) : okTree h (evLoadB E h t p) := by
  unfold evLoadB ldBig
  repeat' (first | exact still_load _ _ _ _ | exact rfl | exact trivial | exact ⟨rfl, trivial⟩ | split)
theorem still_buildB (E : Env) (h : List Blk) (t : TypeId) (ps : List (Nat × AV)) : okTree h (evBuildB E h t ps) := by
  unfold evBuildB
  repeat' (first | exact still_build _ _ _ _ | exact rfl | exact trivial | split)
theorem still_fieldAddr (E : Env) (h : List Blk) (s : TypeId) (x : AV) (f : Nat) : okTree h (evFieldAddr E h s x f) := by
  unfold evFieldAddr
  repeat' (first | exact rfl | exact trivial | split)
theorem still_part (E : Env) (h : List Blk) (t : TypeId) (cs : List AV) (o : Nat) : okTree h (evPart E h t cs o) := by
  unfold evPart
  repeat' (first | exact rfl | exact trivial | split)
theorem still_field (E : Env) (h : List Blk) (s : TypeId) (x : AV) (f : Nat) : okTree h (evField E h s x f) := by
  unfold evField
  repeat' (first | exact rfl | exact trivial | exact still_part _ _ _ _ _ | split)
theorem still_idxTree (h : List Blk) (i : Int) (f : Nat → AV) : ∀ n, okTree h (idxTree h i f n)
  | 0 => trivial
  | n + 1 => ⟨rfl, still_idxTree h i f n⟩
theorem still_indexAddr (E : Env) (h : List Blk) (t : TypeId) (x i : AV) : okTree h (evIndexAddr E h t x i) := by
  unfold evIndexAddr
  repeat' (first | exact still_idxTree _ _ _ _ | exact rfl | exact trivial | exact ⟨rfl, trivial⟩ | split)
theorem still_indexAddrB (E : Env) (h : List Blk) (t : TypeId) (x i : AV) : okTree h (evIndexAddrB E h t x i) := by
  unfold evIndexAddrB
  repeat' (first | exact still_indexAddr _ _ _ _ _ | exact rfl | exact trivial | exact ⟨rfl, trivial⟩ | split)
theorem still_index (E : Env) (h : List Blk) (t : TypeId) (x i : AV) : okTree h (evIndex E h t x i) := by
  unfold evIndex
  repeat' (first | exact rfl | exact trivial | exact ⟨rfl, trivial⟩ | exact still_part _ _ _ _ _ | split)
theorem still_bin (d : TD) (h : List Blk) (op : BinOp) (x y : AV) : okTree h (evBin d h op x y) := by
  unfold evBin
  repeat' (first | exact rfl | exact trivial | exact okTree_iarith _ _ _ _ _ _ | exact okTree_icmp _ _ _ _ _ | exact ⟨rfl, trivial⟩ | exact ⟨okTree_iarith _ _ _ _ _ _, trivial⟩ | split)
theorem still_binOp (E : Env) (h : List Blk) (op : BinOp) (t : TypeId) (x y : AV) : okTree h (evBinOp E h op t x y) := by
  unfold evBinOp
  split
  · unfold evEqAgg
    repeat' (first | exact rfl | exact trivial | split)
  · exact still_bin _ _ _ _ _
theorem still_un (h : List Blk) (op : UnOp) (x : AV) : okTree h (evUn h op x) := by
  unfold evUn
  repeat' (first | exact rfl | exact trivial | split)
theorem still_conv (E : Env) (h : List Blk) (s d : TypeId) (x : AV) : okTree h (evConv E h s d x) := by
  unfold evConv
  repeat' (first | exact rfl | exact trivial | split)
theorem still_convB (E : Env) (h : List Blk) (s d : TypeId) (x : AV) : okTree h (evConvB E h s d x) := by
  unfold evConvB
  split
  · split
    · unfold evBytes
      repeat' (first | exact rfl | exact trivial | split)
    · trivial
  · exact still_conv _ _ _ _ _
theorem still_len (E : Env) (h : List Blk) (ts : List TypeId) (as : List AV) : okTree h (evBLen E h ts as) := by
  unfold evBLen
  split
  · unfold evLen
    repeat' (first | exact rfl | exact trivial | split)
  · trivial
theorem still_mm (f : Int → Int → Int) (h : List Blk) (as : List AV) : okTree h (evBMM f h as) := by
  unfold evBMM
  repeat' (first | exact rfl | exact trivial | split)
theorem still_slice {E : Env} {t : TypeId} (ht : (E.ty t).d = .str) (h : List Blk) (x : AV) (lo hi mx : Option AV) : okTree h (evSlice E h t x lo hi mx) := by
  unfold evSlice
  rw [ht]
  cases mx with
  | some _ => trivial
  | none =>
    cases x <;> first | trivial | skip
    simp only
    split
    · exact ⟨⟨rfl, trivial⟩, trivial⟩
    · trivial

theorem still_sliceB {E : Env} {t : TypeId} (ht : (E.ty t).d = .str) (h : List Blk) (x : AV) (lo hi mx : Option AV) : okTree h (evSliceB E h t x lo hi mx) := by
  unfold evSliceB
  rw [ht]
  exact still_slice ht _ _ _ _ _
theorem evOp_still {E : Env} {h : List Blk} {ev : Operand → AV} {op : Op} (hs : stillOp E op = true) {r : Res} (hr : (evOp E h ev op).run = some r) : r.2 = (h, none) := by
  have key : okTree h (evOp E h ev op) := by
    unfold evOp
    cases op <;> simp only [stillOp] at hs <;> try (cases hs)
    case move => rfl
    case assign => rfl
    case pick => simp only; split <;> first | rfl | exact ⟨rfl, rfl⟩ | trivial
    case build => exact still_buildB _ _ _ _
    case load => exact still_loadB _ _ _ _
    case nilCheck => simp only; repeat' (first | exact rfl | exact ⟨rfl, trivial⟩ | exact trivial | split)
    case binOp => exact still_binOp _ _ _ _ _ _
    case unOp => exact still_un _ _ _
    case convert => exact still_convB _ _ _ _ _
    case makeFunc fn _ _ => cases fn <;> first | rfl | trivial
    case slice t x lo hi mx =>
      split at hs
      · rename_i ht; exact still_sliceB ht _ _ _ _ _
      · cases hs
    case fieldAddr => exact still_fieldAddr _ _ _ _ _
    case field => exact still_field _ _ _ _ _
    case indexAddr => exact still_indexAddrB _ _ _ _ _
    case index => exact still_index _ _ _ _ _
    case extract => simp only; repeat' (first | exact rfl | exact trivial | split)
    case call c =>
      obtain ⟨callee, args, tys⟩ := c
      cases callee with
      | builtin b =>
        cases b <;> simp only at hs <;> try (cases hs)
        · exact still_len _ _ _ _
        · exact still_mm _ _ _
        · exact still_mm _ _ _
      | value x => simp only at hs; cases hs
      | invoke x n => simp only at hs; cases hs
  exact key.run hr

end Go.Eng
