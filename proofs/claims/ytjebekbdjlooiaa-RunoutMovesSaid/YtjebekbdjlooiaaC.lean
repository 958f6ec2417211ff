/- Contracts of the functions, printed by gen.py and emit.py. -/
import Derived.Test.YtjebekbdjlooiaaEngW
import Derived.KernelRfl
import Derived.Test.YtjebekbdjlooiaaProg
namespace Go.Eng
open Go.Proofs
noncomputable def seat_TT : List (TypeId × TI) := [(1, (.mk .func 1 [.nilFunc] 8 false false)), (2, (.mk (.int .i64) 1 [(.int .i64 0)] 8 false false)), (3, (.mk (.int .i64) 1 [(.int .i64 0)] 8 false false)), (4, (.mk .bool 1 [(.bool false)] 1 false false)), (5, (.mk (.int .u8) 1 [(.int .u8 0)] 1 false false)), (6, (.mk (.int .u8) 1 [(.int .u8 0)] 1 false false)), (8, (.mk (.struct [(0, (2, 1)), (1, (3, 1)), (2, (4, 1)), (3, (6, 1))]) 4 [(.int .i64 0), (.int .i64 0), (.bool false), (.int .u8 0)] 24 true true)), (9, (.mk .str 1 [(.string (.mk (.mk [])))] 16 false false)), (10, (.mk .str 1 [(.string (.mk (.mk [])))] 16 false false)), (12, (.mk (.int .u64) 1 [(.int .u64 0)] 8 false false)), (13, (.mk (.struct [(0, (9, 1)), (1, (12, 1))]) 2 [(.string (.mk (.mk []))), (.int .u64 0)] 24 false true)), (17, (.mk (.ptr 142) 1 [(.pointer .none)] 8 false false)), (18, (.mk (.struct [(0, (17, 1))]) 1 [(.pointer .none)] 8 false true)), (22, (.mk (.slice 62 2) 1 [(.slice .none 0 0)] 24 false false)), (23, (.mk (.slice 25 2) 1 [(.slice .none 0 0)] 24 false false)), (25, (.mk (.struct [(0, (3, 1)), (1, (3, 1))]) 2 [(.int .i64 0), (.int .i64 0)] 16 true true)), (27, (.mk (.slice 70 2) 1 [(.slice .none 0 0)] 24 false false)), (31, (.mk (.int .i64) 1 [(.int .i64 0)] 8 false false)), (36, (.mk .func 1 [.nilFunc] 8 false false)), (45, (.mk .func 1 [.nilFunc] 8 false false)), (48, (.mk .func 1 [.nilFunc] 8 false false)), (51, (.mk .func 1 [.nilFunc] 8 false false)), (53, (.mk .func 1 [.nilFunc] 8 false false)), (54, (.mk .func 1 [.nilFunc] 8 false false)), (55, (.mk (.int .u16) 1 [(.int .u16 0)] 2 false false)), (56, (.mk .func 1 [.nilFunc] 8 false false)), (57, (.mk .func 1 [.nilFunc] 8 false false)), (58, (.mk .func 1 [.nilFunc] 8 false false)), (59, (.mk .func 1 [.nilFunc] 8 false false)), (60, (.mk .func 1 [.nilFunc] 8 false false)), (62, (.mk (.struct [(0, (3, 1)), (1, (23, 1))]) 2 [(.int .i64 0), (.slice .none 0 0)] 32 true true)), (64, (.mk .func 1 [.nilFunc] 8 false false)), (65, (.mk (.slice 89 3) 1 [(.slice .none 0 0)] 24 false false)), (70, (.mk (.struct [(0, (3, 1)), (1, (23, 1))]) 2 [(.int .i64 0), (.slice .none 0 0)] 32 true true)), (76, (.mk .func 1 [.nilFunc] 8 false false)), (77, (.mk .func 1 [.nilFunc] 8 false false)), (87, (.mk (.slice 3 1) 1 [(.slice .none 0 0)] 24 false false)), (89, (.mk (.struct [(0, (3, 1)), (1, (3, 1)), (2, (3, 1))]) 3 [(.int .i64 0), (.int .i64 0), (.int .i64 0)] 24 true true)), (90, (.mk (.array 3 3 1) 3 [(.int .i64 0), (.int .i64 0), (.int .i64 0)] 24 false false)), (95, (.mk (.slice 23 1) 1 [(.slice .none 0 0)] 24 false false)), (97, (.mk .func 1 [.nilFunc] 8 false false)), (98, (.mk (.ptr 62) 1 [(.pointer .none)] 8 false false)), (99, (.mk .func 1 [.nilFunc] 8 false false)), (101, (.mk (.struct [(0, (3, 1)), (1, (3, 1))]) 2 [(.int .i64 0), (.int .i64 0)] 16 true true)), (104, (.mk .str 1 [(.string (.mk (.mk [])))] 16 false false)), (105, (.mk .func 1 [.nilFunc] 8 false false)), (108, (.mk .func 1 [.nilFunc] 8 false false)), (109, (.mk .func 1 [.nilFunc] 8 false false)), (110, (.mk .func 1 [.nilFunc] 8 false false)), (112, (.mk .func 1 [.nilFunc] 8 false false)), (113, (.mk (.slice 5 1) 1 [(.slice .none 0 0)] 24 false false)), (115, (.mk .func 1 [.nilFunc] 8 false false)), (116, (.mk .func 1 [.nilFunc] 8 false false)), (120, (.mk .func 1 [.nilFunc] 8 false false)), (121, (.mk .func 1 [.nilFunc] 8 false false)), (128, (.mk (.struct [(0, (17, 1)), (1, (17, 1)), (2, (17, 1)), (3, (9, 1))]) 4 [(.pointer .none), (.pointer .none), (.pointer .none), (.string (.mk (.mk [])))] 40 false true)), (134, (.mk (.int .u32) 1 [(.int .u32 0)] 4 false false)), (135, (.mk (.int .u8) 1 [(.int .u8 0)] 1 false false)), (136, (.mk (.int .u8) 1 [(.int .u8 0)] 1 false false)), (137, (.mk .func 1 [.nilFunc] 8 false false)), (138, (.mk (.ptr 5) 1 [(.pointer .none)] 8 false false)), (139, (.mk (.int .i32) 1 [(.int .i32 0)] 4 false false)), (140, (.mk (.int .i32) 1 [(.int .i32 0)] 4 false false)), (142, (.mk (.struct [(0, (12, 1)), (1, (12, 1)), (2, (134, 1)), (3, (135, 1)), (4, (5, 1)), (5, (5, 1)), (6, (136, 1)), (7, (137, 1)), (8, (138, 1)), (9, (139, 1)), (10, (140, 1))]) 11 [(.int .u64 0), (.int .u64 0), (.int .u32 0), (.int .u8 0), (.int .u8 0), (.int .u8 0), (.int .u8 0), .nilFunc, (.pointer .none), (.int .i32 0), (.int .i32 0)] 48 false true))]
noncomputable def seat_GL : List (Nat × AV) := []
theorem seat_TTok : seat_TT.map (fun x => mkTI Try.prog x.1) = seat_TT.map (·.2) := by kernel_rfl
theorem seat_mo : Try.prog.follows .mixedOrders = true := by kernel_rfl

/-! 12 metrolab/metrolabref07.Few -/
def ref07_Few_I : FIn := { args := [(.imm [(.int .i64), (.int .i64)])], h := [] }
def ref07_Few_O : List FOut := [{ res := .bool, h := [] }]
noncomputable def ref07_Few_E : Env := { tt := seat_TT, glob := seat_GL, spec := [], body := [(12, Try.f12)], loops := [], nimp := 0 }
noncomputable def ref07_Few_T (ps : List PV) : TR := funcT ref07_Few_E 12 Try.f12 true ref07_Few_I ref07_Few_O ps
theorem ref07_Few_Eok : EnvOK ref07_Few_E Try.prog := ⟨tok_of seat_TTok,
  all_nil,
  all_nil,
  all_cons (body_ok Try.func12 (by kernel_rfl)) (all_nil)⟩
theorem ref07_Few_spec : Spec Try.prog seat_GL 12 (specG ref07_Few_I ref07_Few_O ref07_Few_T) := spec_of seat_mo ref07_Few_Eok Try.func12 (by kernel_rfl) (by kernel_rfl) (fun _ => rfl)

/-! 10 metrolab/metrolabref38.Few -/
def ref38_Few_I : FIn := { args := [(.imm [(.int .i64), (.sl [(.int .i64), (.int .i64)])])], h := [] }
def ref38_Few_O : List FOut := [{ res := .bool, h := [] }]
def ref38_Few_L6I : Tmpl := { t := [(.imm [(.int .i64), (.sl [(.int .i64), (.int .i64)])]), .any, .any, (.int .i64), .any, .any, .any, .any, .any, .any, .any, .any, .any, .any, .any, .any, .any, .any, .any, .any, .any, .any, .any, .any, .any, .any, .any, .any, .any, .any], h := [] }
def ref38_Few_L6O : List Out := [{ x := (.exit 0), tm := { t := [.any, .any, .any, .any, .any, .any, .any, .any, .any, .any, .any, .any, .any, .any, .any, .any, .any, .any, .any, .any, .any, .any, .any, .any, .any, .any, .any, .any, .any, .any], h := [] } }, { x := .ret, tm := { t := [.any, .any, .bool, .any, .any, .any, .any, .any, .any, .any, .any, .any, .any, .any, .any, .any, .any, .any, .any, .any, .any, .any, .any, .any, .any, .any, .any, .any, .any, .any], h := [] } }]
noncomputable def ref38_Few_L6E : Env := { tt := seat_TT, glob := seat_GL, spec := [(12, specG ref07_Few_I ref07_Few_O ref07_Few_T)], body := [(10, Try.f10)], loops := [], nimp := 0 }
noncomputable def ref38_Few_L6S (ps : List PV) : TR := stepT ref38_Few_L6E 10 Try.f10 6 ref38_Few_L6I ref38_Few_L6O ps
theorem ref38_Few_L6Eok : EnvOK ref38_Few_L6E Try.prog := ⟨tok_of seat_TTok,
  all_cons ref07_Few_spec (all_nil),
  all_nil,
  all_cons (body_ok Try.func10 (by kernel_rfl)) (all_nil)⟩
theorem ref38_Few_L6good : LoopGood Try.prog seat_GL ref38_Few_L6E.nimp (baseOK Try.prog ref38_Few_L6E.iter 10) (nodeC Try.f10 6) (pieceL ref38_Few_L6I ref38_Few_L6O (loopT ref38_Few_L6S)) :=
  loopGood_of seat_mo ref38_Few_L6Eok Try.func10 (by kernel_rfl) (by kernel_rfl) (by kernel_rfl) (by kernel_rfl) (fun _ => rfl)
noncomputable def ref38_Few_E : Env := { tt := seat_TT, glob := seat_GL, spec := [(12, specG ref07_Few_I ref07_Few_O ref07_Few_T)], body := [(10, Try.f10)], loops := [((10, 6), pieceL ref38_Few_L6I ref38_Few_L6O (loopT ref38_Few_L6S))], nimp := 0 }
noncomputable def ref38_Few_T (ps : List PV) : TR := funcT ref38_Few_E 10 Try.f10 true ref38_Few_I ref38_Few_O ps
theorem ref38_Few_Eok : EnvOK ref38_Few_E Try.prog := ⟨tok_of seat_TTok,
  all_cons ref07_Few_spec (all_nil),
  all_cons (loop_ok Try.func10 (by kernel_rfl) (by kernel_rfl) ref38_Few_L6good) (all_nil),
  all_cons (body_ok Try.func10 (by kernel_rfl)) (all_nil)⟩
theorem ref38_Few_spec : Spec Try.prog seat_GL 10 (specG ref38_Few_I ref38_Few_O ref38_Few_T) := spec_of seat_mo ref38_Few_Eok Try.func10 (by kernel_rfl) (by kernel_rfl) (fun _ => rfl)

/-! 11 metrolab/metrolablaw38.own -/
def law38_own_I : FIn := { args := [(.imm [(.int .i64), (.sl [(.int .i64), (.int .i64)])])], h := [] }
def law38_own_O : List FOut := [{ res := (.imm [(.int .i64), (.sl [(.int .i64), (.int .i64)])]), h := [] }]
def law38_own_L4I : Tmpl := { t := [.any, .any, .any, (.vec 0), .any, .any, (.imm [(.int .i64), (.sl [(.int .i64), (.int .i64)])]), (.int .i64), (.int .i64), .any, .any, .any, .any, .any, .any, .any, .any, .any], h := [.vec 70 [(.int .i64), (.sl [(.int .i64), (.int .i64)])]], pro := [(3, 70, [(.int .i64), (.sl [(.int .i64), (.int .i64)])])] }
def law38_own_L4O : List Out := [{ x := (.exit 0), tm := { t := [.any, .any, .any, (.vec 0), .any, .any, .any, .any, .any, .any, .any, .any, .any, .any, .any, .any, .any, .any], h := [.vec 70 [(.int .i64), (.sl [(.int .i64), (.int .i64)])]] } }]
noncomputable def law38_own_L4E : Env := { tt := seat_TT, glob := seat_GL, spec := [], body := [(11, Try.f11)], loops := [], nimp := 0 }
noncomputable def law38_own_L4S (ps : List PV) : TR := stepT law38_own_L4E 11 Try.f11 4 law38_own_L4I law38_own_L4O ps
theorem law38_own_L4Eok : EnvOK law38_own_L4E Try.prog := ⟨tok_of seat_TTok,
  all_nil,
  all_nil,
  all_cons (body_ok Try.func11 (by kernel_rfl)) (all_nil)⟩
theorem law38_own_L4good : LoopGood Try.prog seat_GL law38_own_L4E.nimp (baseOK Try.prog law38_own_L4E.iter 11) (nodeC Try.f11 4) (pieceL law38_own_L4I law38_own_L4O (loopT law38_own_L4S)) :=
  loopGood_of seat_mo law38_own_L4Eok Try.func11 (by kernel_rfl) (by kernel_rfl) (by kernel_rfl) (by kernel_rfl) (fun _ => rfl)
noncomputable def law38_own_E : Env := { tt := seat_TT, glob := seat_GL, spec := [], body := [(11, Try.f11)], loops := [((11, 4), pieceL law38_own_L4I law38_own_L4O (loopT law38_own_L4S))], nimp := 0 }
noncomputable def law38_own_T (ps : List PV) : TR := funcT law38_own_E 11 Try.f11 true law38_own_I law38_own_O ps
theorem law38_own_Eok : EnvOK law38_own_E Try.prog := ⟨tok_of seat_TTok,
  all_nil,
  all_cons (loop_ok Try.func11 (by kernel_rfl) (by kernel_rfl) law38_own_L4good) (all_nil),
  all_cons (body_ok Try.func11 (by kernel_rfl)) (all_nil)⟩
theorem law38_own_spec : Spec Try.prog seat_GL 11 (specG law38_own_I law38_own_O law38_own_T) := spec_of seat_mo law38_own_Eok Try.func11 (by kernel_rfl) (by kernel_rfl) (fun _ => rfl)

/-! 72 metrolab/vector.within -/
def vector_within_I : FIn := { args := [(.int .i64)], h := [] }
def vector_within_O : List FOut := [{ res := .bool, h := [] }]
noncomputable def vector_within_E : Env := { tt := seat_TT, glob := seat_GL, spec := [], body := [(72, Try.f72)], loops := [], nimp := 0 }
noncomputable def vector_within_T (ps : List PV) : TR := funcT vector_within_E 72 Try.f72 true vector_within_I vector_within_O ps
theorem vector_within_Eok : EnvOK vector_within_E Try.prog := ⟨tok_of seat_TTok,
  all_nil,
  all_nil,
  all_cons (body_ok Try.func72 (by kernel_rfl)) (all_nil)⟩
theorem vector_within_spec : Spec Try.prog seat_GL 72 (specG vector_within_I vector_within_O vector_within_T) := spec_of seat_mo vector_within_Eok Try.func72 (by kernel_rfl) (by kernel_rfl) (fun _ => rfl)

/-! 59 metrolab/vector.flat -/
def vector_flat_I : FIn := { args := [(.agg [(.int .i64), (.int .i64)])], h := [] }
def vector_flat_O : List FOut := [{ res := .bool, h := [] }]
noncomputable def vector_flat_E : Env := { tt := seat_TT, glob := seat_GL, spec := [(72, specG vector_within_I vector_within_O vector_within_T)], body := [(59, Try.f59)], loops := [], nimp := 0 }
noncomputable def vector_flat_T (ps : List PV) : TR := funcT vector_flat_E 59 Try.f59 true vector_flat_I vector_flat_O ps
theorem vector_flat_Eok : EnvOK vector_flat_E Try.prog := ⟨tok_of seat_TTok,
  all_cons vector_within_spec (all_nil),
  all_nil,
  all_cons (body_ok Try.func59 (by kernel_rfl)) (all_nil)⟩
theorem vector_flat_spec : Spec Try.prog seat_GL 59 (specG vector_flat_I vector_flat_O vector_flat_T) := spec_of seat_mo vector_flat_Eok Try.func59 (by kernel_rfl) (by kernel_rfl) (fun _ => rfl)

/-! 71 metrolab/vector.all[metrolab/api.Point] -/
def vector_all_api_Point_I : FIn := { args := [(.fn 59 [] []), (.imm [(.int .i64), (.int .i64)])], h := [] }
def vector_all_api_Point_O : List FOut := [{ res := (.int .i64), h := [] }]
def vector_all_api_Point_L3I : Tmpl := { t := [(.fn 59 [] []), .any, .any, .any, .any, .any, .any, (.imm [(.int .i64), (.int .i64)]), (.int .i64), (.int .i64), .any, .any, .any, .any, .any, .any, .any, .any], h := [] }
def vector_all_api_Point_L3O : List Out := [{ x := (.exit 0), tm := { t := [.any, .any, .any, .any, .any, .any, .any, .any, .any, .any, .any, .any, .any, .any, .any, .any, .any, .any], h := [] } }, { x := .ret, tm := { t := [.any, .any, .any, .any, (.int .i64), .any, .any, .any, .any, .any, .any, .any, .any, .any, .any, .any, .any, .any], h := [] } }]
noncomputable def vector_all_api_Point_L3E : Env := { tt := seat_TT, glob := seat_GL, spec := [(59, specG vector_flat_I vector_flat_O vector_flat_T)], body := [(71, Try.f71)], loops := [], nimp := 0 }
noncomputable def vector_all_api_Point_L3S (ps : List PV) : TR := stepT vector_all_api_Point_L3E 71 Try.f71 3 vector_all_api_Point_L3I vector_all_api_Point_L3O ps
theorem vector_all_api_Point_L3Eok : EnvOK vector_all_api_Point_L3E Try.prog := ⟨tok_of seat_TTok,
  all_cons vector_flat_spec (all_nil),
  all_nil,
  all_cons (body_ok Try.func71 (by kernel_rfl)) (all_nil)⟩
theorem vector_all_api_Point_L3good : LoopGood Try.prog seat_GL vector_all_api_Point_L3E.nimp (baseOK Try.prog vector_all_api_Point_L3E.iter 71) (nodeC Try.f71 3) (pieceL vector_all_api_Point_L3I vector_all_api_Point_L3O (loopT vector_all_api_Point_L3S)) :=
  loopGood_of seat_mo vector_all_api_Point_L3Eok Try.func71 (by kernel_rfl) (by kernel_rfl) (by kernel_rfl) (by kernel_rfl) (fun _ => rfl)
noncomputable def vector_all_api_Point_E : Env := { tt := seat_TT, glob := seat_GL, spec := [(59, specG vector_flat_I vector_flat_O vector_flat_T)], body := [(71, Try.f71)], loops := [((71, 3), pieceL vector_all_api_Point_L3I vector_all_api_Point_L3O (loopT vector_all_api_Point_L3S))], nimp := 0 }
noncomputable def vector_all_api_Point_T (ps : List PV) : TR := funcT vector_all_api_Point_E 71 Try.f71 true vector_all_api_Point_I vector_all_api_Point_O ps
theorem vector_all_api_Point_Eok : EnvOK vector_all_api_Point_E Try.prog := ⟨tok_of seat_TTok,
  all_cons vector_flat_spec (all_nil),
  all_cons (loop_ok Try.func71 (by kernel_rfl) (by kernel_rfl) vector_all_api_Point_L3good) (all_nil),
  all_cons (body_ok Try.func71 (by kernel_rfl)) (all_nil)⟩
theorem vector_all_api_Point_spec : Spec Try.prog seat_GL 71 (specG vector_all_api_Point_I vector_all_api_Point_O vector_all_api_Point_T) := spec_of seat_mo vector_all_api_Point_Eok Try.func71 (by kernel_rfl) (by kernel_rfl) (fun _ => rfl)

/-! 58 metrolab/vector.checked[metrolab/api.Point] -/
def vector_checked_api_Point_I : FIn := { args := [(.imm [(.int .i64), (.int .i64)]), (.fn 59 [] [])], h := [] }
def vector_checked_api_Point_O : List FOut := [{ res := (.int .i64), h := [] }]
noncomputable def vector_checked_api_Point_E : Env := { tt := seat_TT, glob := seat_GL, spec := [(59, specG vector_flat_I vector_flat_O vector_flat_T), (71, specG vector_all_api_Point_I vector_all_api_Point_O vector_all_api_Point_T)], body := [(58, Try.f58)], loops := [], nimp := 0 }
noncomputable def vector_checked_api_Point_T (ps : List PV) : TR := funcT vector_checked_api_Point_E 58 Try.f58 true vector_checked_api_Point_I vector_checked_api_Point_O ps
theorem vector_checked_api_Point_Eok : EnvOK vector_checked_api_Point_E Try.prog := ⟨tok_of seat_TTok,
  all_cons vector_flat_spec (all_cons vector_all_api_Point_spec (all_nil)),
  all_nil,
  all_cons (body_ok Try.func58 (by kernel_rfl)) (all_nil)⟩
theorem vector_checked_api_Point_spec : Spec Try.prog seat_GL 58 (specG vector_checked_api_Point_I vector_checked_api_Point_O vector_checked_api_Point_T) := spec_of seat_mo vector_checked_api_Point_Eok Try.func58 (by kernel_rfl) (by kernel_rfl) (fun _ => rfl)

/-! 34 metrolab/vector.Check -/
def vector_Check_I : FIn := { args := [(.imm [(.int .i64), (.int .i64)])], h := [] }
def vector_Check_O : List FOut := [{ res := (.int .i64), h := [] }]
noncomputable def vector_Check_E : Env := { tt := seat_TT, glob := seat_GL, spec := [(58, specG vector_checked_api_Point_I vector_checked_api_Point_O vector_checked_api_Point_T), (59, specG vector_flat_I vector_flat_O vector_flat_T)], body := [(34, Try.f34)], loops := [], nimp := 0 }
noncomputable def vector_Check_T (ps : List PV) : TR := funcT vector_Check_E 34 Try.f34 true vector_Check_I vector_Check_O ps
theorem vector_Check_Eok : EnvOK vector_Check_E Try.prog := ⟨tok_of seat_TTok,
  all_cons vector_checked_api_Point_spec (all_cons vector_flat_spec (all_nil)),
  all_nil,
  all_cons (body_ok Try.func34 (by kernel_rfl)) (all_nil)⟩
theorem vector_Check_spec : Spec Try.prog seat_GL 34 (specG vector_Check_I vector_Check_O vector_Check_T) := spec_of seat_mo vector_Check_Eok Try.func34 (by kernel_rfl) (by kernel_rfl) (fun _ => rfl)

/-! 35 metrolab/runout.right -/
def runout_right_I : FIn := { args := [(.agg [(.int .i64), (.int .i64)])], h := [] }
def runout_right_O : List FOut := [{ res := .bool, h := [] }]
noncomputable def runout_right_E : Env := { tt := seat_TT, glob := seat_GL, spec := [(34, specG vector_Check_I vector_Check_O vector_Check_T)], body := [(35, Try.f35)], loops := [], nimp := 0 }
noncomputable def runout_right_T (ps : List PV) : TR := funcT runout_right_E 35 Try.f35 true runout_right_I runout_right_O ps
theorem runout_right_Eok : EnvOK runout_right_E Try.prog := ⟨tok_of seat_TTok,
  all_cons vector_Check_spec (all_nil),
  all_nil,
  all_cons (body_ok Try.func35 (by kernel_rfl)) (all_nil)⟩
theorem runout_right_spec : Spec Try.prog seat_GL 35 (specG runout_right_I runout_right_O runout_right_T) := spec_of seat_mo runout_right_Eok Try.func35 (by kernel_rfl) (by kernel_rfl) (fun _ => rfl)

/-! 53 slices.Max[[]int,int] -/
def slices_Max_int_int_I : FIn := { args := [(.imm [(.int .i64)])], h := [] }
def slices_Max_int_int_O : List FOut := [{ res := (.int .i64), h := [] }]
def slices_Max_int_int_L6I : Tmpl := { t := [(.imm [(.int .i64)]), .any, .any, (.int .i64), (.int .i64), .any, .any, .any, .any, .any, .any, .any, .any, .any, .any, .any, .any, .any, .any, .any, .any, .any, .any, .any, .any], h := [] }
def slices_Max_int_int_L6O : List Out := [{ x := (.exit 0), tm := { t := [.any, .any, .any, (.int .i64), .any, .any, .any, .any, .any, .any, .any, .any, .any, .any, .any, .any, .any, .any, .any, .any, .any, .any, .any, .any, .any], h := [] } }]
noncomputable def slices_Max_int_int_L6E : Env := { tt := seat_TT, glob := seat_GL, spec := [], body := [(53, Try.f53)], loops := [], nimp := 0 }
noncomputable def slices_Max_int_int_L6S (ps : List PV) : TR := stepT slices_Max_int_int_L6E 53 Try.f53 6 slices_Max_int_int_L6I slices_Max_int_int_L6O ps
theorem slices_Max_int_int_L6Eok : EnvOK slices_Max_int_int_L6E Try.prog := ⟨tok_of seat_TTok,
  all_nil,
  all_nil,
  all_cons (body_ok Try.func53 (by kernel_rfl)) (all_nil)⟩
theorem slices_Max_int_int_L6good : LoopGood Try.prog seat_GL slices_Max_int_int_L6E.nimp (baseOK Try.prog slices_Max_int_int_L6E.iter 53) (nodeC Try.f53 6) (pieceL slices_Max_int_int_L6I slices_Max_int_int_L6O (loopT slices_Max_int_int_L6S)) :=
  loopGood_of seat_mo slices_Max_int_int_L6Eok Try.func53 (by kernel_rfl) (by kernel_rfl) (by kernel_rfl) (by kernel_rfl) (fun _ => rfl)
noncomputable def slices_Max_int_int_E : Env := { tt := seat_TT, glob := seat_GL, spec := [], body := [(53, Try.f53)], loops := [((53, 6), pieceL slices_Max_int_int_L6I slices_Max_int_int_L6O (loopT slices_Max_int_int_L6S))], nimp := 0 }
noncomputable def slices_Max_int_int_T (ps : List PV) : TR := funcT slices_Max_int_int_E 53 Try.f53 true slices_Max_int_int_I slices_Max_int_int_O ps
theorem slices_Max_int_int_Eok : EnvOK slices_Max_int_int_E Try.prog := ⟨tok_of seat_TTok,
  all_nil,
  all_cons (loop_ok Try.func53 (by kernel_rfl) (by kernel_rfl) slices_Max_int_int_L6good) (all_nil),
  all_cons (body_ok Try.func53 (by kernel_rfl)) (all_nil)⟩
theorem slices_Max_int_int_spec : Spec Try.prog seat_GL 53 (specG slices_Max_int_int_I slices_Max_int_int_O slices_Max_int_int_T) := spec_of seat_mo slices_Max_int_int_Eok Try.func53 (by kernel_rfl) (by kernel_rfl) (fun _ => rfl)

/-! 54 slices.Min[[]int,int] -/
def slices_Min_int_int_I : FIn := { args := [(.imm [(.int .i64)])], h := [] }
def slices_Min_int_int_O : List FOut := [{ res := (.int .i64), h := [] }]
def slices_Min_int_int_L6I : Tmpl := { t := [(.imm [(.int .i64)]), .any, .any, (.int .i64), (.int .i64), .any, .any, .any, .any, .any, .any, .any, .any, .any, .any, .any, .any, .any, .any, .any, .any, .any, .any, .any, .any], h := [] }
def slices_Min_int_int_L6O : List Out := [{ x := (.exit 0), tm := { t := [.any, .any, .any, (.int .i64), .any, .any, .any, .any, .any, .any, .any, .any, .any, .any, .any, .any, .any, .any, .any, .any, .any, .any, .any, .any, .any], h := [] } }]
noncomputable def slices_Min_int_int_L6E : Env := { tt := seat_TT, glob := seat_GL, spec := [], body := [(54, Try.f54)], loops := [], nimp := 0 }
noncomputable def slices_Min_int_int_L6S (ps : List PV) : TR := stepT slices_Min_int_int_L6E 54 Try.f54 6 slices_Min_int_int_L6I slices_Min_int_int_L6O ps
theorem slices_Min_int_int_L6Eok : EnvOK slices_Min_int_int_L6E Try.prog := ⟨tok_of seat_TTok,
  all_nil,
  all_nil,
  all_cons (body_ok Try.func54 (by kernel_rfl)) (all_nil)⟩
theorem slices_Min_int_int_L6good : LoopGood Try.prog seat_GL slices_Min_int_int_L6E.nimp (baseOK Try.prog slices_Min_int_int_L6E.iter 54) (nodeC Try.f54 6) (pieceL slices_Min_int_int_L6I slices_Min_int_int_L6O (loopT slices_Min_int_int_L6S)) :=
  loopGood_of seat_mo slices_Min_int_int_L6Eok Try.func54 (by kernel_rfl) (by kernel_rfl) (by kernel_rfl) (by kernel_rfl) (fun _ => rfl)
noncomputable def slices_Min_int_int_E : Env := { tt := seat_TT, glob := seat_GL, spec := [], body := [(54, Try.f54)], loops := [((54, 6), pieceL slices_Min_int_int_L6I slices_Min_int_int_L6O (loopT slices_Min_int_int_L6S))], nimp := 0 }
noncomputable def slices_Min_int_int_T (ps : List PV) : TR := funcT slices_Min_int_int_E 54 Try.f54 true slices_Min_int_int_I slices_Min_int_int_O ps
theorem slices_Min_int_int_Eok : EnvOK slices_Min_int_int_E Try.prog := ⟨tok_of seat_TTok,
  all_nil,
  all_cons (loop_ok Try.func54 (by kernel_rfl) (by kernel_rfl) slices_Min_int_int_L6good) (all_nil),
  all_cons (body_ok Try.func54 (by kernel_rfl)) (all_nil)⟩
theorem slices_Min_int_int_spec : Spec Try.prog seat_GL 54 (specG slices_Min_int_int_I slices_Min_int_int_O slices_Min_int_int_T) := spec_of seat_mo slices_Min_int_int_Eok Try.func54 (by kernel_rfl) (by kernel_rfl) (fun _ => rfl)

/-! 36 metrolab/runout.radii -/
def runout_radii_I : FIn := { args := [(.agg [(.int .i64), (.int .i64)]), (.imm [(.sl [(.int .i64), (.int .i64)])])], h := [] }
def runout_radii_O : List FOut := [{ res := (.tuple [(.int .i64), (.int .i64)]), h := [] }]
def runout_radii_L10I : Tmpl := { t := [.any, .any, (.ptr 0 0), .any, .any, .any, (.vec 1), .any, .any, .any, .any, .any, .any, (.imm [(.sl [(.int .i64), (.int .i64)])]), (.int .i64), (.int .i64), .any, .any, .any, (.imm [(.int .i64), (.int .i64)]), (.int .i64), (.int .i64), .any, .any, .any, .any, .any, .any, .any, .any, .any, .any, .any, .any, .any, .any, .any, .any, .any, .any, .any, .any, .any, .any, .any, .any, .any, .any, .any, .any, .any], h := [.cells [(.int .i64), (.int .i64)], .vec 3 [(.int .i64)]] }
def runout_radii_L10O : List Out := [{ x := (.exit 2), tm := { t := [.any, .any, (.ptr 0 0), .any, .any, .any, (.vec 1), .any, .any, .any, .any, .any, .any, (.imm [(.sl [(.int .i64), (.int .i64)])]), (.int .i64), (.int .i64), .any, .any, .any, .any, .any, .any, .any, .any, .any, .any, .any, .any, .any, .any, .any, .any, .any, .any, .any, .any, .any, .any, .any, .any, .any, .any, .any, .any, .any, .any, .any, .any, .any, .any, .any], h := [.cells [(.int .i64), (.int .i64)], .vec 3 [(.int .i64)]] } }]
noncomputable def runout_radii_L10E : Env := { tt := seat_TT, glob := seat_GL, spec := [(53, specG slices_Max_int_int_I slices_Max_int_int_O slices_Max_int_int_T), (54, specG slices_Min_int_int_I slices_Min_int_int_O slices_Min_int_int_T)], body := [(36, Try.f36)], loops := [], nimp := 0 }
noncomputable def runout_radii_L10S (ps : List PV) : TR := stepT runout_radii_L10E 36 Try.f36 10 runout_radii_L10I runout_radii_L10O ps
theorem runout_radii_L10Eok : EnvOK runout_radii_L10E Try.prog := ⟨tok_of seat_TTok,
  all_cons slices_Max_int_int_spec (all_cons slices_Min_int_int_spec (all_nil)),
  all_nil,
  all_cons (body_ok Try.func36 (by kernel_rfl)) (all_nil)⟩
theorem runout_radii_L10good : LoopGood Try.prog seat_GL runout_radii_L10E.nimp (baseOK Try.prog runout_radii_L10E.iter 36) (nodeC Try.f36 10) (pieceL runout_radii_L10I runout_radii_L10O (loopT runout_radii_L10S)) :=
  loopGood_of seat_mo runout_radii_L10Eok Try.func36 (by kernel_rfl) (by kernel_rfl) (by kernel_rfl) (by kernel_rfl) (fun _ => rfl)
def runout_radii_L4I : Tmpl := { t := [.any, .any, (.ptr 0 0), .any, .any, .any, (.vec 1), .any, .any, .any, .any, .any, .any, (.imm [(.sl [(.int .i64), (.int .i64)])]), (.int .i64), (.int .i64), .any, .any, .any, .any, .any, .any, .any, .any, .any, .any, .any, .any, .any, .any, .any, .any, .any, .any, .any, .any, .any, .any, .any, .any, .any, .any, .any, .any, .any, .any, .any, .any, .any, .any, .any], h := [.cells [(.int .i64), (.int .i64)], .vec 3 [(.int .i64)]], pro := [(6, 3, [(.int .i64)])] }
def runout_radii_L4O : List Out := [{ x := (.exit 0), tm := { t := [.any, .any, .any, .any, .any, .any, (.vec 1), .any, .any, .any, .any, .any, .any, .any, .any, .any, .any, .any, .any, .any, .any, .any, .any, .any, .any, .any, .any, .any, .any, .any, .any, .any, .any, .any, .any, .any, .any, .any, .any, .any, .any, .any, .any, .any, .any, .any, .any, .any, .any, .any, .any], h := [.dead, .vec 3 [(.int .i64)]] } }]
noncomputable def runout_radii_L4E : Env := { tt := seat_TT, glob := seat_GL, spec := [(53, specG slices_Max_int_int_I slices_Max_int_int_O slices_Max_int_int_T), (54, specG slices_Min_int_int_I slices_Min_int_int_O slices_Min_int_int_T)], body := [(36, Try.f36)], loops := [((36, 10), pieceL runout_radii_L10I runout_radii_L10O (loopT runout_radii_L10S))], nimp := 0 }
noncomputable def runout_radii_L4S (ps : List PV) : TR := stepT runout_radii_L4E 36 Try.f36 4 runout_radii_L4I runout_radii_L4O ps
theorem runout_radii_L4Eok : EnvOK runout_radii_L4E Try.prog := ⟨tok_of seat_TTok,
  all_cons slices_Max_int_int_spec (all_cons slices_Min_int_int_spec (all_nil)),
  all_cons (loop_ok Try.func36 (by kernel_rfl) (by kernel_rfl) runout_radii_L10good) (all_nil),
  all_cons (body_ok Try.func36 (by kernel_rfl)) (all_nil)⟩
theorem runout_radii_L4good : LoopGood Try.prog seat_GL runout_radii_L4E.nimp (baseOK Try.prog runout_radii_L4E.iter 36) (nodeC Try.f36 4) (pieceL runout_radii_L4I runout_radii_L4O (loopT runout_radii_L4S)) :=
  loopGood_of seat_mo runout_radii_L4Eok Try.func36 (by kernel_rfl) (by kernel_rfl) (by kernel_rfl) (by kernel_rfl) (fun _ => rfl)
noncomputable def runout_radii_E : Env := { tt := seat_TT, glob := seat_GL, spec := [(53, specG slices_Max_int_int_I slices_Max_int_int_O slices_Max_int_int_T), (54, specG slices_Min_int_int_I slices_Min_int_int_O slices_Min_int_int_T)], body := [(36, Try.f36)], loops := [((36, 4), pieceL runout_radii_L4I runout_radii_L4O (loopT runout_radii_L4S))], nimp := 0 }
noncomputable def runout_radii_T (ps : List PV) : TR := funcT runout_radii_E 36 Try.f36 true runout_radii_I runout_radii_O ps
theorem runout_radii_Eok : EnvOK runout_radii_E Try.prog := ⟨tok_of seat_TTok,
  all_cons slices_Max_int_int_spec (all_cons slices_Min_int_int_spec (all_nil)),
  all_cons (loop_ok Try.func36 (by kernel_rfl) (by kernel_rfl) runout_radii_L4good) (all_nil),
  all_cons (body_ok Try.func36 (by kernel_rfl)) (all_nil)⟩
theorem runout_radii_spec : Spec Try.prog seat_GL 36 (specG runout_radii_I runout_radii_O runout_radii_T) := spec_of seat_mo runout_radii_Eok Try.func36 (by kernel_rfl) (by kernel_rfl) (fun _ => rfl)

/-! 14 metrolab/runout.Radii -/
def runout_Radii_I : FIn := { args := [(.imm [(.int .i64), (.int .i64)]), (.agg [(.int .i64), (.int .i64)])], h := [] }
def runout_Radii_O : List FOut := [{ res := (.tuple [(.int .i64), (.int .i64), (.int .i64)]), h := [] }]
noncomputable def runout_Radii_E : Env := { tt := seat_TT, glob := seat_GL, spec := [(34, specG vector_Check_I vector_Check_O vector_Check_T), (35, specG runout_right_I runout_right_O runout_right_T), (36, specG runout_radii_I runout_radii_O runout_radii_T)], body := [(14, Try.f14)], loops := [], nimp := 0 }
noncomputable def runout_Radii_T (ps : List PV) : TR := funcT runout_Radii_E 14 Try.f14 true runout_Radii_I runout_Radii_O ps
theorem runout_Radii_Eok : EnvOK runout_Radii_E Try.prog := ⟨tok_of seat_TTok,
  all_cons vector_Check_spec (all_cons runout_right_spec (all_cons runout_radii_spec (all_nil))),
  all_nil,
  all_cons (body_ok Try.func14 (by kernel_rfl)) (all_nil)⟩
theorem runout_Radii_spec : Spec Try.prog seat_GL 14 (specG runout_Radii_I runout_Radii_O runout_Radii_T) := spec_of seat_mo runout_Radii_Eok Try.func14 (by kernel_rfl) (by kernel_rfl) (fun _ => rfl)

/-! 42 metrolab/runout.tolerance -/
def runout_tolerance_I : FIn := { args := [(.int .i64)], h := [] }
def runout_tolerance_O : List FOut := [{ res := .bool, h := [] }]
noncomputable def runout_tolerance_E : Env := { tt := seat_TT, glob := seat_GL, spec := [], body := [(42, Try.f42)], loops := [], nimp := 0 }
noncomputable def runout_tolerance_T (ps : List PV) : TR := funcT runout_tolerance_E 42 Try.f42 true runout_tolerance_I runout_tolerance_O ps
theorem runout_tolerance_Eok : EnvOK runout_tolerance_E Try.prog := ⟨tok_of seat_TTok,
  all_nil,
  all_nil,
  all_cons (body_ok Try.func42 (by kernel_rfl)) (all_nil)⟩
theorem runout_tolerance_spec : Spec Try.prog seat_GL 42 (specG runout_tolerance_I runout_tolerance_O runout_tolerance_T) := spec_of seat_mo runout_tolerance_Eok Try.func42 (by kernel_rfl) (by kernel_rfl) (fun _ => rfl)

/-! 63 metrolab/runout.times -/
def runout_times_I : FIn := { args := [(.int .i64), (.int .i64)], h := [] }
def runout_times_O : List FOut := [{ res := (.agg [(.int .i64), (.int .i64)]), h := [] }]
noncomputable def runout_times_E : Env := { tt := seat_TT, glob := seat_GL, spec := [], body := [(63, Try.f63)], loops := [], nimp := 0 }
noncomputable def runout_times_T (ps : List PV) : TR := funcT runout_times_E 63 Try.f63 true runout_times_I runout_times_O ps
theorem runout_times_Eok : EnvOK runout_times_E Try.prog := ⟨tok_of seat_TTok,
  all_nil,
  all_nil,
  all_cons (body_ok Try.func63 (by kernel_rfl)) (all_nil)⟩
theorem runout_times_spec : Spec Try.prog seat_GL 63 (specG runout_times_I runout_times_O runout_times_T) := spec_of seat_mo runout_times_Eok Try.func63 (by kernel_rfl) (by kernel_rfl) (fun _ => rfl)

/-! 64 (metrolab/runout.wide).most -/
def runout_wide_most_I : FIn := { args := [(.agg [(.int .i64), (.int .i64)]), (.agg [(.int .i64), (.int .i64)])], h := [] }
def runout_wide_most_O : List FOut := [{ res := .bool, h := [] }]
noncomputable def runout_wide_most_E : Env := { tt := seat_TT, glob := seat_GL, spec := [], body := [(64, Try.f64)], loops := [], nimp := 0 }
noncomputable def runout_wide_most_T (ps : List PV) : TR := funcT runout_wide_most_E 64 Try.f64 true runout_wide_most_I runout_wide_most_O ps
theorem runout_wide_most_Eok : EnvOK runout_wide_most_E Try.prog := ⟨tok_of seat_TTok,
  all_nil,
  all_nil,
  all_cons (body_ok Try.func64 (by kernel_rfl)) (all_nil)⟩
theorem runout_wide_most_spec : Spec Try.prog seat_GL 64 (specG runout_wide_most_I runout_wide_most_O runout_wide_most_T) := spec_of seat_mo runout_wide_most_Eok Try.func64 (by kernel_rfl) (by kernel_rfl) (fun _ => rfl)

/-! 43 metrolab/runout.near -/
def runout_near_I : FIn := { args := [(.int .i64), (.int .i64), (.int .i64)], h := [] }
def runout_near_O : List FOut := [{ res := .bool, h := [] }]
noncomputable def runout_near_E : Env := { tt := seat_TT, glob := seat_GL, spec := [(63, specG runout_times_I runout_times_O runout_times_T), (64, specG runout_wide_most_I runout_wide_most_O runout_wide_most_T)], body := [(43, Try.f43)], loops := [], nimp := 0 }
noncomputable def runout_near_T (ps : List PV) : TR := funcT runout_near_E 43 Try.f43 true runout_near_I runout_near_O ps
theorem runout_near_Eok : EnvOK runout_near_E Try.prog := ⟨tok_of seat_TTok,
  all_cons runout_times_spec (all_cons runout_wide_most_spec (all_nil)),
  all_nil,
  all_cons (body_ok Try.func43 (by kernel_rfl)) (all_nil)⟩
theorem runout_near_spec : Spec Try.prog seat_GL 43 (specG runout_near_I runout_near_O runout_near_T) := spec_of seat_mo runout_near_Eok Try.func43 (by kernel_rfl) (by kernel_rfl) (fun _ => rfl)

/-! 18 metrolab/runout.Differ -/
def runout_Differ_I : FIn := { args := [(.int .i64), (.int .i64), (.int .i64)], h := [] }
def runout_Differ_O : List FOut := [{ res := (.tuple [.bool, (.int .i64)]), h := [] }]
noncomputable def runout_Differ_E : Env := { tt := seat_TT, glob := seat_GL, spec := [(42, specG runout_tolerance_I runout_tolerance_O runout_tolerance_T), (43, specG runout_near_I runout_near_O runout_near_T)], body := [(18, Try.f18)], loops := [], nimp := 0 }
noncomputable def runout_Differ_T (ps : List PV) : TR := funcT runout_Differ_E 18 Try.f18 true runout_Differ_I runout_Differ_O ps
theorem runout_Differ_Eok : EnvOK runout_Differ_E Try.prog := ⟨tok_of seat_TTok,
  all_cons runout_tolerance_spec (all_cons runout_near_spec (all_nil)),
  all_nil,
  all_cons (body_ok Try.func18 (by kernel_rfl)) (all_nil)⟩
theorem runout_Differ_spec : Spec Try.prog seat_GL 18 (specG runout_Differ_I runout_Differ_O runout_Differ_T) := spec_of seat_mo runout_Differ_Eok Try.func18 (by kernel_rfl) (by kernel_rfl) (fun _ => rfl)

/-! 62 metrolab/runout.section -/
def runout_section_I : FIn := { args := [(.agg [(.int .i64), (.imm [(.int .i64), (.int .i64)])]), (.mptr [(.int .i64), (.sl [(.int .i64), (.int .i64)])] 0)], h := [] }
def runout_section_O : List FOut := [{ res := (.int .i64), h := [] }]
noncomputable def runout_section_E : Env := { tt := seat_TT, glob := seat_GL, spec := [(34, specG vector_Check_I vector_Check_O vector_Check_T)], body := [(62, Try.f62)], loops := [], nimp := 0 }
noncomputable def runout_section_T (ps : List PV) : TR := funcT runout_section_E 62 Try.f62 true runout_section_I runout_section_O ps
theorem runout_section_Eok : EnvOK runout_section_E Try.prog := ⟨tok_of seat_TTok,
  all_cons vector_Check_spec (all_nil),
  all_nil,
  all_cons (body_ok Try.func62 (by kernel_rfl)) (all_nil)⟩
theorem runout_section_spec : Spec Try.prog seat_GL 62 (specG runout_section_I runout_section_O runout_section_T) := spec_of seat_mo runout_section_Eok Try.func62 (by kernel_rfl) (by kernel_rfl) (fun _ => rfl)

/-! 16 metrolab/runout.Check -/
def runout_Check_I : FIn := { args := [(.imm [(.int .i64), (.sl [(.int .i64), (.int .i64)])])], h := [] }
def runout_Check_O : List FOut := [{ res := (.int .i64), h := [] }]
def runout_Check_G61L2I : Tmpl := { t := [.yld, (.ptr 1 0), .any, (.mptr [(.int .i64), (.sl [(.int .i64), (.int .i64)])] 0), .any, .any, (.int .i64), (.int .i64), .any, .any, .any, .any, .any, .any, .any, .any, .any, .any, .any, .any, .any, .any, .any], h := [.cells [(.int .i64)], .cells [(.imm [(.int .i64), (.sl [(.int .i64), (.int .i64)])])]], fs := [[.any, .any, (.ptr 0 0), .any, .any, .any, .any, .any, .any, .any, .any, (.fn 61 [] [(.ptr 1 0)]), .any, .any, .any, .any], []] }
def runout_Check_G61L2O : List Out := [{ x := (.exit 0), tm := { t := [.any, .any, .any, .any, .any, .any, .any, .any, .any, .any, .any, .any, .any, .any, .any, .any, .any, .any, .any, .any, .any, .any, .any], h := [.cells [(.int .i64)], .cells [(.imm [(.int .i64), (.sl [(.int .i64), (.int .i64)])])]], fs := [[.any, .any, (.ptr 0 0), .any, .any, .any, .any, .any, .any, .any, .any, (.fn 61 [] [(.ptr 1 0)]), .any, .any, .any, .any], []] } }, { x := .ret, tm := { t := [.any, .any, .any, .any, .any, .any, .any, .any, .any, .any, .any, .any, .any, .any, .any, .any, .any, .any, .any, .any, .any, .any, .any], h := [.cells [(.int .i64)], .cells [(.imm [(.int .i64), (.sl [(.int .i64), (.int .i64)])])]], fs := [[.any, .any, (.ptr 0 0), .any, .any, .any, .any, .any, .any, .any, .any, (.fn 61 [] [(.ptr 1 0)]), .any, .any, .any, .any], []], pend := (.some .ret) } }]
noncomputable def runout_Check_G61L2E : Env := { tt := seat_TT, glob := seat_GL, spec := [(62, specG runout_section_I runout_section_O runout_section_T)], body := [(16, Try.f16), (39, Try.f39), (61, Try.f61)], loops := [], nimp := 0, iter := [(61, 16, 9)] }
noncomputable def runout_Check_G61L2S (ps : List PV) : TR := stepTY runout_Check_G61L2E (some (16, Try.f16, 9)) 61 Try.f61 2 runout_Check_G61L2I runout_Check_G61L2O ps
theorem runout_Check_G61L2Eok : EnvOK runout_Check_G61L2E Try.prog := ⟨tok_of seat_TTok,
  all_cons runout_section_spec (all_nil),
  all_nil,
  all_cons (body_ok Try.func16 (by kernel_rfl)) (all_cons (body_ok Try.func39 (by kernel_rfl)) (all_cons (body_ok Try.func61 (by kernel_rfl)) (all_nil)))⟩
theorem runout_Check_G61L2good : LoopGood Try.prog seat_GL runout_Check_G61L2E.nimp (baseOK Try.prog runout_Check_G61L2E.iter 61) (nodeC Try.f61 2) (pieceL runout_Check_G61L2I runout_Check_G61L2O (loopT runout_Check_G61L2S)) :=
  loopGood_ofY seat_mo runout_Check_G61L2Eok Try.func61 (by kernel_rfl) (y := some (16, Try.f16, 9)) ⟨Try.func16, by kernel_rfl⟩ (by kernel_rfl) (by kernel_rfl) (fun _ => rfl)
noncomputable def runout_Check_E : Env := { tt := seat_TT, glob := seat_GL, spec := [(62, specG runout_section_I runout_section_O runout_section_T)], body := [(16, Try.f16), (39, Try.f39), (61, Try.f61)], loops := [((61, 2), pieceL runout_Check_G61L2I runout_Check_G61L2O (loopT runout_Check_G61L2S))], nimp := 0, iter := [(61, 16, 9)] }
noncomputable def runout_Check_T (ps : List PV) : TR := funcT runout_Check_E 16 Try.f16 true runout_Check_I runout_Check_O ps
theorem runout_Check_Eok : EnvOK runout_Check_E Try.prog := ⟨tok_of seat_TTok,
  all_cons runout_section_spec (all_nil),
  all_cons (loop_ok Try.func61 (by kernel_rfl) (by kernel_rfl) runout_Check_G61L2good) (all_nil),
  all_cons (body_ok Try.func16 (by kernel_rfl)) (all_cons (body_ok Try.func39 (by kernel_rfl)) (all_cons (body_ok Try.func61 (by kernel_rfl)) (all_nil)))⟩
theorem runout_Check_spec : Spec Try.prog seat_GL 16 (specG runout_Check_I runout_Check_O runout_Check_T) := spec_of seat_mo runout_Check_Eok Try.func16 (by kernel_rfl) (by kernel_rfl) (fun _ => rfl)

/-! 46 metrolab/runout.check -/
def runout_check_I : FIn := { args := [(.imm [(.int .i64), (.sl [(.int .i64), (.int .i64)])]), (.agg [(.int .i64), (.int .i64)])], h := [] }
def runout_check_O : List FOut := [{ res := (.int .i64), h := [] }]
noncomputable def runout_check_E : Env := { tt := seat_TT, glob := seat_GL, spec := [(16, specG runout_Check_I runout_Check_O runout_Check_T), (35, specG runout_right_I runout_right_O runout_right_T)], body := [(46, Try.f46)], loops := [], nimp := 0 }
noncomputable def runout_check_T (ps : List PV) : TR := funcT runout_check_E 46 Try.f46 true runout_check_I runout_check_O ps
theorem runout_check_Eok : EnvOK runout_check_E Try.prog := ⟨tok_of seat_TTok,
  all_cons runout_Check_spec (all_cons runout_right_spec (all_nil)),
  all_nil,
  all_cons (body_ok Try.func46 (by kernel_rfl)) (all_nil)⟩
theorem runout_check_spec : Spec Try.prog seat_GL 46 (specG runout_check_I runout_check_O runout_check_T) := spec_of seat_mo runout_check_Eok Try.func46 (by kernel_rfl) (by kernel_rfl) (fun _ => rfl)

/-! 20 metrolab/runout.Circular -/
def runout_Circular_I : FIn := { args := [(.imm [(.int .i64), (.sl [(.int .i64), (.int .i64)])]), (.agg [(.int .i64), (.int .i64)]), (.int .i64)], h := [] }
def runout_Circular_O : List FOut := [{ res := (.tuple [.bool, (.int .i64), (.int .i64)]), h := [] }]
def runout_Circular_L10I : Tmpl := { t := [(.imm [(.int .i64), (.sl [(.int .i64), (.int .i64)])]), .any, (.int .i64), .any, (.ptr 0 0), .any, .any, .any, .any, .any, .any, .any, .any, .any, .any, .any, .any, .any, .any, .any, .any, .any, .any, (.imm [(.int .i64), (.sl [(.int .i64), (.int .i64)])]), (.int .i64), (.int .i64), .any, .any, .any, .any, .any, .any, .any, .any, .any, .any, .any, .any, .any, .any, .any, .any, .any, .any, .any, .any, .any], h := [.cells [(.int .i64), (.int .i64)]] }
def runout_Circular_L10O : List Out := [{ x := (.exit 0), tm := { t := [(.imm [(.int .i64), (.sl [(.int .i64), (.int .i64)])]), .any, .any, .any, .any, .any, .any, .any, .any, .any, .any, .any, .any, .any, .any, .any, .any, .any, .any, .any, .any, .any, .any, .any, .any, .any, .any, .any, .any, .any, .any, .any, .any, .any, .any, .any, .any, .any, .any, .any, .any, .any, .any, .any, .any, .any, .any], h := [] } }, { x := .ret, tm := { t := [.any, .any, .any, .any, .any, .any, .bool, (.int .i64), (.int .i64), .any, .any, .any, .any, .any, .any, .any, .any, .any, .any, .any, .any, .any, .any, .any, .any, .any, .any, .any, .any, .any, .any, .any, .any, .any, .any, .any, .any, .any, .any, .any, .any, .any, .any, .any, .any, .any, .any], h := [] } }]
noncomputable def runout_Circular_L10E : Env := { tt := seat_TT, glob := seat_GL, spec := [(36, specG runout_radii_I runout_radii_O runout_radii_T), (42, specG runout_tolerance_I runout_tolerance_O runout_tolerance_T), (43, specG runout_near_I runout_near_O runout_near_T), (46, specG runout_check_I runout_check_O runout_check_T)], body := [(20, Try.f20)], loops := [], nimp := 0 }
noncomputable def runout_Circular_L10S (ps : List PV) : TR := stepT runout_Circular_L10E 20 Try.f20 10 runout_Circular_L10I runout_Circular_L10O ps
theorem runout_Circular_L10Eok : EnvOK runout_Circular_L10E Try.prog := ⟨tok_of seat_TTok,
  all_cons runout_radii_spec (all_cons runout_tolerance_spec (all_cons runout_near_spec (all_cons runout_check_spec (all_nil)))),
  all_nil,
  all_cons (body_ok Try.func20 (by kernel_rfl)) (all_nil)⟩
theorem runout_Circular_L10good : LoopGood Try.prog seat_GL runout_Circular_L10E.nimp (baseOK Try.prog runout_Circular_L10E.iter 20) (nodeC Try.f20 10) (pieceL runout_Circular_L10I runout_Circular_L10O (loopT runout_Circular_L10S)) :=
  loopGood_of seat_mo runout_Circular_L10Eok Try.func20 (by kernel_rfl) (by kernel_rfl) (by kernel_rfl) (by kernel_rfl) (fun _ => rfl)
noncomputable def runout_Circular_E : Env := { tt := seat_TT, glob := seat_GL, spec := [(36, specG runout_radii_I runout_radii_O runout_radii_T), (42, specG runout_tolerance_I runout_tolerance_O runout_tolerance_T), (43, specG runout_near_I runout_near_O runout_near_T), (46, specG runout_check_I runout_check_O runout_check_T)], body := [(20, Try.f20)], loops := [((20, 10), pieceL runout_Circular_L10I runout_Circular_L10O (loopT runout_Circular_L10S))], nimp := 0 }
noncomputable def runout_Circular_T (ps : List PV) : TR := funcT runout_Circular_E 20 Try.f20 true runout_Circular_I runout_Circular_O ps
theorem runout_Circular_Eok : EnvOK runout_Circular_E Try.prog := ⟨tok_of seat_TTok,
  all_cons runout_radii_spec (all_cons runout_tolerance_spec (all_cons runout_near_spec (all_cons runout_check_spec (all_nil)))),
  all_cons (loop_ok Try.func20 (by kernel_rfl) (by kernel_rfl) runout_Circular_L10good) (all_nil),
  all_cons (body_ok Try.func20 (by kernel_rfl)) (all_nil)⟩
theorem runout_Circular_spec : Spec Try.prog seat_GL 20 (specG runout_Circular_I runout_Circular_O runout_Circular_T) := spec_of seat_mo runout_Circular_Eok Try.func20 (by kernel_rfl) (by kernel_rfl) (fun _ => rfl)

/-! 49 metrolab/runout.ends -/
def runout_ends_I : FIn := { args := [(.imm [(.int .i64), (.sl [(.int .i64), (.int .i64)])]), (.agg [(.int .i64), (.int .i64)])], h := [] }
def runout_ends_O : List FOut := [{ res := (.tuple [(.int .i64), (.int .i64)]), h := [] }]
def runout_ends_L4I : Tmpl := { t := [.any, .any, .any, (.ptr 0 0), .any, .any, (.vec 1), .any, .any, (.imm [(.int .i64), (.sl [(.int .i64), (.int .i64)])]), (.int .i64), (.int .i64), .any, .any, .any, .any, .any, .any, .any, .any, .any, .any, .any, .any, .any, .any], h := [.cells [(.int .i64), (.int .i64)], .vec 23 [(.sl [(.int .i64), (.int .i64)])]], pro := [(6, 23, [(.sl [(.int .i64), (.int .i64)])])] }
def runout_ends_L4O : List Out := [{ x := (.exit 0), tm := { t := [.any, .any, .any, (.ptr 0 0), .any, .any, (.vec 1), .any, .any, .any, .any, .any, .any, .any, .any, .any, .any, .any, .any, .any, .any, .any, .any, .any, .any, .any], h := [.cells [(.int .i64), (.int .i64)], .vec 23 [(.sl [(.int .i64), (.int .i64)])]] } }]
noncomputable def runout_ends_L4E : Env := { tt := seat_TT, glob := seat_GL, spec := [(36, specG runout_radii_I runout_radii_O runout_radii_T)], body := [(49, Try.f49)], loops := [], nimp := 0 }
noncomputable def runout_ends_L4S (ps : List PV) : TR := stepT runout_ends_L4E 49 Try.f49 4 runout_ends_L4I runout_ends_L4O ps
theorem runout_ends_L4Eok : EnvOK runout_ends_L4E Try.prog := ⟨tok_of seat_TTok,
  all_cons runout_radii_spec (all_nil),
  all_nil,
  all_cons (body_ok Try.func49 (by kernel_rfl)) (all_nil)⟩
theorem runout_ends_L4good : LoopGood Try.prog seat_GL runout_ends_L4E.nimp (baseOK Try.prog runout_ends_L4E.iter 49) (nodeC Try.f49 4) (pieceL runout_ends_L4I runout_ends_L4O (loopT runout_ends_L4S)) :=
  loopGood_of seat_mo runout_ends_L4Eok Try.func49 (by kernel_rfl) (by kernel_rfl) (by kernel_rfl) (by kernel_rfl) (fun _ => rfl)
noncomputable def runout_ends_E : Env := { tt := seat_TT, glob := seat_GL, spec := [(36, specG runout_radii_I runout_radii_O runout_radii_T)], body := [(49, Try.f49)], loops := [((49, 4), pieceL runout_ends_L4I runout_ends_L4O (loopT runout_ends_L4S))], nimp := 0 }
noncomputable def runout_ends_T (ps : List PV) : TR := funcT runout_ends_E 49 Try.f49 true runout_ends_I runout_ends_O ps
theorem runout_ends_Eok : EnvOK runout_ends_E Try.prog := ⟨tok_of seat_TTok,
  all_cons runout_radii_spec (all_nil),
  all_cons (loop_ok Try.func49 (by kernel_rfl) (by kernel_rfl) runout_ends_L4good) (all_nil),
  all_cons (body_ok Try.func49 (by kernel_rfl)) (all_nil)⟩
theorem runout_ends_spec : Spec Try.prog seat_GL 49 (specG runout_ends_I runout_ends_O runout_ends_T) := spec_of seat_mo runout_ends_Eok Try.func49 (by kernel_rfl) (by kernel_rfl) (fun _ => rfl)

/-! 22 metrolab/runout.Total -/
def runout_Total_I : FIn := { args := [(.imm [(.int .i64), (.sl [(.int .i64), (.int .i64)])]), (.agg [(.int .i64), (.int .i64)]), (.int .i64)], h := [] }
def runout_Total_O : List FOut := [{ res := (.tuple [.bool, (.int .i64)]), h := [] }]
noncomputable def runout_Total_E : Env := { tt := seat_TT, glob := seat_GL, spec := [(42, specG runout_tolerance_I runout_tolerance_O runout_tolerance_T), (43, specG runout_near_I runout_near_O runout_near_T), (46, specG runout_check_I runout_check_O runout_check_T), (49, specG runout_ends_I runout_ends_O runout_ends_T)], body := [(22, Try.f22)], loops := [], nimp := 0 }
noncomputable def runout_Total_T (ps : List PV) : TR := funcT runout_Total_E 22 Try.f22 true runout_Total_I runout_Total_O ps
theorem runout_Total_Eok : EnvOK runout_Total_E Try.prog := ⟨tok_of seat_TTok,
  all_cons runout_tolerance_spec (all_cons runout_near_spec (all_cons runout_check_spec (all_cons runout_ends_spec (all_nil)))),
  all_nil,
  all_cons (body_ok Try.func22 (by kernel_rfl)) (all_nil)⟩
theorem runout_Total_spec : Spec Try.prog seat_GL 22 (specG runout_Total_I runout_Total_O runout_Total_T) := spec_of seat_mo runout_Total_Eok Try.func22 (by kernel_rfl) (by kernel_rfl) (fun _ => rfl)

/-! 24 metrolab/runout.Least -/
def runout_Least_I : FIn := { args := [(.imm [(.int .i64), (.sl [(.int .i64), (.int .i64)])]), (.agg [(.int .i64), (.int .i64)])], h := [] }
def runout_Least_O : List FOut := [{ res := (.tuple [(.int .i64), (.int .i64)]), h := [] }]
def runout_Least_L8I : Tmpl := { t := [.any, .any, .any, .any, .any, .any, .any, (.int .i64), (.int .i64), (.int .i64), (.int .i64), .any, .any, .any, .any, .any, .any, .any, .any, .any, .any, .any, .any, .any, .any, .any, .any, .any, .any, .any, .any, .any, .any, .any, .any, .any, .any, .any, .any], h := [] }
def runout_Least_L8O : List Out := [{ x := (.exit 0), tm := { t := [.any, .any, .any, .any, .any, .any, .any, .any, .any, (.int .i64), .any, .any, .any, .any, .any, .any, .any, .any, .any, .any, .any, .any, .any, .any, .any, .any, .any, .any, .any, .any, .any, .any, .any, .any, .any, .any, .any, .any, .any], h := [] } }]
noncomputable def runout_Least_L8E : Env := { tt := seat_TT, glob := seat_GL, spec := [(43, specG runout_near_I runout_near_O runout_near_T), (46, specG runout_check_I runout_check_O runout_check_T), (49, specG runout_ends_I runout_ends_O runout_ends_T)], body := [(24, Try.f24)], loops := [], nimp := 0 }
noncomputable def runout_Least_L8S (ps : List PV) : TR := stepT runout_Least_L8E 24 Try.f24 8 runout_Least_L8I runout_Least_L8O ps
theorem runout_Least_L8Eok : EnvOK runout_Least_L8E Try.prog := ⟨tok_of seat_TTok,
  all_cons runout_near_spec (all_cons runout_check_spec (all_cons runout_ends_spec (all_nil))),
  all_nil,
  all_cons (body_ok Try.func24 (by kernel_rfl)) (all_nil)⟩
theorem runout_Least_L8good : LoopGood Try.prog seat_GL runout_Least_L8E.nimp (baseOK Try.prog runout_Least_L8E.iter 24) (nodeC Try.f24 8) (pieceL runout_Least_L8I runout_Least_L8O (loopT runout_Least_L8S)) :=
  loopGood_of seat_mo runout_Least_L8Eok Try.func24 (by kernel_rfl) (by kernel_rfl) (by kernel_rfl) (by kernel_rfl) (fun _ => rfl)
noncomputable def runout_Least_E : Env := { tt := seat_TT, glob := seat_GL, spec := [(43, specG runout_near_I runout_near_O runout_near_T), (46, specG runout_check_I runout_check_O runout_check_T), (49, specG runout_ends_I runout_ends_O runout_ends_T)], body := [(24, Try.f24)], loops := [((24, 8), pieceL runout_Least_L8I runout_Least_L8O (loopT runout_Least_L8S))], nimp := 0 }
noncomputable def runout_Least_T (ps : List PV) : TR := funcT runout_Least_E 24 Try.f24 true runout_Least_I runout_Least_O ps
theorem runout_Least_Eok : EnvOK runout_Least_E Try.prog := ⟨tok_of seat_TTok,
  all_cons runout_near_spec (all_cons runout_check_spec (all_cons runout_ends_spec (all_nil))),
  all_cons (loop_ok Try.func24 (by kernel_rfl) (by kernel_rfl) runout_Least_L8good) (all_nil),
  all_cons (body_ok Try.func24 (by kernel_rfl)) (all_nil)⟩
theorem runout_Least_spec : Spec Try.prog seat_GL 24 (specG runout_Least_I runout_Least_O runout_Least_T) := spec_of seat_mo runout_Least_Eok Try.func24 (by kernel_rfl) (by kernel_rfl) (fun _ => rfl)

/-! 33 metrolab/metrolablaw38.Turned -/
def law38_Turned_I : FIn := { args := [], h := [] }
def law38_Turned_O : List FOut := [{ res := (.imm [(.int .i64), (.sl [(.int .i64), (.int .i64)])]), h := [] }]
noncomputable def law38_Turned_E : Env := { tt := seat_TT, glob := seat_GL, spec := [], body := [(33, Try.f33)], loops := [], nimp := 0 }
noncomputable def law38_Turned_T (ps : List PV) : TR := funcT law38_Turned_E 33 Try.f33 true law38_Turned_I law38_Turned_O ps
theorem law38_Turned_Eok : EnvOK law38_Turned_E Try.prog := ⟨tok_of seat_TTok,
  all_nil,
  all_nil,
  all_cons (body_ok Try.func33 (by kernel_rfl)) (all_nil)⟩
theorem law38_Turned_spec : Spec Try.prog seat_GL 33 (specG law38_Turned_I law38_Turned_O law38_Turned_T) := spec_of seat_mo law38_Turned_Eok Try.func33 (by kernel_rfl) (by kernel_rfl) (fun _ => rfl)

/-! 13 metrolab/metrolablaw38.awake -/
def law38_awake_I : FIn := { args := [], h := [] }
def law38_awake_O : List FOut := [{ res := .bool, h := [] }]
noncomputable def law38_awake_E : Env := { tt := seat_TT, glob := seat_GL, spec := [(14, specG runout_Radii_I runout_Radii_O runout_Radii_T), (18, specG runout_Differ_I runout_Differ_O runout_Differ_T), (20, specG runout_Circular_I runout_Circular_O runout_Circular_T), (22, specG runout_Total_I runout_Total_O runout_Total_T), (24, specG runout_Least_I runout_Least_O runout_Least_T), (33, specG law38_Turned_I law38_Turned_O law38_Turned_T)], body := [(13, Try.f13)], loops := [], nimp := 0 }
noncomputable def law38_awake_T (ps : List PV) : TR := funcT law38_awake_E 13 Try.f13 true law38_awake_I law38_awake_O ps
theorem law38_awake_Eok : EnvOK law38_awake_E Try.prog := ⟨tok_of seat_TTok,
  all_cons runout_Radii_spec (all_cons runout_Differ_spec (all_cons runout_Circular_spec (all_cons runout_Total_spec (all_cons runout_Least_spec (all_cons law38_Turned_spec (all_nil)))))),
  all_nil,
  all_cons (body_ok Try.func13 (by kernel_rfl)) (all_nil)⟩
theorem law38_awake_spec : Spec Try.prog seat_GL 13 (specG law38_awake_I law38_awake_O law38_awake_T) := spec_of seat_mo law38_awake_Eok Try.func13 (by kernel_rfl) (by kernel_rfl) (fun _ => rfl)

/-! 51 metrolab/metrolabref07.in -/
def ref07_in_I : FIn := { args := [(.int .i64)], h := [] }
def ref07_in_O : List FOut := [{ res := .bool, h := [] }]
noncomputable def ref07_in_E : Env := { tt := seat_TT, glob := seat_GL, spec := [], body := [(51, Try.f51)], loops := [], nimp := 0 }
noncomputable def ref07_in_T (ps : List PV) : TR := funcT ref07_in_E 51 Try.f51 true ref07_in_I ref07_in_O ps
theorem ref07_in_Eok : EnvOK ref07_in_E Try.prog := ⟨tok_of seat_TTok,
  all_nil,
  all_nil,
  all_cons (body_ok Try.func51 (by kernel_rfl)) (all_nil)⟩
theorem ref07_in_spec : Spec Try.prog seat_GL 51 (specG ref07_in_I ref07_in_O ref07_in_T) := spec_of seat_mo ref07_in_Eok Try.func51 (by kernel_rfl) (by kernel_rfl) (fun _ => rfl)

/-! 27 metrolab/metrolabref07.Right -/
def ref07_Right_I : FIn := { args := [(.agg [(.int .i64), (.int .i64)])], h := [] }
def ref07_Right_O : List FOut := [{ res := .bool, h := [] }]
noncomputable def ref07_Right_E : Env := { tt := seat_TT, glob := seat_GL, spec := [(51, specG ref07_in_I ref07_in_O ref07_in_T)], body := [(27, Try.f27)], loops := [], nimp := 0 }
noncomputable def ref07_Right_T (ps : List PV) : TR := funcT ref07_Right_E 27 Try.f27 true ref07_Right_I ref07_Right_O ps
theorem ref07_Right_Eok : EnvOK ref07_Right_E Try.prog := ⟨tok_of seat_TTok,
  all_cons ref07_in_spec (all_nil),
  all_nil,
  all_cons (body_ok Try.func27 (by kernel_rfl)) (all_nil)⟩
theorem ref07_Right_spec : Spec Try.prog seat_GL 27 (specG ref07_Right_I ref07_Right_O ref07_Right_T) := spec_of seat_mo ref07_Right_Eok Try.func27 (by kernel_rfl) (by kernel_rfl) (fun _ => rfl)

/-! 37 metrolab/metrolabref07.Check -/
def ref07_Check_I : FIn := { args := [(.imm [(.int .i64), (.int .i64)])], h := [] }
def ref07_Check_O : List FOut := [{ res := (.int .i64), h := [] }]
def ref07_Check_L6I : Tmpl := { t := [(.imm [(.int .i64), (.int .i64)]), .any, .any, (.int .i64), .any, .any, .any, .any, .any, .any, .any, .any, .any, .any, .any, .any, .any, .any, .any], h := [] }
def ref07_Check_L6O : List Out := [{ x := (.exit 0), tm := { t := [.any, .any, .any, .any, .any, .any, .any, .any, .any, .any, .any, .any, .any, .any, .any, .any, .any, .any, .any], h := [] } }, { x := .ret, tm := { t := [.any, .any, (.int .i64), .any, .any, .any, .any, .any, .any, .any, .any, .any, .any, .any, .any, .any, .any, .any, .any], h := [] } }]
noncomputable def ref07_Check_L6E : Env := { tt := seat_TT, glob := seat_GL, spec := [(27, specG ref07_Right_I ref07_Right_O ref07_Right_T)], body := [(37, Try.f37)], loops := [], nimp := 0 }
noncomputable def ref07_Check_L6S (ps : List PV) : TR := stepT ref07_Check_L6E 37 Try.f37 6 ref07_Check_L6I ref07_Check_L6O ps
theorem ref07_Check_L6Eok : EnvOK ref07_Check_L6E Try.prog := ⟨tok_of seat_TTok,
  all_cons ref07_Right_spec (all_nil),
  all_nil,
  all_cons (body_ok Try.func37 (by kernel_rfl)) (all_nil)⟩
theorem ref07_Check_L6good : LoopGood Try.prog seat_GL ref07_Check_L6E.nimp (baseOK Try.prog ref07_Check_L6E.iter 37) (nodeC Try.f37 6) (pieceL ref07_Check_L6I ref07_Check_L6O (loopT ref07_Check_L6S)) :=
  loopGood_of seat_mo ref07_Check_L6Eok Try.func37 (by kernel_rfl) (by kernel_rfl) (by kernel_rfl) (by kernel_rfl) (fun _ => rfl)
noncomputable def ref07_Check_E : Env := { tt := seat_TT, glob := seat_GL, spec := [(27, specG ref07_Right_I ref07_Right_O ref07_Right_T)], body := [(37, Try.f37)], loops := [((37, 6), pieceL ref07_Check_L6I ref07_Check_L6O (loopT ref07_Check_L6S))], nimp := 0 }
noncomputable def ref07_Check_T (ps : List PV) : TR := funcT ref07_Check_E 37 Try.f37 true ref07_Check_I ref07_Check_O ps
theorem ref07_Check_Eok : EnvOK ref07_Check_E Try.prog := ⟨tok_of seat_TTok,
  all_cons ref07_Right_spec (all_nil),
  all_cons (loop_ok Try.func37 (by kernel_rfl) (by kernel_rfl) ref07_Check_L6good) (all_nil),
  all_cons (body_ok Try.func37 (by kernel_rfl)) (all_nil)⟩
theorem ref07_Check_spec : Spec Try.prog seat_GL 37 (specG ref07_Check_I ref07_Check_O ref07_Check_T) := spec_of seat_mo ref07_Check_Eok Try.func37 (by kernel_rfl) (by kernel_rfl) (fun _ => rfl)

/-! 73 metrolab/metrolabref07.Times -/
def ref07_Times_I : FIn := { args := [(.agg [(.int .i64), (.int .i64)]), (.agg [(.int .i64), (.int .i64)])], h := [] }
def ref07_Times_O : List FOut := [{ res := (.int .i64), h := [] }]
noncomputable def ref07_Times_E : Env := { tt := seat_TT, glob := seat_GL, spec := [], body := [(73, Try.f73)], loops := [], nimp := 0 }
noncomputable def ref07_Times_T (ps : List PV) : TR := funcT ref07_Times_E 73 Try.f73 true ref07_Times_I ref07_Times_O ps
theorem ref07_Times_Eok : EnvOK ref07_Times_E Try.prog := ⟨tok_of seat_TTok,
  all_nil,
  all_nil,
  all_cons (body_ok Try.func73 (by kernel_rfl)) (all_nil)⟩
theorem ref07_Times_spec : Spec Try.prog seat_GL 73 (specG ref07_Times_I ref07_Times_O ref07_Times_T) := spec_of seat_mo ref07_Times_Eok Try.func73 (by kernel_rfl) (by kernel_rfl) (fun _ => rfl)

/-! 74 metrolab/metrolabref07.Minus -/
def ref07_Minus_I : FIn := { args := [(.agg [(.int .i64), (.int .i64)]), (.agg [(.int .i64), (.int .i64)])], h := [] }
def ref07_Minus_O : List FOut := [{ res := (.agg [(.int .i64), (.int .i64)]), h := [] }]
noncomputable def ref07_Minus_E : Env := { tt := seat_TT, glob := seat_GL, spec := [], body := [(74, Try.f74)], loops := [], nimp := 0 }
noncomputable def ref07_Minus_T (ps : List PV) : TR := funcT ref07_Minus_E 74 Try.f74 true ref07_Minus_I ref07_Minus_O ps
theorem ref07_Minus_Eok : EnvOK ref07_Minus_E Try.prog := ⟨tok_of seat_TTok,
  all_nil,
  all_nil,
  all_cons (body_ok Try.func74 (by kernel_rfl)) (all_nil)⟩
theorem ref07_Minus_spec : Spec Try.prog seat_GL 74 (specG ref07_Minus_I ref07_Minus_O ref07_Minus_T) := spec_of seat_mo ref07_Minus_Eok Try.func74 (by kernel_rfl) (by kernel_rfl) (fun _ => rfl)

/-! 60 metrolab/metrolabref07.Far -/
def ref07_Far_I : FIn := { args := [(.agg [(.int .i64), (.int .i64)]), (.agg [(.int .i64), (.int .i64)])], h := [] }
def ref07_Far_O : List FOut := [{ res := (.int .i64), h := [] }]
noncomputable def ref07_Far_E : Env := { tt := seat_TT, glob := seat_GL, spec := [(73, specG ref07_Times_I ref07_Times_O ref07_Times_T), (74, specG ref07_Minus_I ref07_Minus_O ref07_Minus_T)], body := [(60, Try.f60)], loops := [], nimp := 0 }
noncomputable def ref07_Far_T (ps : List PV) : TR := funcT ref07_Far_E 60 Try.f60 true ref07_Far_I ref07_Far_O ps
theorem ref07_Far_Eok : EnvOK ref07_Far_E Try.prog := ⟨tok_of seat_TTok,
  all_cons ref07_Times_spec (all_cons ref07_Minus_spec (all_nil)),
  all_nil,
  all_cons (body_ok Try.func60 (by kernel_rfl)) (all_nil)⟩
theorem ref07_Far_spec : Spec Try.prog seat_GL 60 (specG ref07_Far_I ref07_Far_O ref07_Far_T) := spec_of seat_mo ref07_Far_Eok Try.func60 (by kernel_rfl) (by kernel_rfl) (fun _ => rfl)

/-! 38 metrolab/metrolabref38.Ends -/
def ref38_Ends_I : FIn := { args := [(.imm [(.int .i64), (.int .i64)]), (.agg [(.int .i64), (.int .i64)])], h := [] }
def ref38_Ends_O : List FOut := [{ res := (.tuple [(.int .i64), (.int .i64)]), h := [] }]
def ref38_Ends_L4I : Tmpl := { t := [(.imm [(.int .i64), (.int .i64)]), .any, .any, (.ptr 0 0), .any, .any, (.int .i64), (.int .i64), (.int .i64), .any, .any, .any, .any, .any, .any, .any, .any, .any, .any, .any, .any, .any, .any, .any, .any, .any, .any, .any, .any, .any, .any, .any, .any, .any, .any, .any, .any, .any, .any, .any, .any, .any, .any], h := [.cells [(.int .i64), (.int .i64)]] }
def ref38_Ends_L4O : List Out := [{ x := (.exit 0), tm := { t := [.any, .any, .any, .any, .any, .any, (.int .i64), (.int .i64), .any, .any, .any, .any, .any, .any, .any, .any, .any, .any, .any, .any, .any, .any, .any, .any, .any, .any, .any, .any, .any, .any, .any, .any, .any, .any, .any, .any, .any, .any, .any, .any, .any, .any, .any], h := [] } }]
noncomputable def ref38_Ends_L4E : Env := { tt := seat_TT, glob := seat_GL, spec := [(60, specG ref07_Far_I ref07_Far_O ref07_Far_T)], body := [(38, Try.f38)], loops := [], nimp := 0 }
noncomputable def ref38_Ends_L4S (ps : List PV) : TR := stepT ref38_Ends_L4E 38 Try.f38 4 ref38_Ends_L4I ref38_Ends_L4O ps
theorem ref38_Ends_L4Eok : EnvOK ref38_Ends_L4E Try.prog := ⟨tok_of seat_TTok,
  all_cons ref07_Far_spec (all_nil),
  all_nil,
  all_cons (body_ok Try.func38 (by kernel_rfl)) (all_nil)⟩
theorem ref38_Ends_L4good : LoopGood Try.prog seat_GL ref38_Ends_L4E.nimp (baseOK Try.prog ref38_Ends_L4E.iter 38) (nodeC Try.f38 4) (pieceL ref38_Ends_L4I ref38_Ends_L4O (loopT ref38_Ends_L4S)) :=
  loopGood_of seat_mo ref38_Ends_L4Eok Try.func38 (by kernel_rfl) (by kernel_rfl) (by kernel_rfl) (by kernel_rfl) (fun _ => rfl)
noncomputable def ref38_Ends_E : Env := { tt := seat_TT, glob := seat_GL, spec := [(60, specG ref07_Far_I ref07_Far_O ref07_Far_T)], body := [(38, Try.f38)], loops := [((38, 4), pieceL ref38_Ends_L4I ref38_Ends_L4O (loopT ref38_Ends_L4S))], nimp := 0 }
noncomputable def ref38_Ends_T (ps : List PV) : TR := funcT ref38_Ends_E 38 Try.f38 true ref38_Ends_I ref38_Ends_O ps
theorem ref38_Ends_Eok : EnvOK ref38_Ends_E Try.prog := ⟨tok_of seat_TTok,
  all_cons ref07_Far_spec (all_nil),
  all_cons (loop_ok Try.func38 (by kernel_rfl) (by kernel_rfl) ref38_Ends_L4good) (all_nil),
  all_cons (body_ok Try.func38 (by kernel_rfl)) (all_nil)⟩
theorem ref38_Ends_spec : Spec Try.prog seat_GL 38 (specG ref38_Ends_I ref38_Ends_O ref38_Ends_T) := spec_of seat_mo ref38_Ends_Eok Try.func38 (by kernel_rfl) (by kernel_rfl) (fun _ => rfl)

/-! 15 metrolab/metrolabref38.Radii -/
def ref38_Radii_I : FIn := { args := [(.imm [(.int .i64), (.int .i64)]), (.agg [(.int .i64), (.int .i64)])], h := [] }
def ref38_Radii_O : List FOut := [{ res := (.tuple [(.int .i64), (.int .i64), (.int .i64)]), h := [] }]
noncomputable def ref38_Radii_E : Env := { tt := seat_TT, glob := seat_GL, spec := [(27, specG ref07_Right_I ref07_Right_O ref07_Right_T), (37, specG ref07_Check_I ref07_Check_O ref07_Check_T), (38, specG ref38_Ends_I ref38_Ends_O ref38_Ends_T)], body := [(15, Try.f15)], loops := [], nimp := 0 }
noncomputable def ref38_Radii_T (ps : List PV) : TR := funcT ref38_Radii_E 15 Try.f15 true ref38_Radii_I ref38_Radii_O ps
theorem ref38_Radii_Eok : EnvOK ref38_Radii_E Try.prog := ⟨tok_of seat_TTok,
  all_cons ref07_Right_spec (all_cons ref07_Check_spec (all_cons ref38_Ends_spec (all_nil))),
  all_nil,
  all_cons (body_ok Try.func15 (by kernel_rfl)) (all_nil)⟩
theorem ref38_Radii_spec : Spec Try.prog seat_GL 15 (specG ref38_Radii_I ref38_Radii_O ref38_Radii_T) := spec_of seat_mo ref38_Radii_Eok Try.func15 (by kernel_rfl) (by kernel_rfl) (fun _ => rfl)

/-! 40 metrolab/metrolabref38.in -/
def ref38_in_I : FIn := { args := [(.int .i64)], h := [] }
def ref38_in_O : List FOut := [{ res := .bool, h := [] }]
noncomputable def ref38_in_E : Env := { tt := seat_TT, glob := seat_GL, spec := [], body := [(40, Try.f40)], loops := [], nimp := 0 }
noncomputable def ref38_in_T (ps : List PV) : TR := funcT ref38_in_E 40 Try.f40 true ref38_in_I ref38_in_O ps
theorem ref38_in_Eok : EnvOK ref38_in_E Try.prog := ⟨tok_of seat_TTok,
  all_nil,
  all_nil,
  all_cons (body_ok Try.func40 (by kernel_rfl)) (all_nil)⟩
theorem ref38_in_spec : Spec Try.prog seat_GL 40 (specG ref38_in_I ref38_in_O ref38_in_T) := spec_of seat_mo ref38_in_Eok Try.func40 (by kernel_rfl) (by kernel_rfl) (fun _ => rfl)

/-! 41 metrolab/metrolabref38.points -/
def ref38_points_I : FIn := { args := [(.imm [(.int .i64), (.int .i64)])], h := [] }
def ref38_points_O : List FOut := [{ res := (.int .i64), h := [] }]
noncomputable def ref38_points_E : Env := { tt := seat_TT, glob := seat_GL, spec := [(37, specG ref07_Check_I ref07_Check_O ref07_Check_T)], body := [(41, Try.f41)], loops := [], nimp := 0 }
noncomputable def ref38_points_T (ps : List PV) : TR := funcT ref38_points_E 41 Try.f41 true ref38_points_I ref38_points_O ps
theorem ref38_points_Eok : EnvOK ref38_points_E Try.prog := ⟨tok_of seat_TTok,
  all_cons ref07_Check_spec (all_nil),
  all_nil,
  all_cons (body_ok Try.func41 (by kernel_rfl)) (all_nil)⟩
theorem ref38_points_spec : Spec Try.prog seat_GL 41 (specG ref38_points_I ref38_points_O ref38_points_T) := spec_of seat_mo ref38_points_Eok Try.func41 (by kernel_rfl) (by kernel_rfl) (fun _ => rfl)

/-! 17 metrolab/metrolabref38.Check -/
def ref38_Check_I : FIn := { args := [(.imm [(.int .i64), (.sl [(.int .i64), (.int .i64)])])], h := [] }
def ref38_Check_O : List FOut := [{ res := (.int .i64), h := [] }]
def ref38_Check_L9I : Tmpl := { t := [(.imm [(.int .i64), (.sl [(.int .i64), (.int .i64)])]), .any, .any, (.int .i64), .any, .any, .any, .any, .any, .any, .any, .any, .any, .any, .any, .any, .any, .any, .any, .any, .any, .any, .any, .any, .any, .any, .any, .any, .any, .any, .any, .any, .any, .any, .any, .any, .any, .any, .any, .any, .any, .any, .any, .any, .any, .any, .any, .any, .any], h := [] }
def ref38_Check_L9O : List Out := [{ x := (.exit 0), tm := { t := [.any, .any, .any, .any, .any, .any, .any, .any, .any, .any, .any, .any, .any, .any, .any, .any, .any, .any, .any, .any, .any, .any, .any, .any, .any, .any, .any, .any, .any, .any, .any, .any, .any, .any, .any, .any, .any, .any, .any, .any, .any, .any, .any, .any, .any, .any, .any, .any, .any], h := [] } }, { x := .ret, tm := { t := [.any, .any, (.int .i64), .any, .any, .any, .any, .any, .any, .any, .any, .any, .any, .any, .any, .any, .any, .any, .any, .any, .any, .any, .any, .any, .any, .any, .any, .any, .any, .any, .any, .any, .any, .any, .any, .any, .any, .any, .any, .any, .any, .any, .any, .any, .any, .any, .any, .any, .any], h := [] } }]
noncomputable def ref38_Check_L9E : Env := { tt := seat_TT, glob := seat_GL, spec := [(40, specG ref38_in_I ref38_in_O ref38_in_T), (41, specG ref38_points_I ref38_points_O ref38_points_T)], body := [(17, Try.f17)], loops := [], nimp := 0 }
noncomputable def ref38_Check_L9S (ps : List PV) : TR := stepT ref38_Check_L9E 17 Try.f17 9 ref38_Check_L9I ref38_Check_L9O ps
theorem ref38_Check_L9Eok : EnvOK ref38_Check_L9E Try.prog := ⟨tok_of seat_TTok,
  all_cons ref38_in_spec (all_cons ref38_points_spec (all_nil)),
  all_nil,
  all_cons (body_ok Try.func17 (by kernel_rfl)) (all_nil)⟩
theorem ref38_Check_L9good : LoopGood Try.prog seat_GL ref38_Check_L9E.nimp (baseOK Try.prog ref38_Check_L9E.iter 17) (nodeC Try.f17 9) (pieceL ref38_Check_L9I ref38_Check_L9O (loopT ref38_Check_L9S)) :=
  loopGood_of seat_mo ref38_Check_L9Eok Try.func17 (by kernel_rfl) (by kernel_rfl) (by kernel_rfl) (by kernel_rfl) (fun _ => rfl)
noncomputable def ref38_Check_E : Env := { tt := seat_TT, glob := seat_GL, spec := [(40, specG ref38_in_I ref38_in_O ref38_in_T), (41, specG ref38_points_I ref38_points_O ref38_points_T)], body := [(17, Try.f17)], loops := [((17, 9), pieceL ref38_Check_L9I ref38_Check_L9O (loopT ref38_Check_L9S))], nimp := 0 }
noncomputable def ref38_Check_T (ps : List PV) : TR := funcT ref38_Check_E 17 Try.f17 true ref38_Check_I ref38_Check_O ps
theorem ref38_Check_Eok : EnvOK ref38_Check_E Try.prog := ⟨tok_of seat_TTok,
  all_cons ref38_in_spec (all_cons ref38_points_spec (all_nil)),
  all_cons (loop_ok Try.func17 (by kernel_rfl) (by kernel_rfl) ref38_Check_L9good) (all_nil),
  all_cons (body_ok Try.func17 (by kernel_rfl)) (all_nil)⟩
theorem ref38_Check_spec : Spec Try.prog seat_GL 17 (specG ref38_Check_I ref38_Check_O ref38_Check_T) := spec_of seat_mo ref38_Check_Eok Try.func17 (by kernel_rfl) (by kernel_rfl) (fun _ => rfl)

/-! 3 metrolab/metrolablaw38.RunoutChecks -/
def law38_RunoutChecks_I : FIn := { args := [(.imm [(.int .i64), (.sl [(.int .i64), (.int .i64)])]), (.imm [(.int .i64), (.int .i64)]), (.agg [(.int .i64), (.int .i64)])], h := [] }
def law38_RunoutChecks_O : List FOut := [{ res := .bool, h := [] }]
noncomputable def law38_RunoutChecks_E : Env := { tt := seat_TT, glob := seat_GL, spec := [(10, specG ref38_Few_I ref38_Few_O ref38_Few_T), (11, specG law38_own_I law38_own_O law38_own_T), (12, specG ref07_Few_I ref07_Few_O ref07_Few_T), (13, specG law38_awake_I law38_awake_O law38_awake_T), (14, specG runout_Radii_I runout_Radii_O runout_Radii_T), (15, specG ref38_Radii_I ref38_Radii_O ref38_Radii_T), (16, specG runout_Check_I runout_Check_O runout_Check_T), (17, specG ref38_Check_I ref38_Check_O ref38_Check_T)], body := [(3, Try.f3)], loops := [], nimp := 0 }
noncomputable def law38_RunoutChecks_T (ps : List PV) : TR := funcT law38_RunoutChecks_E 3 Try.f3 true law38_RunoutChecks_I law38_RunoutChecks_O ps
theorem law38_RunoutChecks_Eok : EnvOK law38_RunoutChecks_E Try.prog := ⟨tok_of seat_TTok,
  all_cons ref38_Few_spec (all_cons law38_own_spec (all_cons ref07_Few_spec (all_cons law38_awake_spec (all_cons runout_Radii_spec (all_cons ref38_Radii_spec (all_cons runout_Check_spec (all_cons ref38_Check_spec (all_nil)))))))),
  all_nil,
  all_cons (body_ok Try.func3 (by kernel_rfl)) (all_nil)⟩
theorem law38_RunoutChecks_spec : Spec Try.prog seat_GL 3 (specG law38_RunoutChecks_I law38_RunoutChecks_O law38_RunoutChecks_T) := spec_of seat_mo law38_RunoutChecks_Eok Try.func3 (by kernel_rfl) (by kernel_rfl) (fun _ => rfl)

/-! 44 metrolab/metrolabref38.Tol -/
def ref38_Tol_I : FIn := { args := [(.int .i64)], h := [] }
def ref38_Tol_O : List FOut := [{ res := (.int .i64), h := [] }]
noncomputable def ref38_Tol_E : Env := { tt := seat_TT, glob := seat_GL, spec := [], body := [(44, Try.f44)], loops := [], nimp := 0 }
noncomputable def ref38_Tol_T (ps : List PV) : TR := funcT ref38_Tol_E 44 Try.f44 true ref38_Tol_I ref38_Tol_O ps
theorem ref38_Tol_Eok : EnvOK ref38_Tol_E Try.prog := ⟨tok_of seat_TTok,
  all_nil,
  all_nil,
  all_cons (body_ok Try.func44 (by kernel_rfl)) (all_nil)⟩
theorem ref38_Tol_spec : Spec Try.prog seat_GL 44 (specG ref38_Tol_I ref38_Tol_O ref38_Tol_T) := spec_of seat_mo ref38_Tol_Eok Try.func44 (by kernel_rfl) (by kernel_rfl) (fun _ => rfl)

/-! 77 metrolab/metrolabref01.signed -/
def ref01_signed_I : FIn := { args := [.str, .bool], h := [] }
def ref01_signed_O : List FOut := [{ res := .str, h := [] }]
noncomputable def ref01_signed_E : Env := { tt := seat_TT, glob := seat_GL, spec := [], body := [(77, Try.f77)], loops := [], nimp := 0 }
noncomputable def ref01_signed_T (ps : List PV) : TR := funcT ref01_signed_E 77 Try.f77 true ref01_signed_I ref01_signed_O ps
theorem ref01_signed_Eok : EnvOK ref01_signed_E Try.prog := ⟨tok_of seat_TTok,
  all_nil,
  all_nil,
  all_cons (body_ok Try.func77 (by kernel_rfl)) (all_nil)⟩
theorem ref01_signed_spec : Spec Try.prog seat_GL 77 (specG ref01_signed_I ref01_signed_O ref01_signed_T) := spec_of seat_mo ref01_signed_Eok Try.func77 (by kernel_rfl) (by kernel_rfl) (fun _ => rfl)

/-! 79 metrolab/metrolabref01.size -/
def ref01_size_I : FIn := { args := [.str], h := [] }
def ref01_size_O : List FOut := [{ res := .str, h := [] }]
noncomputable def ref01_size_E : Env := { tt := seat_TT, glob := seat_GL, spec := [], body := [(79, Try.f79)], loops := [], nimp := 0 }
noncomputable def ref01_size_T (ps : List PV) : TR := funcT ref01_size_E 79 Try.f79 true ref01_size_I ref01_size_O ps
theorem ref01_size_Eok : EnvOK ref01_size_E Try.prog := ⟨tok_of seat_TTok,
  all_nil,
  all_nil,
  all_cons (body_ok Try.func79 (by kernel_rfl)) (all_nil)⟩
theorem ref01_size_spec : Spec Try.prog seat_GL 79 (specG ref01_size_I ref01_size_O ref01_size_T) := spec_of seat_mo ref01_size_Eok Try.func79 (by kernel_rfl) (by kernel_rfl) (fun _ => rfl)

/-! 80 metrolab/metrolabref01.Below -/
def ref01_Below_I : FIn := { args := [.str], h := [] }
def ref01_Below_O : List FOut := [{ res := .bool, h := [] }]
noncomputable def ref01_Below_E : Env := { tt := seat_TT, glob := seat_GL, spec := [], body := [(80, Try.f80)], loops := [], nimp := 0 }
noncomputable def ref01_Below_T (ps : List PV) : TR := funcT ref01_Below_E 80 Try.f80 true ref01_Below_I ref01_Below_O ps
theorem ref01_Below_Eok : EnvOK ref01_Below_E Try.prog := ⟨tok_of seat_TTok,
  all_nil,
  all_nil,
  all_cons (body_ok Try.func80 (by kernel_rfl)) (all_nil)⟩
theorem ref01_Below_spec : Spec Try.prog seat_GL 80 (specG ref01_Below_I ref01_Below_O ref01_Below_T) := spec_of seat_mo ref01_Below_Eok Try.func80 (by kernel_rfl) (by kernel_rfl) (fun _ => rfl)

/-! 75 metrolab/metrolabref01.Turned -/
def ref01_Turned_I : FIn := { args := [.str], h := [] }
def ref01_Turned_O : List FOut := [{ res := .str, h := [] }]
noncomputable def ref01_Turned_E : Env := { tt := seat_TT, glob := seat_GL, spec := [(77, specG ref01_signed_I ref01_signed_O ref01_signed_T), (79, specG ref01_size_I ref01_size_O ref01_size_T), (80, specG ref01_Below_I ref01_Below_O ref01_Below_T)], body := [(75, Try.f75)], loops := [], nimp := 0 }
noncomputable def ref01_Turned_T (ps : List PV) : TR := funcT ref01_Turned_E 75 Try.f75 true ref01_Turned_I ref01_Turned_O ps
theorem ref01_Turned_Eok : EnvOK ref01_Turned_E Try.prog := ⟨tok_of seat_TTok,
  all_cons ref01_signed_spec (all_cons ref01_size_spec (all_cons ref01_Below_spec (all_nil))),
  all_nil,
  all_cons (body_ok Try.func75 (by kernel_rfl)) (all_nil)⟩
theorem ref01_Turned_spec : Spec Try.prog seat_GL 75 (specG ref01_Turned_I ref01_Turned_O ref01_Turned_T) := spec_of seat_mo ref01_Turned_Eok Try.func75 (by kernel_rfl) (by kernel_rfl) (fun _ => rfl)

/-! 65 metrolab/metrolabref01.Of -/
def ref01_Of_0I : FIn := { args := [(.int .i64)], h := [] }
def ref01_Of_0O : List FOut := [{ res := .str, h := [] }]
def ref01_Of_0L9I : Tmpl := { t := [(.int .i64), .any, .any, .str, .any, .any, .any, .any, .any, .any, .any, .any, .any, .any, .any, .any, .any, .any, .any, .any, .any, .any, .any, .any, .any, .any, .any, .any, .any, .any, .any, .any, .any, .any, .any, .any, .any], h := [] }
def ref01_Of_0L9O : List Out := [{ x := (.exit 0), tm := { t := [(.int .i64), .any, .any, .str, .any, .any, .any, .any, .any, .any, .any, .any, .any, .any, .any, .any, .any, .any, .any, .any, .any, .any, .any, .any, .any, .any, .any, .any, .any, .any, .any, .any, .any, .any, .any, .any, .any], h := [] } }]
noncomputable def ref01_Of_0L9E : Env := { tt := seat_TT, glob := seat_GL, spec := [(75, specG ref01_Turned_I ref01_Turned_O ref01_Turned_T)], body := [], loops := [], nimp := 0 }
noncomputable def ref01_Of_0L9S (ps : List PV) : TR := stepT ref01_Of_0L9E 65 Try.f65 9 ref01_Of_0L9I ref01_Of_0L9O ps
theorem ref01_Of_0L9Eok : EnvOK ref01_Of_0L9E Try.prog := ⟨tok_of seat_TTok,
  all_cons ref01_Turned_spec (all_nil),
  all_nil,
  all_nil⟩
theorem ref01_Of_0L9good : LoopGood Try.prog seat_GL ref01_Of_0L9E.nimp (baseOK Try.prog ref01_Of_0L9E.iter 65) (nodeC Try.f65 9) (pieceL ref01_Of_0L9I ref01_Of_0L9O (loopT ref01_Of_0L9S)) :=
  loopGood_of seat_mo ref01_Of_0L9Eok Try.func65 (by kernel_rfl) (by kernel_rfl) (by kernel_rfl) (by kernel_rfl) (fun _ => rfl)
noncomputable def ref01_Of_0E : Env := { tt := seat_TT, glob := seat_GL, spec := [(75, specG ref01_Turned_I ref01_Turned_O ref01_Turned_T)], body := [], loops := [((65, 9), pieceL ref01_Of_0L9I ref01_Of_0L9O (loopT ref01_Of_0L9S))], nimp := 0 }
noncomputable def ref01_Of_0T (ps : List PV) : TR := funcT ref01_Of_0E 65 Try.f65 true ref01_Of_0I ref01_Of_0O ps
theorem ref01_Of_0Eok : EnvOK ref01_Of_0E Try.prog := ⟨tok_of seat_TTok,
  all_cons ref01_Turned_spec (all_nil),
  all_cons (loop_ok Try.func65 (by kernel_rfl) (by kernel_rfl) ref01_Of_0L9good) (all_nil),
  all_nil⟩
theorem ref01_Of_0spec : Spec Try.prog seat_GL 65 (specG ref01_Of_0I ref01_Of_0O ref01_Of_0T) := spec_of seat_mo ref01_Of_0Eok Try.func65 (by kernel_rfl) (by kernel_rfl) (fun _ => rfl)

/-! 65 metrolab/metrolabref01.Of -/
def ref01_Of_I : FIn := { args := [(.int .i64)], h := [] }
def ref01_Of_O : List FOut := [{ res := .str, h := [] }]
def ref01_Of_L9I : Tmpl := { t := [(.int .i64), .any, .any, .str, .any, .any, .any, .any, .any, .any, .any, .any, .any, .any, .any, .any, .any, .any, .any, .any, .any, .any, .any, .any, .any, .any, .any, .any, .any, .any, .any, .any, .any, .any, .any, .any, .any], h := [] }
def ref01_Of_L9O : List Out := [{ x := (.exit 0), tm := { t := [(.int .i64), .any, .any, .str, .any, .any, .any, .any, .any, .any, .any, .any, .any, .any, .any, .any, .any, .any, .any, .any, .any, .any, .any, .any, .any, .any, .any, .any, .any, .any, .any, .any, .any, .any, .any, .any, .any], h := [] } }]
noncomputable def ref01_Of_L9E : Env := { tt := seat_TT, glob := seat_GL, spec := [(65, specG ref01_Of_0I ref01_Of_0O ref01_Of_0T), (75, specG ref01_Turned_I ref01_Turned_O ref01_Turned_T)], body := [], loops := [], nimp := 0 }
noncomputable def ref01_Of_L9S (ps : List PV) : TR := stepT ref01_Of_L9E 65 Try.f65 9 ref01_Of_L9I ref01_Of_L9O ps
theorem ref01_Of_L9Eok : EnvOK ref01_Of_L9E Try.prog := ⟨tok_of seat_TTok,
  all_cons ref01_Of_0spec (all_cons ref01_Turned_spec (all_nil)),
  all_nil,
  all_nil⟩
theorem ref01_Of_L9good : LoopGood Try.prog seat_GL ref01_Of_L9E.nimp (baseOK Try.prog ref01_Of_L9E.iter 65) (nodeC Try.f65 9) (pieceL ref01_Of_L9I ref01_Of_L9O (loopT ref01_Of_L9S)) :=
  loopGood_of seat_mo ref01_Of_L9Eok Try.func65 (by kernel_rfl) (by kernel_rfl) (by kernel_rfl) (by kernel_rfl) (fun _ => rfl)
noncomputable def ref01_Of_E : Env := { tt := seat_TT, glob := seat_GL, spec := [(65, specG ref01_Of_0I ref01_Of_0O ref01_Of_0T), (75, specG ref01_Turned_I ref01_Turned_O ref01_Turned_T)], body := [], loops := [((65, 9), pieceL ref01_Of_L9I ref01_Of_L9O (loopT ref01_Of_L9S))], nimp := 0 }
noncomputable def ref01_Of_T (ps : List PV) : TR := funcT ref01_Of_E 65 Try.f65 true ref01_Of_I ref01_Of_O ps
theorem ref01_Of_Eok : EnvOK ref01_Of_E Try.prog := ⟨tok_of seat_TTok,
  all_cons ref01_Of_0spec (all_cons ref01_Turned_spec (all_nil)),
  all_cons (loop_ok Try.func65 (by kernel_rfl) (by kernel_rfl) ref01_Of_L9good) (all_nil),
  all_nil⟩
theorem ref01_Of_spec : Spec Try.prog seat_GL 65 (specG ref01_Of_I ref01_Of_O ref01_Of_T) := spec_of seat_mo ref01_Of_Eok Try.func65 (by kernel_rfl) (by kernel_rfl) (fun _ => rfl)

/-! 83 metrolab/metrolabref01.number -/
def ref01_number_I : FIn := { args := [.str], h := [] }
def ref01_number_O : List FOut := [{ res := (.int .i64), h := [] }]
def ref01_number_L4I : Tmpl := { t := [.str, .any, .any, (.int .i64), .str, (.int .i64), .any, .any, .any, .any, .any, .any, .any, .any, .any, .any, .any, .any, .any, .any, .any, .any, .any, .any, .any, .any, .any], h := [] }
def ref01_number_L4O : List Out := [{ x := (.exit 0), tm := { t := [.str, .any, .any, (.int .i64), .any, .any, .any, .any, .any, .any, .any, .any, .any, .any, .any, .any, .any, .any, .any, .any, .any, .any, .any, .any, .any, .any, .any], h := [] } }]
noncomputable def ref01_number_L4E : Env := { tt := seat_TT, glob := seat_GL, spec := [(79, specG ref01_size_I ref01_size_O ref01_size_T), (80, specG ref01_Below_I ref01_Below_O ref01_Below_T)], body := [(83, Try.f83)], loops := [], nimp := 0 }
noncomputable def ref01_number_L4S (ps : List PV) : TR := stepT ref01_number_L4E 83 Try.f83 4 ref01_number_L4I ref01_number_L4O ps
theorem ref01_number_L4Eok : EnvOK ref01_number_L4E Try.prog := ⟨tok_of seat_TTok,
  all_cons ref01_size_spec (all_cons ref01_Below_spec (all_nil)),
  all_nil,
  all_cons (body_ok Try.func83 (by kernel_rfl)) (all_nil)⟩
theorem ref01_number_L4good : LoopGood Try.prog seat_GL ref01_number_L4E.nimp (baseOK Try.prog ref01_number_L4E.iter 83) (nodeC Try.f83 4) (pieceL ref01_number_L4I ref01_number_L4O (loopT ref01_number_L4S)) :=
  loopGood_of seat_mo ref01_number_L4Eok Try.func83 (by kernel_rfl) (by kernel_rfl) (by kernel_rfl) (by kernel_rfl) (fun _ => rfl)
noncomputable def ref01_number_E : Env := { tt := seat_TT, glob := seat_GL, spec := [(79, specG ref01_size_I ref01_size_O ref01_size_T), (80, specG ref01_Below_I ref01_Below_O ref01_Below_T)], body := [(83, Try.f83)], loops := [((83, 4), pieceL ref01_number_L4I ref01_number_L4O (loopT ref01_number_L4S))], nimp := 0 }
noncomputable def ref01_number_T (ps : List PV) : TR := funcT ref01_number_E 83 Try.f83 true ref01_number_I ref01_number_O ps
theorem ref01_number_Eok : EnvOK ref01_number_E Try.prog := ⟨tok_of seat_TTok,
  all_cons ref01_size_spec (all_cons ref01_Below_spec (all_nil)),
  all_cons (loop_ok Try.func83 (by kernel_rfl) (by kernel_rfl) ref01_number_L4good) (all_nil),
  all_cons (body_ok Try.func83 (by kernel_rfl)) (all_nil)⟩
theorem ref01_number_spec : Spec Try.prog seat_GL 83 (specG ref01_number_I ref01_number_O ref01_number_T) := spec_of seat_mo ref01_number_Eok Try.func83 (by kernel_rfl) (by kernel_rfl) (fun _ => rfl)

/-! 76 metrolab/metrolabref01.brief -/
def ref01_brief_I : FIn := { args := [.str, .str], h := [] }
def ref01_brief_O : List FOut := [{ res := (.tuple [(.int .i64), (.int .i64), .bool]), h := [] }]
noncomputable def ref01_brief_E : Env := { tt := seat_TT, glob := seat_GL, spec := [(79, specG ref01_size_I ref01_size_O ref01_size_T), (83, specG ref01_number_I ref01_number_O ref01_number_T)], body := [(76, Try.f76)], loops := [], nimp := 0 }
noncomputable def ref01_brief_T (ps : List PV) : TR := funcT ref01_brief_E 76 Try.f76 true ref01_brief_I ref01_brief_O ps
theorem ref01_brief_Eok : EnvOK ref01_brief_E Try.prog := ⟨tok_of seat_TTok,
  all_cons ref01_size_spec (all_cons ref01_number_spec (all_nil)),
  all_nil,
  all_cons (body_ok Try.func76 (by kernel_rfl)) (all_nil)⟩
theorem ref01_brief_spec : Spec Try.prog seat_GL 76 (specG ref01_brief_I ref01_brief_O ref01_brief_T) := spec_of seat_mo ref01_brief_Eok Try.func76 (by kernel_rfl) (by kernel_rfl) (fun _ => rfl)

/-! 84 metrolab/metrolabref01.bare -/
def ref01_bare_I : FIn := { args := [.str], h := [] }
def ref01_bare_O : List FOut := [{ res := .str, h := [] }]
def ref01_bare_L2I : Tmpl := { t := [.str, .any, .any, .any, .any, .any, .any, .any, .any, .any, .any, .any, .any, .any], h := [] }
def ref01_bare_L2O : List Out := [{ x := (.exit 0), tm := { t := [.str, .any, .any, .any, .any, .any, .any, .any, .any, .any, .any, .any, .any, .any], h := [] } }]
noncomputable def ref01_bare_L2E : Env := { tt := seat_TT, glob := seat_GL, spec := [], body := [(84, Try.f84)], loops := [], nimp := 0 }
noncomputable def ref01_bare_L2S (ps : List PV) : TR := stepT ref01_bare_L2E 84 Try.f84 2 ref01_bare_L2I ref01_bare_L2O ps
theorem ref01_bare_L2Eok : EnvOK ref01_bare_L2E Try.prog := ⟨tok_of seat_TTok,
  all_nil,
  all_nil,
  all_cons (body_ok Try.func84 (by kernel_rfl)) (all_nil)⟩
theorem ref01_bare_L2good : LoopGood Try.prog seat_GL ref01_bare_L2E.nimp (baseOK Try.prog ref01_bare_L2E.iter 84) (nodeC Try.f84 2) (pieceL ref01_bare_L2I ref01_bare_L2O (loopT ref01_bare_L2S)) :=
  loopGood_of seat_mo ref01_bare_L2Eok Try.func84 (by kernel_rfl) (by kernel_rfl) (by kernel_rfl) (by kernel_rfl) (fun _ => rfl)
noncomputable def ref01_bare_E : Env := { tt := seat_TT, glob := seat_GL, spec := [], body := [(84, Try.f84)], loops := [((84, 2), pieceL ref01_bare_L2I ref01_bare_L2O (loopT ref01_bare_L2S))], nimp := 0 }
noncomputable def ref01_bare_T (ps : List PV) : TR := funcT ref01_bare_E 84 Try.f84 true ref01_bare_I ref01_bare_O ps
theorem ref01_bare_Eok : EnvOK ref01_bare_E Try.prog := ⟨tok_of seat_TTok,
  all_nil,
  all_cons (loop_ok Try.func84 (by kernel_rfl) (by kernel_rfl) ref01_bare_L2good) (all_nil),
  all_cons (body_ok Try.func84 (by kernel_rfl)) (all_nil)⟩
theorem ref01_bare_spec : Spec Try.prog seat_GL 84 (specG ref01_bare_I ref01_bare_O ref01_bare_T) := spec_of seat_mo ref01_bare_Eok Try.func84 (by kernel_rfl) (by kernel_rfl) (fun _ => rfl)

/-! 78 metrolab/metrolabref01.product -/
def ref01_product_I : FIn := { args := [.str, .str], h := [] }
def ref01_product_O : List FOut := [{ res := .str, h := [] }]
def ref01_product_L9I : Tmpl := { t := [.str, .str, .any, .any, .any, (.vec 0), (.int .i64), (.int .i64), .any, .any, .any, .any, .any, .any, .any, .any, .any, .any, .any, .any, .any, .any, .any, .any, .any, .any, .any, .any, .any, .any, .any, .any, .any, .any, .any, .any, .any, .any, .any, .any, .any, .any, .any, .any, .any, .any, .any, .any, .any, .any, .any, .any, .any, .any, .any, .any, .any, .any, .any, .any, .any, .any, .any, .any, .any, .any, .any, .any, .any, .any, .any, .any, .any, .any, .any, .any, .any], h := [.vec 3 [(.int .i64)]] }
def ref01_product_L9O : List Out := [{ x := (.exit 2), tm := { t := [.str, .str, .any, .any, .any, (.vec 0), (.int .i64), .any, .any, .any, .any, .any, .any, .any, .any, .any, .any, .any, .any, .any, .any, .any, .any, .any, .any, .any, .any, .any, .any, .any, .any, .any, .any, .any, .any, .any, .any, .any, .any, .any, .any, .any, .any, .any, .any, .any, .any, .any, .any, .any, .any, .any, .any, .any, .any, .any, .any, .any, .any, .any, .any, .any, .any, .any, .any, .any, .any, .any, .any, .any, .any, .any, .any, .any, .any, .any, .any], h := [.vec 3 [(.int .i64)]] } }]
noncomputable def ref01_product_L9E : Env := { tt := seat_TT, glob := seat_GL, spec := [(84, specG ref01_bare_I ref01_bare_O ref01_bare_T)], body := [(78, Try.f78)], loops := [], nimp := 0 }
noncomputable def ref01_product_L9S (ps : List PV) : TR := stepT ref01_product_L9E 78 Try.f78 9 ref01_product_L9I ref01_product_L9O ps
theorem ref01_product_L9Eok : EnvOK ref01_product_L9E Try.prog := ⟨tok_of seat_TTok,
  all_cons ref01_bare_spec (all_nil),
  all_nil,
  all_cons (body_ok Try.func78 (by kernel_rfl)) (all_nil)⟩
theorem ref01_product_L9good : LoopGood Try.prog seat_GL ref01_product_L9E.nimp (baseOK Try.prog ref01_product_L9E.iter 78) (nodeC Try.f78 9) (pieceL ref01_product_L9I ref01_product_L9O (loopT ref01_product_L9S)) :=
  loopGood_of seat_mo ref01_product_L9Eok Try.func78 (by kernel_rfl) (by kernel_rfl) (by kernel_rfl) (by kernel_rfl) (fun _ => rfl)
def ref01_product_L4I : Tmpl := { t := [.str, .str, .any, .any, .any, (.vec 0), (.int .i64), .any, .any, .any, .any, .any, .any, .any, .any, .any, .any, .any, .any, .any, .any, .any, .any, .any, .any, .any, .any, .any, .any, .any, .any, .any, .any, .any, .any, .any, .any, .any, .any, .any, .any, .any, .any, .any, .any, .any, .any, .any, .any, .any, .any, .any, .any, .any, .any, .any, .any, .any, .any, .any, .any, .any, .any, .any, .any, .any, .any, .any, .any, .any, .any, .any, .any, .any, .any, .any, .any], h := [.vec 3 [(.int .i64)]] }
def ref01_product_L4O : List Out := [{ x := (.exit 0), tm := { t := [.any, .any, .any, .any, .any, (.vec 0), .any, .any, .any, .any, .any, .any, .any, .any, .any, .any, .any, .any, .any, .any, .any, .any, .any, .any, .any, .any, .any, .any, .any, .any, .any, .any, .any, .any, .any, .any, .any, .any, .any, .any, .any, .any, .any, .any, .any, .any, .any, .any, .any, .any, .any, .any, .any, .any, .any, .any, .any, .any, .any, .any, .any, .any, .any, .any, .any, .any, .any, .any, .any, .any, .any, .any, .any, .any, .any, .any, .any], h := [.vec 3 [(.int .i64)]] } }]
noncomputable def ref01_product_L4E : Env := { tt := seat_TT, glob := seat_GL, spec := [(84, specG ref01_bare_I ref01_bare_O ref01_bare_T)], body := [(78, Try.f78)], loops := [((78, 9), pieceL ref01_product_L9I ref01_product_L9O (loopT ref01_product_L9S))], nimp := 0 }
noncomputable def ref01_product_L4S (ps : List PV) : TR := stepT ref01_product_L4E 78 Try.f78 4 ref01_product_L4I ref01_product_L4O ps
theorem ref01_product_L4Eok : EnvOK ref01_product_L4E Try.prog := ⟨tok_of seat_TTok,
  all_cons ref01_bare_spec (all_nil),
  all_cons (loop_ok Try.func78 (by kernel_rfl) (by kernel_rfl) ref01_product_L9good) (all_nil),
  all_cons (body_ok Try.func78 (by kernel_rfl)) (all_nil)⟩
theorem ref01_product_L4good : LoopGood Try.prog seat_GL ref01_product_L4E.nimp (baseOK Try.prog ref01_product_L4E.iter 78) (nodeC Try.f78 4) (pieceL ref01_product_L4I ref01_product_L4O (loopT ref01_product_L4S)) :=
  loopGood_of seat_mo ref01_product_L4Eok Try.func78 (by kernel_rfl) (by kernel_rfl) (by kernel_rfl) (by kernel_rfl) (fun _ => rfl)
def ref01_product_L17I : Tmpl := { t := [.any, .any, .any, .any, .any, (.vec 0), .any, .any, (.vec 1), (.int .i64), (.int .i64), .any, .any, .any, .any, .any, .any, .any, .any, .any, .any, .any, .any, .any, .any, .any, .any, .any, .any, .any, .any, .any, .any, .any, .any, .any, .any, .any, .any, .any, .any, .any, .any, .any, .any, .any, .any, .any, .any, .any, .any, .any, .any, .any, .any, .any, .any, .any, .any, .any, .any, .any, .any, .any, .any, .any, .any, .any, .any, .any, .any, .any, .any, .any, .any, .any, .any], h := [.vec 3 [(.int .i64)], .vec 5 [(.int .u8)]] }
def ref01_product_L17O : List Out := [{ x := (.exit 4), tm := { t := [.any, .any, .any, .any, .any, .any, .any, .any, (.vec 1), .any, .any, .any, .any, .any, .any, .any, .any, .any, .any, .any, .any, .any, .any, .any, .any, .any, .any, .any, .any, .any, .any, .any, .any, .any, .any, .any, .any, .any, .any, .any, .any, .any, .any, .any, .any, .any, .any, .any, .any, .any, .any, .any, .any, .any, .any, .any, .any, .any, .any, .any, .any, .any, .any, .any, .any, .any, .any, .any, .any, .any, .any, .any, .any, .any, .any, .any, .any], h := [.dead, .vec 5 [(.int .u8)]] } }]
noncomputable def ref01_product_L17E : Env := { tt := seat_TT, glob := seat_GL, spec := [(84, specG ref01_bare_I ref01_bare_O ref01_bare_T)], body := [(78, Try.f78)], loops := [], nimp := 0 }
noncomputable def ref01_product_L17S (ps : List PV) : TR := stepT ref01_product_L17E 78 Try.f78 17 ref01_product_L17I ref01_product_L17O ps
theorem ref01_product_L17Eok : EnvOK ref01_product_L17E Try.prog := ⟨tok_of seat_TTok,
  all_cons ref01_bare_spec (all_nil),
  all_nil,
  all_cons (body_ok Try.func78 (by kernel_rfl)) (all_nil)⟩
theorem ref01_product_L17good : LoopGood Try.prog seat_GL ref01_product_L17E.nimp (baseOK Try.prog ref01_product_L17E.iter 78) (nodeC Try.f78 17) (pieceL ref01_product_L17I ref01_product_L17O (loopT ref01_product_L17S)) :=
  loopGood_of seat_mo ref01_product_L17Eok Try.func78 (by kernel_rfl) (by kernel_rfl) (by kernel_rfl) (by kernel_rfl) (fun _ => rfl)
noncomputable def ref01_product_E : Env := { tt := seat_TT, glob := seat_GL, spec := [(84, specG ref01_bare_I ref01_bare_O ref01_bare_T)], body := [(78, Try.f78)], loops := [((78, 4), pieceL ref01_product_L4I ref01_product_L4O (loopT ref01_product_L4S)), ((78, 17), pieceL ref01_product_L17I ref01_product_L17O (loopT ref01_product_L17S))], nimp := 0 }
noncomputable def ref01_product_T (ps : List PV) : TR := funcT ref01_product_E 78 Try.f78 true ref01_product_I ref01_product_O ps
theorem ref01_product_Eok : EnvOK ref01_product_E Try.prog := ⟨tok_of seat_TTok,
  all_cons ref01_bare_spec (all_nil),
  all_cons (loop_ok Try.func78 (by kernel_rfl) (by kernel_rfl) ref01_product_L4good) (all_cons (loop_ok Try.func78 (by kernel_rfl) (by kernel_rfl) ref01_product_L17good) (all_nil)),
  all_cons (body_ok Try.func78 (by kernel_rfl)) (all_nil)⟩
theorem ref01_product_spec : Spec Try.prog seat_GL 78 (specG ref01_product_I ref01_product_O ref01_product_T) := spec_of seat_mo ref01_product_Eok Try.func78 (by kernel_rfl) (by kernel_rfl) (fun _ => rfl)

/-! 66 metrolab/metrolabref01.Times -/
def ref01_Times_I : FIn := { args := [.str, .str], h := [] }
def ref01_Times_O : List FOut := [{ res := .str, h := [] }]
noncomputable def ref01_Times_E : Env := { tt := seat_TT, glob := seat_GL, spec := [(65, specG ref01_Of_I ref01_Of_O ref01_Of_T), (76, specG ref01_brief_I ref01_brief_O ref01_brief_T), (77, specG ref01_signed_I ref01_signed_O ref01_signed_T), (78, specG ref01_product_I ref01_product_O ref01_product_T), (79, specG ref01_size_I ref01_size_O ref01_size_T), (80, specG ref01_Below_I ref01_Below_O ref01_Below_T)], body := [(66, Try.f66)], loops := [], nimp := 0 }
noncomputable def ref01_Times_T (ps : List PV) : TR := funcT ref01_Times_E 66 Try.f66 true ref01_Times_I ref01_Times_O ps
theorem ref01_Times_Eok : EnvOK ref01_Times_E Try.prog := ⟨tok_of seat_TTok,
  all_cons ref01_Of_spec (all_cons ref01_brief_spec (all_cons ref01_signed_spec (all_cons ref01_product_spec (all_cons ref01_size_spec (all_cons ref01_Below_spec (all_nil)))))),
  all_nil,
  all_cons (body_ok Try.func66 (by kernel_rfl)) (all_nil)⟩
theorem ref01_Times_spec : Spec Try.prog seat_GL 66 (specG ref01_Times_I ref01_Times_O ref01_Times_T) := spec_of seat_mo ref01_Times_Eok Try.func66 (by kernel_rfl) (by kernel_rfl) (fun _ => rfl)

/-! 88 metrolab/metrolabref01.wide -/
def ref01_wide_I : FIn := { args := [.str, (.int .i64)], h := [] }
def ref01_wide_O : List FOut := [{ res := .str, h := [] }]
def ref01_wide_L4I : Tmpl := { t := [.str, (.int .i64), .any, .any, .any, (.vec 0), (.int .i64), .any, .any, .any, .any, .any, .any, .any, .any, .any, .any, .any, .any, .any, .any, .any, .any, .any, .any, .any, .any], h := [.vec 5 [(.int .u8)]] }
def ref01_wide_L4O : List Out := [{ x := (.exit 0), tm := { t := [.str, (.int .i64), .any, .any, .any, (.vec 0), .any, .any, .any, .any, .any, .any, .any, .any, .any, .any, .any, .any, .any, .any, .any, .any, .any, .any, .any, .any, .any], h := [.vec 5 [(.int .u8)]] } }]
noncomputable def ref01_wide_L4E : Env := { tt := seat_TT, glob := seat_GL, spec := [], body := [(88, Try.f88)], loops := [], nimp := 0 }
noncomputable def ref01_wide_L4S (ps : List PV) : TR := stepT ref01_wide_L4E 88 Try.f88 4 ref01_wide_L4I ref01_wide_L4O ps
theorem ref01_wide_L4Eok : EnvOK ref01_wide_L4E Try.prog := ⟨tok_of seat_TTok,
  all_nil,
  all_nil,
  all_cons (body_ok Try.func88 (by kernel_rfl)) (all_nil)⟩
theorem ref01_wide_L4good : LoopGood Try.prog seat_GL ref01_wide_L4E.nimp (baseOK Try.prog ref01_wide_L4E.iter 88) (nodeC Try.f88 4) (pieceL ref01_wide_L4I ref01_wide_L4O (loopT ref01_wide_L4S)) :=
  loopGood_of seat_mo ref01_wide_L4Eok Try.func88 (by kernel_rfl) (by kernel_rfl) (by kernel_rfl) (by kernel_rfl) (fun _ => rfl)
noncomputable def ref01_wide_E : Env := { tt := seat_TT, glob := seat_GL, spec := [], body := [(88, Try.f88)], loops := [((88, 4), pieceL ref01_wide_L4I ref01_wide_L4O (loopT ref01_wide_L4S))], nimp := 0 }
noncomputable def ref01_wide_T (ps : List PV) : TR := funcT ref01_wide_E 88 Try.f88 true ref01_wide_I ref01_wide_O ps
theorem ref01_wide_Eok : EnvOK ref01_wide_E Try.prog := ⟨tok_of seat_TTok,
  all_nil,
  all_cons (loop_ok Try.func88 (by kernel_rfl) (by kernel_rfl) ref01_wide_L4good) (all_nil),
  all_cons (body_ok Try.func88 (by kernel_rfl)) (all_nil)⟩
theorem ref01_wide_spec : Spec Try.prog seat_GL 88 (specG ref01_wide_I ref01_wide_O ref01_wide_T) := spec_of seat_mo ref01_wide_Eok Try.func88 (by kernel_rfl) (by kernel_rfl) (fun _ => rfl)

/-! 89 metrolab/metrolabref01.column -/
def ref01_column_I : FIn := { args := [(.int .u8), (.int .u8), (.int .i64), .bool], h := [] }
def ref01_column_O : List FOut := [{ res := (.tuple [(.int .u8), (.int .i64)]), h := [] }]
noncomputable def ref01_column_E : Env := { tt := seat_TT, glob := seat_GL, spec := [], body := [(89, Try.f89)], loops := [], nimp := 0 }
noncomputable def ref01_column_T (ps : List PV) : TR := funcT ref01_column_E 89 Try.f89 true ref01_column_I ref01_column_O ps
theorem ref01_column_Eok : EnvOK ref01_column_E Try.prog := ⟨tok_of seat_TTok,
  all_nil,
  all_nil,
  all_cons (body_ok Try.func89 (by kernel_rfl)) (all_nil)⟩
theorem ref01_column_spec : Spec Try.prog seat_GL 89 (specG ref01_column_I ref01_column_O ref01_column_T) := spec_of seat_mo ref01_column_Eok Try.func89 (by kernel_rfl) (by kernel_rfl) (fun _ => rfl)

/-! 86 metrolab/metrolabref01.paper -/
def ref01_paper_I : FIn := { args := [.str, .str, .bool], h := [] }
def ref01_paper_O : List FOut := [{ res := .str, h := [] }]
def ref01_paper_L7I : Tmpl := { t := [.str, .str, .bool, .any, .any, .any, .any, .any, (.vec 0), (.int .i64), (.int .i64), .any, .any, .any, .any, .any, .any, .any, .any, .any, .any, .any, .any, .any, .any, .any, .any, .any, .any, .any, .any, .any, .any, .any, .any, .any, .any, .any, .any, .any, .any, .any, .any, .any, .any, .any, .any, .any, .any], h := [.vec 5 [(.int .u8)]] }
def ref01_paper_L7O : List Out := [{ x := (.exit 0), tm := { t := [.any, .any, .any, .any, .any, .any, .any, .any, (.vec 0), .any, .any, .any, .any, .any, .any, .any, .any, .any, .any, .any, .any, .any, .any, .any, .any, .any, .any, .any, .any, .any, .any, .any, .any, .any, .any, .any, .any, .any, .any, .any, .any, .any, .any, .any, .any, .any, .any, .any, .any], h := [.vec 5 [(.int .u8)]] } }]
noncomputable def ref01_paper_L7E : Env := { tt := seat_TT, glob := seat_GL, spec := [(84, specG ref01_bare_I ref01_bare_O ref01_bare_T), (88, specG ref01_wide_I ref01_wide_O ref01_wide_T), (89, specG ref01_column_I ref01_column_O ref01_column_T)], body := [(86, Try.f86)], loops := [], nimp := 0 }
noncomputable def ref01_paper_L7S (ps : List PV) : TR := stepT ref01_paper_L7E 86 Try.f86 7 ref01_paper_L7I ref01_paper_L7O ps
theorem ref01_paper_L7Eok : EnvOK ref01_paper_L7E Try.prog := ⟨tok_of seat_TTok,
  all_cons ref01_bare_spec (all_cons ref01_wide_spec (all_cons ref01_column_spec (all_nil))),
  all_nil,
  all_cons (body_ok Try.func86 (by kernel_rfl)) (all_nil)⟩
theorem ref01_paper_L7good : LoopGood Try.prog seat_GL ref01_paper_L7E.nimp (baseOK Try.prog ref01_paper_L7E.iter 86) (nodeC Try.f86 7) (pieceL ref01_paper_L7I ref01_paper_L7O (loopT ref01_paper_L7S)) :=
  loopGood_of seat_mo ref01_paper_L7Eok Try.func86 (by kernel_rfl) (by kernel_rfl) (by kernel_rfl) (by kernel_rfl) (fun _ => rfl)
noncomputable def ref01_paper_E : Env := { tt := seat_TT, glob := seat_GL, spec := [(84, specG ref01_bare_I ref01_bare_O ref01_bare_T), (88, specG ref01_wide_I ref01_wide_O ref01_wide_T), (89, specG ref01_column_I ref01_column_O ref01_column_T)], body := [(86, Try.f86)], loops := [((86, 7), pieceL ref01_paper_L7I ref01_paper_L7O (loopT ref01_paper_L7S))], nimp := 0 }
noncomputable def ref01_paper_T (ps : List PV) : TR := funcT ref01_paper_E 86 Try.f86 true ref01_paper_I ref01_paper_O ps
theorem ref01_paper_Eok : EnvOK ref01_paper_E Try.prog := ⟨tok_of seat_TTok,
  all_cons ref01_bare_spec (all_cons ref01_wide_spec (all_cons ref01_column_spec (all_nil))),
  all_cons (loop_ok Try.func86 (by kernel_rfl) (by kernel_rfl) ref01_paper_L7good) (all_nil),
  all_cons (body_ok Try.func86 (by kernel_rfl)) (all_nil)⟩
theorem ref01_paper_spec : Spec Try.prog seat_GL 86 (specG ref01_paper_I ref01_paper_O ref01_paper_T) := spec_of seat_mo ref01_paper_Eok Try.func86 (by kernel_rfl) (by kernel_rfl) (fun _ => rfl)

/-! 87 metrolab/metrolabref01.less -/
def ref01_less_I : FIn := { args := [.str, .str], h := [] }
def ref01_less_O : List FOut := [{ res := .bool, h := [] }]
noncomputable def ref01_less_E : Env := { tt := seat_TT, glob := seat_GL, spec := [], body := [(87, Try.f87)], loops := [], nimp := 0 }
noncomputable def ref01_less_T (ps : List PV) : TR := funcT ref01_less_E 87 Try.f87 true ref01_less_I ref01_less_O ps
theorem ref01_less_Eok : EnvOK ref01_less_E Try.prog := ⟨tok_of seat_TTok,
  all_nil,
  all_nil,
  all_cons (body_ok Try.func87 (by kernel_rfl)) (all_nil)⟩
theorem ref01_less_spec : Spec Try.prog seat_GL 87 (specG ref01_less_I ref01_less_O ref01_less_T) := spec_of seat_mo ref01_less_Eok Try.func87 (by kernel_rfl) (by kernel_rfl) (fun _ => rfl)

/-! 85 metrolab/metrolabref01.Plus -/
def ref01_Plus_I : FIn := { args := [.str, .str], h := [] }
def ref01_Plus_O : List FOut := [{ res := .str, h := [] }]
noncomputable def ref01_Plus_E : Env := { tt := seat_TT, glob := seat_GL, spec := [(65, specG ref01_Of_I ref01_Of_O ref01_Of_T), (76, specG ref01_brief_I ref01_brief_O ref01_brief_T), (77, specG ref01_signed_I ref01_signed_O ref01_signed_T), (79, specG ref01_size_I ref01_size_O ref01_size_T), (80, specG ref01_Below_I ref01_Below_O ref01_Below_T), (86, specG ref01_paper_I ref01_paper_O ref01_paper_T), (87, specG ref01_less_I ref01_less_O ref01_less_T)], body := [(85, Try.f85)], loops := [], nimp := 0 }
noncomputable def ref01_Plus_T (ps : List PV) : TR := funcT ref01_Plus_E 85 Try.f85 true ref01_Plus_I ref01_Plus_O ps
theorem ref01_Plus_Eok : EnvOK ref01_Plus_E Try.prog := ⟨tok_of seat_TTok,
  all_cons ref01_Of_spec (all_cons ref01_brief_spec (all_cons ref01_signed_spec (all_cons ref01_size_spec (all_cons ref01_Below_spec (all_cons ref01_paper_spec (all_cons ref01_less_spec (all_nil))))))),
  all_nil,
  all_cons (body_ok Try.func85 (by kernel_rfl)) (all_nil)⟩
theorem ref01_Plus_spec : Spec Try.prog seat_GL 85 (specG ref01_Plus_I ref01_Plus_O ref01_Plus_T) := spec_of seat_mo ref01_Plus_Eok Try.func85 (by kernel_rfl) (by kernel_rfl) (fun _ => rfl)

/-! 81 metrolab/metrolabref01.Minus -/
def ref01_Minus_I : FIn := { args := [.str, .str], h := [] }
def ref01_Minus_O : List FOut := [{ res := .str, h := [] }]
noncomputable def ref01_Minus_E : Env := { tt := seat_TT, glob := seat_GL, spec := [(75, specG ref01_Turned_I ref01_Turned_O ref01_Turned_T), (85, specG ref01_Plus_I ref01_Plus_O ref01_Plus_T)], body := [(81, Try.f81)], loops := [], nimp := 0 }
noncomputable def ref01_Minus_T (ps : List PV) : TR := funcT ref01_Minus_E 81 Try.f81 true ref01_Minus_I ref01_Minus_O ps
theorem ref01_Minus_Eok : EnvOK ref01_Minus_E Try.prog := ⟨tok_of seat_TTok,
  all_cons ref01_Turned_spec (all_cons ref01_Plus_spec (all_nil)),
  all_nil,
  all_cons (body_ok Try.func81 (by kernel_rfl)) (all_nil)⟩
theorem ref01_Minus_spec : Spec Try.prog seat_GL 81 (specG ref01_Minus_I ref01_Minus_O ref01_Minus_T) := spec_of seat_mo ref01_Minus_Eok Try.func81 (by kernel_rfl) (by kernel_rfl) (fun _ => rfl)

/-! 67 metrolab/metrolabref01.Order -/
def ref01_Order_I : FIn := { args := [.str, .str], h := [] }
def ref01_Order_O : List FOut := [{ res := (.int .i64), h := [] }]
noncomputable def ref01_Order_E : Env := { tt := seat_TT, glob := seat_GL, spec := [(80, specG ref01_Below_I ref01_Below_O ref01_Below_T), (81, specG ref01_Minus_I ref01_Minus_O ref01_Minus_T)], body := [(67, Try.f67)], loops := [], nimp := 0 }
noncomputable def ref01_Order_T (ps : List PV) : TR := funcT ref01_Order_E 67 Try.f67 true ref01_Order_I ref01_Order_O ps
theorem ref01_Order_Eok : EnvOK ref01_Order_E Try.prog := ⟨tok_of seat_TTok,
  all_cons ref01_Below_spec (all_cons ref01_Minus_spec (all_nil)),
  all_nil,
  all_cons (body_ok Try.func67 (by kernel_rfl)) (all_nil)⟩
theorem ref01_Order_spec : Spec Try.prog seat_GL 67 (specG ref01_Order_I ref01_Order_O ref01_Order_T) := spec_of seat_mo ref01_Order_Eok Try.func67 (by kernel_rfl) (by kernel_rfl) (fun _ => rfl)

/-! 45 metrolab/metrolabref38.Near -/
def ref38_Near_I : FIn := { args := [(.int .i64), (.int .i64), (.int .i64)], h := [] }
def ref38_Near_O : List FOut := [{ res := .bool, h := [] }]
noncomputable def ref38_Near_E : Env := { tt := seat_TT, glob := seat_GL, spec := [(65, specG ref01_Of_I ref01_Of_O ref01_Of_T), (66, specG ref01_Times_I ref01_Times_O ref01_Times_T), (67, specG ref01_Order_I ref01_Order_O ref01_Order_T)], body := [(45, Try.f45)], loops := [], nimp := 0 }
noncomputable def ref38_Near_T (ps : List PV) : TR := funcT ref38_Near_E 45 Try.f45 true ref38_Near_I ref38_Near_O ps
theorem ref38_Near_Eok : EnvOK ref38_Near_E Try.prog := ⟨tok_of seat_TTok,
  all_cons ref01_Of_spec (all_cons ref01_Times_spec (all_cons ref01_Order_spec (all_nil))),
  all_nil,
  all_cons (body_ok Try.func45 (by kernel_rfl)) (all_nil)⟩
theorem ref38_Near_spec : Spec Try.prog seat_GL 45 (specG ref38_Near_I ref38_Near_O ref38_Near_T) := spec_of seat_mo ref38_Near_Eok Try.func45 (by kernel_rfl) (by kernel_rfl) (fun _ => rfl)

/-! 19 metrolab/metrolabref38.Differ -/
def ref38_Differ_I : FIn := { args := [(.int .i64), (.int .i64), (.int .i64)], h := [] }
def ref38_Differ_O : List FOut := [{ res := (.tuple [.bool, (.int .i64)]), h := [] }]
noncomputable def ref38_Differ_E : Env := { tt := seat_TT, glob := seat_GL, spec := [(44, specG ref38_Tol_I ref38_Tol_O ref38_Tol_T), (45, specG ref38_Near_I ref38_Near_O ref38_Near_T)], body := [(19, Try.f19)], loops := [], nimp := 0 }
noncomputable def ref38_Differ_T (ps : List PV) : TR := funcT ref38_Differ_E 19 Try.f19 true ref38_Differ_I ref38_Differ_O ps
theorem ref38_Differ_Eok : EnvOK ref38_Differ_E Try.prog := ⟨tok_of seat_TTok,
  all_cons ref38_Tol_spec (all_cons ref38_Near_spec (all_nil)),
  all_nil,
  all_cons (body_ok Try.func19 (by kernel_rfl)) (all_nil)⟩
theorem ref38_Differ_spec : Spec Try.prog seat_GL 19 (specG ref38_Differ_I ref38_Differ_O ref38_Differ_T) := spec_of seat_mo ref38_Differ_Eok Try.func19 (by kernel_rfl) (by kernel_rfl) (fun _ => rfl)

/-! 4 metrolab/metrolablaw38.RunoutDiffers -/
def law38_RunoutDiffers_I : FIn := { args := [(.int .i64), (.int .i64), (.int .i64)], h := [] }
def law38_RunoutDiffers_O : List FOut := [{ res := .bool, h := [] }]
noncomputable def law38_RunoutDiffers_E : Env := { tt := seat_TT, glob := seat_GL, spec := [(13, specG law38_awake_I law38_awake_O law38_awake_T), (18, specG runout_Differ_I runout_Differ_O runout_Differ_T), (19, specG ref38_Differ_I ref38_Differ_O ref38_Differ_T)], body := [(4, Try.f4)], loops := [], nimp := 0 }
noncomputable def law38_RunoutDiffers_T (ps : List PV) : TR := funcT law38_RunoutDiffers_E 4 Try.f4 true law38_RunoutDiffers_I law38_RunoutDiffers_O ps
theorem law38_RunoutDiffers_Eok : EnvOK law38_RunoutDiffers_E Try.prog := ⟨tok_of seat_TTok,
  all_cons law38_awake_spec (all_cons runout_Differ_spec (all_cons ref38_Differ_spec (all_nil))),
  all_nil,
  all_cons (body_ok Try.func4 (by kernel_rfl)) (all_nil)⟩
theorem law38_RunoutDiffers_spec : Spec Try.prog seat_GL 4 (specG law38_RunoutDiffers_I law38_RunoutDiffers_O law38_RunoutDiffers_T) := spec_of seat_mo law38_RunoutDiffers_Eok Try.func4 (by kernel_rfl) (by kernel_rfl) (fun _ => rfl)

/-! 47 metrolab/metrolabref38.Given -/
def ref38_Given_I : FIn := { args := [(.imm [(.int .i64), (.sl [(.int .i64), (.int .i64)])]), (.agg [(.int .i64), (.int .i64)])], h := [] }
def ref38_Given_O : List FOut := [{ res := (.int .i64), h := [] }]
noncomputable def ref38_Given_E : Env := { tt := seat_TT, glob := seat_GL, spec := [(17, specG ref38_Check_I ref38_Check_O ref38_Check_T), (27, specG ref07_Right_I ref07_Right_O ref07_Right_T)], body := [(47, Try.f47)], loops := [], nimp := 0 }
noncomputable def ref38_Given_T (ps : List PV) : TR := funcT ref38_Given_E 47 Try.f47 true ref38_Given_I ref38_Given_O ps
theorem ref38_Given_Eok : EnvOK ref38_Given_E Try.prog := ⟨tok_of seat_TTok,
  all_cons ref38_Check_spec (all_cons ref07_Right_spec (all_nil)),
  all_nil,
  all_cons (body_ok Try.func47 (by kernel_rfl)) (all_nil)⟩
theorem ref38_Given_spec : Spec Try.prog seat_GL 47 (specG ref38_Given_I ref38_Given_O ref38_Given_T) := spec_of seat_mo ref38_Given_Eok Try.func47 (by kernel_rfl) (by kernel_rfl) (fun _ => rfl)

/-! 48 metrolab/metrolabref38.First -/
def ref38_First_I : FIn := { args := [(.imm [(.int .i64), (.sl [(.int .i64), (.int .i64)])]), (.agg [(.int .i64), (.int .i64)]), (.int .i64)], h := [] }
def ref38_First_O : List FOut := [{ res := (.int .i64), h := [] }]
def ref38_First_L3I : Tmpl := { t := [(.imm [(.int .i64), (.sl [(.int .i64), (.int .i64)])]), .any, (.int .i64), .any, (.ptr 0 0), .any, .any, (.int .i64), .any, .any, .any, .any, .any, .any, .any, .any, .any, .any, .any, .any, .any, .any, .any, .any, .any, .any, .any, .any, .any, .any, .any, .any, .any, .any], h := [.cells [(.int .i64), (.int .i64)]] }
def ref38_First_L3O : List Out := [{ x := (.exit 0), tm := { t := [(.imm [(.int .i64), (.sl [(.int .i64), (.int .i64)])]), .any, .any, .any, .any, .any, .any, .any, .any, .any, .any, .any, .any, .any, .any, .any, .any, .any, .any, .any, .any, .any, .any, .any, .any, .any, .any, .any, .any, .any, .any, .any, .any, .any], h := [] } }, { x := .ret, tm := { t := [.any, .any, .any, .any, .any, .any, (.int .i64), .any, .any, .any, .any, .any, .any, .any, .any, .any, .any, .any, .any, .any, .any, .any, .any, .any, .any, .any, .any, .any, .any, .any, .any, .any, .any, .any], h := [] } }]
noncomputable def ref38_First_L3E : Env := { tt := seat_TT, glob := seat_GL, spec := [(38, specG ref38_Ends_I ref38_Ends_O ref38_Ends_T), (45, specG ref38_Near_I ref38_Near_O ref38_Near_T)], body := [(48, Try.f48)], loops := [], nimp := 0 }
noncomputable def ref38_First_L3S (ps : List PV) : TR := stepT ref38_First_L3E 48 Try.f48 3 ref38_First_L3I ref38_First_L3O ps
theorem ref38_First_L3Eok : EnvOK ref38_First_L3E Try.prog := ⟨tok_of seat_TTok,
  all_cons ref38_Ends_spec (all_cons ref38_Near_spec (all_nil)),
  all_nil,
  all_cons (body_ok Try.func48 (by kernel_rfl)) (all_nil)⟩
theorem ref38_First_L3good : LoopGood Try.prog seat_GL ref38_First_L3E.nimp (baseOK Try.prog ref38_First_L3E.iter 48) (nodeC Try.f48 3) (pieceL ref38_First_L3I ref38_First_L3O (loopT ref38_First_L3S)) :=
  loopGood_of seat_mo ref38_First_L3Eok Try.func48 (by kernel_rfl) (by kernel_rfl) (by kernel_rfl) (by kernel_rfl) (fun _ => rfl)
noncomputable def ref38_First_E : Env := { tt := seat_TT, glob := seat_GL, spec := [(38, specG ref38_Ends_I ref38_Ends_O ref38_Ends_T), (45, specG ref38_Near_I ref38_Near_O ref38_Near_T)], body := [(48, Try.f48)], loops := [((48, 3), pieceL ref38_First_L3I ref38_First_L3O (loopT ref38_First_L3S))], nimp := 0 }
noncomputable def ref38_First_T (ps : List PV) : TR := funcT ref38_First_E 48 Try.f48 true ref38_First_I ref38_First_O ps
theorem ref38_First_Eok : EnvOK ref38_First_E Try.prog := ⟨tok_of seat_TTok,
  all_cons ref38_Ends_spec (all_cons ref38_Near_spec (all_nil)),
  all_cons (loop_ok Try.func48 (by kernel_rfl) (by kernel_rfl) ref38_First_L3good) (all_nil),
  all_cons (body_ok Try.func48 (by kernel_rfl)) (all_nil)⟩
theorem ref38_First_spec : Spec Try.prog seat_GL 48 (specG ref38_First_I ref38_First_O ref38_First_T) := spec_of seat_mo ref38_First_Eok Try.func48 (by kernel_rfl) (by kernel_rfl) (fun _ => rfl)

/-! 21 metrolab/metrolabref38.Circular -/
def ref38_Circular_I : FIn := { args := [(.imm [(.int .i64), (.sl [(.int .i64), (.int .i64)])]), (.agg [(.int .i64), (.int .i64)]), (.int .i64)], h := [] }
def ref38_Circular_O : List FOut := [{ res := (.tuple [.bool, (.int .i64), (.int .i64)]), h := [] }]
noncomputable def ref38_Circular_E : Env := { tt := seat_TT, glob := seat_GL, spec := [(44, specG ref38_Tol_I ref38_Tol_O ref38_Tol_T), (47, specG ref38_Given_I ref38_Given_O ref38_Given_T), (48, specG ref38_First_I ref38_First_O ref38_First_T)], body := [(21, Try.f21)], loops := [], nimp := 0 }
noncomputable def ref38_Circular_T (ps : List PV) : TR := funcT ref38_Circular_E 21 Try.f21 true ref38_Circular_I ref38_Circular_O ps
theorem ref38_Circular_Eok : EnvOK ref38_Circular_E Try.prog := ⟨tok_of seat_TTok,
  all_cons ref38_Tol_spec (all_cons ref38_Given_spec (all_cons ref38_First_spec (all_nil))),
  all_nil,
  all_cons (body_ok Try.func21 (by kernel_rfl)) (all_nil)⟩
theorem ref38_Circular_spec : Spec Try.prog seat_GL 21 (specG ref38_Circular_I ref38_Circular_O ref38_Circular_T) := spec_of seat_mo ref38_Circular_Eok Try.func21 (by kernel_rfl) (by kernel_rfl) (fun _ => rfl)

/-! 50 metrolab/metrolabref38.All -/
def ref38_All_I : FIn := { args := [(.imm [(.int .i64), (.sl [(.int .i64), (.int .i64)])])], h := [] }
def ref38_All_O : List FOut := [{ res := (.imm [(.int .i64), (.int .i64)]), h := [] }]
def ref38_All_L4I : Tmpl := { t := [(.imm [(.int .i64), (.sl [(.int .i64), (.int .i64)])]), .any, .any, (.vec 0), (.int .i64), .any, .any, .any, .any, .any, .any, .any, .any, .any, .any, .any, .any, .any, .any], h := [.vec 25 [(.int .i64), (.int .i64)]], pro := [(3, 25, [(.int .i64), (.int .i64)])] }
def ref38_All_L4O : List Out := [{ x := (.exit 0), tm := { t := [.any, .any, .any, (.vec 0), .any, .any, .any, .any, .any, .any, .any, .any, .any, .any, .any, .any, .any, .any, .any], h := [.vec 25 [(.int .i64), (.int .i64)]] } }]
noncomputable def ref38_All_L4E : Env := { tt := seat_TT, glob := seat_GL, spec := [], body := [(50, Try.f50)], loops := [], nimp := 0 }
noncomputable def ref38_All_L4S (ps : List PV) : TR := stepT ref38_All_L4E 50 Try.f50 4 ref38_All_L4I ref38_All_L4O ps
theorem ref38_All_L4Eok : EnvOK ref38_All_L4E Try.prog := ⟨tok_of seat_TTok,
  all_nil,
  all_nil,
  all_cons (body_ok Try.func50 (by kernel_rfl)) (all_nil)⟩
theorem ref38_All_L4good : LoopGood Try.prog seat_GL ref38_All_L4E.nimp (baseOK Try.prog ref38_All_L4E.iter 50) (nodeC Try.f50 4) (pieceL ref38_All_L4I ref38_All_L4O (loopT ref38_All_L4S)) :=
  loopGood_of seat_mo ref38_All_L4Eok Try.func50 (by kernel_rfl) (by kernel_rfl) (by kernel_rfl) (by kernel_rfl) (fun _ => rfl)
noncomputable def ref38_All_E : Env := { tt := seat_TT, glob := seat_GL, spec := [], body := [(50, Try.f50)], loops := [((50, 4), pieceL ref38_All_L4I ref38_All_L4O (loopT ref38_All_L4S))], nimp := 0 }
noncomputable def ref38_All_T (ps : List PV) : TR := funcT ref38_All_E 50 Try.f50 true ref38_All_I ref38_All_O ps
theorem ref38_All_Eok : EnvOK ref38_All_E Try.prog := ⟨tok_of seat_TTok,
  all_nil,
  all_cons (loop_ok Try.func50 (by kernel_rfl) (by kernel_rfl) ref38_All_L4good) (all_nil),
  all_cons (body_ok Try.func50 (by kernel_rfl)) (all_nil)⟩
theorem ref38_All_spec : Spec Try.prog seat_GL 50 (specG ref38_All_I ref38_All_O ref38_All_T) := spec_of seat_mo ref38_All_Eok Try.func50 (by kernel_rfl) (by kernel_rfl) (fun _ => rfl)

/-! 23 metrolab/metrolabref38.Total -/
def ref38_Total_I : FIn := { args := [(.imm [(.int .i64), (.sl [(.int .i64), (.int .i64)])]), (.agg [(.int .i64), (.int .i64)]), (.int .i64)], h := [] }
def ref38_Total_O : List FOut := [{ res := (.tuple [.bool, (.int .i64)]), h := [] }]
noncomputable def ref38_Total_E : Env := { tt := seat_TT, glob := seat_GL, spec := [(38, specG ref38_Ends_I ref38_Ends_O ref38_Ends_T), (44, specG ref38_Tol_I ref38_Tol_O ref38_Tol_T), (45, specG ref38_Near_I ref38_Near_O ref38_Near_T), (47, specG ref38_Given_I ref38_Given_O ref38_Given_T), (50, specG ref38_All_I ref38_All_O ref38_All_T)], body := [(23, Try.f23)], loops := [], nimp := 0 }
noncomputable def ref38_Total_T (ps : List PV) : TR := funcT ref38_Total_E 23 Try.f23 true ref38_Total_I ref38_Total_O ps
theorem ref38_Total_Eok : EnvOK ref38_Total_E Try.prog := ⟨tok_of seat_TTok,
  all_cons ref38_Ends_spec (all_cons ref38_Tol_spec (all_cons ref38_Near_spec (all_cons ref38_Given_spec (all_cons ref38_All_spec (all_nil))))),
  all_nil,
  all_cons (body_ok Try.func23 (by kernel_rfl)) (all_nil)⟩
theorem ref38_Total_spec : Spec Try.prog seat_GL 23 (specG ref38_Total_I ref38_Total_O ref38_Total_T) := spec_of seat_mo ref38_Total_Eok Try.func23 (by kernel_rfl) (by kernel_rfl) (fun _ => rfl)

/-! 25 metrolab/metrolabref38.Least -/
def ref38_Least_I : FIn := { args := [(.imm [(.int .i64), (.sl [(.int .i64), (.int .i64)])]), (.agg [(.int .i64), (.int .i64)])], h := [] }
def ref38_Least_O : List FOut := [{ res := (.tuple [(.int .i64), (.int .i64)]), h := [] }]
def ref38_Least_L8I : Tmpl := { t := [.any, .any, .any, .any, .any, .any, .any, (.int .i64), (.int .i64), (.int .i64), (.int .i64), .any, .any, .any, .any, .any, .any, .any, .any, .any, .any, .any, .any, .any, .any, .any, .any, .any, .any, .any, .any, .any, .any, .any, .any, .any, .any, .any, .any, .any], h := [] }
def ref38_Least_L8O : List Out := [{ x := (.exit 0), tm := { t := [.any, .any, .any, .any, .any, .any, .any, .any, .any, .any, (.int .i64), .any, .any, .any, .any, .any, .any, .any, .any, .any, .any, .any, .any, .any, .any, .any, .any, .any, .any, .any, .any, .any, .any, .any, .any, .any, .any, .any, .any, .any], h := [] } }]
noncomputable def ref38_Least_L8E : Env := { tt := seat_TT, glob := seat_GL, spec := [(38, specG ref38_Ends_I ref38_Ends_O ref38_Ends_T), (45, specG ref38_Near_I ref38_Near_O ref38_Near_T), (47, specG ref38_Given_I ref38_Given_O ref38_Given_T), (50, specG ref38_All_I ref38_All_O ref38_All_T)], body := [(25, Try.f25)], loops := [], nimp := 0 }
noncomputable def ref38_Least_L8S (ps : List PV) : TR := stepT ref38_Least_L8E 25 Try.f25 8 ref38_Least_L8I ref38_Least_L8O ps
theorem ref38_Least_L8Eok : EnvOK ref38_Least_L8E Try.prog := ⟨tok_of seat_TTok,
  all_cons ref38_Ends_spec (all_cons ref38_Near_spec (all_cons ref38_Given_spec (all_cons ref38_All_spec (all_nil)))),
  all_nil,
  all_cons (body_ok Try.func25 (by kernel_rfl)) (all_nil)⟩
theorem ref38_Least_L8good : LoopGood Try.prog seat_GL ref38_Least_L8E.nimp (baseOK Try.prog ref38_Least_L8E.iter 25) (nodeC Try.f25 8) (pieceL ref38_Least_L8I ref38_Least_L8O (loopT ref38_Least_L8S)) :=
  loopGood_of seat_mo ref38_Least_L8Eok Try.func25 (by kernel_rfl) (by kernel_rfl) (by kernel_rfl) (by kernel_rfl) (fun _ => rfl)
noncomputable def ref38_Least_E : Env := { tt := seat_TT, glob := seat_GL, spec := [(38, specG ref38_Ends_I ref38_Ends_O ref38_Ends_T), (45, specG ref38_Near_I ref38_Near_O ref38_Near_T), (47, specG ref38_Given_I ref38_Given_O ref38_Given_T), (50, specG ref38_All_I ref38_All_O ref38_All_T)], body := [(25, Try.f25)], loops := [((25, 8), pieceL ref38_Least_L8I ref38_Least_L8O (loopT ref38_Least_L8S))], nimp := 0 }
noncomputable def ref38_Least_T (ps : List PV) : TR := funcT ref38_Least_E 25 Try.f25 true ref38_Least_I ref38_Least_O ps
theorem ref38_Least_Eok : EnvOK ref38_Least_E Try.prog := ⟨tok_of seat_TTok,
  all_cons ref38_Ends_spec (all_cons ref38_Near_spec (all_cons ref38_Given_spec (all_cons ref38_All_spec (all_nil)))),
  all_cons (loop_ok Try.func25 (by kernel_rfl) (by kernel_rfl) ref38_Least_L8good) (all_nil),
  all_cons (body_ok Try.func25 (by kernel_rfl)) (all_nil)⟩
theorem ref38_Least_spec : Spec Try.prog seat_GL 25 (specG ref38_Least_I ref38_Least_O ref38_Least_T) := spec_of seat_mo ref38_Least_Eok Try.func25 (by kernel_rfl) (by kernel_rfl) (fun _ => rfl)

/-! 5 metrolab/metrolablaw38.RunoutJudges -/
def law38_RunoutJudges_I : FIn := { args := [(.imm [(.int .i64), (.sl [(.int .i64), (.int .i64)])]), (.agg [(.int .i64), (.int .i64)]), (.int .i64)], h := [] }
def law38_RunoutJudges_O : List FOut := [{ res := .bool, h := [] }]
noncomputable def law38_RunoutJudges_E : Env := { tt := seat_TT, glob := seat_GL, spec := [(10, specG ref38_Few_I ref38_Few_O ref38_Few_T), (11, specG law38_own_I law38_own_O law38_own_T), (13, specG law38_awake_I law38_awake_O law38_awake_T), (20, specG runout_Circular_I runout_Circular_O runout_Circular_T), (21, specG ref38_Circular_I ref38_Circular_O ref38_Circular_T), (22, specG runout_Total_I runout_Total_O runout_Total_T), (23, specG ref38_Total_I ref38_Total_O ref38_Total_T), (24, specG runout_Least_I runout_Least_O runout_Least_T), (25, specG ref38_Least_I ref38_Least_O ref38_Least_T)], body := [(5, Try.f5)], loops := [], nimp := 0 }
noncomputable def law38_RunoutJudges_T (ps : List PV) : TR := funcT law38_RunoutJudges_E 5 Try.f5 true law38_RunoutJudges_I law38_RunoutJudges_O ps
theorem law38_RunoutJudges_Eok : EnvOK law38_RunoutJudges_E Try.prog := ⟨tok_of seat_TTok,
  all_cons ref38_Few_spec (all_cons law38_own_spec (all_cons law38_awake_spec (all_cons runout_Circular_spec (all_cons ref38_Circular_spec (all_cons runout_Total_spec (all_cons ref38_Total_spec (all_cons runout_Least_spec (all_cons ref38_Least_spec (all_nil))))))))),
  all_nil,
  all_cons (body_ok Try.func5 (by kernel_rfl)) (all_nil)⟩
theorem law38_RunoutJudges_spec : Spec Try.prog seat_GL 5 (specG law38_RunoutJudges_I law38_RunoutJudges_O law38_RunoutJudges_T) := spec_of seat_mo law38_RunoutJudges_Eok Try.func5 (by kernel_rfl) (by kernel_rfl) (fun _ => rfl)

/-! 26 metrolab/metrolablaw38.right -/
def law38_right_I : FIn := { args := [(.imm [(.int .i64), (.sl [(.int .i64), (.int .i64)])]), (.agg [(.int .i64), (.int .i64)])], h := [] }
def law38_right_O : List FOut := [{ res := .bool, h := [] }]
noncomputable def law38_right_E : Env := { tt := seat_TT, glob := seat_GL, spec := [(10, specG ref38_Few_I ref38_Few_O ref38_Few_T), (11, specG law38_own_I law38_own_O law38_own_T), (47, specG ref38_Given_I ref38_Given_O ref38_Given_T)], body := [(26, Try.f26)], loops := [], nimp := 0 }
noncomputable def law38_right_T (ps : List PV) : TR := funcT law38_right_E 26 Try.f26 true law38_right_I law38_right_O ps
theorem law38_right_Eok : EnvOK law38_right_E Try.prog := ⟨tok_of seat_TTok,
  all_cons ref38_Few_spec (all_cons law38_own_spec (all_cons ref38_Given_spec (all_nil))),
  all_nil,
  all_cons (body_ok Try.func26 (by kernel_rfl)) (all_nil)⟩
theorem law38_right_spec : Spec Try.prog seat_GL 26 (specG law38_right_I law38_right_O law38_right_T) := spec_of seat_mo law38_right_Eok Try.func26 (by kernel_rfl) (by kernel_rfl) (fun _ => rfl)

/-! 6 metrolab/metrolablaw38.RunoutBounds -/
def law38_RunoutBounds_I : FIn := { args := [(.imm [(.int .i64), (.sl [(.int .i64), (.int .i64)])]), (.agg [(.int .i64), (.int .i64)]), (.int .u16)], h := [] }
def law38_RunoutBounds_O : List FOut := [{ res := .bool, h := [] }]
noncomputable def law38_RunoutBounds_E : Env := { tt := seat_TT, glob := seat_GL, spec := [(13, specG law38_awake_I law38_awake_O law38_awake_T), (20, specG runout_Circular_I runout_Circular_O runout_Circular_T), (22, specG runout_Total_I runout_Total_O runout_Total_T), (24, specG runout_Least_I runout_Least_O runout_Least_T), (26, specG law38_right_I law38_right_O law38_right_T)], body := [(6, Try.f6)], loops := [], nimp := 0 }
noncomputable def law38_RunoutBounds_T (ps : List PV) : TR := funcT law38_RunoutBounds_E 6 Try.f6 true law38_RunoutBounds_I law38_RunoutBounds_O ps
theorem law38_RunoutBounds_Eok : EnvOK law38_RunoutBounds_E Try.prog := ⟨tok_of seat_TTok,
  all_cons law38_awake_spec (all_cons runout_Circular_spec (all_cons runout_Total_spec (all_cons runout_Least_spec (all_cons law38_right_spec (all_nil))))),
  all_nil,
  all_cons (body_ok Try.func6 (by kernel_rfl)) (all_nil)⟩
theorem law38_RunoutBounds_spec : Spec Try.prog seat_GL 6 (specG law38_RunoutBounds_I law38_RunoutBounds_O law38_RunoutBounds_T) := spec_of seat_mo law38_RunoutBounds_Eok Try.func6 (by kernel_rfl) (by kernel_rfl) (fun _ => rfl)

/-! 7 metrolab/metrolablaw38.RunoutSquares -/
def law38_RunoutSquares_I : FIn := { args := [(.int .u16), (.int .u16), (.int .u16)], h := [] }
def law38_RunoutSquares_O : List FOut := [{ res := .bool, h := [] }]
noncomputable def law38_RunoutSquares_E : Env := { tt := seat_TT, glob := seat_GL, spec := [(13, specG law38_awake_I law38_awake_O law38_awake_T), (18, specG runout_Differ_I runout_Differ_O runout_Differ_T)], body := [(7, Try.f7)], loops := [], nimp := 0 }
noncomputable def law38_RunoutSquares_T (ps : List PV) : TR := funcT law38_RunoutSquares_E 7 Try.f7 true law38_RunoutSquares_I law38_RunoutSquares_O ps
theorem law38_RunoutSquares_Eok : EnvOK law38_RunoutSquares_E Try.prog := ⟨tok_of seat_TTok,
  all_cons law38_awake_spec (all_cons runout_Differ_spec (all_nil)),
  all_nil,
  all_cons (body_ok Try.func7 (by kernel_rfl)) (all_nil)⟩
theorem law38_RunoutSquares_spec : Spec Try.prog seat_GL 7 (specG law38_RunoutSquares_I law38_RunoutSquares_O law38_RunoutSquares_T) := spec_of seat_mo law38_RunoutSquares_Eok Try.func7 (by kernel_rfl) (by kernel_rfl) (fun _ => rfl)

/-! 28 metrolab/metrolablaw38.RunoutMoves$1 -/
def law38_RunoutMoves_1_I : FIn := { args := [(.agg [(.int .i64), (.int .i64)]), (.ptr 0 0)], h := [.cells [(.int .i64), (.int .i64)]] }
def law38_RunoutMoves_1_O : List FOut := [{ res := (.agg [(.int .i64), (.int .i64)]), h := [.cells [(.int .i64), (.int .i64)]] }]
noncomputable def law38_RunoutMoves_1_E : Env := { tt := seat_TT, glob := seat_GL, spec := [], body := [(28, Try.f28)], loops := [], nimp := 1 }
noncomputable def law38_RunoutMoves_1_T (ps : List PV) : TR := funcT law38_RunoutMoves_1_E 28 Try.f28 true law38_RunoutMoves_1_I law38_RunoutMoves_1_O ps
theorem law38_RunoutMoves_1_Eok : EnvOK law38_RunoutMoves_1_E Try.prog := ⟨tok_of seat_TTok,
  all_nil,
  all_nil,
  all_cons (body_ok Try.func28 (by kernel_rfl)) (all_nil)⟩
theorem law38_RunoutMoves_1_spec : Spec Try.prog seat_GL 28 (specG law38_RunoutMoves_1_I law38_RunoutMoves_1_O law38_RunoutMoves_1_T) := spec_of seat_mo law38_RunoutMoves_1_Eok Try.func28 (by kernel_rfl) (by kernel_rfl) (fun _ => rfl)

/-! 29 slices.Clone[[]metrolab/runout.Section,metrolab/runout.Section] -/
def slices_Clone_runout_Section_runout_Section_I : FIn := { args := [(.imm [(.int .i64), (.sl [(.int .i64), (.int .i64)])])], h := [] }
def slices_Clone_runout_Section_runout_Section_O : List FOut := [{ res := (.vec 0), h := [.vec 62 [(.int .i64), (.sl [(.int .i64), (.int .i64)])]] }]
noncomputable def slices_Clone_runout_Section_runout_Section_E : Env := { tt := seat_TT, glob := seat_GL, spec := [], body := [(29, Try.f29)], loops := [], nimp := 0 }
noncomputable def slices_Clone_runout_Section_runout_Section_T (ps : List PV) : TR := funcT slices_Clone_runout_Section_runout_Section_E 29 Try.f29 false slices_Clone_runout_Section_runout_Section_I slices_Clone_runout_Section_runout_Section_O ps
theorem slices_Clone_runout_Section_runout_Section_Eok : EnvOK slices_Clone_runout_Section_runout_Section_E Try.prog := ⟨tok_of seat_TTok,
  all_nil,
  all_nil,
  all_cons (body_ok Try.func29 (by kernel_rfl)) (all_nil)⟩
theorem slices_Clone_runout_Section_runout_Section_spec : Spec Try.prog seat_GL 29 (specG slices_Clone_runout_Section_runout_Section_I slices_Clone_runout_Section_runout_Section_O slices_Clone_runout_Section_runout_Section_T) := spec_of seat_mo slices_Clone_runout_Section_runout_Section_Eok Try.func29 (by kernel_rfl) (by kernel_rfl) (fun _ => rfl)

/-! 8 metrolab/metrolablaw38.RunoutMoves -/
def law38_RunoutMoves_I : FIn := { args := [(.imm [(.int .i64), (.sl [(.int .i64), (.int .i64)])]), (.agg [(.int .i64), (.int .i64)]), (.agg [(.int .i64), (.int .i64)])], h := [] }
def law38_RunoutMoves_O : List FOut := [{ res := .bool, h := [] }]
def law38_RunoutMoves_L16I : Tmpl := { t := [(.imm [(.int .i64), (.sl [(.int .i64), (.int .i64)])]), .any, .any, .any, (.ptr 0 0), .any, .any, (.fn 28 [] [(.ptr 1 0)]), (.vec 2), .any, (.ptr 3 0), (.vec 4), .any, .any, .any, .any, .any, .any, .any, .any, .any, .any, .any, .any, .any, .any, .any, .any, .any, .any, .any, .any, (.imm [(.int .i64), (.sl [(.int .i64), (.int .i64)])]), (.int .i64), (.int .i64), .any, .any, .any, .any, (.imm [(.int .i64), (.int .i64)]), (.int .i64), (.int .i64), .any, .any, .any, .any, .any, .any, .any, .any, .any, .any, .any, .any, .any, .any, .any, .any, .any, .any, .any, .any, .any, .any, .any, .any, .any, .any, .any, .any, .any, .any, .any, .any, .any, .any, .any, .any, .any, .any, .any, .any, .any, .any, .any, .any, .any, .any, .any, .any, .any, .any, .any, .any, .any, .any, .any, .any, .any, .any, .any, .any, .any, .any, .any, .any, .any, .any, .any, .any, .any, .any, .any, .any, .any, .any, .any, .any, .any, .any, .any, .any, .any, .any, .any, .any, .any, .any], h := [.cells [(.int .i64), (.int .i64)], .cells [(.int .i64), (.int .i64)], .vec 62 [(.int .i64), (.sl [(.int .i64), (.int .i64)])], .cells [(.int .i64), (.imm [(.int .i64), (.int .i64)])], .vec 25 [(.int .i64), (.int .i64)]], pro := [(11, 25, [(.int .i64), (.int .i64)])] }
def law38_RunoutMoves_L16O : List Out := [{ x := (.exit 2), tm := { t := [(.imm [(.int .i64), (.sl [(.int .i64), (.int .i64)])]), .any, .any, .any, (.ptr 0 0), .any, .any, (.fn 28 [] [(.ptr 1 0)]), (.vec 2), .any, (.ptr 3 0), (.vec 4), .any, .any, .any, .any, .any, .any, .any, .any, .any, .any, .any, .any, .any, .any, .any, .any, .any, .any, .any, .any, (.imm [(.int .i64), (.sl [(.int .i64), (.int .i64)])]), (.int .i64), (.int .i64), .any, .any, .any, .any, .any, .any, .any, .any, .any, .any, .any, .any, .any, .any, .any, .any, .any, .any, .any, .any, .any, .any, .any, .any, .any, .any, .any, .any, .any, .any, .any, .any, .any, .any, .any, .any, .any, .any, .any, .any, .any, .any, .any, .any, .any, .any, .any, .any, .any, .any, .any, .any, .any, .any, .any, .any, .any, .any, .any, .any, .any, .any, .any, .any, .any, .any, .any, .any, .any, .any, .any, .any, .any, .any, .any, .any, .any, .any, .any, .any, .any, .any, .any, .any, .any, .any, .any, .any, .any, .any, .any, .any, .any], h := [.cells [(.int .i64), (.int .i64)], .cells [(.int .i64), (.int .i64)], .vec 62 [(.int .i64), (.sl [(.int .i64), (.int .i64)])], .cells [(.int .i64), (.imm [(.int .i64), (.int .i64)])], .vec 25 [(.int .i64), (.int .i64)]] } }]
noncomputable def law38_RunoutMoves_L16E : Env := { tt := seat_TT, glob := seat_GL, spec := [(13, specG law38_awake_I law38_awake_O law38_awake_T), (24, specG runout_Least_I runout_Least_O runout_Least_T), (26, specG law38_right_I law38_right_O law38_right_T), (27, specG ref07_Right_I ref07_Right_O ref07_Right_T), (28, specG law38_RunoutMoves_1_I law38_RunoutMoves_1_O law38_RunoutMoves_1_T), (29, specG slices_Clone_runout_Section_runout_Section_I slices_Clone_runout_Section_runout_Section_O slices_Clone_runout_Section_runout_Section_T)], body := [(8, Try.f8)], loops := [], nimp := 0 }
noncomputable def law38_RunoutMoves_L16S (ps : List PV) : TR := stepT law38_RunoutMoves_L16E 8 Try.f8 16 law38_RunoutMoves_L16I law38_RunoutMoves_L16O ps
theorem law38_RunoutMoves_L16Eok : EnvOK law38_RunoutMoves_L16E Try.prog := ⟨tok_of seat_TTok,
  all_cons law38_awake_spec (all_cons runout_Least_spec (all_cons law38_right_spec (all_cons ref07_Right_spec (all_cons law38_RunoutMoves_1_spec (all_cons slices_Clone_runout_Section_runout_Section_spec (all_nil)))))),
  all_nil,
  all_cons (body_ok Try.func8 (by kernel_rfl)) (all_nil)⟩
theorem law38_RunoutMoves_L16good : LoopGood Try.prog seat_GL law38_RunoutMoves_L16E.nimp (baseOK Try.prog law38_RunoutMoves_L16E.iter 8) (nodeC Try.f8 16) (pieceL law38_RunoutMoves_L16I law38_RunoutMoves_L16O (loopT law38_RunoutMoves_L16S)) :=
  loopGood_of seat_mo law38_RunoutMoves_L16Eok Try.func8 (by kernel_rfl) (by kernel_rfl) (by kernel_rfl) (by kernel_rfl) (fun _ => rfl)
def law38_RunoutMoves_L8I : Tmpl := { t := [(.imm [(.int .i64), (.sl [(.int .i64), (.int .i64)])]), .any, .any, .any, (.ptr 0 0), .any, .any, (.fn 28 [] [(.ptr 1 0)]), (.vec 2), .any, .any, .any, .any, .any, .any, .any, .any, .any, .any, .any, .any, .any, .any, .any, .any, .any, .any, .any, .any, .any, .any, .any, (.imm [(.int .i64), (.sl [(.int .i64), (.int .i64)])]), (.int .i64), (.int .i64), .any, .any, .any, .any, .any, .any, .any, .any, .any, .any, .any, .any, .any, .any, .any, .any, .any, .any, .any, .any, .any, .any, .any, .any, .any, .any, .any, .any, .any, .any, .any, .any, .any, .any, .any, .any, .any, .any, .any, .any, .any, .any, .any, .any, .any, .any, .any, .any, .any, .any, .any, .any, .any, .any, .any, .any, .any, .any, .any, .any, .any, .any, .any, .any, .any, .any, .any, .any, .any, .any, .any, .any, .any, .any, .any, .any, .any, .any, .any, .any, .any, .any, .any, .any, .any, .any, .any, .any, .any, .any, .any, .any, .any], h := [.cells [(.int .i64), (.int .i64)], .cells [(.int .i64), (.int .i64)], .vec 62 [(.int .i64), (.sl [(.int .i64), (.int .i64)])]], pro := [(8, 62, [(.int .i64), (.sl [(.int .i64), (.int .i64)])])] }
def law38_RunoutMoves_L8O : List Out := [{ x := (.exit 0), tm := { t := [(.imm [(.int .i64), (.sl [(.int .i64), (.int .i64)])]), .any, .any, .any, (.ptr 0 0), .any, .any, (.fn 28 [] [(.ptr 1 0)]), (.vec 2), .any, .any, .any, .any, .any, .any, .any, .any, .any, .any, .any, .any, .any, .any, .any, .any, .any, .any, .any, .any, .any, .any, .any, .any, .any, .any, .any, .any, .any, .any, .any, .any, .any, .any, .any, .any, .any, .any, .any, .any, .any, .any, .any, .any, .any, .any, .any, .any, .any, .any, .any, .any, .any, .any, .any, .any, .any, .any, .any, .any, .any, .any, .any, .any, .any, .any, .any, .any, .any, .any, .any, .any, .any, .any, .any, .any, .any, .any, .any, .any, .any, .any, .any, .any, .any, .any, .any, .any, .any, .any, .any, .any, .any, .any, .any, .any, .any, .any, .any, .any, .any, .any, .any, .any, .any, .any, .any, .any, .any, .any, .any, .any, .any, .any, .any, .any, .any, .any, .any], h := [.cells [(.int .i64), (.int .i64)], .cells [(.int .i64), (.int .i64)], .vec 62 [(.int .i64), (.sl [(.int .i64), (.int .i64)])]] } }]
noncomputable def law38_RunoutMoves_L8E : Env := { tt := seat_TT, glob := seat_GL, spec := [(13, specG law38_awake_I law38_awake_O law38_awake_T), (24, specG runout_Least_I runout_Least_O runout_Least_T), (26, specG law38_right_I law38_right_O law38_right_T), (27, specG ref07_Right_I ref07_Right_O ref07_Right_T), (28, specG law38_RunoutMoves_1_I law38_RunoutMoves_1_O law38_RunoutMoves_1_T), (29, specG slices_Clone_runout_Section_runout_Section_I slices_Clone_runout_Section_runout_Section_O slices_Clone_runout_Section_runout_Section_T)], body := [(8, Try.f8)], loops := [((8, 16), pieceL law38_RunoutMoves_L16I law38_RunoutMoves_L16O (loopT law38_RunoutMoves_L16S))], nimp := 0 }
noncomputable def law38_RunoutMoves_L8S (ps : List PV) : TR := stepT law38_RunoutMoves_L8E 8 Try.f8 8 law38_RunoutMoves_L8I law38_RunoutMoves_L8O ps
theorem law38_RunoutMoves_L8Eok : EnvOK law38_RunoutMoves_L8E Try.prog := ⟨tok_of seat_TTok,
  all_cons law38_awake_spec (all_cons runout_Least_spec (all_cons law38_right_spec (all_cons ref07_Right_spec (all_cons law38_RunoutMoves_1_spec (all_cons slices_Clone_runout_Section_runout_Section_spec (all_nil)))))),
  all_cons (loop_ok Try.func8 (by kernel_rfl) (by kernel_rfl) law38_RunoutMoves_L16good) (all_nil),
  all_cons (body_ok Try.func8 (by kernel_rfl)) (all_nil)⟩
theorem law38_RunoutMoves_L8good : LoopGood Try.prog seat_GL law38_RunoutMoves_L8E.nimp (baseOK Try.prog law38_RunoutMoves_L8E.iter 8) (nodeC Try.f8 8) (pieceL law38_RunoutMoves_L8I law38_RunoutMoves_L8O (loopT law38_RunoutMoves_L8S)) :=
  loopGood_of seat_mo law38_RunoutMoves_L8Eok Try.func8 (by kernel_rfl) (by kernel_rfl) (by kernel_rfl) (by kernel_rfl) (fun _ => rfl)
noncomputable def law38_RunoutMoves_E : Env := { tt := seat_TT, glob := seat_GL, spec := [(13, specG law38_awake_I law38_awake_O law38_awake_T), (24, specG runout_Least_I runout_Least_O runout_Least_T), (26, specG law38_right_I law38_right_O law38_right_T), (27, specG ref07_Right_I ref07_Right_O ref07_Right_T), (28, specG law38_RunoutMoves_1_I law38_RunoutMoves_1_O law38_RunoutMoves_1_T), (29, specG slices_Clone_runout_Section_runout_Section_I slices_Clone_runout_Section_runout_Section_O slices_Clone_runout_Section_runout_Section_T)], body := [(8, Try.f8)], loops := [((8, 8), pieceL law38_RunoutMoves_L8I law38_RunoutMoves_L8O (loopT law38_RunoutMoves_L8S))], nimp := 0 }
noncomputable def law38_RunoutMoves_T (ps : List PV) : TR := funcT law38_RunoutMoves_E 8 Try.f8 true law38_RunoutMoves_I law38_RunoutMoves_O ps
theorem law38_RunoutMoves_Eok : EnvOK law38_RunoutMoves_E Try.prog := ⟨tok_of seat_TTok,
  all_cons law38_awake_spec (all_cons runout_Least_spec (all_cons law38_right_spec (all_cons ref07_Right_spec (all_cons law38_RunoutMoves_1_spec (all_cons slices_Clone_runout_Section_runout_Section_spec (all_nil)))))),
  all_cons (loop_ok Try.func8 (by kernel_rfl) (by kernel_rfl) law38_RunoutMoves_L8good) (all_nil),
  all_cons (body_ok Try.func8 (by kernel_rfl)) (all_nil)⟩
theorem law38_RunoutMoves_spec : Spec Try.prog seat_GL 8 (specG law38_RunoutMoves_I law38_RunoutMoves_O law38_RunoutMoves_T) := spec_of seat_mo law38_RunoutMoves_Eok Try.func8 (by kernel_rfl) (by kernel_rfl) (fun _ => rfl)

/-! 30 metrolab/metrolabref07.FewSpots -/
def ref07_FewSpots_I : FIn := { args := [(.imm [(.int .i64), (.int .i64), (.int .i64)])], h := [] }
def ref07_FewSpots_O : List FOut := [{ res := .bool, h := [] }]
noncomputable def ref07_FewSpots_E : Env := { tt := seat_TT, glob := seat_GL, spec := [], body := [(30, Try.f30)], loops := [], nimp := 0 }
noncomputable def ref07_FewSpots_T (ps : List PV) : TR := funcT ref07_FewSpots_E 30 Try.f30 true ref07_FewSpots_I ref07_FewSpots_O ps
theorem ref07_FewSpots_Eok : EnvOK ref07_FewSpots_E Try.prog := ⟨tok_of seat_TTok,
  all_nil,
  all_nil,
  all_cons (body_ok Try.func30 (by kernel_rfl)) (all_nil)⟩
theorem ref07_FewSpots_spec : Spec Try.prog seat_GL 30 (specG ref07_FewSpots_I ref07_FewSpots_O ref07_FewSpots_T) := spec_of seat_mo ref07_FewSpots_Eok Try.func30 (by kernel_rfl) (by kernel_rfl) (fun _ => rfl)

/-! 69 metrolab/vector.high -/
def vector_high_I : FIn := { args := [(.agg [(.int .i64), (.int .i64), (.int .i64)])], h := [] }
def vector_high_O : List FOut := [{ res := .bool, h := [] }]
noncomputable def vector_high_E : Env := { tt := seat_TT, glob := seat_GL, spec := [(72, specG vector_within_I vector_within_O vector_within_T)], body := [(69, Try.f69)], loops := [], nimp := 0 }
noncomputable def vector_high_T (ps : List PV) : TR := funcT vector_high_E 69 Try.f69 true vector_high_I vector_high_O ps
theorem vector_high_Eok : EnvOK vector_high_E Try.prog := ⟨tok_of seat_TTok,
  all_cons vector_within_spec (all_nil),
  all_nil,
  all_cons (body_ok Try.func69 (by kernel_rfl)) (all_nil)⟩
theorem vector_high_spec : Spec Try.prog seat_GL 69 (specG vector_high_I vector_high_O vector_high_T) := spec_of seat_mo vector_high_Eok Try.func69 (by kernel_rfl) (by kernel_rfl) (fun _ => rfl)

/-! 82 metrolab/vector.all[metrolab/api.Spot] -/
def vector_all_api_Spot_I : FIn := { args := [(.fn 69 [] []), (.imm [(.int .i64), (.int .i64), (.int .i64)])], h := [] }
def vector_all_api_Spot_O : List FOut := [{ res := (.int .i64), h := [] }]
def vector_all_api_Spot_L3I : Tmpl := { t := [(.fn 69 [] []), .any, .any, .any, .any, .any, .any, (.imm [(.int .i64), (.int .i64), (.int .i64)]), (.int .i64), (.int .i64), .any, .any, .any, .any, .any, .any, .any, .any], h := [] }
def vector_all_api_Spot_L3O : List Out := [{ x := (.exit 0), tm := { t := [.any, .any, .any, .any, .any, .any, .any, .any, .any, .any, .any, .any, .any, .any, .any, .any, .any, .any], h := [] } }, { x := .ret, tm := { t := [.any, .any, .any, .any, (.int .i64), .any, .any, .any, .any, .any, .any, .any, .any, .any, .any, .any, .any, .any], h := [] } }]
noncomputable def vector_all_api_Spot_L3E : Env := { tt := seat_TT, glob := seat_GL, spec := [(69, specG vector_high_I vector_high_O vector_high_T)], body := [(82, Try.f82)], loops := [], nimp := 0 }
noncomputable def vector_all_api_Spot_L3S (ps : List PV) : TR := stepT vector_all_api_Spot_L3E 82 Try.f82 3 vector_all_api_Spot_L3I vector_all_api_Spot_L3O ps
theorem vector_all_api_Spot_L3Eok : EnvOK vector_all_api_Spot_L3E Try.prog := ⟨tok_of seat_TTok,
  all_cons vector_high_spec (all_nil),
  all_nil,
  all_cons (body_ok Try.func82 (by kernel_rfl)) (all_nil)⟩
theorem vector_all_api_Spot_L3good : LoopGood Try.prog seat_GL vector_all_api_Spot_L3E.nimp (baseOK Try.prog vector_all_api_Spot_L3E.iter 82) (nodeC Try.f82 3) (pieceL vector_all_api_Spot_L3I vector_all_api_Spot_L3O (loopT vector_all_api_Spot_L3S)) :=
  loopGood_of seat_mo vector_all_api_Spot_L3Eok Try.func82 (by kernel_rfl) (by kernel_rfl) (by kernel_rfl) (by kernel_rfl) (fun _ => rfl)
noncomputable def vector_all_api_Spot_E : Env := { tt := seat_TT, glob := seat_GL, spec := [(69, specG vector_high_I vector_high_O vector_high_T)], body := [(82, Try.f82)], loops := [((82, 3), pieceL vector_all_api_Spot_L3I vector_all_api_Spot_L3O (loopT vector_all_api_Spot_L3S))], nimp := 0 }
noncomputable def vector_all_api_Spot_T (ps : List PV) : TR := funcT vector_all_api_Spot_E 82 Try.f82 true vector_all_api_Spot_I vector_all_api_Spot_O ps
theorem vector_all_api_Spot_Eok : EnvOK vector_all_api_Spot_E Try.prog := ⟨tok_of seat_TTok,
  all_cons vector_high_spec (all_nil),
  all_cons (loop_ok Try.func82 (by kernel_rfl) (by kernel_rfl) vector_all_api_Spot_L3good) (all_nil),
  all_cons (body_ok Try.func82 (by kernel_rfl)) (all_nil)⟩
theorem vector_all_api_Spot_spec : Spec Try.prog seat_GL 82 (specG vector_all_api_Spot_I vector_all_api_Spot_O vector_all_api_Spot_T) := spec_of seat_mo vector_all_api_Spot_Eok Try.func82 (by kernel_rfl) (by kernel_rfl) (fun _ => rfl)

/-! 68 metrolab/vector.checked[metrolab/api.Spot] -/
def vector_checked_api_Spot_I : FIn := { args := [(.imm [(.int .i64), (.int .i64), (.int .i64)]), (.fn 69 [] [])], h := [] }
def vector_checked_api_Spot_O : List FOut := [{ res := (.int .i64), h := [] }]
noncomputable def vector_checked_api_Spot_E : Env := { tt := seat_TT, glob := seat_GL, spec := [(69, specG vector_high_I vector_high_O vector_high_T), (82, specG vector_all_api_Spot_I vector_all_api_Spot_O vector_all_api_Spot_T)], body := [(68, Try.f68)], loops := [], nimp := 0 }
noncomputable def vector_checked_api_Spot_T (ps : List PV) : TR := funcT vector_checked_api_Spot_E 68 Try.f68 true vector_checked_api_Spot_I vector_checked_api_Spot_O ps
theorem vector_checked_api_Spot_Eok : EnvOK vector_checked_api_Spot_E Try.prog := ⟨tok_of seat_TTok,
  all_cons vector_high_spec (all_cons vector_all_api_Spot_spec (all_nil)),
  all_nil,
  all_cons (body_ok Try.func68 (by kernel_rfl)) (all_nil)⟩
theorem vector_checked_api_Spot_spec : Spec Try.prog seat_GL 68 (specG vector_checked_api_Spot_I vector_checked_api_Spot_O vector_checked_api_Spot_T) := spec_of seat_mo vector_checked_api_Spot_Eok Try.func68 (by kernel_rfl) (by kernel_rfl) (fun _ => rfl)

/-! 52 metrolab/vector.CheckSpots -/
def vector_CheckSpots_I : FIn := { args := [(.imm [(.int .i64), (.int .i64), (.int .i64)])], h := [] }
def vector_CheckSpots_O : List FOut := [{ res := (.int .i64), h := [] }]
noncomputable def vector_CheckSpots_E : Env := { tt := seat_TT, glob := seat_GL, spec := [(68, specG vector_checked_api_Spot_I vector_checked_api_Spot_O vector_checked_api_Spot_T), (69, specG vector_high_I vector_high_O vector_high_T)], body := [(52, Try.f52)], loops := [], nimp := 0 }
noncomputable def vector_CheckSpots_T (ps : List PV) : TR := funcT vector_CheckSpots_E 52 Try.f52 true vector_CheckSpots_I vector_CheckSpots_O ps
theorem vector_CheckSpots_Eok : EnvOK vector_CheckSpots_E Try.prog := ⟨tok_of seat_TTok,
  all_cons vector_checked_api_Spot_spec (all_cons vector_high_spec (all_nil)),
  all_nil,
  all_cons (body_ok Try.func52 (by kernel_rfl)) (all_nil)⟩
theorem vector_CheckSpots_spec : Spec Try.prog seat_GL 52 (specG vector_CheckSpots_I vector_CheckSpots_O vector_CheckSpots_T) := spec_of seat_mo vector_CheckSpots_Eok Try.func52 (by kernel_rfl) (by kernel_rfl) (fun _ => rfl)

/-! 31 metrolab/runout.Face -/
def runout_Face_I : FIn := { args := [(.imm [(.int .i64), (.int .i64), (.int .i64)]), (.int .i64), (.int .i64)], h := [] }
def runout_Face_O : List FOut := [{ res := (.tuple [.bool, (.int .i64)]), h := [] }]
def runout_Face_L15I : Tmpl := { t := [.any, (.int .i64), (.int .i64), .any, .any, .any, .any, .any, .any, (.vec 0), .any, .any, .any, .any, .any, .any, .any, .any, .any, .any, .any, .any, .any, .any, .any, .any, .any, .any, .any, .any, .any, .any, (.imm [(.int .i64), (.int .i64), (.int .i64)]), (.int .i64), (.int .i64), .any, .any, .any, .any, .any, .any, .any, .any, .any, .any, .any, .any, .any, .any, .any, .any, .any, .any, .any, .any, .any, .any, .any], h := [.vec 3 [(.int .i64)]], pro := [(9, 3, [(.int .i64)])] }
def runout_Face_L15O : List Out := [{ x := (.exit 1), tm := { t := [.any, .any, (.int .i64), .any, .any, .any, .any, .any, .any, (.vec 0), .any, .any, .any, .any, .any, .any, .any, .any, .any, .any, .any, .any, .any, .any, .any, .any, .any, .any, .any, .any, .any, .any, .any, .any, .any, .any, .any, .any, .any, .any, .any, .any, .any, .any, .any, .any, .any, .any, .any, .any, .any, .any, .any, .any, .any, .any, .any, .any], h := [.vec 3 [(.int .i64)]] } }]
noncomputable def runout_Face_L15E : Env := { tt := seat_TT, glob := seat_GL, spec := [(42, specG runout_tolerance_I runout_tolerance_O runout_tolerance_T), (52, specG vector_CheckSpots_I vector_CheckSpots_O vector_CheckSpots_T), (53, specG slices_Max_int_int_I slices_Max_int_int_O slices_Max_int_int_T), (54, specG slices_Min_int_int_I slices_Min_int_int_O slices_Min_int_int_T)], body := [(31, Try.f31)], loops := [], nimp := 0 }
noncomputable def runout_Face_L15S (ps : List PV) : TR := stepT runout_Face_L15E 31 Try.f31 15 runout_Face_L15I runout_Face_L15O ps
theorem runout_Face_L15Eok : EnvOK runout_Face_L15E Try.prog := ⟨tok_of seat_TTok,
  all_cons runout_tolerance_spec (all_cons vector_CheckSpots_spec (all_cons slices_Max_int_int_spec (all_cons slices_Min_int_int_spec (all_nil)))),
  all_nil,
  all_cons (body_ok Try.func31 (by kernel_rfl)) (all_nil)⟩
theorem runout_Face_L15good : LoopGood Try.prog seat_GL runout_Face_L15E.nimp (baseOK Try.prog runout_Face_L15E.iter 31) (nodeC Try.f31 15) (pieceL runout_Face_L15I runout_Face_L15O (loopT runout_Face_L15S)) :=
  loopGood_of seat_mo runout_Face_L15Eok Try.func31 (by kernel_rfl) (by kernel_rfl) (by kernel_rfl) (by kernel_rfl) (fun _ => rfl)
noncomputable def runout_Face_E : Env := { tt := seat_TT, glob := seat_GL, spec := [(42, specG runout_tolerance_I runout_tolerance_O runout_tolerance_T), (52, specG vector_CheckSpots_I vector_CheckSpots_O vector_CheckSpots_T), (53, specG slices_Max_int_int_I slices_Max_int_int_O slices_Max_int_int_T), (54, specG slices_Min_int_int_I slices_Min_int_int_O slices_Min_int_int_T)], body := [(31, Try.f31)], loops := [((31, 15), pieceL runout_Face_L15I runout_Face_L15O (loopT runout_Face_L15S))], nimp := 0 }
noncomputable def runout_Face_T (ps : List PV) : TR := funcT runout_Face_E 31 Try.f31 true runout_Face_I runout_Face_O ps
theorem runout_Face_Eok : EnvOK runout_Face_E Try.prog := ⟨tok_of seat_TTok,
  all_cons runout_tolerance_spec (all_cons vector_CheckSpots_spec (all_cons slices_Max_int_int_spec (all_cons slices_Min_int_int_spec (all_nil)))),
  all_cons (loop_ok Try.func31 (by kernel_rfl) (by kernel_rfl) runout_Face_L15good) (all_nil),
  all_cons (body_ok Try.func31 (by kernel_rfl)) (all_nil)⟩
theorem runout_Face_spec : Spec Try.prog seat_GL 31 (specG runout_Face_I runout_Face_O runout_Face_T) := spec_of seat_mo runout_Face_Eok Try.func31 (by kernel_rfl) (by kernel_rfl) (fun _ => rfl)

/-! 70 metrolab/metrolabref07.RightSpot -/
def ref07_RightSpot_I : FIn := { args := [(.agg [(.int .i64), (.int .i64), (.int .i64)])], h := [] }
def ref07_RightSpot_O : List FOut := [{ res := .bool, h := [] }]
noncomputable def ref07_RightSpot_E : Env := { tt := seat_TT, glob := seat_GL, spec := [(51, specG ref07_in_I ref07_in_O ref07_in_T)], body := [(70, Try.f70)], loops := [], nimp := 0 }
noncomputable def ref07_RightSpot_T (ps : List PV) : TR := funcT ref07_RightSpot_E 70 Try.f70 true ref07_RightSpot_I ref07_RightSpot_O ps
theorem ref07_RightSpot_Eok : EnvOK ref07_RightSpot_E Try.prog := ⟨tok_of seat_TTok,
  all_cons ref07_in_spec (all_nil),
  all_nil,
  all_cons (body_ok Try.func70 (by kernel_rfl)) (all_nil)⟩
theorem ref07_RightSpot_spec : Spec Try.prog seat_GL 70 (specG ref07_RightSpot_I ref07_RightSpot_O ref07_RightSpot_T) := spec_of seat_mo ref07_RightSpot_Eok Try.func70 (by kernel_rfl) (by kernel_rfl) (fun _ => rfl)

/-! 55 metrolab/metrolabref07.CheckSpots -/
def ref07_CheckSpots_I : FIn := { args := [(.imm [(.int .i64), (.int .i64), (.int .i64)])], h := [] }
def ref07_CheckSpots_O : List FOut := [{ res := (.int .i64), h := [] }]
def ref07_CheckSpots_L6I : Tmpl := { t := [(.imm [(.int .i64), (.int .i64), (.int .i64)]), .any, .any, (.int .i64), .any, .any, .any, .any, .any, .any, .any, .any, .any, .any, .any, .any, .any, .any, .any], h := [] }
def ref07_CheckSpots_L6O : List Out := [{ x := (.exit 0), tm := { t := [.any, .any, .any, .any, .any, .any, .any, .any, .any, .any, .any, .any, .any, .any, .any, .any, .any, .any, .any], h := [] } }, { x := .ret, tm := { t := [.any, .any, (.int .i64), .any, .any, .any, .any, .any, .any, .any, .any, .any, .any, .any, .any, .any, .any, .any, .any], h := [] } }]
noncomputable def ref07_CheckSpots_L6E : Env := { tt := seat_TT, glob := seat_GL, spec := [(70, specG ref07_RightSpot_I ref07_RightSpot_O ref07_RightSpot_T)], body := [(55, Try.f55)], loops := [], nimp := 0 }
noncomputable def ref07_CheckSpots_L6S (ps : List PV) : TR := stepT ref07_CheckSpots_L6E 55 Try.f55 6 ref07_CheckSpots_L6I ref07_CheckSpots_L6O ps
theorem ref07_CheckSpots_L6Eok : EnvOK ref07_CheckSpots_L6E Try.prog := ⟨tok_of seat_TTok,
  all_cons ref07_RightSpot_spec (all_nil),
  all_nil,
  all_cons (body_ok Try.func55 (by kernel_rfl)) (all_nil)⟩
theorem ref07_CheckSpots_L6good : LoopGood Try.prog seat_GL ref07_CheckSpots_L6E.nimp (baseOK Try.prog ref07_CheckSpots_L6E.iter 55) (nodeC Try.f55 6) (pieceL ref07_CheckSpots_L6I ref07_CheckSpots_L6O (loopT ref07_CheckSpots_L6S)) :=
  loopGood_of seat_mo ref07_CheckSpots_L6Eok Try.func55 (by kernel_rfl) (by kernel_rfl) (by kernel_rfl) (by kernel_rfl) (fun _ => rfl)
noncomputable def ref07_CheckSpots_E : Env := { tt := seat_TT, glob := seat_GL, spec := [(70, specG ref07_RightSpot_I ref07_RightSpot_O ref07_RightSpot_T)], body := [(55, Try.f55)], loops := [((55, 6), pieceL ref07_CheckSpots_L6I ref07_CheckSpots_L6O (loopT ref07_CheckSpots_L6S))], nimp := 0 }
noncomputable def ref07_CheckSpots_T (ps : List PV) : TR := funcT ref07_CheckSpots_E 55 Try.f55 true ref07_CheckSpots_I ref07_CheckSpots_O ps
theorem ref07_CheckSpots_Eok : EnvOK ref07_CheckSpots_E Try.prog := ⟨tok_of seat_TTok,
  all_cons ref07_RightSpot_spec (all_nil),
  all_cons (loop_ok Try.func55 (by kernel_rfl) (by kernel_rfl) ref07_CheckSpots_L6good) (all_nil),
  all_cons (body_ok Try.func55 (by kernel_rfl)) (all_nil)⟩
theorem ref07_CheckSpots_spec : Spec Try.prog seat_GL 55 (specG ref07_CheckSpots_I ref07_CheckSpots_O ref07_CheckSpots_T) := spec_of seat_mo ref07_CheckSpots_Eok Try.func55 (by kernel_rfl) (by kernel_rfl) (fun _ => rfl)

/-! 56 metrolab/metrolabref18.Axis -/
def ref18_Axis_I : FIn := { args := [(.int .i64)], h := [] }
def ref18_Axis_O : List FOut := [{ res := (.int .i64), h := [] }]
noncomputable def ref18_Axis_E : Env := { tt := seat_TT, glob := seat_GL, spec := [], body := [(56, Try.f56)], loops := [], nimp := 0 }
noncomputable def ref18_Axis_T (ps : List PV) : TR := funcT ref18_Axis_E 56 Try.f56 true ref18_Axis_I ref18_Axis_O ps
theorem ref18_Axis_Eok : EnvOK ref18_Axis_E Try.prog := ⟨tok_of seat_TTok,
  all_nil,
  all_nil,
  all_cons (body_ok Try.func56 (by kernel_rfl)) (all_nil)⟩
theorem ref18_Axis_spec : Spec Try.prog seat_GL 56 (specG ref18_Axis_I ref18_Axis_O ref18_Axis_T) := spec_of seat_mo ref18_Axis_Eok Try.func56 (by kernel_rfl) (by kernel_rfl) (fun _ => rfl)

/-! 57 metrolab/metrolabref18.Coordinates -/
def ref18_Coordinates_I : FIn := { args := [(.agg [(.int .i64), (.int .i64), (.int .i64)])], h := [] }
def ref18_Coordinates_O : List FOut := [{ res := (.agg [(.int .i64), (.int .i64), (.int .i64)]), h := [] }]
noncomputable def ref18_Coordinates_E : Env := { tt := seat_TT, glob := seat_GL, spec := [], body := [(57, Try.f57)], loops := [], nimp := 0 }
noncomputable def ref18_Coordinates_T (ps : List PV) : TR := funcT ref18_Coordinates_E 57 Try.f57 true ref18_Coordinates_I ref18_Coordinates_O ps
theorem ref18_Coordinates_Eok : EnvOK ref18_Coordinates_E Try.prog := ⟨tok_of seat_TTok,
  all_nil,
  all_nil,
  all_cons (body_ok Try.func57 (by kernel_rfl)) (all_nil)⟩
theorem ref18_Coordinates_spec : Spec Try.prog seat_GL 57 (specG ref18_Coordinates_I ref18_Coordinates_O ref18_Coordinates_T) := spec_of seat_mo ref18_Coordinates_Eok Try.func57 (by kernel_rfl) (by kernel_rfl) (fun _ => rfl)

/-! 32 metrolab/metrolabref38.Face -/
def ref38_Face_I : FIn := { args := [(.imm [(.int .i64), (.int .i64), (.int .i64)]), (.int .i64), (.int .i64)], h := [] }
def ref38_Face_O : List FOut := [{ res := (.tuple [.bool, (.int .i64)]), h := [] }]
def ref38_Face_L23I : Tmpl := { t := [(.imm [(.int .i64), (.int .i64), (.int .i64)]), (.int .i64), (.int .i64), .any, .any, .any, .any, .any, .any, .any, .any, (.int .i64), (.int .i64), .any, .any, .any, .any, .any, .any, .any, .any, .any, .any, .any, .any, .any, .any, .any, .any, .any, .any, .any, .any, .any, .any, .any, .any, .any, .any, .any, .any, .any, .any, .any, .any, .any, .any, .any, .any, .any, .any, .any, .any, .any, .any, .any, .any, .any, .any, .any], h := [] }
def ref38_Face_L23O : List Out := [{ x := (.exit 2), tm := { t := [(.imm [(.int .i64), (.int .i64), (.int .i64)]), (.int .i64), (.int .i64), .any, .any, .any, .any, .any, .any, .any, .any, (.int .i64), .any, .any, .any, .any, .any, .any, .any, .any, .any, .any, .any, .any, .any, .any, .any, .any, .any, .any, .any, .any, .any, .any, .any, .any, .any, .any, .any, .any, .any, .any, .any, .any, .any, .any, .any, .any, .any, .any, .any, .any, .any, .any, .any, .any, .any, .any, .any, .any], h := [] } }, { x := .ret, tm := { t := [.any, .any, .any, .any, .any, .any, .bool, (.int .i64), .any, .any, .any, .any, .any, .any, .any, .any, .any, .any, .any, .any, .any, .any, .any, .any, .any, .any, .any, .any, .any, .any, .any, .any, .any, .any, .any, .any, .any, .any, .any, .any, .any, .any, .any, .any, .any, .any, .any, .any, .any, .any, .any, .any, .any, .any, .any, .any, .any, .any, .any, .any], h := [] } }]
noncomputable def ref38_Face_L23E : Env := { tt := seat_TT, glob := seat_GL, spec := [(44, specG ref38_Tol_I ref38_Tol_O ref38_Tol_T), (55, specG ref07_CheckSpots_I ref07_CheckSpots_O ref07_CheckSpots_T), (56, specG ref18_Axis_I ref18_Axis_O ref18_Axis_T), (57, specG ref18_Coordinates_I ref18_Coordinates_O ref18_Coordinates_T)], body := [(32, Try.f32)], loops := [], nimp := 0 }
noncomputable def ref38_Face_L23S (ps : List PV) : TR := stepT ref38_Face_L23E 32 Try.f32 23 ref38_Face_L23I ref38_Face_L23O ps
theorem ref38_Face_L23Eok : EnvOK ref38_Face_L23E Try.prog := ⟨tok_of seat_TTok,
  all_cons ref38_Tol_spec (all_cons ref07_CheckSpots_spec (all_cons ref18_Axis_spec (all_cons ref18_Coordinates_spec (all_nil)))),
  all_nil,
  all_cons (body_ok Try.func32 (by kernel_rfl)) (all_nil)⟩
theorem ref38_Face_L23good : LoopGood Try.prog seat_GL ref38_Face_L23E.nimp (baseOK Try.prog ref38_Face_L23E.iter 32) (nodeC Try.f32 23) (pieceL ref38_Face_L23I ref38_Face_L23O (loopT ref38_Face_L23S)) :=
  loopGood_of seat_mo ref38_Face_L23Eok Try.func32 (by kernel_rfl) (by kernel_rfl) (by kernel_rfl) (by kernel_rfl) (fun _ => rfl)
def ref38_Face_L18I : Tmpl := { t := [(.imm [(.int .i64), (.int .i64), (.int .i64)]), (.int .i64), (.int .i64), .any, .any, .any, .any, .any, .any, .any, .any, (.int .i64), .any, .any, .any, .any, .any, .any, .any, .any, .any, .any, .any, .any, .any, .any, .any, .any, .any, .any, .any, .any, .any, .any, .any, .any, .any, .any, .any, .any, .any, .any, .any, .any, .any, .any, .any, .any, .any, .any, .any, .any, .any, .any, .any, .any, .any, .any, .any, .any], h := [] }
def ref38_Face_L18O : List Out := [{ x := (.exit 0), tm := { t := [.any, .any, .any, .any, .any, .any, .any, .any, .any, .any, .any, .any, .any, .any, .any, .any, .any, .any, .any, .any, .any, .any, .any, .any, .any, .any, .any, .any, .any, .any, .any, .any, .any, .any, .any, .any, .any, .any, .any, .any, .any, .any, .any, .any, .any, .any, .any, .any, .any, .any, .any, .any, .any, .any, .any, .any, .any, .any, .any, .any], h := [] } }, { x := .ret, tm := { t := [.any, .any, .any, .any, .any, .any, .bool, (.int .i64), .any, .any, .any, .any, .any, .any, .any, .any, .any, .any, .any, .any, .any, .any, .any, .any, .any, .any, .any, .any, .any, .any, .any, .any, .any, .any, .any, .any, .any, .any, .any, .any, .any, .any, .any, .any, .any, .any, .any, .any, .any, .any, .any, .any, .any, .any, .any, .any, .any, .any, .any, .any], h := [] } }]
noncomputable def ref38_Face_L18E : Env := { tt := seat_TT, glob := seat_GL, spec := [(44, specG ref38_Tol_I ref38_Tol_O ref38_Tol_T), (55, specG ref07_CheckSpots_I ref07_CheckSpots_O ref07_CheckSpots_T), (56, specG ref18_Axis_I ref18_Axis_O ref18_Axis_T), (57, specG ref18_Coordinates_I ref18_Coordinates_O ref18_Coordinates_T)], body := [(32, Try.f32)], loops := [((32, 23), pieceL ref38_Face_L23I ref38_Face_L23O (loopT ref38_Face_L23S))], nimp := 0 }
noncomputable def ref38_Face_L18S (ps : List PV) : TR := stepT ref38_Face_L18E 32 Try.f32 18 ref38_Face_L18I ref38_Face_L18O ps
theorem ref38_Face_L18Eok : EnvOK ref38_Face_L18E Try.prog := ⟨tok_of seat_TTok,
  all_cons ref38_Tol_spec (all_cons ref07_CheckSpots_spec (all_cons ref18_Axis_spec (all_cons ref18_Coordinates_spec (all_nil)))),
  all_cons (loop_ok Try.func32 (by kernel_rfl) (by kernel_rfl) ref38_Face_L23good) (all_nil),
  all_cons (body_ok Try.func32 (by kernel_rfl)) (all_nil)⟩
theorem ref38_Face_L18good : LoopGood Try.prog seat_GL ref38_Face_L18E.nimp (baseOK Try.prog ref38_Face_L18E.iter 32) (nodeC Try.f32 18) (pieceL ref38_Face_L18I ref38_Face_L18O (loopT ref38_Face_L18S)) :=
  loopGood_of seat_mo ref38_Face_L18Eok Try.func32 (by kernel_rfl) (by kernel_rfl) (by kernel_rfl) (by kernel_rfl) (fun _ => rfl)
noncomputable def ref38_Face_E : Env := { tt := seat_TT, glob := seat_GL, spec := [(44, specG ref38_Tol_I ref38_Tol_O ref38_Tol_T), (55, specG ref07_CheckSpots_I ref07_CheckSpots_O ref07_CheckSpots_T), (56, specG ref18_Axis_I ref18_Axis_O ref18_Axis_T), (57, specG ref18_Coordinates_I ref18_Coordinates_O ref18_Coordinates_T)], body := [(32, Try.f32)], loops := [((32, 18), pieceL ref38_Face_L18I ref38_Face_L18O (loopT ref38_Face_L18S))], nimp := 0 }
noncomputable def ref38_Face_T (ps : List PV) : TR := funcT ref38_Face_E 32 Try.f32 true ref38_Face_I ref38_Face_O ps
theorem ref38_Face_Eok : EnvOK ref38_Face_E Try.prog := ⟨tok_of seat_TTok,
  all_cons ref38_Tol_spec (all_cons ref07_CheckSpots_spec (all_cons ref18_Axis_spec (all_cons ref18_Coordinates_spec (all_nil)))),
  all_cons (loop_ok Try.func32 (by kernel_rfl) (by kernel_rfl) ref38_Face_L18good) (all_nil),
  all_cons (body_ok Try.func32 (by kernel_rfl)) (all_nil)⟩
theorem ref38_Face_spec : Spec Try.prog seat_GL 32 (specG ref38_Face_I ref38_Face_O ref38_Face_T) := spec_of seat_mo ref38_Face_Eok Try.func32 (by kernel_rfl) (by kernel_rfl) (fun _ => rfl)

/-! 9 metrolab/metrolablaw38.RunoutFaces -/
def law38_RunoutFaces_I : FIn := { args := [(.imm [(.int .i64), (.int .i64), (.int .i64)]), (.int .i64), (.int .i64)], h := [] }
def law38_RunoutFaces_O : List FOut := [{ res := .bool, h := [] }]
noncomputable def law38_RunoutFaces_E : Env := { tt := seat_TT, glob := seat_GL, spec := [(13, specG law38_awake_I law38_awake_O law38_awake_T), (30, specG ref07_FewSpots_I ref07_FewSpots_O ref07_FewSpots_T), (31, specG runout_Face_I runout_Face_O runout_Face_T), (32, specG ref38_Face_I ref38_Face_O ref38_Face_T)], body := [(9, Try.f9)], loops := [], nimp := 0 }
noncomputable def law38_RunoutFaces_T (ps : List PV) : TR := funcT law38_RunoutFaces_E 9 Try.f9 true law38_RunoutFaces_I law38_RunoutFaces_O ps
theorem law38_RunoutFaces_Eok : EnvOK law38_RunoutFaces_E Try.prog := ⟨tok_of seat_TTok,
  all_cons law38_awake_spec (all_cons ref07_FewSpots_spec (all_cons runout_Face_spec (all_cons ref38_Face_spec (all_nil)))),
  all_nil,
  all_cons (body_ok Try.func9 (by kernel_rfl)) (all_nil)⟩
theorem law38_RunoutFaces_spec : Spec Try.prog seat_GL 9 (specG law38_RunoutFaces_I law38_RunoutFaces_O law38_RunoutFaces_T) := spec_of seat_mo law38_RunoutFaces_Eok Try.func9 (by kernel_rfl) (by kernel_rfl) (fun _ => rfl)
end Go.Eng
