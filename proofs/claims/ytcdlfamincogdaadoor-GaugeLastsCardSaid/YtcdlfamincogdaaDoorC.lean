/- Contracts of the functions, printed by gen.py and emit.py. -/
import Derived.Test.YtcdlfamincogdaaDoorEngW
import Derived.KernelRfl
import Derived.Test.YtcdlfamincogdaaDoorProg
namespace Go.Eng
open Go.Proofs
noncomputable def seat_TT : List (TypeId × TI) := [(1, (.mk .func 1 [.nilFunc] 8 false false)), (2, (.mk (.int .i64) 1 [(.int .i64 0)] 8 false false)), (3, (.mk (.int .i64) 1 [(.int .i64 0)] 8 false false)), (4, (.mk .bool 1 [(.bool false)] 1 false false)), (5, (.mk (.int .u8) 1 [(.int .u8 0)] 1 false false)), (6, (.mk (.int .u8) 1 [(.int .u8 0)] 1 false false)), (8, (.mk (.struct [(0, (2, 1)), (1, (3, 1)), (2, (4, 1)), (3, (6, 1))]) 4 [(.int .i64 0), (.int .i64 0), (.bool false), (.int .u8 0)] 24 true true)), (9, (.mk .str 1 [(.string (.mk (.mk [])))] 16 false false)), (12, (.mk (.int .u64) 1 [(.int .u64 0)] 8 false false)), (13, (.mk (.struct [(0, (9, 1)), (1, (12, 1))]) 2 [(.string (.mk (.mk []))), (.int .u64 0)] 24 false true)), (14, (.mk (.struct [(0, (9, 1)), (1, (12, 1))]) 2 [(.string (.mk (.mk []))), (.int .u64 0)] 24 false true)), (15, (.mk (.ptr 134) 1 [(.pointer .none)] 8 false false)), (16, (.mk (.ptr 137) 1 [(.pointer .none)] 8 false false)), (17, (.mk (.ptr 147) 1 [(.pointer .none)] 8 false false)), (22, (.mk (.slice 61 7) 1 [(.slice .none 0 0)] 24 false false)), (23, (.mk (.slice 64 5) 1 [(.slice .none 0 0)] 24 false false)), (26, (.mk (.int .i64) 1 [(.int .i64 0)] 8 false false)), (29, (.mk (.slice 96 5) 1 [(.slice .none 0 0)] 24 false false)), (36, (.mk (.slice 75 4) 1 [(.slice .none 0 0)] 24 false false)), (39, (.mk (.slice 102 4) 1 [(.slice .none 0 0)] 24 false false)), (45, (.mk (.slice 3 1) 1 [(.slice .none 0 0)] 24 false false)), (50, (.mk .func 1 [.nilFunc] 8 false false)), (53, (.mk (.struct [(0, (3, 1)), (1, (3, 1))]) 2 [(.int .i64 0), (.int .i64 0)] 16 true true)), (57, (.mk (.struct [(0, (3, 1)), (1, (3, 1))]) 2 [(.int .i64 0), (.int .i64 0)] 16 true true)), (59, (.mk (.struct [(0, (3, 1)), (1, (3, 1))]) 2 [(.int .i64 0), (.int .i64 0)] 16 true true)), (60, (.mk (.struct [(0, (57, 2)), (2, (59, 2)), (4, (3, 1)), (5, (3, 1)), (6, (4, 1))]) 7 [(.int .i64 0), (.int .i64 0), (.int .i64 0), (.int .i64 0), (.int .i64 0), (.int .i64 0), (.bool false)] 56 true true)), (61, (.mk (.struct [(0, (57, 2)), (2, (59, 2)), (4, (3, 1)), (5, (3, 1)), (6, (4, 1))]) 7 [(.int .i64 0), (.int .i64 0), (.int .i64 0), (.int .i64 0), (.int .i64 0), (.int .i64 0), (.bool false)] 56 true true)), (62, (.mk .func 1 [.nilFunc] 8 false false)), (64, (.mk (.struct [(0, (57, 2)), (2, (4, 1)), (3, (59, 2))]) 5 [(.int .i64 0), (.int .i64 0), (.bool false), (.int .i64 0), (.int .i64 0)] 40 true true)), (68, (.mk (.struct [(0, (3, 1)), (1, (3, 1))]) 2 [(.int .i64 0), (.int .i64 0)] 16 true true)), (72, (.mk (.int .u16) 1 [(.int .u16 0)] 2 false false)), (73, (.mk (.slice 4 1) 1 [(.slice .none 0 0)] 24 false false)), (75, (.mk (.struct [(0, (57, 2)), (2, (4, 1)), (3, (3, 1))]) 4 [(.int .i64 0), (.int .i64 0), (.bool false), (.int .i64 0)] 32 true true)), (78, (.mk .func 1 [.nilFunc] 8 false false)), (80, (.mk .func 1 [.nilFunc] 8 false false)), (84, (.mk (.struct [(0, (57, 2)), (2, (3, 1))]) 3 [(.int .i64 0), (.int .i64 0), (.int .i64 0)] 24 true true)), (91, (.mk .func 1 [.nilFunc] 8 false false)), (92, (.mk (.slice 59 2) 1 [(.slice .none 0 0)] 24 false false)), (94, (.mk .func 1 [.nilFunc] 8 false false)), (96, (.mk (.struct [(0, (57, 2)), (2, (4, 1)), (3, (59, 2))]) 5 [(.int .i64 0), (.int .i64 0), (.bool false), (.int .i64 0), (.int .i64 0)] 40 true true)), (97, (.mk .func 1 [.nilFunc] 8 false false)), (100, (.mk .func 1 [.nilFunc] 8 false false)), (101, (.mk .func 1 [.nilFunc] 8 false false)), (102, (.mk (.struct [(0, (57, 2)), (2, (4, 1)), (3, (3, 1))]) 4 [(.int .i64 0), (.int .i64 0), (.bool false), (.int .i64 0)] 32 true true)), (106, (.mk .func 1 [.nilFunc] 8 false false)), (107, (.mk (.array 2 3 1) 2 [(.int .i64 0), (.int .i64 0)] 16 false false)), (109, (.mk .func 1 [.nilFunc] 8 false false)), (110, (.mk .func 1 [.nilFunc] 8 false false)), (112, (.mk (.struct [(0, (61, 7)), (7, (3, 1))]) 8 [(.int .i64 0), (.int .i64 0), (.int .i64 0), (.int .i64 0), (.int .i64 0), (.int .i64 0), (.bool false), (.int .i64 0)] 64 true true)), (123, (.mk .func 1 [.nilFunc] 8 false false)), (126, (.mk .func 1 [.nilFunc] 8 false false)), (128, (.mk (.array 3 3 1) 3 [(.int .i64 0), (.int .i64 0), (.int .i64 0)] 24 false false)), (129, (.mk (.array 2 128 3) 6 [(.int .i64 0), (.int .i64 0), (.int .i64 0), (.int .i64 0), (.int .i64 0), (.int .i64 0)] 48 false false)), (134, (.mk (.struct [(0, (17, 1)), (1, (17, 1)), (2, (17, 1)), (3, (9, 1))]) 4 [(.pointer .none), (.pointer .none), (.pointer .none), (.string (.mk (.mk [])))] 40 false true)), (135, (.mk (.array 0 16 1) 0 [] 0 false false)), (137, (.mk (.struct [(0, (135, 0))]) 0 [] 0 false true)), (139, (.mk (.int .u32) 1 [(.int .u32 0)] 4 false false)), (140, (.mk (.int .u8) 1 [(.int .u8 0)] 1 false false)), (141, (.mk (.int .u8) 1 [(.int .u8 0)] 1 false false)), (142, (.mk .func 1 [.nilFunc] 8 false false)), (143, (.mk (.ptr 5) 1 [(.pointer .none)] 8 false false)), (144, (.mk (.int .i32) 1 [(.int .i32 0)] 4 false false)), (145, (.mk (.int .i32) 1 [(.int .i32 0)] 4 false false)), (147, (.mk (.struct [(0, (12, 1)), (1, (12, 1)), (2, (139, 1)), (3, (140, 1)), (4, (5, 1)), (5, (5, 1)), (6, (141, 1)), (7, (142, 1)), (8, (143, 1)), (9, (144, 1)), (10, (145, 1))]) 11 [(.int .u64 0), (.int .u64 0), (.int .u32 0), (.int .u8 0), (.int .u8 0), (.int .u8 0), (.int .u8 0), .nilFunc, (.pointer .none), (.int .i32 0), (.int .i32 0)] 48 false true))]
noncomputable def seat_GL : List (Nat × AV) := [(0, (.eptr [.int .i64, .int .i64, .int .i64, .int .i64, .int .i64, .int .i64] [[.i (-1), .i (-1), .i 1, .i 1, .i 1, .i (-1)]] 0 0))]
theorem seat_TTok : seat_TT.map (fun x => mkTI Tryd.prog x.1) = seat_TT.map (·.2) := by kernel_rfl
theorem seat_mo : Tryd.prog.follows .mixedOrders = true := by kernel_rfl

/-! 10 metrolab/metrolablaw47.few -/
def law47_few_I : FIn := { args := [(.imm [(.int .i64), (.int .i64), (.int .i64), (.int .i64), (.int .i64), (.int .i64), .bool])], h := [] }
def law47_few_O : List FOut := [{ res := .bool, h := [] }]
noncomputable def law47_few_E : Env := { tt := seat_TT, glob := seat_GL, spec := [], body := [(10, Tryd.f10)], loops := [], nimp := 0 }
noncomputable def law47_few_T (ps : List PV) : TR := funcT law47_few_E 10 Tryd.f10 true law47_few_I law47_few_O ps
theorem law47_few_Eok : EnvOK law47_few_E Tryd.prog := ⟨tok_of seat_TTok,
  all_nil,
  all_nil,
  all_cons (body_ok Tryd.func10 (by kernel_rfl)) (all_nil)⟩
theorem law47_few_spec : Spec Tryd.prog seat_GL 10 (specG law47_few_I law47_few_O law47_few_T) := spec_of seat_mo law47_few_Eok Tryd.func10 (by kernel_rfl) (by kernel_rfl) (fun _ => rfl)

/-! 45 metrolab/gauge.few -/
def gauge_few_I : FIn := { args := [(.int .i64)], h := [] }
def gauge_few_O : List FOut := [{ res := (.int .i64), h := [] }]
noncomputable def gauge_few_E : Env := { tt := seat_TT, glob := seat_GL, spec := [], body := [(45, Tryd.f45)], loops := [], nimp := 0 }
noncomputable def gauge_few_T (ps : List PV) : TR := funcT gauge_few_E 45 Tryd.f45 true gauge_few_I gauge_few_O ps
theorem gauge_few_Eok : EnvOK gauge_few_E Tryd.prog := ⟨tok_of seat_TTok,
  all_nil,
  all_nil,
  all_cons (body_ok Tryd.func45 (by kernel_rfl)) (all_nil)⟩
theorem gauge_few_spec : Spec Tryd.prog seat_GL 45 (specG gauge_few_I gauge_few_O gauge_few_T) := spec_of seat_mo gauge_few_Eok Tryd.func45 (by kernel_rfl) (by kernel_rfl) (fun _ => rfl)

/-! 72 metrolab/bonus.in -/
def bonus_in_I : FIn := { args := [(.int .i64)], h := [] }
def bonus_in_O : List FOut := [{ res := .bool, h := [] }]
noncomputable def bonus_in_E : Env := { tt := seat_TT, glob := seat_GL, spec := [], body := [(72, Tryd.f72)], loops := [], nimp := 0 }
noncomputable def bonus_in_T (ps : List PV) : TR := funcT bonus_in_E 72 Tryd.f72 true bonus_in_I bonus_in_O ps
theorem bonus_in_Eok : EnvOK bonus_in_E Tryd.prog := ⟨tok_of seat_TTok,
  all_nil,
  all_nil,
  all_cons (body_ok Tryd.func72 (by kernel_rfl)) (all_nil)⟩
theorem bonus_in_spec : Spec Tryd.prog seat_GL 72 (specG bonus_in_I bonus_in_O bonus_in_T) := spec_of seat_mo bonus_in_Eok Tryd.func72 (by kernel_rfl) (by kernel_rfl) (fun _ => rfl)

/-! 73 metrolab/bonus.size -/
def bonus_size_I : FIn := { args := [(.int .i64)], h := [] }
def bonus_size_O : List FOut := [{ res := .bool, h := [] }]
noncomputable def bonus_size_E : Env := { tt := seat_TT, glob := seat_GL, spec := [], body := [(73, Tryd.f73)], loops := [], nimp := 0 }
noncomputable def bonus_size_T (ps : List PV) : TR := funcT bonus_size_E 73 Tryd.f73 true bonus_size_I bonus_size_O ps
theorem bonus_size_Eok : EnvOK bonus_size_E Tryd.prog := ⟨tok_of seat_TTok,
  all_nil,
  all_nil,
  all_cons (body_ok Tryd.func73 (by kernel_rfl)) (all_nil)⟩
theorem bonus_size_spec : Spec Tryd.prog seat_GL 73 (specG bonus_size_I bonus_size_O bonus_size_T) := spec_of seat_mo bonus_size_Eok Tryd.func73 (by kernel_rfl) (by kernel_rfl) (fun _ => rfl)

/-! 56 metrolab/bonus.Check -/
def bonus_Check_I : FIn := { args := [(.agg [(.int .i64), (.int .i64), (.int .i64), (.int .i64), (.int .i64), (.int .i64), .bool])], h := [] }
def bonus_Check_O : List FOut := [{ res := (.int .i64), h := [] }]
noncomputable def bonus_Check_E : Env := { tt := seat_TT, glob := seat_GL, spec := [(72, specG bonus_in_I bonus_in_O bonus_in_T), (73, specG bonus_size_I bonus_size_O bonus_size_T)], body := [(56, Tryd.f56)], loops := [], nimp := 0 }
noncomputable def bonus_Check_T (ps : List PV) : TR := funcT bonus_Check_E 56 Tryd.f56 true bonus_Check_I bonus_Check_O ps
theorem bonus_Check_Eok : EnvOK bonus_Check_E Tryd.prog := ⟨tok_of seat_TTok,
  all_cons bonus_in_spec (all_cons bonus_size_spec (all_nil)),
  all_nil,
  all_cons (body_ok Tryd.func56 (by kernel_rfl)) (all_nil)⟩
theorem bonus_Check_spec : Spec Tryd.prog seat_GL 56 (specG bonus_Check_I bonus_Check_O bonus_Check_T) := spec_of seat_mo bonus_Check_Eok Tryd.func56 (by kernel_rfl) (by kernel_rfl) (fun _ => rfl)

/-! 57 metrolab/bonus.of -/
def bonus_of_I : FIn := { args := [(.agg [(.int .i64), (.int .i64), (.int .i64), (.int .i64), (.int .i64), (.int .i64), .bool])], h := [] }
def bonus_of_O : List FOut := [{ res := (.agg [(.int .i64), (.int .i64), (.int .i64), (.int .i64), (.int .i64), (.int .i64), .bool, (.int .i64)]), h := [] }]
noncomputable def bonus_of_E : Env := { tt := seat_TT, glob := seat_GL, spec := [], body := [(57, Tryd.f57)], loops := [], nimp := 0 }
noncomputable def bonus_of_T (ps : List PV) : TR := funcT bonus_of_E 57 Tryd.f57 true bonus_of_I bonus_of_O ps
theorem bonus_of_Eok : EnvOK bonus_of_E Tryd.prog := ⟨tok_of seat_TTok,
  all_nil,
  all_nil,
  all_cons (body_ok Tryd.func57 (by kernel_rfl)) (all_nil)⟩
theorem bonus_of_spec : Spec Tryd.prog seat_GL 57 (specG bonus_of_I bonus_of_O bonus_of_T) := spec_of seat_mo bonus_of_Eok Tryd.func57 (by kernel_rfl) (by kernel_rfl) (fun _ => rfl)

/-! 58 (metrolab/bonus.condition).end -/
def bonus_condition_end_I : FIn := { args := [(.agg [(.int .i64), (.int .i64), (.int .i64), (.int .i64), (.int .i64), (.int .i64), .bool, (.int .i64)]), (.int .i64)], h := [] }
def bonus_condition_end_O : List FOut := [{ res := (.int .i64), h := [] }]
noncomputable def bonus_condition_end_E : Env := { tt := seat_TT, glob := seat_GL, spec := [], body := [(58, Tryd.f58)], loops := [], nimp := 0 }
noncomputable def bonus_condition_end_T (ps : List PV) : TR := funcT bonus_condition_end_E 58 Tryd.f58 true bonus_condition_end_I bonus_condition_end_O ps
theorem bonus_condition_end_Eok : EnvOK bonus_condition_end_E Tryd.prog := ⟨tok_of seat_TTok,
  all_nil,
  all_nil,
  all_cons (body_ok Tryd.func58 (by kernel_rfl)) (all_nil)⟩
theorem bonus_condition_end_spec : Spec Tryd.prog seat_GL 58 (specG bonus_condition_end_I bonus_condition_end_O bonus_condition_end_T) := spec_of seat_mo bonus_condition_end_Eok Tryd.func58 (by kernel_rfl) (by kernel_rfl) (fun _ => rfl)

/-! 25 metrolab/bonus.Virtual -/
def bonus_Virtual_I : FIn := { args := [(.agg [(.int .i64), (.int .i64), (.int .i64), (.int .i64), (.int .i64), (.int .i64), .bool])], h := [] }
def bonus_Virtual_O : List FOut := [{ res := (.tuple [(.int .i64), (.int .i64)]), h := [] }]
noncomputable def bonus_Virtual_E : Env := { tt := seat_TT, glob := seat_GL, spec := [(56, specG bonus_Check_I bonus_Check_O bonus_Check_T), (57, specG bonus_of_I bonus_of_O bonus_of_T), (58, specG bonus_condition_end_I bonus_condition_end_O bonus_condition_end_T)], body := [(25, Tryd.f25)], loops := [], nimp := 0 }
noncomputable def bonus_Virtual_T (ps : List PV) : TR := funcT bonus_Virtual_E 25 Tryd.f25 true bonus_Virtual_I bonus_Virtual_O ps
theorem bonus_Virtual_Eok : EnvOK bonus_Virtual_E Tryd.prog := ⟨tok_of seat_TTok,
  all_cons bonus_Check_spec (all_cons bonus_of_spec (all_cons bonus_condition_end_spec (all_nil))),
  all_nil,
  all_cons (body_ok Tryd.func25 (by kernel_rfl)) (all_nil)⟩
theorem bonus_Virtual_spec : Spec Tryd.prog seat_GL 25 (specG bonus_Virtual_I bonus_Virtual_O bonus_Virtual_T) := spec_of seat_mo bonus_Virtual_Eok Tryd.func25 (by kernel_rfl) (by kernel_rfl) (fun _ => rfl)

/-! 71 metrolab/gauge.virtual$1 -/
def gauge_virtual_1_I : FIn := { args := [(.int .i64), (.agg [(.int .i64), (.int .i64), (.int .i64), (.int .i64), (.int .i64), (.int .i64), .bool])], h := [] }
def gauge_virtual_1_O : List FOut := [{ res := (.tuple [(.int .i64), (.int .i64)]), h := [] }]
noncomputable def gauge_virtual_1_E : Env := { tt := seat_TT, glob := seat_GL, spec := [(25, specG bonus_Virtual_I bonus_Virtual_O bonus_Virtual_T)], body := [(71, Tryd.f71)], loops := [], nimp := 0 }
noncomputable def gauge_virtual_1_T (ps : List PV) : TR := funcT gauge_virtual_1_E 71 Tryd.f71 true gauge_virtual_1_I gauge_virtual_1_O ps
theorem gauge_virtual_1_Eok : EnvOK gauge_virtual_1_E Tryd.prog := ⟨tok_of seat_TTok,
  all_cons bonus_Virtual_spec (all_nil),
  all_nil,
  all_cons (body_ok Tryd.func71 (by kernel_rfl)) (all_nil)⟩
theorem gauge_virtual_1_spec : Spec Tryd.prog seat_GL 71 (specG gauge_virtual_1_I gauge_virtual_1_O gauge_virtual_1_T) := spec_of seat_mo gauge_virtual_1_Eok Tryd.func71 (by kernel_rfl) (by kernel_rfl) (fun _ => rfl)

/-! 70 metrolab/gauge.mapped[metrolab/api.Target,int] -/
def gauge_mapped_api_Target_int_I : FIn := { args := [(.imm [(.int .i64), (.int .i64), (.int .i64), (.int .i64), (.int .i64), (.int .i64), .bool]), (.fn 71 [] [])], h := [] }
def gauge_mapped_api_Target_int_O : List FOut := [{ res := (.tuple [(.imm [(.int .i64)]), (.int .i64)]), h := [] }]
def gauge_mapped_api_Target_int_L4I : Tmpl := { t := [.any, (.fn 71 [] []), .any, .any, .any, .any, (.vec 0), .any, .any, .any, .any, (.imm [(.int .i64), (.int .i64), (.int .i64), (.int .i64), (.int .i64), (.int .i64), .bool]), (.int .i64), (.int .i64), .any, .any, .any, .any, .any, .any, .any, .any, .any, .any, .any, .any, .any, .any, .any, .any, .any, .any, .any, .any], h := [.vec 3 [(.int .i64)]], pro := [(6, 3, [(.int .i64)])] }
def gauge_mapped_api_Target_int_L4O : List Out := [{ x := (.exit 0), tm := { t := [.any, .any, .any, .any, .any, .any, (.vec 0), .any, .any, .any, .any, .any, .any, .any, .any, .any, .any, .any, .any, .any, .any, .any, .any, .any, .any, .any, .any, .any, .any, .any, .any, .any, .any, .any], h := [.vec 3 [(.int .i64)]] } }, { x := .ret, tm := { t := [.any, .any, .any, .any, .nils, (.int .i64), .any, .any, .any, .any, .any, .any, .any, .any, .any, .any, .any, .any, .any, .any, .any, .any, .any, .any, .any, .any, .any, .any, .any, .any, .any, .any, .any, .any], h := [] } }]
noncomputable def gauge_mapped_api_Target_int_L4E : Env := { tt := seat_TT, glob := seat_GL, spec := [(71, specG gauge_virtual_1_I gauge_virtual_1_O gauge_virtual_1_T)], body := [(70, Tryd.f70)], loops := [], nimp := 0 }
noncomputable def gauge_mapped_api_Target_int_L4S (ps : List PV) : TR := stepT gauge_mapped_api_Target_int_L4E 70 Tryd.f70 4 gauge_mapped_api_Target_int_L4I gauge_mapped_api_Target_int_L4O ps
theorem gauge_mapped_api_Target_int_L4Eok : EnvOK gauge_mapped_api_Target_int_L4E Tryd.prog := ⟨tok_of seat_TTok,
  all_cons gauge_virtual_1_spec (all_nil),
  all_nil,
  all_cons (body_ok Tryd.func70 (by kernel_rfl)) (all_nil)⟩
theorem gauge_mapped_api_Target_int_L4good : LoopGood Tryd.prog seat_GL gauge_mapped_api_Target_int_L4E.nimp (nodeC Tryd.f70 4) (pieceL gauge_mapped_api_Target_int_L4I gauge_mapped_api_Target_int_L4O (loopT gauge_mapped_api_Target_int_L4S)) :=
  loopGood_of seat_mo gauge_mapped_api_Target_int_L4Eok Tryd.func70 (by kernel_rfl) (by kernel_rfl) (by kernel_rfl) (fun _ => rfl)
noncomputable def gauge_mapped_api_Target_int_E : Env := { tt := seat_TT, glob := seat_GL, spec := [(71, specG gauge_virtual_1_I gauge_virtual_1_O gauge_virtual_1_T)], body := [(70, Tryd.f70)], loops := [((70, 4), pieceL gauge_mapped_api_Target_int_L4I gauge_mapped_api_Target_int_L4O (loopT gauge_mapped_api_Target_int_L4S))], nimp := 0 }
noncomputable def gauge_mapped_api_Target_int_T (ps : List PV) : TR := funcT gauge_mapped_api_Target_int_E 70 Tryd.f70 true gauge_mapped_api_Target_int_I gauge_mapped_api_Target_int_O ps
theorem gauge_mapped_api_Target_int_Eok : EnvOK gauge_mapped_api_Target_int_E Tryd.prog := ⟨tok_of seat_TTok,
  all_cons gauge_virtual_1_spec (all_nil),
  all_cons (loop_ok Tryd.func70 (by kernel_rfl) (by kernel_rfl) gauge_mapped_api_Target_int_L4good) (all_nil),
  all_cons (body_ok Tryd.func70 (by kernel_rfl)) (all_nil)⟩
theorem gauge_mapped_api_Target_int_spec : Spec Tryd.prog seat_GL 70 (specG gauge_mapped_api_Target_int_I gauge_mapped_api_Target_int_O gauge_mapped_api_Target_int_T) := spec_of seat_mo gauge_mapped_api_Target_int_Eok Tryd.func70 (by kernel_rfl) (by kernel_rfl) (fun _ => rfl)

/-! 49 metrolab/gauge.virtual -/
def gauge_virtual_I : FIn := { args := [(.imm [(.int .i64), (.int .i64), (.int .i64), (.int .i64), (.int .i64), (.int .i64), .bool])], h := [] }
def gauge_virtual_O : List FOut := [{ res := (.tuple [(.imm [(.int .i64)]), (.int .i64)]), h := [] }]
noncomputable def gauge_virtual_E : Env := { tt := seat_TT, glob := seat_GL, spec := [(45, specG gauge_few_I gauge_few_O gauge_few_T), (70, specG gauge_mapped_api_Target_int_I gauge_mapped_api_Target_int_O gauge_mapped_api_Target_int_T), (71, specG gauge_virtual_1_I gauge_virtual_1_O gauge_virtual_1_T)], body := [(49, Tryd.f49)], loops := [], nimp := 0 }
noncomputable def gauge_virtual_T (ps : List PV) : TR := funcT gauge_virtual_E 49 Tryd.f49 true gauge_virtual_I gauge_virtual_O ps
theorem gauge_virtual_Eok : EnvOK gauge_virtual_E Tryd.prog := ⟨tok_of seat_TTok,
  all_cons gauge_few_spec (all_cons gauge_mapped_api_Target_int_spec (all_cons gauge_virtual_1_spec (all_nil))),
  all_nil,
  all_cons (body_ok Tryd.func49 (by kernel_rfl)) (all_nil)⟩
theorem gauge_virtual_spec : Spec Tryd.prog seat_GL 49 (specG gauge_virtual_I gauge_virtual_O gauge_virtual_T) := spec_of seat_mo gauge_virtual_Eok Tryd.func49 (by kernel_rfl) (by kernel_rfl) (fun _ => rfl)

/-! 52 metrolab/gauge.ranged -/
def gauge_ranged_I : FIn := { args := [(.int .i64)], h := [] }
def gauge_ranged_O : List FOut := [{ res := .bool, h := [] }]
noncomputable def gauge_ranged_E : Env := { tt := seat_TT, glob := seat_GL, spec := [], body := [(52, Tryd.f52)], loops := [], nimp := 0 }
noncomputable def gauge_ranged_T (ps : List PV) : TR := funcT gauge_ranged_E 52 Tryd.f52 true gauge_ranged_I gauge_ranged_O ps
theorem gauge_ranged_Eok : EnvOK gauge_ranged_E Tryd.prog := ⟨tok_of seat_TTok,
  all_nil,
  all_nil,
  all_cons (body_ok Tryd.func52 (by kernel_rfl)) (all_nil)⟩
theorem gauge_ranged_spec : Spec Tryd.prog seat_GL 52 (specG gauge_ranged_I gauge_ranged_O gauge_ranged_T) := spec_of seat_mo gauge_ranged_Eok Tryd.func52 (by kernel_rfl) (by kernel_rfl) (fun _ => rfl)

/-! 48 metrolab/gauge.limits -/
def gauge_limits_I : FIn := { args := [(.agg [(.int .i64), (.int .i64)])], h := [] }
def gauge_limits_O : List FOut := [{ res := (.int .i64), h := [] }]
noncomputable def gauge_limits_E : Env := { tt := seat_TT, glob := seat_GL, spec := [(52, specG gauge_ranged_I gauge_ranged_O gauge_ranged_T)], body := [(48, Tryd.f48)], loops := [], nimp := 0 }
noncomputable def gauge_limits_T (ps : List PV) : TR := funcT gauge_limits_E 48 Tryd.f48 true gauge_limits_I gauge_limits_O ps
theorem gauge_limits_Eok : EnvOK gauge_limits_E Tryd.prog := ⟨tok_of seat_TTok,
  all_cons gauge_ranged_spec (all_nil),
  all_nil,
  all_cons (body_ok Tryd.func48 (by kernel_rfl)) (all_nil)⟩
theorem gauge_limits_spec : Spec Tryd.prog seat_GL 48 (specG gauge_limits_I gauge_limits_O gauge_limits_T) := spec_of seat_mo gauge_limits_Eok Tryd.func48 (by kernel_rfl) (by kernel_rfl) (fun _ => rfl)

/-! 69 metrolab/gauge.losses$1 -/
def gauge_losses_1_I : FIn := { args := [(.int .i64), (.agg [(.int .i64), (.int .i64), .bool, (.int .i64), (.int .i64)]), (.ptr 0 0), (.ptr 1 0)], h := [.cells [(.imm [(.int .i64), (.int .i64), (.int .i64), (.int .i64), (.int .i64), (.int .i64), .bool])], .cells [(.imm [(.int .i64)])]] }
def gauge_losses_1_O : List FOut := [{ res := (.tuple [(.agg [(.int .i64), (.int .i64)]), (.int .i64)]), h := [.cells [(.imm [(.int .i64), (.int .i64), (.int .i64), (.int .i64), (.int .i64), (.int .i64), .bool])], .cells [(.imm [(.int .i64)])]] }]
noncomputable def gauge_losses_1_E : Env := { tt := seat_TT, glob := seat_GL, spec := [(48, specG gauge_limits_I gauge_limits_O gauge_limits_T)], body := [(69, Tryd.f69)], loops := [], nimp := 2 }
noncomputable def gauge_losses_1_T (ps : List PV) : TR := funcT gauge_losses_1_E 69 Tryd.f69 true gauge_losses_1_I gauge_losses_1_O ps
theorem gauge_losses_1_Eok : EnvOK gauge_losses_1_E Tryd.prog := ⟨tok_of seat_TTok,
  all_cons gauge_limits_spec (all_nil),
  all_nil,
  all_cons (body_ok Tryd.func69 (by kernel_rfl)) (all_nil)⟩
theorem gauge_losses_1_spec : Spec Tryd.prog seat_GL 69 (specG gauge_losses_1_I gauge_losses_1_O gauge_losses_1_T) := spec_of seat_mo gauge_losses_1_Eok Tryd.func69 (by kernel_rfl) (by kernel_rfl) (fun _ => rfl)

/-! 68 metrolab/gauge.mapped[metrolab/gauge.Element,metrolab/api.Limits] -/
def gauge_mapped_gauge_Element_api_Limits_I : FIn := { args := [(.imm [(.int .i64), (.int .i64), .bool, (.int .i64), (.int .i64)]), (.fn 69 [] [(.ptr 0 0), (.ptr 1 0)])], h := [.cells [(.imm [(.int .i64), (.int .i64), (.int .i64), (.int .i64), (.int .i64), (.int .i64), .bool])], .cells [(.imm [(.int .i64)])]] }
def gauge_mapped_gauge_Element_api_Limits_O : List FOut := [{ res := (.tuple [(.imm [(.int .i64), (.int .i64)]), (.int .i64)]), h := [.cells [(.imm [(.int .i64), (.int .i64), (.int .i64), (.int .i64), (.int .i64), (.int .i64), .bool])], .cells [(.imm [(.int .i64)])]] }]
def gauge_mapped_gauge_Element_api_Limits_L4I : Tmpl := { t := [.any, (.fn 69 [] [(.ptr 0 0), (.ptr 1 0)]), .any, .any, .any, .any, (.vec 2), .any, .any, .any, .any, (.imm [(.int .i64), (.int .i64), .bool, (.int .i64), (.int .i64)]), (.int .i64), (.int .i64), .any, .any, .any, .any, .any, .any, .any, .any, .any, .any, .any, .any, .any, .any, .any, .any, .any, .any, .any, .any], h := [.cells [(.imm [(.int .i64), (.int .i64), (.int .i64), (.int .i64), (.int .i64), (.int .i64), .bool])], .cells [(.imm [(.int .i64)])], .vec 59 [(.int .i64), (.int .i64)]], pro := [(6, 59, [(.int .i64), (.int .i64)])] }
def gauge_mapped_gauge_Element_api_Limits_L4O : List Out := [{ x := (.exit 0), tm := { t := [.any, .any, .any, .any, .any, .any, (.vec 2), .any, .any, .any, .any, .any, .any, .any, .any, .any, .any, .any, .any, .any, .any, .any, .any, .any, .any, .any, .any, .any, .any, .any, .any, .any, .any, .any], h := [.cells [(.imm [(.int .i64), (.int .i64), (.int .i64), (.int .i64), (.int .i64), (.int .i64), .bool])], .cells [(.imm [(.int .i64)])], .vec 59 [(.int .i64), (.int .i64)]] } }, { x := .ret, tm := { t := [.any, .any, .any, .any, .nils, (.int .i64), .any, .any, .any, .any, .any, .any, .any, .any, .any, .any, .any, .any, .any, .any, .any, .any, .any, .any, .any, .any, .any, .any, .any, .any, .any, .any, .any, .any], h := [.cells [(.imm [(.int .i64), (.int .i64), (.int .i64), (.int .i64), (.int .i64), (.int .i64), .bool])], .cells [(.imm [(.int .i64)])]] } }]
noncomputable def gauge_mapped_gauge_Element_api_Limits_L4E : Env := { tt := seat_TT, glob := seat_GL, spec := [(69, specG gauge_losses_1_I gauge_losses_1_O gauge_losses_1_T)], body := [(68, Tryd.f68)], loops := [], nimp := 2 }
noncomputable def gauge_mapped_gauge_Element_api_Limits_L4S (ps : List PV) : TR := stepT gauge_mapped_gauge_Element_api_Limits_L4E 68 Tryd.f68 4 gauge_mapped_gauge_Element_api_Limits_L4I gauge_mapped_gauge_Element_api_Limits_L4O ps
theorem gauge_mapped_gauge_Element_api_Limits_L4Eok : EnvOK gauge_mapped_gauge_Element_api_Limits_L4E Tryd.prog := ⟨tok_of seat_TTok,
  all_cons gauge_losses_1_spec (all_nil),
  all_nil,
  all_cons (body_ok Tryd.func68 (by kernel_rfl)) (all_nil)⟩
theorem gauge_mapped_gauge_Element_api_Limits_L4good : LoopGood Tryd.prog seat_GL gauge_mapped_gauge_Element_api_Limits_L4E.nimp (nodeC Tryd.f68 4) (pieceL gauge_mapped_gauge_Element_api_Limits_L4I gauge_mapped_gauge_Element_api_Limits_L4O (loopT gauge_mapped_gauge_Element_api_Limits_L4S)) :=
  loopGood_of seat_mo gauge_mapped_gauge_Element_api_Limits_L4Eok Tryd.func68 (by kernel_rfl) (by kernel_rfl) (by kernel_rfl) (fun _ => rfl)
noncomputable def gauge_mapped_gauge_Element_api_Limits_E : Env := { tt := seat_TT, glob := seat_GL, spec := [(69, specG gauge_losses_1_I gauge_losses_1_O gauge_losses_1_T)], body := [(68, Tryd.f68)], loops := [((68, 4), pieceL gauge_mapped_gauge_Element_api_Limits_L4I gauge_mapped_gauge_Element_api_Limits_L4O (loopT gauge_mapped_gauge_Element_api_Limits_L4S))], nimp := 2 }
noncomputable def gauge_mapped_gauge_Element_api_Limits_T (ps : List PV) : TR := funcT gauge_mapped_gauge_Element_api_Limits_E 68 Tryd.f68 true gauge_mapped_gauge_Element_api_Limits_I gauge_mapped_gauge_Element_api_Limits_O ps
theorem gauge_mapped_gauge_Element_api_Limits_Eok : EnvOK gauge_mapped_gauge_Element_api_Limits_E Tryd.prog := ⟨tok_of seat_TTok,
  all_cons gauge_losses_1_spec (all_nil),
  all_cons (loop_ok Tryd.func68 (by kernel_rfl) (by kernel_rfl) gauge_mapped_gauge_Element_api_Limits_L4good) (all_nil),
  all_cons (body_ok Tryd.func68 (by kernel_rfl)) (all_nil)⟩
theorem gauge_mapped_gauge_Element_api_Limits_spec : Spec Tryd.prog seat_GL 68 (specG gauge_mapped_gauge_Element_api_Limits_I gauge_mapped_gauge_Element_api_Limits_O gauge_mapped_gauge_Element_api_Limits_T) := spec_of seat_mo gauge_mapped_gauge_Element_api_Limits_Eok Tryd.func68 (by kernel_rfl) (by kernel_rfl) (fun _ => rfl)

/-! 41 metrolab/gauge.losses -/
def gauge_losses_I : FIn := { args := [(.imm [(.int .i64), (.int .i64), (.int .i64), (.int .i64), (.int .i64), (.int .i64), .bool]), (.imm [(.int .i64), (.int .i64), .bool, (.int .i64), (.int .i64)])], h := [] }
def gauge_losses_O : List FOut := [{ res := (.tuple [(.imm [(.int .i64), (.int .i64)]), (.int .i64)]), h := [] }]
def gauge_losses_L14I : Tmpl := { t := [.any, .any, .any, .any, .any, .any, .any, .any, (.imm [(.int .i64), (.int .i64)]), .any, .any, .any, .any, .any, .any, .any, .any, .any, .any, .any, .any, .any, .any, .any, .any, .any, .any, .any, .any, .any, .any, .any, .any, (.imm [(.int .i64), (.int .i64)]), (.int .i64), (.int .i64), .any, .any, .any, .any, .any, .any, .any, .any], h := [] }
def gauge_losses_L14O : List Out := [{ x := (.exit 0), tm := { t := [.any, .any, .any, .any, .any, .any, .any, .any, (.imm [(.int .i64), (.int .i64)]), .any, .any, .any, .any, .any, .any, .any, .any, .any, .any, .any, .any, .any, .any, .any, .any, .any, .any, .any, .any, .any, .any, .any, .any, .any, .any, .any, .any, .any, .any, .any, .any, .any, .any, .any], h := [] } }, { x := .ret, tm := { t := [.any, .any, .any, .any, .nils, (.int .i64), .any, .any, .any, .any, .any, .any, .any, .any, .any, .any, .any, .any, .any, .any, .any, .any, .any, .any, .any, .any, .any, .any, .any, .any, .any, .any, .any, .any, .any, .any, .any, .any, .any, .any, .any, .any, .any, .any], h := [] } }]
noncomputable def gauge_losses_L14E : Env := { tt := seat_TT, glob := seat_GL, spec := [(49, specG gauge_virtual_I gauge_virtual_O gauge_virtual_T), (68, specG gauge_mapped_gauge_Element_api_Limits_I gauge_mapped_gauge_Element_api_Limits_O gauge_mapped_gauge_Element_api_Limits_T), (69, specG gauge_losses_1_I gauge_losses_1_O gauge_losses_1_T)], body := [(41, Tryd.f41)], loops := [], nimp := 0 }
noncomputable def gauge_losses_L14S (ps : List PV) : TR := stepT gauge_losses_L14E 41 Tryd.f41 14 gauge_losses_L14I gauge_losses_L14O ps
theorem gauge_losses_L14Eok : EnvOK gauge_losses_L14E Tryd.prog := ⟨tok_of seat_TTok,
  all_cons gauge_virtual_spec (all_cons gauge_mapped_gauge_Element_api_Limits_spec (all_cons gauge_losses_1_spec (all_nil))),
  all_nil,
  all_cons (body_ok Tryd.func41 (by kernel_rfl)) (all_nil)⟩
theorem gauge_losses_L14good : LoopGood Tryd.prog seat_GL gauge_losses_L14E.nimp (nodeC Tryd.f41 14) (pieceL gauge_losses_L14I gauge_losses_L14O (loopT gauge_losses_L14S)) :=
  loopGood_of seat_mo gauge_losses_L14Eok Tryd.func41 (by kernel_rfl) (by kernel_rfl) (by kernel_rfl) (fun _ => rfl)
noncomputable def gauge_losses_E : Env := { tt := seat_TT, glob := seat_GL, spec := [(49, specG gauge_virtual_I gauge_virtual_O gauge_virtual_T), (68, specG gauge_mapped_gauge_Element_api_Limits_I gauge_mapped_gauge_Element_api_Limits_O gauge_mapped_gauge_Element_api_Limits_T), (69, specG gauge_losses_1_I gauge_losses_1_O gauge_losses_1_T)], body := [(41, Tryd.f41)], loops := [((41, 14), pieceL gauge_losses_L14I gauge_losses_L14O (loopT gauge_losses_L14S))], nimp := 0 }
noncomputable def gauge_losses_T (ps : List PV) : TR := funcT gauge_losses_E 41 Tryd.f41 true gauge_losses_I gauge_losses_O ps
theorem gauge_losses_Eok : EnvOK gauge_losses_E Tryd.prog := ⟨tok_of seat_TTok,
  all_cons gauge_virtual_spec (all_cons gauge_mapped_gauge_Element_api_Limits_spec (all_cons gauge_losses_1_spec (all_nil))),
  all_cons (loop_ok Tryd.func41 (by kernel_rfl) (by kernel_rfl) gauge_losses_L14good) (all_nil),
  all_cons (body_ok Tryd.func41 (by kernel_rfl)) (all_nil)⟩
theorem gauge_losses_spec : Spec Tryd.prog seat_GL 41 (specG gauge_losses_I gauge_losses_O gauge_losses_T) := spec_of seat_mo gauge_losses_Eok Tryd.func41 (by kernel_rfl) (by kernel_rfl) (fun _ => rfl)

/-! 12 metrolab/gauge.Safe -/
def gauge_Safe_I : FIn := { args := [(.imm [(.int .i64), (.int .i64), (.int .i64), (.int .i64), (.int .i64), (.int .i64), .bool]), (.imm [(.int .i64), (.int .i64), .bool, (.int .i64), (.int .i64)])], h := [] }
def gauge_Safe_O : List FOut := [{ res := (.int .i64), h := [] }]
noncomputable def gauge_Safe_E : Env := { tt := seat_TT, glob := seat_GL, spec := [(41, specG gauge_losses_I gauge_losses_O gauge_losses_T)], body := [(12, Tryd.f12)], loops := [], nimp := 0 }
noncomputable def gauge_Safe_T (ps : List PV) : TR := funcT gauge_Safe_E 12 Tryd.f12 true gauge_Safe_I gauge_Safe_O ps
theorem gauge_Safe_Eok : EnvOK gauge_Safe_E Tryd.prog := ⟨tok_of seat_TTok,
  all_cons gauge_losses_spec (all_nil),
  all_nil,
  all_cons (body_ok Tryd.func12 (by kernel_rfl)) (all_nil)⟩
theorem gauge_Safe_spec : Spec Tryd.prog seat_GL 12 (specG gauge_Safe_I gauge_Safe_O gauge_Safe_T) := spec_of seat_mo gauge_Safe_Eok Tryd.func12 (by kernel_rfl) (by kernel_rfl) (fun _ => rfl)

/-! 15 metrolab/gauge.Loss -/
def gauge_Loss_I : FIn := { args := [(.imm [(.int .i64), (.int .i64), (.int .i64), (.int .i64), (.int .i64), (.int .i64), .bool]), (.imm [(.int .i64), (.int .i64), .bool, (.int .i64), (.int .i64)])], h := [] }
def gauge_Loss_O : List FOut := [{ res := (.tuple [(.int .i64), (.int .i64)]), h := [] }]
def gauge_Loss_L8I : Tmpl := { t := [.any, .any, .any, .any, .any, .any, .any, .any, (.int .i64), .any, .any, .any, .any, .any, .any, .any, .any, .any, .any, .any, (.imm [(.int .i64), (.int .i64)]), (.int .i64), (.int .i64), .any, .any, .any, .any, .any, .any, .any, .any, .any], h := [] }
def gauge_Loss_L8O : List Out := [{ x := (.exit 0), tm := { t := [.any, .any, .any, .any, .any, .any, .any, .any, (.int .i64), .any, .any, .any, .any, .any, .any, .any, .any, .any, .any, .any, .any, .any, .any, .any, .any, .any, .any, .any, .any, .any, .any, .any], h := [] } }]
noncomputable def gauge_Loss_L8E : Env := { tt := seat_TT, glob := seat_GL, spec := [(41, specG gauge_losses_I gauge_losses_O gauge_losses_T)], body := [(15, Tryd.f15)], loops := [], nimp := 0 }
noncomputable def gauge_Loss_L8S (ps : List PV) : TR := stepT gauge_Loss_L8E 15 Tryd.f15 8 gauge_Loss_L8I gauge_Loss_L8O ps
theorem gauge_Loss_L8Eok : EnvOK gauge_Loss_L8E Tryd.prog := ⟨tok_of seat_TTok,
  all_cons gauge_losses_spec (all_nil),
  all_nil,
  all_cons (body_ok Tryd.func15 (by kernel_rfl)) (all_nil)⟩
theorem gauge_Loss_L8good : LoopGood Tryd.prog seat_GL gauge_Loss_L8E.nimp (nodeC Tryd.f15 8) (pieceL gauge_Loss_L8I gauge_Loss_L8O (loopT gauge_Loss_L8S)) :=
  loopGood_of seat_mo gauge_Loss_L8Eok Tryd.func15 (by kernel_rfl) (by kernel_rfl) (by kernel_rfl) (fun _ => rfl)
noncomputable def gauge_Loss_E : Env := { tt := seat_TT, glob := seat_GL, spec := [(41, specG gauge_losses_I gauge_losses_O gauge_losses_T)], body := [(15, Tryd.f15)], loops := [((15, 8), pieceL gauge_Loss_L8I gauge_Loss_L8O (loopT gauge_Loss_L8S))], nimp := 0 }
noncomputable def gauge_Loss_T (ps : List PV) : TR := funcT gauge_Loss_E 15 Tryd.f15 true gauge_Loss_I gauge_Loss_O ps
theorem gauge_Loss_Eok : EnvOK gauge_Loss_E Tryd.prog := ⟨tok_of seat_TTok,
  all_cons gauge_losses_spec (all_nil),
  all_cons (loop_ok Tryd.func15 (by kernel_rfl) (by kernel_rfl) gauge_Loss_L8good) (all_nil),
  all_cons (body_ok Tryd.func15 (by kernel_rfl)) (all_nil)⟩
theorem gauge_Loss_spec : Spec Tryd.prog seat_GL 15 (specG gauge_Loss_I gauge_Loss_O gauge_Loss_T) := spec_of seat_mo gauge_Loss_Eok Tryd.func15 (by kernel_rfl) (by kernel_rfl) (fun _ => rfl)

/-! 47 metrolab/gauge.Made$1 -/
def gauge_Made_1_I : FIn := { args := [(.int .i64), (.agg [(.int .i64), (.int .i64), .bool, (.int .i64), (.int .i64)]), (.ptr 0 0)], h := [.cells [.bool]] }
def gauge_Made_1_O : List FOut := [{ res := (.tuple [(.agg [(.int .i64), (.int .i64), .bool, (.int .i64)]), (.int .i64)]), h := [.cells [.bool]] }]
noncomputable def gauge_Made_1_E : Env := { tt := seat_TT, glob := seat_GL, spec := [(48, specG gauge_limits_I gauge_limits_O gauge_limits_T)], body := [(47, Tryd.f47)], loops := [], nimp := 1 }
noncomputable def gauge_Made_1_T (ps : List PV) : TR := funcT gauge_Made_1_E 47 Tryd.f47 true gauge_Made_1_I gauge_Made_1_O ps
theorem gauge_Made_1_Eok : EnvOK gauge_Made_1_E Tryd.prog := ⟨tok_of seat_TTok,
  all_cons gauge_limits_spec (all_nil),
  all_nil,
  all_cons (body_ok Tryd.func47 (by kernel_rfl)) (all_nil)⟩
theorem gauge_Made_1_spec : Spec Tryd.prog seat_GL 47 (specG gauge_Made_1_I gauge_Made_1_O gauge_Made_1_T) := spec_of seat_mo gauge_Made_1_Eok Tryd.func47 (by kernel_rfl) (by kernel_rfl) (fun _ => rfl)

/-! 46 metrolab/gauge.mapped[metrolab/gauge.Element,metrolab/gauge.Tool] -/
def gauge_mapped_gauge_Element_gauge_Tool_I : FIn := { args := [(.imm [(.int .i64), (.int .i64), .bool, (.int .i64), (.int .i64)]), (.fn 47 [] [(.ptr 0 0)])], h := [.cells [.bool]] }
def gauge_mapped_gauge_Element_gauge_Tool_O : List FOut := [{ res := (.tuple [(.vec 1), (.int .i64)]), h := [.cells [.bool], .vec 75 [(.int .i64), (.int .i64), .bool, (.int .i64)]], pro := some (0, 75, [(.int .i64), (.int .i64), .bool, (.int .i64)]) }]
def gauge_mapped_gauge_Element_gauge_Tool_L4I : Tmpl := { t := [.any, (.fn 47 [] [(.ptr 0 0)]), .any, .any, .any, .any, (.vec 1), .any, .any, .any, .any, (.imm [(.int .i64), (.int .i64), .bool, (.int .i64), (.int .i64)]), (.int .i64), (.int .i64), .any, .any, .any, .any, .any, .any, .any, .any, .any, .any, .any, .any, .any, .any, .any, .any, .any, .any, .any, .any], h := [.cells [.bool], .vec 75 [(.int .i64), (.int .i64), .bool, (.int .i64)]], pro := [(6, 75, [(.int .i64), (.int .i64), .bool, (.int .i64)])] }
def gauge_mapped_gauge_Element_gauge_Tool_L4O : List Out := [{ x := (.exit 0), tm := { t := [.any, .any, .any, .any, .any, .any, (.vec 1), .any, .any, .any, .any, .any, .any, .any, .any, .any, .any, .any, .any, .any, .any, .any, .any, .any, .any, .any, .any, .any, .any, .any, .any, .any, .any, .any], h := [.cells [.bool], .vec 75 [(.int .i64), (.int .i64), .bool, (.int .i64)]] } }, { x := .ret, tm := { t := [.any, .any, .any, .any, .nils, (.int .i64), .any, .any, .any, .any, .any, .any, .any, .any, .any, .any, .any, .any, .any, .any, .any, .any, .any, .any, .any, .any, .any, .any, .any, .any, .any, .any, .any, .any], h := [.cells [.bool]] } }]
noncomputable def gauge_mapped_gauge_Element_gauge_Tool_L4E : Env := { tt := seat_TT, glob := seat_GL, spec := [(47, specG gauge_Made_1_I gauge_Made_1_O gauge_Made_1_T)], body := [(46, Tryd.f46)], loops := [], nimp := 1 }
noncomputable def gauge_mapped_gauge_Element_gauge_Tool_L4S (ps : List PV) : TR := stepT gauge_mapped_gauge_Element_gauge_Tool_L4E 46 Tryd.f46 4 gauge_mapped_gauge_Element_gauge_Tool_L4I gauge_mapped_gauge_Element_gauge_Tool_L4O ps
theorem gauge_mapped_gauge_Element_gauge_Tool_L4Eok : EnvOK gauge_mapped_gauge_Element_gauge_Tool_L4E Tryd.prog := ⟨tok_of seat_TTok,
  all_cons gauge_Made_1_spec (all_nil),
  all_nil,
  all_cons (body_ok Tryd.func46 (by kernel_rfl)) (all_nil)⟩
theorem gauge_mapped_gauge_Element_gauge_Tool_L4good : LoopGood Tryd.prog seat_GL gauge_mapped_gauge_Element_gauge_Tool_L4E.nimp (nodeC Tryd.f46 4) (pieceL gauge_mapped_gauge_Element_gauge_Tool_L4I gauge_mapped_gauge_Element_gauge_Tool_L4O (loopT gauge_mapped_gauge_Element_gauge_Tool_L4S)) :=
  loopGood_of seat_mo gauge_mapped_gauge_Element_gauge_Tool_L4Eok Tryd.func46 (by kernel_rfl) (by kernel_rfl) (by kernel_rfl) (fun _ => rfl)
noncomputable def gauge_mapped_gauge_Element_gauge_Tool_E : Env := { tt := seat_TT, glob := seat_GL, spec := [(47, specG gauge_Made_1_I gauge_Made_1_O gauge_Made_1_T)], body := [(46, Tryd.f46)], loops := [((46, 4), pieceL gauge_mapped_gauge_Element_gauge_Tool_L4I gauge_mapped_gauge_Element_gauge_Tool_L4O (loopT gauge_mapped_gauge_Element_gauge_Tool_L4S))], nimp := 1 }
noncomputable def gauge_mapped_gauge_Element_gauge_Tool_T (ps : List PV) : TR := funcT gauge_mapped_gauge_Element_gauge_Tool_E 46 Tryd.f46 false gauge_mapped_gauge_Element_gauge_Tool_I gauge_mapped_gauge_Element_gauge_Tool_O ps
theorem gauge_mapped_gauge_Element_gauge_Tool_Eok : EnvOK gauge_mapped_gauge_Element_gauge_Tool_E Tryd.prog := ⟨tok_of seat_TTok,
  all_cons gauge_Made_1_spec (all_nil),
  all_cons (loop_ok Tryd.func46 (by kernel_rfl) (by kernel_rfl) gauge_mapped_gauge_Element_gauge_Tool_L4good) (all_nil),
  all_cons (body_ok Tryd.func46 (by kernel_rfl)) (all_nil)⟩
theorem gauge_mapped_gauge_Element_gauge_Tool_spec : Spec Tryd.prog seat_GL 46 (specG gauge_mapped_gauge_Element_gauge_Tool_I gauge_mapped_gauge_Element_gauge_Tool_O gauge_mapped_gauge_Element_gauge_Tool_T) := spec_of seat_mo gauge_mapped_gauge_Element_gauge_Tool_Eok Tryd.func46 (by kernel_rfl) (by kernel_rfl) (fun _ => rfl)

/-! 17 metrolab/gauge.Made -/
def gauge_Made_I : FIn := { args := [(.imm [(.int .i64), (.int .i64), .bool, (.int .i64), (.int .i64)]), .bool], h := [] }
def gauge_Made_O : List FOut := [{ res := (.tuple [(.vec 1), (.int .i64)]), h := [.dead, .vec 75 [(.int .i64), (.int .i64), .bool, (.int .i64)]], pro := some (0, 75, [(.int .i64), (.int .i64), .bool, (.int .i64)]) }]
noncomputable def gauge_Made_E : Env := { tt := seat_TT, glob := seat_GL, spec := [(45, specG gauge_few_I gauge_few_O gauge_few_T), (46, specG gauge_mapped_gauge_Element_gauge_Tool_I gauge_mapped_gauge_Element_gauge_Tool_O gauge_mapped_gauge_Element_gauge_Tool_T), (47, specG gauge_Made_1_I gauge_Made_1_O gauge_Made_1_T)], body := [(17, Tryd.f17)], loops := [], nimp := 0 }
noncomputable def gauge_Made_T (ps : List PV) : TR := funcT gauge_Made_E 17 Tryd.f17 false gauge_Made_I gauge_Made_O ps
theorem gauge_Made_Eok : EnvOK gauge_Made_E Tryd.prog := ⟨tok_of seat_TTok,
  all_cons gauge_few_spec (all_cons gauge_mapped_gauge_Element_gauge_Tool_spec (all_cons gauge_Made_1_spec (all_nil))),
  all_nil,
  all_cons (body_ok Tryd.func17 (by kernel_rfl)) (all_nil)⟩
theorem gauge_Made_spec : Spec Tryd.prog seat_GL 17 (specG gauge_Made_I gauge_Made_O gauge_Made_T) := spec_of seat_mo gauge_Made_Eok Tryd.func17 (by kernel_rfl) (by kernel_rfl) (fun _ => rfl)

/-! 51 metrolab/gauge.Worn$1 -/
def gauge_Worn_1_I : FIn := { args := [(.int .i64), (.agg [(.int .i64), (.int .i64), .bool, (.int .i64)]), (.ptr 0 0), (.ptr 1 0)], h := [.cells [(.imm [(.int .i64), (.int .i64), (.int .i64), (.int .i64), (.int .i64), (.int .i64), .bool])], .cells [(.imm [(.int .i64)])]] }
def gauge_Worn_1_O : List FOut := [{ res := (.tuple [.bool, (.int .i64)]), h := [.cells [(.imm [(.int .i64), (.int .i64), (.int .i64), (.int .i64), (.int .i64), (.int .i64), .bool])], .cells [(.imm [(.int .i64)])]] }]
noncomputable def gauge_Worn_1_E : Env := { tt := seat_TT, glob := seat_GL, spec := [(52, specG gauge_ranged_I gauge_ranged_O gauge_ranged_T)], body := [(51, Tryd.f51)], loops := [], nimp := 2 }
noncomputable def gauge_Worn_1_T (ps : List PV) : TR := funcT gauge_Worn_1_E 51 Tryd.f51 true gauge_Worn_1_I gauge_Worn_1_O ps
theorem gauge_Worn_1_Eok : EnvOK gauge_Worn_1_E Tryd.prog := ⟨tok_of seat_TTok,
  all_cons gauge_ranged_spec (all_nil),
  all_nil,
  all_cons (body_ok Tryd.func51 (by kernel_rfl)) (all_nil)⟩
theorem gauge_Worn_1_spec : Spec Tryd.prog seat_GL 51 (specG gauge_Worn_1_I gauge_Worn_1_O gauge_Worn_1_T) := spec_of seat_mo gauge_Worn_1_Eok Tryd.func51 (by kernel_rfl) (by kernel_rfl) (fun _ => rfl)

/-! 50 metrolab/gauge.mapped[metrolab/gauge.Tool,bool] -/
def gauge_mapped_gauge_Tool_bool_I : FIn := { args := [(.imm [(.int .i64), (.int .i64), .bool, (.int .i64)]), (.fn 51 [] [(.ptr 0 0), (.ptr 1 0)])], h := [.cells [(.imm [(.int .i64), (.int .i64), (.int .i64), (.int .i64), (.int .i64), (.int .i64), .bool])], .cells [(.imm [(.int .i64)])]] }
def gauge_mapped_gauge_Tool_bool_O : List FOut := [{ res := (.tuple [(.imm [.bool]), (.int .i64)]), h := [.cells [(.imm [(.int .i64), (.int .i64), (.int .i64), (.int .i64), (.int .i64), (.int .i64), .bool])], .cells [(.imm [(.int .i64)])]] }]
def gauge_mapped_gauge_Tool_bool_L4I : Tmpl := { t := [.any, (.fn 51 [] [(.ptr 0 0), (.ptr 1 0)]), .any, .any, .any, .any, (.vec 2), .any, .any, .any, .any, (.imm [(.int .i64), (.int .i64), .bool, (.int .i64)]), (.int .i64), (.int .i64), .any, .any, .any, .any, .any, .any, .any, .any, .any, .any, .any, .any, .any, .any, .any, .any, .any, .any, .any, .any], h := [.cells [(.imm [(.int .i64), (.int .i64), (.int .i64), (.int .i64), (.int .i64), (.int .i64), .bool])], .cells [(.imm [(.int .i64)])], .vec 4 [.bool]], pro := [(6, 4, [.bool])] }
def gauge_mapped_gauge_Tool_bool_L4O : List Out := [{ x := (.exit 0), tm := { t := [.any, .any, .any, .any, .any, .any, (.vec 2), .any, .any, .any, .any, .any, .any, .any, .any, .any, .any, .any, .any, .any, .any, .any, .any, .any, .any, .any, .any, .any, .any, .any, .any, .any, .any, .any], h := [.cells [(.imm [(.int .i64), (.int .i64), (.int .i64), (.int .i64), (.int .i64), (.int .i64), .bool])], .cells [(.imm [(.int .i64)])], .vec 4 [.bool]] } }, { x := .ret, tm := { t := [.any, .any, .any, .any, .nils, (.int .i64), .any, .any, .any, .any, .any, .any, .any, .any, .any, .any, .any, .any, .any, .any, .any, .any, .any, .any, .any, .any, .any, .any, .any, .any, .any, .any, .any, .any], h := [.cells [(.imm [(.int .i64), (.int .i64), (.int .i64), (.int .i64), (.int .i64), (.int .i64), .bool])], .cells [(.imm [(.int .i64)])]] } }]
noncomputable def gauge_mapped_gauge_Tool_bool_L4E : Env := { tt := seat_TT, glob := seat_GL, spec := [(51, specG gauge_Worn_1_I gauge_Worn_1_O gauge_Worn_1_T)], body := [(50, Tryd.f50)], loops := [], nimp := 2 }
noncomputable def gauge_mapped_gauge_Tool_bool_L4S (ps : List PV) : TR := stepT gauge_mapped_gauge_Tool_bool_L4E 50 Tryd.f50 4 gauge_mapped_gauge_Tool_bool_L4I gauge_mapped_gauge_Tool_bool_L4O ps
theorem gauge_mapped_gauge_Tool_bool_L4Eok : EnvOK gauge_mapped_gauge_Tool_bool_L4E Tryd.prog := ⟨tok_of seat_TTok,
  all_cons gauge_Worn_1_spec (all_nil),
  all_nil,
  all_cons (body_ok Tryd.func50 (by kernel_rfl)) (all_nil)⟩
theorem gauge_mapped_gauge_Tool_bool_L4good : LoopGood Tryd.prog seat_GL gauge_mapped_gauge_Tool_bool_L4E.nimp (nodeC Tryd.f50 4) (pieceL gauge_mapped_gauge_Tool_bool_L4I gauge_mapped_gauge_Tool_bool_L4O (loopT gauge_mapped_gauge_Tool_bool_L4S)) :=
  loopGood_of seat_mo gauge_mapped_gauge_Tool_bool_L4Eok Tryd.func50 (by kernel_rfl) (by kernel_rfl) (by kernel_rfl) (fun _ => rfl)
noncomputable def gauge_mapped_gauge_Tool_bool_E : Env := { tt := seat_TT, glob := seat_GL, spec := [(51, specG gauge_Worn_1_I gauge_Worn_1_O gauge_Worn_1_T)], body := [(50, Tryd.f50)], loops := [((50, 4), pieceL gauge_mapped_gauge_Tool_bool_L4I gauge_mapped_gauge_Tool_bool_L4O (loopT gauge_mapped_gauge_Tool_bool_L4S))], nimp := 2 }
noncomputable def gauge_mapped_gauge_Tool_bool_T (ps : List PV) : TR := funcT gauge_mapped_gauge_Tool_bool_E 50 Tryd.f50 true gauge_mapped_gauge_Tool_bool_I gauge_mapped_gauge_Tool_bool_O ps
theorem gauge_mapped_gauge_Tool_bool_Eok : EnvOK gauge_mapped_gauge_Tool_bool_E Tryd.prog := ⟨tok_of seat_TTok,
  all_cons gauge_Worn_1_spec (all_nil),
  all_cons (loop_ok Tryd.func50 (by kernel_rfl) (by kernel_rfl) gauge_mapped_gauge_Tool_bool_L4good) (all_nil),
  all_cons (body_ok Tryd.func50 (by kernel_rfl)) (all_nil)⟩
theorem gauge_mapped_gauge_Tool_bool_spec : Spec Tryd.prog seat_GL 50 (specG gauge_mapped_gauge_Tool_bool_I gauge_mapped_gauge_Tool_bool_O gauge_mapped_gauge_Tool_bool_T) := spec_of seat_mo gauge_mapped_gauge_Tool_bool_Eok Tryd.func50 (by kernel_rfl) (by kernel_rfl) (fun _ => rfl)

/-! 21 metrolab/gauge.Worn -/
def gauge_Worn_I : FIn := { args := [(.imm [(.int .i64), (.int .i64), (.int .i64), (.int .i64), (.int .i64), (.int .i64), .bool]), (.imm [(.int .i64), (.int .i64), .bool, (.int .i64)])], h := [] }
def gauge_Worn_O : List FOut := [{ res := (.tuple [(.imm [(.int .i64)]), (.int .i64)]), h := [] }]
def gauge_Worn_L15I : Tmpl := { t := [.any, .any, .any, .any, .any, .any, .any, .any, .any, (.vec 2), .any, .any, .any, .any, .any, .any, .any, .any, .any, .any, .any, .any, .any, .any, .any, .any, .any, .any, .any, .any, .any, .any, .any, .any, (.imm [.bool]), (.int .i64), (.int .i64), .any, .any, .any, .any, .any, .any, .any, .any, .any, .any, .any], h := [.dead, .dead, .vec 3 [(.int .i64)]], pro := [(9, 3, [(.int .i64)])] }
def gauge_Worn_L15O : List Out := [{ x := (.exit 0), tm := { t := [.any, .any, .any, .any, .any, .any, .any, .any, .any, (.vec 2), .any, .any, .any, .any, .any, .any, .any, .any, .any, .any, .any, .any, .any, .any, .any, .any, .any, .any, .any, .any, .any, .any, .any, .any, .any, .any, .any, .any, .any, .any, .any, .any, .any, .any, .any, .any, .any, .any], h := [.dead, .dead, .vec 3 [(.int .i64)]] } }]
noncomputable def gauge_Worn_L15E : Env := { tt := seat_TT, glob := seat_GL, spec := [(49, specG gauge_virtual_I gauge_virtual_O gauge_virtual_T), (50, specG gauge_mapped_gauge_Tool_bool_I gauge_mapped_gauge_Tool_bool_O gauge_mapped_gauge_Tool_bool_T), (51, specG gauge_Worn_1_I gauge_Worn_1_O gauge_Worn_1_T)], body := [(21, Tryd.f21)], loops := [], nimp := 0 }
noncomputable def gauge_Worn_L15S (ps : List PV) : TR := stepT gauge_Worn_L15E 21 Tryd.f21 15 gauge_Worn_L15I gauge_Worn_L15O ps
theorem gauge_Worn_L15Eok : EnvOK gauge_Worn_L15E Tryd.prog := ⟨tok_of seat_TTok,
  all_cons gauge_virtual_spec (all_cons gauge_mapped_gauge_Tool_bool_spec (all_cons gauge_Worn_1_spec (all_nil))),
  all_nil,
  all_cons (body_ok Tryd.func21 (by kernel_rfl)) (all_nil)⟩
theorem gauge_Worn_L15good : LoopGood Tryd.prog seat_GL gauge_Worn_L15E.nimp (nodeC Tryd.f21 15) (pieceL gauge_Worn_L15I gauge_Worn_L15O (loopT gauge_Worn_L15S)) :=
  loopGood_of seat_mo gauge_Worn_L15Eok Tryd.func21 (by kernel_rfl) (by kernel_rfl) (by kernel_rfl) (fun _ => rfl)
noncomputable def gauge_Worn_E : Env := { tt := seat_TT, glob := seat_GL, spec := [(49, specG gauge_virtual_I gauge_virtual_O gauge_virtual_T), (50, specG gauge_mapped_gauge_Tool_bool_I gauge_mapped_gauge_Tool_bool_O gauge_mapped_gauge_Tool_bool_T), (51, specG gauge_Worn_1_I gauge_Worn_1_O gauge_Worn_1_T)], body := [(21, Tryd.f21)], loops := [((21, 15), pieceL gauge_Worn_L15I gauge_Worn_L15O (loopT gauge_Worn_L15S))], nimp := 0 }
noncomputable def gauge_Worn_T (ps : List PV) : TR := funcT gauge_Worn_E 21 Tryd.f21 true gauge_Worn_I gauge_Worn_O ps
theorem gauge_Worn_Eok : EnvOK gauge_Worn_E Tryd.prog := ⟨tok_of seat_TTok,
  all_cons gauge_virtual_spec (all_cons gauge_mapped_gauge_Tool_bool_spec (all_cons gauge_Worn_1_spec (all_nil))),
  all_cons (loop_ok Tryd.func21 (by kernel_rfl) (by kernel_rfl) gauge_Worn_L15good) (all_nil),
  all_cons (body_ok Tryd.func21 (by kernel_rfl)) (all_nil)⟩
theorem gauge_Worn_spec : Spec Tryd.prog seat_GL 21 (specG gauge_Worn_I gauge_Worn_O gauge_Worn_T) := spec_of seat_mo gauge_Worn_Eok Tryd.func21 (by kernel_rfl) (by kernel_rfl) (fun _ => rfl)

/-! 23 slices.Equal[[]int,int] -/
def slices_Equal_int_int_I : FIn := { args := [(.imm [(.int .i64)]), (.imm [(.int .i64)])], h := [] }
def slices_Equal_int_int_O : List FOut := [{ res := .bool, h := [] }]
def slices_Equal_int_int_L6I : Tmpl := { t := [(.imm [(.int .i64)]), (.imm [(.int .i64)]), .any, .any, .any, .any, .any, .any, .any, .any, .any, .any, (.int .i64), (.int .i64), .any, .any, .any, .any, .any, .any, .any, .any, .any, .any, .any, .any], h := [] }
def slices_Equal_int_int_L6O : List Out := [{ x := (.exit 0), tm := { t := [.any, .any, .any, .any, .any, .any, .any, .any, .any, .any, .any, .any, .any, .any, .any, .any, .any, .any, .any, .any, .any, .any, .any, .any, .any, .any], h := [] } }, { x := .ret, tm := { t := [.any, .any, .any, .any, .bool, .any, .any, .any, .any, .any, .any, .any, .any, .any, .any, .any, .any, .any, .any, .any, .any, .any, .any, .any, .any, .any], h := [] } }]
noncomputable def slices_Equal_int_int_L6E : Env := { tt := seat_TT, glob := seat_GL, spec := [], body := [(23, Tryd.f23)], loops := [], nimp := 0 }
noncomputable def slices_Equal_int_int_L6S (ps : List PV) : TR := stepT slices_Equal_int_int_L6E 23 Tryd.f23 6 slices_Equal_int_int_L6I slices_Equal_int_int_L6O ps
theorem slices_Equal_int_int_L6Eok : EnvOK slices_Equal_int_int_L6E Tryd.prog := ⟨tok_of seat_TTok,
  all_nil,
  all_nil,
  all_cons (body_ok Tryd.func23 (by kernel_rfl)) (all_nil)⟩
theorem slices_Equal_int_int_L6good : LoopGood Tryd.prog seat_GL slices_Equal_int_int_L6E.nimp (nodeC Tryd.f23 6) (pieceL slices_Equal_int_int_L6I slices_Equal_int_int_L6O (loopT slices_Equal_int_int_L6S)) :=
  loopGood_of seat_mo slices_Equal_int_int_L6Eok Tryd.func23 (by kernel_rfl) (by kernel_rfl) (by kernel_rfl) (fun _ => rfl)
noncomputable def slices_Equal_int_int_E : Env := { tt := seat_TT, glob := seat_GL, spec := [], body := [(23, Tryd.f23)], loops := [((23, 6), pieceL slices_Equal_int_int_L6I slices_Equal_int_int_L6O (loopT slices_Equal_int_int_L6S))], nimp := 0 }
noncomputable def slices_Equal_int_int_T (ps : List PV) : TR := funcT slices_Equal_int_int_E 23 Tryd.f23 true slices_Equal_int_int_I slices_Equal_int_int_O ps
theorem slices_Equal_int_int_Eok : EnvOK slices_Equal_int_int_E Tryd.prog := ⟨tok_of seat_TTok,
  all_nil,
  all_cons (loop_ok Tryd.func23 (by kernel_rfl) (by kernel_rfl) slices_Equal_int_int_L6good) (all_nil),
  all_cons (body_ok Tryd.func23 (by kernel_rfl)) (all_nil)⟩
theorem slices_Equal_int_int_spec : Spec Tryd.prog seat_GL 23 (specG slices_Equal_int_int_I slices_Equal_int_int_O slices_Equal_int_int_T) := spec_of seat_mo slices_Equal_int_int_Eok Tryd.func23 (by kernel_rfl) (by kernel_rfl) (fun _ => rfl)

/-! 55 metrolab/gauge.Design$1 -/
def gauge_Design_1_I : FIn := { args := [(.int .i64), (.agg [(.int .i64), (.int .i64), (.int .i64), (.int .i64), (.int .i64), (.int .i64), .bool]), (.ptr 0 0), (.ptr 1 0)], h := [.cells [(.imm [(.int .i64)])], .cells [(.int .i64), (.int .i64)]] }
def gauge_Design_1_O : List FOut := [{ res := (.tuple [(.agg [(.int .i64), (.int .i64), .bool, (.int .i64), (.int .i64)]), (.int .i64)]), h := [.cells [(.imm [(.int .i64)])], .cells [(.int .i64), (.int .i64)]] }]
noncomputable def gauge_Design_1_E : Env := { tt := seat_TT, glob := seat_GL, spec := [], body := [(55, Tryd.f55)], loops := [], nimp := 2 }
noncomputable def gauge_Design_1_T (ps : List PV) : TR := funcT gauge_Design_1_E 55 Tryd.f55 true gauge_Design_1_I gauge_Design_1_O ps
theorem gauge_Design_1_Eok : EnvOK gauge_Design_1_E Tryd.prog := ⟨tok_of seat_TTok,
  all_nil,
  all_nil,
  all_cons (body_ok Tryd.func55 (by kernel_rfl)) (all_nil)⟩
theorem gauge_Design_1_spec : Spec Tryd.prog seat_GL 55 (specG gauge_Design_1_I gauge_Design_1_O gauge_Design_1_T) := spec_of seat_mo gauge_Design_1_Eok Tryd.func55 (by kernel_rfl) (by kernel_rfl) (fun _ => rfl)

/-! 54 metrolab/gauge.mapped[metrolab/api.Target,metrolab/gauge.Element] -/
def gauge_mapped_api_Target_gauge_Element_I : FIn := { args := [(.imm [(.int .i64), (.int .i64), (.int .i64), (.int .i64), (.int .i64), (.int .i64), .bool]), (.fn 55 [] [(.ptr 0 0), (.ptr 1 0)])], h := [.cells [(.imm [(.int .i64)])], .cells [(.int .i64), (.int .i64)]] }
def gauge_mapped_api_Target_gauge_Element_O : List FOut := [{ res := (.tuple [(.imm [(.int .i64), (.int .i64), .bool, (.int .i64), (.int .i64)]), (.int .i64)]), h := [.cells [(.imm [(.int .i64)])], .cells [(.int .i64), (.int .i64)]] }]
def gauge_mapped_api_Target_gauge_Element_L4I : Tmpl := { t := [.any, (.fn 55 [] [(.ptr 0 0), (.ptr 1 0)]), .any, .any, .any, .any, (.vec 2), .any, .any, .any, .any, (.imm [(.int .i64), (.int .i64), (.int .i64), (.int .i64), (.int .i64), (.int .i64), .bool]), (.int .i64), (.int .i64), .any, .any, .any, .any, .any, .any, .any, .any, .any, .any, .any, .any, .any, .any, .any, .any, .any, .any, .any, .any], h := [.cells [(.imm [(.int .i64)])], .cells [(.int .i64), (.int .i64)], .vec 64 [(.int .i64), (.int .i64), .bool, (.int .i64), (.int .i64)]], pro := [(6, 64, [(.int .i64), (.int .i64), .bool, (.int .i64), (.int .i64)])] }
def gauge_mapped_api_Target_gauge_Element_L4O : List Out := [{ x := (.exit 0), tm := { t := [.any, .any, .any, .any, .any, .any, (.vec 2), .any, .any, .any, .any, .any, .any, .any, .any, .any, .any, .any, .any, .any, .any, .any, .any, .any, .any, .any, .any, .any, .any, .any, .any, .any, .any, .any], h := [.cells [(.imm [(.int .i64)])], .cells [(.int .i64), (.int .i64)], .vec 64 [(.int .i64), (.int .i64), .bool, (.int .i64), (.int .i64)]] } }, { x := .ret, tm := { t := [.any, .any, .any, .any, .nils, (.int .i64), .any, .any, .any, .any, .any, .any, .any, .any, .any, .any, .any, .any, .any, .any, .any, .any, .any, .any, .any, .any, .any, .any, .any, .any, .any, .any, .any, .any], h := [.cells [(.imm [(.int .i64)])], .cells [(.int .i64), (.int .i64)]] } }]
noncomputable def gauge_mapped_api_Target_gauge_Element_L4E : Env := { tt := seat_TT, glob := seat_GL, spec := [(55, specG gauge_Design_1_I gauge_Design_1_O gauge_Design_1_T)], body := [(54, Tryd.f54)], loops := [], nimp := 2 }
noncomputable def gauge_mapped_api_Target_gauge_Element_L4S (ps : List PV) : TR := stepT gauge_mapped_api_Target_gauge_Element_L4E 54 Tryd.f54 4 gauge_mapped_api_Target_gauge_Element_L4I gauge_mapped_api_Target_gauge_Element_L4O ps
theorem gauge_mapped_api_Target_gauge_Element_L4Eok : EnvOK gauge_mapped_api_Target_gauge_Element_L4E Tryd.prog := ⟨tok_of seat_TTok,
  all_cons gauge_Design_1_spec (all_nil),
  all_nil,
  all_cons (body_ok Tryd.func54 (by kernel_rfl)) (all_nil)⟩
theorem gauge_mapped_api_Target_gauge_Element_L4good : LoopGood Tryd.prog seat_GL gauge_mapped_api_Target_gauge_Element_L4E.nimp (nodeC Tryd.f54 4) (pieceL gauge_mapped_api_Target_gauge_Element_L4I gauge_mapped_api_Target_gauge_Element_L4O (loopT gauge_mapped_api_Target_gauge_Element_L4S)) :=
  loopGood_of seat_mo gauge_mapped_api_Target_gauge_Element_L4Eok Tryd.func54 (by kernel_rfl) (by kernel_rfl) (by kernel_rfl) (fun _ => rfl)
noncomputable def gauge_mapped_api_Target_gauge_Element_E : Env := { tt := seat_TT, glob := seat_GL, spec := [(55, specG gauge_Design_1_I gauge_Design_1_O gauge_Design_1_T)], body := [(54, Tryd.f54)], loops := [((54, 4), pieceL gauge_mapped_api_Target_gauge_Element_L4I gauge_mapped_api_Target_gauge_Element_L4O (loopT gauge_mapped_api_Target_gauge_Element_L4S))], nimp := 2 }
noncomputable def gauge_mapped_api_Target_gauge_Element_T (ps : List PV) : TR := funcT gauge_mapped_api_Target_gauge_Element_E 54 Tryd.f54 true gauge_mapped_api_Target_gauge_Element_I gauge_mapped_api_Target_gauge_Element_O ps
theorem gauge_mapped_api_Target_gauge_Element_Eok : EnvOK gauge_mapped_api_Target_gauge_Element_E Tryd.prog := ⟨tok_of seat_TTok,
  all_cons gauge_Design_1_spec (all_nil),
  all_cons (loop_ok Tryd.func54 (by kernel_rfl) (by kernel_rfl) gauge_mapped_api_Target_gauge_Element_L4good) (all_nil),
  all_cons (body_ok Tryd.func54 (by kernel_rfl)) (all_nil)⟩
theorem gauge_mapped_api_Target_gauge_Element_spec : Spec Tryd.prog seat_GL 54 (specG gauge_mapped_api_Target_gauge_Element_I gauge_mapped_api_Target_gauge_Element_O gauge_mapped_api_Target_gauge_Element_T) := spec_of seat_mo gauge_mapped_api_Target_gauge_Element_Eok Tryd.func54 (by kernel_rfl) (by kernel_rfl) (fun _ => rfl)

/-! 24 metrolab/gauge.Design -/
def gauge_Design_I : FIn := { args := [(.imm [(.int .i64), (.int .i64), (.int .i64), (.int .i64), (.int .i64), (.int .i64), .bool]), (.agg [(.int .i64), (.int .i64)])], h := [] }
def gauge_Design_O : List FOut := [{ res := (.tuple [(.imm [(.int .i64), (.int .i64), .bool, (.int .i64), (.int .i64)]), (.int .i64)]), h := [] }]
def gauge_Design_L7I : Tmpl := { t := [(.imm [(.int .i64), (.int .i64), (.int .i64), (.int .i64), (.int .i64), (.int .i64), .bool]), .any, .any, (.ptr 0 0), .any, .any, (.ptr 1 0), .any, .any, .any, .any, .any, .any, .any, .any, .any, .any, .any, .any, .any, .any, .any, (.agg [(.int .i64), (.int .i64)]), (.int .i64), .any, .any, .any, .any, .any, .any, .any, .any, .any, .any, .any, .any, .any, .any], h := [.cells [(.int .i64), (.int .i64)], .cells [(.imm [(.int .i64)])]] }
def gauge_Design_L7O : List Out := [{ x := (.exit 0), tm := { t := [(.imm [(.int .i64), (.int .i64), (.int .i64), (.int .i64), (.int .i64), (.int .i64), .bool]), .any, .any, (.ptr 0 0), .any, .any, (.ptr 1 0), .any, .any, .any, .any, .any, .any, .any, .any, .any, .any, .any, .any, .any, .any, .any, .any, .any, .any, .any, .any, .any, .any, .any, .any, .any, .any, .any, .any, .any, .any, .any], h := [.cells [(.int .i64), (.int .i64)], .cells [(.imm [(.int .i64)])]] } }, { x := .ret, tm := { t := [.any, .any, .any, .any, .nils, (.int .i64), .any, .any, .any, .any, .any, .any, .any, .any, .any, .any, .any, .any, .any, .any, .any, .any, .any, .any, .any, .any, .any, .any, .any, .any, .any, .any, .any, .any, .any, .any, .any, .any], h := [] } }]
noncomputable def gauge_Design_L7E : Env := { tt := seat_TT, glob := seat_GL, spec := [(49, specG gauge_virtual_I gauge_virtual_O gauge_virtual_T), (54, specG gauge_mapped_api_Target_gauge_Element_I gauge_mapped_api_Target_gauge_Element_O gauge_mapped_api_Target_gauge_Element_T), (55, specG gauge_Design_1_I gauge_Design_1_O gauge_Design_1_T)], body := [(24, Tryd.f24)], loops := [], nimp := 0 }
noncomputable def gauge_Design_L7S (ps : List PV) : TR := stepT gauge_Design_L7E 24 Tryd.f24 7 gauge_Design_L7I gauge_Design_L7O ps
theorem gauge_Design_L7Eok : EnvOK gauge_Design_L7E Tryd.prog := ⟨tok_of seat_TTok,
  all_cons gauge_virtual_spec (all_cons gauge_mapped_api_Target_gauge_Element_spec (all_cons gauge_Design_1_spec (all_nil))),
  all_nil,
  all_cons (body_ok Tryd.func24 (by kernel_rfl)) (all_nil)⟩
theorem gauge_Design_L7good : LoopGood Tryd.prog seat_GL gauge_Design_L7E.nimp (nodeC Tryd.f24 7) (pieceL gauge_Design_L7I gauge_Design_L7O (loopT gauge_Design_L7S)) :=
  loopGood_of seat_mo gauge_Design_L7Eok Tryd.func24 (by kernel_rfl) (by kernel_rfl) (by kernel_rfl) (fun _ => rfl)
noncomputable def gauge_Design_E : Env := { tt := seat_TT, glob := seat_GL, spec := [(49, specG gauge_virtual_I gauge_virtual_O gauge_virtual_T), (54, specG gauge_mapped_api_Target_gauge_Element_I gauge_mapped_api_Target_gauge_Element_O gauge_mapped_api_Target_gauge_Element_T), (55, specG gauge_Design_1_I gauge_Design_1_O gauge_Design_1_T)], body := [(24, Tryd.f24)], loops := [((24, 7), pieceL gauge_Design_L7I gauge_Design_L7O (loopT gauge_Design_L7S))], nimp := 0 }
noncomputable def gauge_Design_T (ps : List PV) : TR := funcT gauge_Design_E 24 Tryd.f24 true gauge_Design_I gauge_Design_O ps
theorem gauge_Design_Eok : EnvOK gauge_Design_E Tryd.prog := ⟨tok_of seat_TTok,
  all_cons gauge_virtual_spec (all_cons gauge_mapped_api_Target_gauge_Element_spec (all_cons gauge_Design_1_spec (all_nil))),
  all_cons (loop_ok Tryd.func24 (by kernel_rfl) (by kernel_rfl) gauge_Design_L7good) (all_nil),
  all_cons (body_ok Tryd.func24 (by kernel_rfl)) (all_nil)⟩
theorem gauge_Design_spec : Spec Tryd.prog seat_GL 24 (specG gauge_Design_I gauge_Design_O gauge_Design_T) := spec_of seat_mo gauge_Design_Eok Tryd.func24 (by kernel_rfl) (by kernel_rfl) (fun _ => rfl)

/-! 40 metrolab/metrolablaw47.Pair -/
def law47_Pair_I : FIn := { args := [], h := [] }
def law47_Pair_O : List FOut := [{ res := (.imm [(.int .i64), (.int .i64), (.int .i64), (.int .i64), (.int .i64), (.int .i64), .bool]), h := [] }]
noncomputable def law47_Pair_E : Env := { tt := seat_TT, glob := seat_GL, spec := [], body := [(40, Tryd.f40)], loops := [], nimp := 0 }
noncomputable def law47_Pair_T (ps : List PV) : TR := funcT law47_Pair_E 40 Tryd.f40 true law47_Pair_I law47_Pair_O ps
theorem law47_Pair_Eok : EnvOK law47_Pair_E Tryd.prog := ⟨tok_of seat_TTok,
  all_nil,
  all_nil,
  all_cons (body_ok Tryd.func40 (by kernel_rfl)) (all_nil)⟩
theorem law47_Pair_spec : Spec Tryd.prog seat_GL 40 (specG law47_Pair_I law47_Pair_O law47_Pair_T) := spec_of seat_mo law47_Pair_Eok Tryd.func40 (by kernel_rfl) (by kernel_rfl) (fun _ => rfl)

/-! 11 metrolab/metrolablaw47.awake -/
def law47_awake_I : FIn := { args := [], h := [] }
def law47_awake_O : List FOut := [{ res := .bool, h := [] }]
noncomputable def law47_awake_E : Env := { tt := seat_TT, glob := seat_GL, spec := [(12, specG gauge_Safe_I gauge_Safe_O gauge_Safe_T), (15, specG gauge_Loss_I gauge_Loss_O gauge_Loss_T), (17, specG gauge_Made_I gauge_Made_O gauge_Made_T), (21, specG gauge_Worn_I gauge_Worn_O gauge_Worn_T), (23, specG slices_Equal_int_int_I slices_Equal_int_int_O slices_Equal_int_int_T), (24, specG gauge_Design_I gauge_Design_O gauge_Design_T), (40, specG law47_Pair_I law47_Pair_O law47_Pair_T)], body := [(11, Tryd.f11)], loops := [], nimp := 0 }
noncomputable def law47_awake_T (ps : List PV) : TR := funcT law47_awake_E 11 Tryd.f11 true law47_awake_I law47_awake_O ps
theorem law47_awake_Eok : EnvOK law47_awake_E Tryd.prog := ⟨tok_of seat_TTok,
  all_cons gauge_Safe_spec (all_cons gauge_Loss_spec (all_cons gauge_Made_spec (all_cons gauge_Worn_spec (all_cons slices_Equal_int_int_spec (all_cons gauge_Design_spec (all_cons law47_Pair_spec (all_nil))))))),
  all_nil,
  all_cons (body_ok Tryd.func11 (by kernel_rfl)) (all_nil)⟩
theorem law47_awake_spec : Spec Tryd.prog seat_GL 11 (specG law47_awake_I law47_awake_O law47_awake_T) := spec_of seat_mo law47_awake_Eok Tryd.func11 (by kernel_rfl) (by kernel_rfl) (fun _ => rfl)

/-! 74 metrolab/metrolabref07.in -/
def ref07_in_I : FIn := { args := [(.int .i64)], h := [] }
def ref07_in_O : List FOut := [{ res := .bool, h := [] }]
noncomputable def ref07_in_E : Env := { tt := seat_TT, glob := seat_GL, spec := [], body := [(74, Tryd.f74)], loops := [], nimp := 0 }
noncomputable def ref07_in_T (ps : List PV) : TR := funcT ref07_in_E 74 Tryd.f74 true ref07_in_I ref07_in_O ps
theorem ref07_in_Eok : EnvOK ref07_in_E Tryd.prog := ⟨tok_of seat_TTok,
  all_nil,
  all_nil,
  all_cons (body_ok Tryd.func74 (by kernel_rfl)) (all_nil)⟩
theorem ref07_in_spec : Spec Tryd.prog seat_GL 74 (specG ref07_in_I ref07_in_O ref07_in_T) := spec_of seat_mo ref07_in_Eok Tryd.func74 (by kernel_rfl) (by kernel_rfl) (fun _ => rfl)

/-! 63 metrolab/metrolabref07.Right -/
def ref07_Right_I : FIn := { args := [(.agg [(.int .i64), (.int .i64)])], h := [] }
def ref07_Right_O : List FOut := [{ res := .bool, h := [] }]
noncomputable def ref07_Right_E : Env := { tt := seat_TT, glob := seat_GL, spec := [(74, specG ref07_in_I ref07_in_O ref07_in_T)], body := [(63, Tryd.f63)], loops := [], nimp := 0 }
noncomputable def ref07_Right_T (ps : List PV) : TR := funcT ref07_Right_E 63 Tryd.f63 true ref07_Right_I ref07_Right_O ps
theorem ref07_Right_Eok : EnvOK ref07_Right_E Tryd.prog := ⟨tok_of seat_TTok,
  all_cons ref07_in_spec (all_nil),
  all_nil,
  all_cons (body_ok Tryd.func63 (by kernel_rfl)) (all_nil)⟩
theorem ref07_Right_spec : Spec Tryd.prog seat_GL 63 (specG ref07_Right_I ref07_Right_O ref07_Right_T) := spec_of seat_mo ref07_Right_Eok Tryd.func63 (by kernel_rfl) (by kernel_rfl) (fun _ => rfl)

/-! 64 metrolab/metrolabref44.size -/
def ref44_size_I : FIn := { args := [(.int .i64)], h := [] }
def ref44_size_O : List FOut := [{ res := .bool, h := [] }]
noncomputable def ref44_size_E : Env := { tt := seat_TT, glob := seat_GL, spec := [], body := [(64, Tryd.f64)], loops := [], nimp := 0 }
noncomputable def ref44_size_T (ps : List PV) : TR := funcT ref44_size_E 64 Tryd.f64 true ref44_size_I ref44_size_O ps
theorem ref44_size_Eok : EnvOK ref44_size_E Tryd.prog := ⟨tok_of seat_TTok,
  all_nil,
  all_nil,
  all_cons (body_ok Tryd.func64 (by kernel_rfl)) (all_nil)⟩
theorem ref44_size_spec : Spec Tryd.prog seat_GL 64 (specG ref44_size_I ref44_size_O ref44_size_T) := spec_of seat_mo ref44_size_Eok Tryd.func64 (by kernel_rfl) (by kernel_rfl) (fun _ => rfl)

/-! 60 metrolab/metrolabref44.Check -/
def ref44_Check_I : FIn := { args := [(.agg [(.int .i64), (.int .i64), (.int .i64), (.int .i64), (.int .i64), (.int .i64), .bool])], h := [] }
def ref44_Check_O : List FOut := [{ res := (.int .i64), h := [] }]
noncomputable def ref44_Check_E : Env := { tt := seat_TT, glob := seat_GL, spec := [(63, specG ref07_Right_I ref07_Right_O ref07_Right_T), (64, specG ref44_size_I ref44_size_O ref44_size_T)], body := [(60, Tryd.f60)], loops := [], nimp := 0 }
noncomputable def ref44_Check_T (ps : List PV) : TR := funcT ref44_Check_E 60 Tryd.f60 true ref44_Check_I ref44_Check_O ps
theorem ref44_Check_Eok : EnvOK ref44_Check_E Tryd.prog := ⟨tok_of seat_TTok,
  all_cons ref07_Right_spec (all_cons ref44_size_spec (all_nil)),
  all_nil,
  all_cons (body_ok Tryd.func60 (by kernel_rfl)) (all_nil)⟩
theorem ref44_Check_spec : Spec Tryd.prog seat_GL 60 (specG ref44_Check_I ref44_Check_O ref44_Check_T) := spec_of seat_mo ref44_Check_Eok Tryd.func60 (by kernel_rfl) (by kernel_rfl) (fun _ => rfl)

/-! 28 metrolab/metrolabref47.Check -/
def ref47_Check_I : FIn := { args := [(.imm [(.int .i64), (.int .i64), (.int .i64), (.int .i64), (.int .i64), (.int .i64), .bool])], h := [] }
def ref47_Check_O : List FOut := [{ res := (.int .i64), h := [] }]
def ref47_Check_L9I : Tmpl := { t := [(.imm [(.int .i64), (.int .i64), (.int .i64), (.int .i64), (.int .i64), (.int .i64), .bool]), .any, .any, (.int .i64), .any, .any, .any, .any, .any, .any, .any, .any, .any, .any, .any, .any, .any, .any, .any, .any, .any, .any, .any, .any, .any, .any, .any, .any, .any, .any, .any], h := [] }
def ref47_Check_L9O : List Out := [{ x := (.exit 0), tm := { t := [.any, .any, .any, .any, .any, .any, .any, .any, .any, .any, .any, .any, .any, .any, .any, .any, .any, .any, .any, .any, .any, .any, .any, .any, .any, .any, .any, .any, .any, .any, .any], h := [] } }, { x := .ret, tm := { t := [.any, .any, (.int .i64), .any, .any, .any, .any, .any, .any, .any, .any, .any, .any, .any, .any, .any, .any, .any, .any, .any, .any, .any, .any, .any, .any, .any, .any, .any, .any, .any, .any], h := [] } }]
noncomputable def ref47_Check_L9E : Env := { tt := seat_TT, glob := seat_GL, spec := [(60, specG ref44_Check_I ref44_Check_O ref44_Check_T)], body := [(28, Tryd.f28)], loops := [], nimp := 0 }
noncomputable def ref47_Check_L9S (ps : List PV) : TR := stepT ref47_Check_L9E 28 Tryd.f28 9 ref47_Check_L9I ref47_Check_L9O ps
theorem ref47_Check_L9Eok : EnvOK ref47_Check_L9E Tryd.prog := ⟨tok_of seat_TTok,
  all_cons ref44_Check_spec (all_nil),
  all_nil,
  all_cons (body_ok Tryd.func28 (by kernel_rfl)) (all_nil)⟩
theorem ref47_Check_L9good : LoopGood Tryd.prog seat_GL ref47_Check_L9E.nimp (nodeC Tryd.f28 9) (pieceL ref47_Check_L9I ref47_Check_L9O (loopT ref47_Check_L9S)) :=
  loopGood_of seat_mo ref47_Check_L9Eok Tryd.func28 (by kernel_rfl) (by kernel_rfl) (by kernel_rfl) (fun _ => rfl)
noncomputable def ref47_Check_E : Env := { tt := seat_TT, glob := seat_GL, spec := [(60, specG ref44_Check_I ref44_Check_O ref44_Check_T)], body := [(28, Tryd.f28)], loops := [((28, 9), pieceL ref47_Check_L9I ref47_Check_L9O (loopT ref47_Check_L9S))], nimp := 0 }
noncomputable def ref47_Check_T (ps : List PV) : TR := funcT ref47_Check_E 28 Tryd.f28 true ref47_Check_I ref47_Check_O ps
theorem ref47_Check_Eok : EnvOK ref47_Check_E Tryd.prog := ⟨tok_of seat_TTok,
  all_cons ref44_Check_spec (all_nil),
  all_cons (loop_ok Tryd.func28 (by kernel_rfl) (by kernel_rfl) ref47_Check_L9good) (all_nil),
  all_cons (body_ok Tryd.func28 (by kernel_rfl)) (all_nil)⟩
theorem ref47_Check_spec : Spec Tryd.prog seat_GL 28 (specG ref47_Check_I ref47_Check_O ref47_Check_T) := spec_of seat_mo ref47_Check_Eok Tryd.func28 (by kernel_rfl) (by kernel_rfl) (fun _ => rfl)

/-! 53 metrolab/metrolabref47.size -/
def ref47_size_I : FIn := { args := [(.int .i64)], h := [] }
def ref47_size_O : List FOut := [{ res := .bool, h := [] }]
noncomputable def ref47_size_E : Env := { tt := seat_TT, glob := seat_GL, spec := [], body := [(53, Tryd.f53)], loops := [], nimp := 0 }
noncomputable def ref47_size_T (ps : List PV) : TR := funcT ref47_size_E 53 Tryd.f53 true ref47_size_I ref47_size_O ps
theorem ref47_size_Eok : EnvOK ref47_size_E Tryd.prog := ⟨tok_of seat_TTok,
  all_nil,
  all_nil,
  all_cons (body_ok Tryd.func53 (by kernel_rfl)) (all_nil)⟩
theorem ref47_size_spec : Spec Tryd.prog seat_GL 53 (specG ref47_size_I ref47_size_O ref47_size_T) := spec_of seat_mo ref47_size_Eok Tryd.func53 (by kernel_rfl) (by kernel_rfl) (fun _ => rfl)

/-! 42 metrolab/metrolabref47.limits -/
def ref47_limits_I : FIn := { args := [(.agg [(.int .i64), (.int .i64), .bool, (.int .i64), (.int .i64)])], h := [] }
def ref47_limits_O : List FOut := [{ res := (.int .i64), h := [] }]
noncomputable def ref47_limits_E : Env := { tt := seat_TT, glob := seat_GL, spec := [(53, specG ref47_size_I ref47_size_O ref47_size_T)], body := [(42, Tryd.f42)], loops := [], nimp := 0 }
noncomputable def ref47_limits_T (ps : List PV) : TR := funcT ref47_limits_E 42 Tryd.f42 true ref47_limits_I ref47_limits_O ps
theorem ref47_limits_Eok : EnvOK ref47_limits_E Tryd.prog := ⟨tok_of seat_TTok,
  all_cons ref47_size_spec (all_nil),
  all_nil,
  all_cons (body_ok Tryd.func42 (by kernel_rfl)) (all_nil)⟩
theorem ref47_limits_spec : Spec Tryd.prog seat_GL 42 (specG ref47_limits_I ref47_limits_O ref47_limits_T) := spec_of seat_mo ref47_limits_Eok Tryd.func42 (by kernel_rfl) (by kernel_rfl) (fun _ => rfl)

/-! 44 metrolab/metrolabref44.Gauge -/
def ref44_Gauge_I : FIn := { args := [(.agg [(.int .i64), (.int .i64), (.int .i64), (.int .i64), (.int .i64), (.int .i64), .bool])], h := [] }
def ref44_Gauge_O : List FOut := [{ res := (.int .i64), h := [] }]
noncomputable def ref44_Gauge_E : Env := { tt := seat_TT, glob := seat_GL, spec := [], body := [(44, Tryd.f44)], loops := [], nimp := 0 }
noncomputable def ref44_Gauge_T (ps : List PV) : TR := funcT ref44_Gauge_E 44 Tryd.f44 true ref44_Gauge_I ref44_Gauge_O ps
theorem ref44_Gauge_Eok : EnvOK ref44_Gauge_E Tryd.prog := ⟨tok_of seat_TTok,
  all_nil,
  all_nil,
  all_cons (body_ok Tryd.func44 (by kernel_rfl)) (all_nil)⟩
theorem ref44_Gauge_spec : Spec Tryd.prog seat_GL 44 (specG ref44_Gauge_I ref44_Gauge_O ref44_Gauge_T) := spec_of seat_mo ref44_Gauge_Eok Tryd.func44 (by kernel_rfl) (by kernel_rfl) (fun _ => rfl)

/-! 43 metrolab/metrolabref47.Beyond -/
def ref47_Beyond_I : FIn := { args := [(.agg [(.int .i64), (.int .i64), (.int .i64), (.int .i64), (.int .i64), (.int .i64), .bool]), (.int .i64)], h := [] }
def ref47_Beyond_O : List FOut := [{ res := .bool, h := [] }]
noncomputable def ref47_Beyond_E : Env := { tt := seat_TT, glob := seat_GL, spec := [(44, specG ref44_Gauge_I ref44_Gauge_O ref44_Gauge_T)], body := [(43, Tryd.f43)], loops := [], nimp := 0 }
noncomputable def ref47_Beyond_T (ps : List PV) : TR := funcT ref47_Beyond_E 43 Tryd.f43 true ref47_Beyond_I ref47_Beyond_O ps
theorem ref47_Beyond_Eok : EnvOK ref47_Beyond_E Tryd.prog := ⟨tok_of seat_TTok,
  all_cons ref44_Gauge_spec (all_nil),
  all_nil,
  all_cons (body_ok Tryd.func43 (by kernel_rfl)) (all_nil)⟩
theorem ref47_Beyond_spec : Spec Tryd.prog seat_GL 43 (specG ref47_Beyond_I ref47_Beyond_O ref47_Beyond_T) := spec_of seat_mo ref47_Beyond_Eok Tryd.func43 (by kernel_rfl) (by kernel_rfl) (fun _ => rfl)

/-! 13 metrolab/metrolabref47.Safe -/
def ref47_Safe_I : FIn := { args := [(.imm [(.int .i64), (.int .i64), (.int .i64), (.int .i64), (.int .i64), (.int .i64), .bool]), (.imm [(.int .i64), (.int .i64), .bool, (.int .i64), (.int .i64)])], h := [] }
def ref47_Safe_O : List FOut := [{ res := (.int .i64), h := [] }]
def ref47_Safe_L10I : Tmpl := { t := [(.imm [(.int .i64), (.int .i64), (.int .i64), (.int .i64), (.int .i64), (.int .i64), .bool]), (.imm [(.int .i64), (.int .i64), .bool, (.int .i64), (.int .i64)]), .any, .any, .any, .any, (.int .i64), .any, .any, .any, .any, .any, .any, .any, .any, .any, .any, .any, .any, .any, .any, .any, .any, .any, .any, .any, .any, .any, .any, .any, .any, .any, .any, .any, .any, .any, .any, .any, .any, .any, .any, .any, .any, .any, .any, .any, .any, .any, .any, .any, .any, .any, .any, .any, .any, .any, .any, .any, .any, .any, .any, .any, .any, .any, .any, .any, .any, .any, .any, .any, .any, .any, .any, .any, .any, .any, .any, .any, .any, .any, .any, .any, .any, .any, .any, .any, .any], h := [] }
def ref47_Safe_L10O : List Out := [{ x := (.exit 0), tm := { t := [(.imm [(.int .i64), (.int .i64), (.int .i64), (.int .i64), (.int .i64), (.int .i64), .bool]), (.imm [(.int .i64), (.int .i64), .bool, (.int .i64), (.int .i64)]), .any, .any, .any, .any, .any, .any, .any, .any, .any, .any, .any, .any, .any, .any, .any, .any, .any, .any, .any, .any, .any, .any, .any, .any, .any, .any, .any, .any, .any, .any, .any, .any, .any, .any, .any, .any, .any, .any, .any, .any, .any, .any, .any, .any, .any, .any, .any, .any, .any, .any, .any, .any, .any, .any, .any, .any, .any, .any, .any, .any, .any, .any, .any, .any, .any, .any, .any, .any, .any, .any, .any, .any, .any, .any, .any, .any, .any, .any, .any, .any, .any, .any, .any, .any, .any], h := [] } }, { x := .ret, tm := { t := [.any, .any, .any, .any, (.int .i64), .any, .any, .any, .any, .any, .any, .any, .any, .any, .any, .any, .any, .any, .any, .any, .any, .any, .any, .any, .any, .any, .any, .any, .any, .any, .any, .any, .any, .any, .any, .any, .any, .any, .any, .any, .any, .any, .any, .any, .any, .any, .any, .any, .any, .any, .any, .any, .any, .any, .any, .any, .any, .any, .any, .any, .any, .any, .any, .any, .any, .any, .any, .any, .any, .any, .any, .any, .any, .any, .any, .any, .any, .any, .any, .any, .any, .any, .any, .any, .any, .any, .any], h := [] } }]
noncomputable def ref47_Safe_L10E : Env := { tt := seat_TT, glob := seat_GL, spec := [(28, specG ref47_Check_I ref47_Check_O ref47_Check_T), (42, specG ref47_limits_I ref47_limits_O ref47_limits_T), (43, specG ref47_Beyond_I ref47_Beyond_O ref47_Beyond_T)], body := [(13, Tryd.f13)], loops := [], nimp := 0 }
noncomputable def ref47_Safe_L10S (ps : List PV) : TR := stepT ref47_Safe_L10E 13 Tryd.f13 10 ref47_Safe_L10I ref47_Safe_L10O ps
theorem ref47_Safe_L10Eok : EnvOK ref47_Safe_L10E Tryd.prog := ⟨tok_of seat_TTok,
  all_cons ref47_Check_spec (all_cons ref47_limits_spec (all_cons ref47_Beyond_spec (all_nil))),
  all_nil,
  all_cons (body_ok Tryd.func13 (by kernel_rfl)) (all_nil)⟩
theorem ref47_Safe_L10good : LoopGood Tryd.prog seat_GL ref47_Safe_L10E.nimp (nodeC Tryd.f13 10) (pieceL ref47_Safe_L10I ref47_Safe_L10O (loopT ref47_Safe_L10S)) :=
  loopGood_of seat_mo ref47_Safe_L10Eok Tryd.func13 (by kernel_rfl) (by kernel_rfl) (by kernel_rfl) (fun _ => rfl)
def ref47_Safe_L22I : Tmpl := { t := [(.imm [(.int .i64), (.int .i64), (.int .i64), (.int .i64), (.int .i64), (.int .i64), .bool]), (.imm [(.int .i64), (.int .i64), .bool, (.int .i64), (.int .i64)]), .any, .any, .any, .any, .any, .any, (.int .i64), .any, .any, .any, .any, .any, .any, .any, .any, .any, .any, .any, .any, .any, .any, .any, .any, .any, .any, .any, .any, .any, .any, .any, .any, .any, .any, .any, .any, .any, .any, .any, .any, .any, .any, .any, .any, .any, .any, .any, .any, .any, .any, .any, .any, .any, .any, .any, .any, .any, .any, .any, .any, .any, .any, .any, .any, .any, .any, .any, .any, .any, .any, .any, .any, .any, .any, .any, .any, .any, .any, .any, .any, .any, .any, .any, .any, .any, .any], h := [] }
def ref47_Safe_L22O : List Out := [{ x := (.exit 2), tm := { t := [.any, .any, .any, .any, .any, .any, .any, .any, .any, .any, .any, .any, .any, .any, .any, .any, .any, .any, .any, .any, .any, .any, .any, .any, .any, .any, .any, .any, .any, .any, .any, .any, .any, .any, .any, .any, .any, .any, .any, .any, .any, .any, .any, .any, .any, .any, .any, .any, .any, .any, .any, .any, .any, .any, .any, .any, .any, .any, .any, .any, .any, .any, .any, .any, .any, .any, .any, .any, .any, .any, .any, .any, .any, .any, .any, .any, .any, .any, .any, .any, .any, .any, .any, .any, .any, .any, .any], h := [] } }, { x := .ret, tm := { t := [.any, .any, .any, .any, (.int .i64), .any, .any, .any, .any, .any, .any, .any, .any, .any, .any, .any, .any, .any, .any, .any, .any, .any, .any, .any, .any, .any, .any, .any, .any, .any, .any, .any, .any, .any, .any, .any, .any, .any, .any, .any, .any, .any, .any, .any, .any, .any, .any, .any, .any, .any, .any, .any, .any, .any, .any, .any, .any, .any, .any, .any, .any, .any, .any, .any, .any, .any, .any, .any, .any, .any, .any, .any, .any, .any, .any, .any, .any, .any, .any, .any, .any, .any, .any, .any, .any, .any, .any], h := [] } }]
noncomputable def ref47_Safe_L22E : Env := { tt := seat_TT, glob := seat_GL, spec := [(28, specG ref47_Check_I ref47_Check_O ref47_Check_T), (42, specG ref47_limits_I ref47_limits_O ref47_limits_T), (43, specG ref47_Beyond_I ref47_Beyond_O ref47_Beyond_T)], body := [(13, Tryd.f13)], loops := [], nimp := 0 }
noncomputable def ref47_Safe_L22S (ps : List PV) : TR := stepT ref47_Safe_L22E 13 Tryd.f13 22 ref47_Safe_L22I ref47_Safe_L22O ps
theorem ref47_Safe_L22Eok : EnvOK ref47_Safe_L22E Tryd.prog := ⟨tok_of seat_TTok,
  all_cons ref47_Check_spec (all_cons ref47_limits_spec (all_cons ref47_Beyond_spec (all_nil))),
  all_nil,
  all_cons (body_ok Tryd.func13 (by kernel_rfl)) (all_nil)⟩
theorem ref47_Safe_L22good : LoopGood Tryd.prog seat_GL ref47_Safe_L22E.nimp (nodeC Tryd.f13 22) (pieceL ref47_Safe_L22I ref47_Safe_L22O (loopT ref47_Safe_L22S)) :=
  loopGood_of seat_mo ref47_Safe_L22Eok Tryd.func13 (by kernel_rfl) (by kernel_rfl) (by kernel_rfl) (fun _ => rfl)
noncomputable def ref47_Safe_E : Env := { tt := seat_TT, glob := seat_GL, spec := [(28, specG ref47_Check_I ref47_Check_O ref47_Check_T), (42, specG ref47_limits_I ref47_limits_O ref47_limits_T), (43, specG ref47_Beyond_I ref47_Beyond_O ref47_Beyond_T)], body := [(13, Tryd.f13)], loops := [((13, 10), pieceL ref47_Safe_L10I ref47_Safe_L10O (loopT ref47_Safe_L10S)), ((13, 22), pieceL ref47_Safe_L22I ref47_Safe_L22O (loopT ref47_Safe_L22S))], nimp := 0 }
noncomputable def ref47_Safe_T (ps : List PV) : TR := funcT ref47_Safe_E 13 Tryd.f13 true ref47_Safe_I ref47_Safe_O ps
theorem ref47_Safe_Eok : EnvOK ref47_Safe_E Tryd.prog := ⟨tok_of seat_TTok,
  all_cons ref47_Check_spec (all_cons ref47_limits_spec (all_cons ref47_Beyond_spec (all_nil))),
  all_cons (loop_ok Tryd.func13 (by kernel_rfl) (by kernel_rfl) ref47_Safe_L10good) (all_cons (loop_ok Tryd.func13 (by kernel_rfl) (by kernel_rfl) ref47_Safe_L22good) (all_nil)),
  all_cons (body_ok Tryd.func13 (by kernel_rfl)) (all_nil)⟩
theorem ref47_Safe_spec : Spec Tryd.prog seat_GL 13 (specG ref47_Safe_I ref47_Safe_O ref47_Safe_T) := spec_of seat_mo ref47_Safe_Eok Tryd.func13 (by kernel_rfl) (by kernel_rfl) (fun _ => rfl)

/-! 14 metrolab/metrolablaw47.elements -/
def law47_elements_I : FIn := { args := [(.imm [(.int .i64), (.int .i64), .bool, (.int .i64), (.int .i64)])], h := [] }
def law47_elements_O : List FOut := [{ res := (.imm [(.int .i64), (.int .i64), .bool, (.int .i64), (.int .i64)]), h := [] }]
def law47_elements_L4I : Tmpl := { t := [.any, .any, .any, (.vec 0), .any, .any, (.imm [(.int .i64), (.int .i64), .bool, (.int .i64), (.int .i64)]), (.int .i64), (.int .i64), .any, .any, .any, .any, .any, .any, .any, .any, .any], h := [.vec 96 [(.int .i64), (.int .i64), .bool, (.int .i64), (.int .i64)]], pro := [(3, 96, [(.int .i64), (.int .i64), .bool, (.int .i64), (.int .i64)])] }
def law47_elements_L4O : List Out := [{ x := (.exit 0), tm := { t := [.any, .any, .any, (.vec 0), .any, .any, .any, .any, .any, .any, .any, .any, .any, .any, .any, .any, .any, .any], h := [.vec 96 [(.int .i64), (.int .i64), .bool, (.int .i64), (.int .i64)]] } }]
noncomputable def law47_elements_L4E : Env := { tt := seat_TT, glob := seat_GL, spec := [], body := [(14, Tryd.f14)], loops := [], nimp := 0 }
noncomputable def law47_elements_L4S (ps : List PV) : TR := stepT law47_elements_L4E 14 Tryd.f14 4 law47_elements_L4I law47_elements_L4O ps
theorem law47_elements_L4Eok : EnvOK law47_elements_L4E Tryd.prog := ⟨tok_of seat_TTok,
  all_nil,
  all_nil,
  all_cons (body_ok Tryd.func14 (by kernel_rfl)) (all_nil)⟩
theorem law47_elements_L4good : LoopGood Tryd.prog seat_GL law47_elements_L4E.nimp (nodeC Tryd.f14 4) (pieceL law47_elements_L4I law47_elements_L4O (loopT law47_elements_L4S)) :=
  loopGood_of seat_mo law47_elements_L4Eok Tryd.func14 (by kernel_rfl) (by kernel_rfl) (by kernel_rfl) (fun _ => rfl)
noncomputable def law47_elements_E : Env := { tt := seat_TT, glob := seat_GL, spec := [], body := [(14, Tryd.f14)], loops := [((14, 4), pieceL law47_elements_L4I law47_elements_L4O (loopT law47_elements_L4S))], nimp := 0 }
noncomputable def law47_elements_T (ps : List PV) : TR := funcT law47_elements_E 14 Tryd.f14 true law47_elements_I law47_elements_O ps
theorem law47_elements_Eok : EnvOK law47_elements_E Tryd.prog := ⟨tok_of seat_TTok,
  all_nil,
  all_cons (loop_ok Tryd.func14 (by kernel_rfl) (by kernel_rfl) law47_elements_L4good) (all_nil),
  all_cons (body_ok Tryd.func14 (by kernel_rfl)) (all_nil)⟩
theorem law47_elements_spec : Spec Tryd.prog seat_GL 14 (specG law47_elements_I law47_elements_O law47_elements_T) := spec_of seat_mo law47_elements_Eok Tryd.func14 (by kernel_rfl) (by kernel_rfl) (fun _ => rfl)

/-! 3 metrolab/metrolablaw47.GaugeGuards -/
def law47_GaugeGuards_I : FIn := { args := [(.imm [(.int .i64), (.int .i64), (.int .i64), (.int .i64), (.int .i64), (.int .i64), .bool]), (.imm [(.int .i64), (.int .i64), .bool, (.int .i64), (.int .i64)])], h := [] }
def law47_GaugeGuards_O : List FOut := [{ res := .bool, h := [] }]
noncomputable def law47_GaugeGuards_E : Env := { tt := seat_TT, glob := seat_GL, spec := [(10, specG law47_few_I law47_few_O law47_few_T), (11, specG law47_awake_I law47_awake_O law47_awake_T), (12, specG gauge_Safe_I gauge_Safe_O gauge_Safe_T), (13, specG ref47_Safe_I ref47_Safe_O ref47_Safe_T), (14, specG law47_elements_I law47_elements_O law47_elements_T)], body := [(3, Tryd.f3)], loops := [], nimp := 0 }
noncomputable def law47_GaugeGuards_T (ps : List PV) : TR := funcT law47_GaugeGuards_E 3 Tryd.f3 true law47_GaugeGuards_I law47_GaugeGuards_O ps
theorem law47_GaugeGuards_Eok : EnvOK law47_GaugeGuards_E Tryd.prog := ⟨tok_of seat_TTok,
  all_cons law47_few_spec (all_cons law47_awake_spec (all_cons gauge_Safe_spec (all_cons ref47_Safe_spec (all_cons law47_elements_spec (all_nil))))),
  all_nil,
  all_cons (body_ok Tryd.func3 (by kernel_rfl)) (all_nil)⟩
theorem law47_GaugeGuards_spec : Spec Tryd.prog seat_GL 3 (specG law47_GaugeGuards_I law47_GaugeGuards_O law47_GaugeGuards_T) := spec_of seat_mo law47_GaugeGuards_Eok Tryd.func3 (by kernel_rfl) (by kernel_rfl) (fun _ => rfl)

/-! 16 metrolab/metrolabref47.Loss -/
def ref47_Loss_I : FIn := { args := [(.imm [(.int .i64), (.int .i64), (.int .i64), (.int .i64), (.int .i64), (.int .i64), .bool]), (.imm [(.int .i64), (.int .i64), .bool, (.int .i64), (.int .i64)])], h := [] }
def ref47_Loss_O : List FOut := [{ res := (.tuple [(.int .i64), (.int .i64)]), h := [] }]
def ref47_Loss_L8I : Tmpl := { t := [(.imm [(.int .i64), (.int .i64), (.int .i64), (.int .i64), (.int .i64), (.int .i64), .bool]), (.imm [(.int .i64), (.int .i64), .bool, (.int .i64), (.int .i64)]), .any, .any, .any, .any, .any, (.int .i64), (.int .i64), .any, .any, .any, .any, .any, .any, .any, .any, .any, .any, .any, .any, .any, .any, .any, .any, .any, .any, .any, .any, .any, .any, .any, .any, .any, .any, .any, .any, .any, .any, .any, .any, .any, .any, .any, .any, .any], h := [] }
def ref47_Loss_L8O : List Out := [{ x := (.exit 0), tm := { t := [.any, .any, .any, .any, .any, .any, .any, (.int .i64), .any, .any, .any, .any, .any, .any, .any, .any, .any, .any, .any, .any, .any, .any, .any, .any, .any, .any, .any, .any, .any, .any, .any, .any, .any, .any, .any, .any, .any, .any, .any, .any, .any, .any, .any, .any, .any, .any], h := [] } }]
noncomputable def ref47_Loss_L8E : Env := { tt := seat_TT, glob := seat_GL, spec := [(13, specG ref47_Safe_I ref47_Safe_O ref47_Safe_T), (44, specG ref44_Gauge_I ref44_Gauge_O ref44_Gauge_T)], body := [(16, Tryd.f16)], loops := [], nimp := 0 }
noncomputable def ref47_Loss_L8S (ps : List PV) : TR := stepT ref47_Loss_L8E 16 Tryd.f16 8 ref47_Loss_L8I ref47_Loss_L8O ps
theorem ref47_Loss_L8Eok : EnvOK ref47_Loss_L8E Tryd.prog := ⟨tok_of seat_TTok,
  all_cons ref47_Safe_spec (all_cons ref44_Gauge_spec (all_nil)),
  all_nil,
  all_cons (body_ok Tryd.func16 (by kernel_rfl)) (all_nil)⟩
theorem ref47_Loss_L8good : LoopGood Tryd.prog seat_GL ref47_Loss_L8E.nimp (nodeC Tryd.f16 8) (pieceL ref47_Loss_L8I ref47_Loss_L8O (loopT ref47_Loss_L8S)) :=
  loopGood_of seat_mo ref47_Loss_L8Eok Tryd.func16 (by kernel_rfl) (by kernel_rfl) (by kernel_rfl) (fun _ => rfl)
noncomputable def ref47_Loss_E : Env := { tt := seat_TT, glob := seat_GL, spec := [(13, specG ref47_Safe_I ref47_Safe_O ref47_Safe_T), (44, specG ref44_Gauge_I ref44_Gauge_O ref44_Gauge_T)], body := [(16, Tryd.f16)], loops := [((16, 8), pieceL ref47_Loss_L8I ref47_Loss_L8O (loopT ref47_Loss_L8S))], nimp := 0 }
noncomputable def ref47_Loss_T (ps : List PV) : TR := funcT ref47_Loss_E 16 Tryd.f16 true ref47_Loss_I ref47_Loss_O ps
theorem ref47_Loss_Eok : EnvOK ref47_Loss_E Tryd.prog := ⟨tok_of seat_TTok,
  all_cons ref47_Safe_spec (all_cons ref44_Gauge_spec (all_nil)),
  all_cons (loop_ok Tryd.func16 (by kernel_rfl) (by kernel_rfl) ref47_Loss_L8good) (all_nil),
  all_cons (body_ok Tryd.func16 (by kernel_rfl)) (all_nil)⟩
theorem ref47_Loss_spec : Spec Tryd.prog seat_GL 16 (specG ref47_Loss_I ref47_Loss_O ref47_Loss_T) := spec_of seat_mo ref47_Loss_Eok Tryd.func16 (by kernel_rfl) (by kernel_rfl) (fun _ => rfl)

/-! 18 metrolab/metrolabref47.Made -/
def ref47_Made_I : FIn := { args := [(.imm [(.int .i64), (.int .i64), .bool, (.int .i64), (.int .i64)]), .bool], h := [] }
def ref47_Made_O : List FOut := [{ res := (.tuple [(.imm [(.int .i64), (.int .i64), .bool, (.int .i64)]), (.int .i64)]), h := [] }]
def ref47_Made_L7I : Tmpl := { t := [(.imm [(.int .i64), (.int .i64), .bool, (.int .i64), (.int .i64)]), .bool, .any, .any, .any, .any, (.vec 0), (.int .i64), .any, .any, .any, .any, .any, .any, .any, .any, .any, .any, .any, .any, .any, .any, .any, .any, .any, .any, .any, .any, .any, .any, .any, .any, .any, .any, .any, .any, .any, .any, .any, .any, .any, .any, .any, .any, .any, .any, .any, .any, .any, .any, .any, .any, .any, .any, .any, .any], h := [.vec 102 [(.int .i64), (.int .i64), .bool, (.int .i64)]], pro := [(6, 102, [(.int .i64), (.int .i64), .bool, (.int .i64)])] }
def ref47_Made_L7O : List Out := [{ x := (.exit 0), tm := { t := [.any, .any, .any, .any, .any, .any, (.vec 0), .any, .any, .any, .any, .any, .any, .any, .any, .any, .any, .any, .any, .any, .any, .any, .any, .any, .any, .any, .any, .any, .any, .any, .any, .any, .any, .any, .any, .any, .any, .any, .any, .any, .any, .any, .any, .any, .any, .any, .any, .any, .any, .any, .any, .any, .any, .any, .any, .any], h := [.vec 102 [(.int .i64), (.int .i64), .bool, (.int .i64)]] } }, { x := .ret, tm := { t := [.any, .any, .any, .any, .nils, (.int .i64), .any, .any, .any, .any, .any, .any, .any, .any, .any, .any, .any, .any, .any, .any, .any, .any, .any, .any, .any, .any, .any, .any, .any, .any, .any, .any, .any, .any, .any, .any, .any, .any, .any, .any, .any, .any, .any, .any, .any, .any, .any, .any, .any, .any, .any, .any, .any, .any, .any, .any], h := [] } }]
noncomputable def ref47_Made_L7E : Env := { tt := seat_TT, glob := seat_GL, spec := [(42, specG ref47_limits_I ref47_limits_O ref47_limits_T)], body := [(18, Tryd.f18)], loops := [], nimp := 0 }
noncomputable def ref47_Made_L7S (ps : List PV) : TR := stepT ref47_Made_L7E 18 Tryd.f18 7 ref47_Made_L7I ref47_Made_L7O ps
theorem ref47_Made_L7Eok : EnvOK ref47_Made_L7E Tryd.prog := ⟨tok_of seat_TTok,
  all_cons ref47_limits_spec (all_nil),
  all_nil,
  all_cons (body_ok Tryd.func18 (by kernel_rfl)) (all_nil)⟩
theorem ref47_Made_L7good : LoopGood Tryd.prog seat_GL ref47_Made_L7E.nimp (nodeC Tryd.f18 7) (pieceL ref47_Made_L7I ref47_Made_L7O (loopT ref47_Made_L7S)) :=
  loopGood_of seat_mo ref47_Made_L7Eok Tryd.func18 (by kernel_rfl) (by kernel_rfl) (by kernel_rfl) (fun _ => rfl)
noncomputable def ref47_Made_E : Env := { tt := seat_TT, glob := seat_GL, spec := [(42, specG ref47_limits_I ref47_limits_O ref47_limits_T)], body := [(18, Tryd.f18)], loops := [((18, 7), pieceL ref47_Made_L7I ref47_Made_L7O (loopT ref47_Made_L7S))], nimp := 0 }
noncomputable def ref47_Made_T (ps : List PV) : TR := funcT ref47_Made_E 18 Tryd.f18 true ref47_Made_I ref47_Made_O ps
theorem ref47_Made_Eok : EnvOK ref47_Made_E Tryd.prog := ⟨tok_of seat_TTok,
  all_cons ref47_limits_spec (all_nil),
  all_cons (loop_ok Tryd.func18 (by kernel_rfl) (by kernel_rfl) ref47_Made_L7good) (all_nil),
  all_cons (body_ok Tryd.func18 (by kernel_rfl)) (all_nil)⟩
theorem ref47_Made_spec : Spec Tryd.prog seat_GL 18 (specG ref47_Made_I ref47_Made_O ref47_Made_T) := spec_of seat_mo ref47_Made_Eok Tryd.func18 (by kernel_rfl) (by kernel_rfl) (fun _ => rfl)

/-! 19 metrolab/metrolabref47.SameTools -/
def ref47_SameTools_I : FIn := { args := [(.imm [(.int .i64), (.int .i64), .bool, (.int .i64)]), (.imm [(.int .i64), (.int .i64), .bool, (.int .i64)])], h := [] }
def ref47_SameTools_O : List FOut := [{ res := .bool, h := [] }]
def ref47_SameTools_L6I : Tmpl := { t := [(.imm [(.int .i64), (.int .i64), .bool, (.int .i64)]), (.imm [(.int .i64), (.int .i64), .bool, (.int .i64)]), .any, .any, .any, (.int .i64), .any, .any, .any, .any, .any, .any, .any, .any, .any, .any, .any, .any, .any, .any, .any, .any, .any, .any, .any, .any], h := [] }
def ref47_SameTools_L6O : List Out := [{ x := (.exit 0), tm := { t := [.any, .any, .any, .any, .any, .any, .any, .any, .any, .any, .any, .any, .any, .any, .any, .any, .any, .any, .any, .any, .any, .any, .any, .any, .any, .any], h := [] } }, { x := .ret, tm := { t := [.any, .any, .any, .any, .bool, .any, .any, .any, .any, .any, .any, .any, .any, .any, .any, .any, .any, .any, .any, .any, .any, .any, .any, .any, .any, .any], h := [] } }]
noncomputable def ref47_SameTools_L6E : Env := { tt := seat_TT, glob := seat_GL, spec := [], body := [(19, Tryd.f19)], loops := [], nimp := 0 }
noncomputable def ref47_SameTools_L6S (ps : List PV) : TR := stepT ref47_SameTools_L6E 19 Tryd.f19 6 ref47_SameTools_L6I ref47_SameTools_L6O ps
theorem ref47_SameTools_L6Eok : EnvOK ref47_SameTools_L6E Tryd.prog := ⟨tok_of seat_TTok,
  all_nil,
  all_nil,
  all_cons (body_ok Tryd.func19 (by kernel_rfl)) (all_nil)⟩
theorem ref47_SameTools_L6good : LoopGood Tryd.prog seat_GL ref47_SameTools_L6E.nimp (nodeC Tryd.f19 6) (pieceL ref47_SameTools_L6I ref47_SameTools_L6O (loopT ref47_SameTools_L6S)) :=
  loopGood_of seat_mo ref47_SameTools_L6Eok Tryd.func19 (by kernel_rfl) (by kernel_rfl) (by kernel_rfl) (fun _ => rfl)
noncomputable def ref47_SameTools_E : Env := { tt := seat_TT, glob := seat_GL, spec := [], body := [(19, Tryd.f19)], loops := [((19, 6), pieceL ref47_SameTools_L6I ref47_SameTools_L6O (loopT ref47_SameTools_L6S))], nimp := 0 }
noncomputable def ref47_SameTools_T (ps : List PV) : TR := funcT ref47_SameTools_E 19 Tryd.f19 true ref47_SameTools_I ref47_SameTools_O ps
theorem ref47_SameTools_Eok : EnvOK ref47_SameTools_E Tryd.prog := ⟨tok_of seat_TTok,
  all_nil,
  all_cons (loop_ok Tryd.func19 (by kernel_rfl) (by kernel_rfl) ref47_SameTools_L6good) (all_nil),
  all_cons (body_ok Tryd.func19 (by kernel_rfl)) (all_nil)⟩
theorem ref47_SameTools_spec : Spec Tryd.prog seat_GL 19 (specG ref47_SameTools_I ref47_SameTools_O ref47_SameTools_T) := spec_of seat_mo ref47_SameTools_Eok Tryd.func19 (by kernel_rfl) (by kernel_rfl) (fun _ => rfl)

/-! 20 metrolab/metrolablaw47.tools -/
def law47_tools_I : FIn := { args := [(.imm [(.int .i64), (.int .i64), .bool, (.int .i64)])], h := [] }
def law47_tools_O : List FOut := [{ res := (.imm [(.int .i64), (.int .i64), .bool, (.int .i64)]), h := [] }]
def law47_tools_L4I : Tmpl := { t := [.any, .any, .any, (.vec 0), .any, .any, (.imm [(.int .i64), (.int .i64), .bool, (.int .i64)]), (.int .i64), (.int .i64), .any, .any, .any, .any, .any, .any, .any, .any, .any], h := [.vec 102 [(.int .i64), (.int .i64), .bool, (.int .i64)]], pro := [(3, 102, [(.int .i64), (.int .i64), .bool, (.int .i64)])] }
def law47_tools_L4O : List Out := [{ x := (.exit 0), tm := { t := [.any, .any, .any, (.vec 0), .any, .any, .any, .any, .any, .any, .any, .any, .any, .any, .any, .any, .any, .any], h := [.vec 102 [(.int .i64), (.int .i64), .bool, (.int .i64)]] } }]
noncomputable def law47_tools_L4E : Env := { tt := seat_TT, glob := seat_GL, spec := [], body := [(20, Tryd.f20)], loops := [], nimp := 0 }
noncomputable def law47_tools_L4S (ps : List PV) : TR := stepT law47_tools_L4E 20 Tryd.f20 4 law47_tools_L4I law47_tools_L4O ps
theorem law47_tools_L4Eok : EnvOK law47_tools_L4E Tryd.prog := ⟨tok_of seat_TTok,
  all_nil,
  all_nil,
  all_cons (body_ok Tryd.func20 (by kernel_rfl)) (all_nil)⟩
theorem law47_tools_L4good : LoopGood Tryd.prog seat_GL law47_tools_L4E.nimp (nodeC Tryd.f20 4) (pieceL law47_tools_L4I law47_tools_L4O (loopT law47_tools_L4S)) :=
  loopGood_of seat_mo law47_tools_L4Eok Tryd.func20 (by kernel_rfl) (by kernel_rfl) (by kernel_rfl) (fun _ => rfl)
noncomputable def law47_tools_E : Env := { tt := seat_TT, glob := seat_GL, spec := [], body := [(20, Tryd.f20)], loops := [((20, 4), pieceL law47_tools_L4I law47_tools_L4O (loopT law47_tools_L4S))], nimp := 0 }
noncomputable def law47_tools_T (ps : List PV) : TR := funcT law47_tools_E 20 Tryd.f20 true law47_tools_I law47_tools_O ps
theorem law47_tools_Eok : EnvOK law47_tools_E Tryd.prog := ⟨tok_of seat_TTok,
  all_nil,
  all_cons (loop_ok Tryd.func20 (by kernel_rfl) (by kernel_rfl) law47_tools_L4good) (all_nil),
  all_cons (body_ok Tryd.func20 (by kernel_rfl)) (all_nil)⟩
theorem law47_tools_spec : Spec Tryd.prog seat_GL 20 (specG law47_tools_I law47_tools_O law47_tools_T) := spec_of seat_mo law47_tools_Eok Tryd.func20 (by kernel_rfl) (by kernel_rfl) (fun _ => rfl)

/-! 4 metrolab/metrolablaw47.GaugeLoses -/
def law47_GaugeLoses_I : FIn := { args := [(.imm [(.int .i64), (.int .i64), (.int .i64), (.int .i64), (.int .i64), (.int .i64), .bool]), (.imm [(.int .i64), (.int .i64), .bool, (.int .i64), (.int .i64)]), .bool], h := [] }
def law47_GaugeLoses_O : List FOut := [{ res := .bool, h := [] }]
noncomputable def law47_GaugeLoses_E : Env := { tt := seat_TT, glob := seat_GL, spec := [(10, specG law47_few_I law47_few_O law47_few_T), (11, specG law47_awake_I law47_awake_O law47_awake_T), (14, specG law47_elements_I law47_elements_O law47_elements_T), (15, specG gauge_Loss_I gauge_Loss_O gauge_Loss_T), (16, specG ref47_Loss_I ref47_Loss_O ref47_Loss_T), (17, specG gauge_Made_I gauge_Made_O gauge_Made_T), (18, specG ref47_Made_I ref47_Made_O ref47_Made_T), (19, specG ref47_SameTools_I ref47_SameTools_O ref47_SameTools_T), (20, specG law47_tools_I law47_tools_O law47_tools_T)], body := [(4, Tryd.f4)], loops := [], nimp := 0 }
noncomputable def law47_GaugeLoses_T (ps : List PV) : TR := funcT law47_GaugeLoses_E 4 Tryd.f4 true law47_GaugeLoses_I law47_GaugeLoses_O ps
theorem law47_GaugeLoses_Eok : EnvOK law47_GaugeLoses_E Tryd.prog := ⟨tok_of seat_TTok,
  all_cons law47_few_spec (all_cons law47_awake_spec (all_cons law47_elements_spec (all_cons gauge_Loss_spec (all_cons ref47_Loss_spec (all_cons gauge_Made_spec (all_cons ref47_Made_spec (all_cons ref47_SameTools_spec (all_cons law47_tools_spec (all_nil))))))))),
  all_nil,
  all_cons (body_ok Tryd.func4 (by kernel_rfl)) (all_nil)⟩
theorem law47_GaugeLoses_spec : Spec Tryd.prog seat_GL 4 (specG law47_GaugeLoses_I law47_GaugeLoses_O law47_GaugeLoses_T) := spec_of seat_mo law47_GaugeLoses_Eok Tryd.func4 (by kernel_rfl) (by kernel_rfl) (fun _ => rfl)

/-! 22 metrolab/metrolabref47.Worn -/
def ref47_Worn_I : FIn := { args := [(.imm [(.int .i64), (.int .i64), (.int .i64), (.int .i64), (.int .i64), (.int .i64), .bool]), (.imm [(.int .i64), (.int .i64), .bool, (.int .i64)])], h := [] }
def ref47_Worn_O : List FOut := [{ res := (.tuple [(.imm [(.int .i64)]), (.int .i64)]), h := [] }]
def ref47_Worn_L11I : Tmpl := { t := [(.imm [(.int .i64), (.int .i64), (.int .i64), (.int .i64), (.int .i64), (.int .i64), .bool]), (.imm [(.int .i64), (.int .i64), .bool, (.int .i64)]), .any, .any, .any, .any, .any, (.vec 0), (.int .i64), .any, .any, .any, .any, .any, .any, .any, .any, .any, .any, .any, .any, .any, .any, .any, .any, .any, .any, .any, .any, .any, .any, .any, .any, .any, .any, .any, .any, .any, .any, .any, .any, .any, .any, .any, .any, .any, .any, .any, .any, .any, .any, .any, .any, .any, .any, .any, .any, .any, .any, .any, .any, .any, .any, .any, .any, .any, .any, .any, .any, .any, .any], h := [.vec 3 [(.int .i64)]], pro := [(7, 3, [(.int .i64)])] }
def ref47_Worn_L11O : List Out := [{ x := (.exit 0), tm := { t := [.any, .any, .any, .any, .any, .any, .any, (.vec 0), .any, .any, .any, .any, .any, .any, .any, .any, .any, .any, .any, .any, .any, .any, .any, .any, .any, .any, .any, .any, .any, .any, .any, .any, .any, .any, .any, .any, .any, .any, .any, .any, .any, .any, .any, .any, .any, .any, .any, .any, .any, .any, .any, .any, .any, .any, .any, .any, .any, .any, .any, .any, .any, .any, .any, .any, .any, .any, .any, .any, .any, .any, .any], h := [.vec 3 [(.int .i64)]] } }, { x := .ret, tm := { t := [.any, .any, .any, .any, .nils, (.int .i64), .any, .any, .any, .any, .any, .any, .any, .any, .any, .any, .any, .any, .any, .any, .any, .any, .any, .any, .any, .any, .any, .any, .any, .any, .any, .any, .any, .any, .any, .any, .any, .any, .any, .any, .any, .any, .any, .any, .any, .any, .any, .any, .any, .any, .any, .any, .any, .any, .any, .any, .any, .any, .any, .any, .any, .any, .any, .any, .any, .any, .any, .any, .any, .any, .any], h := [] } }]
noncomputable def ref47_Worn_L11E : Env := { tt := seat_TT, glob := seat_GL, spec := [(28, specG ref47_Check_I ref47_Check_O ref47_Check_T), (43, specG ref47_Beyond_I ref47_Beyond_O ref47_Beyond_T), (53, specG ref47_size_I ref47_size_O ref47_size_T)], body := [(22, Tryd.f22)], loops := [], nimp := 0 }
noncomputable def ref47_Worn_L11S (ps : List PV) : TR := stepT ref47_Worn_L11E 22 Tryd.f22 11 ref47_Worn_L11I ref47_Worn_L11O ps
theorem ref47_Worn_L11Eok : EnvOK ref47_Worn_L11E Tryd.prog := ⟨tok_of seat_TTok,
  all_cons ref47_Check_spec (all_cons ref47_Beyond_spec (all_cons ref47_size_spec (all_nil))),
  all_nil,
  all_cons (body_ok Tryd.func22 (by kernel_rfl)) (all_nil)⟩
theorem ref47_Worn_L11good : LoopGood Tryd.prog seat_GL ref47_Worn_L11E.nimp (nodeC Tryd.f22 11) (pieceL ref47_Worn_L11I ref47_Worn_L11O (loopT ref47_Worn_L11S)) :=
  loopGood_of seat_mo ref47_Worn_L11Eok Tryd.func22 (by kernel_rfl) (by kernel_rfl) (by kernel_rfl) (fun _ => rfl)
noncomputable def ref47_Worn_E : Env := { tt := seat_TT, glob := seat_GL, spec := [(28, specG ref47_Check_I ref47_Check_O ref47_Check_T), (43, specG ref47_Beyond_I ref47_Beyond_O ref47_Beyond_T), (53, specG ref47_size_I ref47_size_O ref47_size_T)], body := [(22, Tryd.f22)], loops := [((22, 11), pieceL ref47_Worn_L11I ref47_Worn_L11O (loopT ref47_Worn_L11S))], nimp := 0 }
noncomputable def ref47_Worn_T (ps : List PV) : TR := funcT ref47_Worn_E 22 Tryd.f22 true ref47_Worn_I ref47_Worn_O ps
theorem ref47_Worn_Eok : EnvOK ref47_Worn_E Tryd.prog := ⟨tok_of seat_TTok,
  all_cons ref47_Check_spec (all_cons ref47_Beyond_spec (all_cons ref47_size_spec (all_nil))),
  all_cons (loop_ok Tryd.func22 (by kernel_rfl) (by kernel_rfl) ref47_Worn_L11good) (all_nil),
  all_cons (body_ok Tryd.func22 (by kernel_rfl)) (all_nil)⟩
theorem ref47_Worn_spec : Spec Tryd.prog seat_GL 22 (specG ref47_Worn_I ref47_Worn_O ref47_Worn_T) := spec_of seat_mo ref47_Worn_Eok Tryd.func22 (by kernel_rfl) (by kernel_rfl) (fun _ => rfl)

/-! 5 metrolab/metrolablaw47.GaugeWears -/
def law47_GaugeWears_I : FIn := { args := [(.imm [(.int .i64), (.int .i64), (.int .i64), (.int .i64), (.int .i64), (.int .i64), .bool]), (.imm [(.int .i64), (.int .i64), .bool, (.int .i64)])], h := [] }
def law47_GaugeWears_O : List FOut := [{ res := .bool, h := [] }]
noncomputable def law47_GaugeWears_E : Env := { tt := seat_TT, glob := seat_GL, spec := [(10, specG law47_few_I law47_few_O law47_few_T), (11, specG law47_awake_I law47_awake_O law47_awake_T), (20, specG law47_tools_I law47_tools_O law47_tools_T), (21, specG gauge_Worn_I gauge_Worn_O gauge_Worn_T), (22, specG ref47_Worn_I ref47_Worn_O ref47_Worn_T), (23, specG slices_Equal_int_int_I slices_Equal_int_int_O slices_Equal_int_int_T)], body := [(5, Tryd.f5)], loops := [], nimp := 0 }
noncomputable def law47_GaugeWears_T (ps : List PV) : TR := funcT law47_GaugeWears_E 5 Tryd.f5 true law47_GaugeWears_I law47_GaugeWears_O ps
theorem law47_GaugeWears_Eok : EnvOK law47_GaugeWears_E Tryd.prog := ⟨tok_of seat_TTok,
  all_cons law47_few_spec (all_cons law47_awake_spec (all_cons law47_tools_spec (all_cons gauge_Worn_spec (all_cons ref47_Worn_spec (all_cons slices_Equal_int_int_spec (all_nil)))))),
  all_nil,
  all_cons (body_ok Tryd.func5 (by kernel_rfl)) (all_nil)⟩
theorem law47_GaugeWears_spec : Spec Tryd.prog seat_GL 5 (specG law47_GaugeWears_I law47_GaugeWears_O law47_GaugeWears_T) := spec_of seat_mo law47_GaugeWears_Eok Tryd.func5 (by kernel_rfl) (by kernel_rfl) (fun _ => rfl)

/-! 6 metrolab/metrolablaw47.GaugeNarrows -/
def law47_GaugeNarrows_I : FIn := { args := [(.imm [(.int .i64), (.int .i64), (.int .i64), (.int .i64), (.int .i64), (.int .i64), .bool]), (.agg [(.int .i64), (.int .i64)])], h := [] }
def law47_GaugeNarrows_O : List FOut := [{ res := .bool, h := [] }]
def law47_GaugeNarrows_L14I : Tmpl := { t := [.any, .any, .any, (.ptr 0 0), .any, (.imm [(.int .i64), (.int .i64), .bool, (.int .i64), (.int .i64)]), .any, (.imm [(.int .i64), (.int .i64), .bool, (.int .i64), (.int .i64)]), .any, .any, .any, .any, .any, .any, .any, .any, .any, .any, .any, .any, .any, .any, .any, .any, .any, .any, .any, .any, .any, .any, .any, .any, .any, .any, .any, .any, .any, .any, .any, .any, .any, .any, .any, .any, .any, .any, .any, .any, .any, .any, .any, .any, .any, .any, .any, .any, .any, .any, .any, .any, .any, (.imm [(.int .i64), (.int .i64), (.int .i64), (.int .i64), (.int .i64), (.int .i64), .bool]), (.int .i64), (.int .i64), .any, .any, .any, .any, .any, .any, .any, .any, .any, .any, .any, .any, .any, .any, .any, .any, .any, .any, .any, .any, .any, .any, .any, .any, .any, .any, .any, .any, .any, .any, .any, .any, .any, .any, .any, .any, .any, .any, .any, .any, .any, .any, .any, .any, .any, .any, .any, .any, .any, .any, .any, .any, .any, .any, .any, .any, .any, .any, .any, .any, .any, .any, .any, .any, .any, .any, .any, .any, .any, .any, .any, .any, .any, .any, .any, .any, .any, .any, .any, .any, .any, .any, .any, .any, .any, .any, .any, .any, .any, .any, .any, .any, .any, .any, .any, .any, .any], h := [.cells [(.int .i64), (.int .i64)]] }
def law47_GaugeNarrows_L14O : List Out := [{ x := (.exit 0), tm := { t := [.any, .any, .any, .any, .any, .any, .any, .any, .any, .any, .any, .any, .any, .any, .any, .any, .any, .any, .any, .any, .any, .any, .any, .any, .any, .any, .any, .any, .any, .any, .any, .any, .any, .any, .any, .any, .any, .any, .any, .any, .any, .any, .any, .any, .any, .any, .any, .any, .any, .any, .any, .any, .any, .any, .any, .any, .any, .any, .any, .any, .any, .any, .any, .any, .any, .any, .any, .any, .any, .any, .any, .any, .any, .any, .any, .any, .any, .any, .any, .any, .any, .any, .any, .any, .any, .any, .any, .any, .any, .any, .any, .any, .any, .any, .any, .any, .any, .any, .any, .any, .any, .any, .any, .any, .any, .any, .any, .any, .any, .any, .any, .any, .any, .any, .any, .any, .any, .any, .any, .any, .any, .any, .any, .any, .any, .any, .any, .any, .any, .any, .any, .any, .any, .any, .any, .any, .any, .any, .any, .any, .any, .any, .any, .any, .any, .any, .any, .any, .any, .any, .any, .any, .any, .any, .any, .any, .any, .any, .any, .any, .any], h := [] } }, { x := .ret, tm := { t := [.any, .any, .any, .any, .bool, .any, .any, .any, .any, .any, .any, .any, .any, .any, .any, .any, .any, .any, .any, .any, .any, .any, .any, .any, .any, .any, .any, .any, .any, .any, .any, .any, .any, .any, .any, .any, .any, .any, .any, .any, .any, .any, .any, .any, .any, .any, .any, .any, .any, .any, .any, .any, .any, .any, .any, .any, .any, .any, .any, .any, .any, .any, .any, .any, .any, .any, .any, .any, .any, .any, .any, .any, .any, .any, .any, .any, .any, .any, .any, .any, .any, .any, .any, .any, .any, .any, .any, .any, .any, .any, .any, .any, .any, .any, .any, .any, .any, .any, .any, .any, .any, .any, .any, .any, .any, .any, .any, .any, .any, .any, .any, .any, .any, .any, .any, .any, .any, .any, .any, .any, .any, .any, .any, .any, .any, .any, .any, .any, .any, .any, .any, .any, .any, .any, .any, .any, .any, .any, .any, .any, .any, .any, .any, .any, .any, .any, .any, .any, .any, .any, .any, .any, .any, .any, .any, .any, .any, .any, .any, .any, .any], h := [] } }]
noncomputable def law47_GaugeNarrows_L14E : Env := { tt := seat_TT, glob := seat_GL, spec := [(10, specG law47_few_I law47_few_O law47_few_T), (11, specG law47_awake_I law47_awake_O law47_awake_T), (24, specG gauge_Design_I gauge_Design_O gauge_Design_T), (25, specG bonus_Virtual_I bonus_Virtual_O bonus_Virtual_T)], body := [(6, Tryd.f6)], loops := [], nimp := 0 }
noncomputable def law47_GaugeNarrows_L14S (ps : List PV) : TR := stepT law47_GaugeNarrows_L14E 6 Tryd.f6 14 law47_GaugeNarrows_L14I law47_GaugeNarrows_L14O ps
theorem law47_GaugeNarrows_L14Eok : EnvOK law47_GaugeNarrows_L14E Tryd.prog := ⟨tok_of seat_TTok,
  all_cons law47_few_spec (all_cons law47_awake_spec (all_cons gauge_Design_spec (all_cons bonus_Virtual_spec (all_nil)))),
  all_nil,
  all_cons (body_ok Tryd.func6 (by kernel_rfl)) (all_nil)⟩
theorem law47_GaugeNarrows_L14good : LoopGood Tryd.prog seat_GL law47_GaugeNarrows_L14E.nimp (nodeC Tryd.f6 14) (pieceL law47_GaugeNarrows_L14I law47_GaugeNarrows_L14O (loopT law47_GaugeNarrows_L14S)) :=
  loopGood_of seat_mo law47_GaugeNarrows_L14Eok Tryd.func6 (by kernel_rfl) (by kernel_rfl) (by kernel_rfl) (fun _ => rfl)
noncomputable def law47_GaugeNarrows_E : Env := { tt := seat_TT, glob := seat_GL, spec := [(10, specG law47_few_I law47_few_O law47_few_T), (11, specG law47_awake_I law47_awake_O law47_awake_T), (24, specG gauge_Design_I gauge_Design_O gauge_Design_T), (25, specG bonus_Virtual_I bonus_Virtual_O bonus_Virtual_T)], body := [(6, Tryd.f6)], loops := [((6, 14), pieceL law47_GaugeNarrows_L14I law47_GaugeNarrows_L14O (loopT law47_GaugeNarrows_L14S))], nimp := 0 }
noncomputable def law47_GaugeNarrows_T (ps : List PV) : TR := funcT law47_GaugeNarrows_E 6 Tryd.f6 true law47_GaugeNarrows_I law47_GaugeNarrows_O ps
theorem law47_GaugeNarrows_Eok : EnvOK law47_GaugeNarrows_E Tryd.prog := ⟨tok_of seat_TTok,
  all_cons law47_few_spec (all_cons law47_awake_spec (all_cons gauge_Design_spec (all_cons bonus_Virtual_spec (all_nil)))),
  all_cons (loop_ok Tryd.func6 (by kernel_rfl) (by kernel_rfl) law47_GaugeNarrows_L14good) (all_nil),
  all_cons (body_ok Tryd.func6 (by kernel_rfl)) (all_nil)⟩
theorem law47_GaugeNarrows_spec : Spec Tryd.prog seat_GL 6 (specG law47_GaugeNarrows_I law47_GaugeNarrows_O law47_GaugeNarrows_T) := spec_of seat_mo law47_GaugeNarrows_Eok Tryd.func6 (by kernel_rfl) (by kernel_rfl) (fun _ => rfl)

/-! 59 metrolab/metrolabref47.Ideal -/
def ref47_Ideal_I : FIn := { args := [(.agg [(.int .i64), (.int .i64), (.int .i64), (.int .i64), (.int .i64), (.int .i64), .bool]), (.agg [(.int .i64), (.int .i64)])], h := [] }
def ref47_Ideal_O : List FOut := [{ res := (.agg [(.int .i64), (.int .i64), .bool, (.int .i64), (.int .i64)]), h := [] }]
noncomputable def ref47_Ideal_E : Env := { tt := seat_TT, glob := seat_GL, spec := [(44, specG ref44_Gauge_I ref44_Gauge_O ref44_Gauge_T)], body := [(59, Tryd.f59)], loops := [], nimp := 0 }
noncomputable def ref47_Ideal_T (ps : List PV) : TR := funcT ref47_Ideal_E 59 Tryd.f59 true ref47_Ideal_I ref47_Ideal_O ps
theorem ref47_Ideal_Eok : EnvOK ref47_Ideal_E Tryd.prog := ⟨tok_of seat_TTok,
  all_cons ref44_Gauge_spec (all_nil),
  all_nil,
  all_cons (body_ok Tryd.func59 (by kernel_rfl)) (all_nil)⟩
theorem ref47_Ideal_spec : Spec Tryd.prog seat_GL 59 (specG ref47_Ideal_I ref47_Ideal_O ref47_Ideal_T) := spec_of seat_mo ref47_Ideal_Eok Tryd.func59 (by kernel_rfl) (by kernel_rfl) (fun _ => rfl)

/-! 26 metrolab/metrolabref47.Design -/
def ref47_Design_I : FIn := { args := [(.imm [(.int .i64), (.int .i64), (.int .i64), (.int .i64), (.int .i64), (.int .i64), .bool]), (.agg [(.int .i64), (.int .i64)])], h := [] }
def ref47_Design_O : List FOut := [{ res := (.tuple [(.imm [(.int .i64), (.int .i64), .bool, (.int .i64), (.int .i64)]), (.int .i64)]), h := [] }]
def ref47_Design_L11I : Tmpl := { t := [(.imm [(.int .i64), (.int .i64), (.int .i64), (.int .i64), (.int .i64), (.int .i64), .bool]), .any, .any, (.ptr 0 0), .any, .any, .any, (.vec 1), (.int .i64), .any, .any, .any, .any, .any, .any, .any, .any, .any, .any, .any, .any, .any, .any, .any, .any, .any, .any, .any, .any, .any, .any, .any, .any, .any, .any, .any, .any, .any, .any, .any, .any, .any, .any, .any, .any, .any, .any, .any, .any, .any, .any, .any, .any, .any, .any, .any, .any, .any, .any, .any, .any, .any], h := [.cells [(.int .i64), (.int .i64)], .vec 96 [(.int .i64), (.int .i64), .bool, (.int .i64), (.int .i64)]], pro := [(7, 96, [(.int .i64), (.int .i64), .bool, (.int .i64), (.int .i64)])] }
def ref47_Design_L11O : List Out := [{ x := (.exit 0), tm := { t := [.any, .any, .any, .any, .any, .any, .any, (.vec 1), .any, .any, .any, .any, .any, .any, .any, .any, .any, .any, .any, .any, .any, .any, .any, .any, .any, .any, .any, .any, .any, .any, .any, .any, .any, .any, .any, .any, .any, .any, .any, .any, .any, .any, .any, .any, .any, .any, .any, .any, .any, .any, .any, .any, .any, .any, .any, .any, .any, .any, .any, .any, .any, .any], h := [.dead, .vec 96 [(.int .i64), (.int .i64), .bool, (.int .i64), (.int .i64)]] } }]
noncomputable def ref47_Design_L11E : Env := { tt := seat_TT, glob := seat_GL, spec := [(28, specG ref47_Check_I ref47_Check_O ref47_Check_T), (59, specG ref47_Ideal_I ref47_Ideal_O ref47_Ideal_T)], body := [(26, Tryd.f26)], loops := [], nimp := 0 }
noncomputable def ref47_Design_L11S (ps : List PV) : TR := stepT ref47_Design_L11E 26 Tryd.f26 11 ref47_Design_L11I ref47_Design_L11O ps
theorem ref47_Design_L11Eok : EnvOK ref47_Design_L11E Tryd.prog := ⟨tok_of seat_TTok,
  all_cons ref47_Check_spec (all_cons ref47_Ideal_spec (all_nil)),
  all_nil,
  all_cons (body_ok Tryd.func26 (by kernel_rfl)) (all_nil)⟩
theorem ref47_Design_L11good : LoopGood Tryd.prog seat_GL ref47_Design_L11E.nimp (nodeC Tryd.f26 11) (pieceL ref47_Design_L11I ref47_Design_L11O (loopT ref47_Design_L11S)) :=
  loopGood_of seat_mo ref47_Design_L11Eok Tryd.func26 (by kernel_rfl) (by kernel_rfl) (by kernel_rfl) (fun _ => rfl)
def ref47_Design_L17I : Tmpl := { t := [.any, .any, .any, .any, .any, .any, .any, (.vec 1), .any, (.int .i64), .any, .any, .any, .any, .any, .any, .any, .any, .any, .any, .any, .any, .any, .any, .any, .any, .any, .any, .any, .any, .any, .any, .any, .any, .any, .any, .any, .any, .any, .any, .any, .any, .any, .any, .any, .any, .any, .any, .any, .any, .any, .any, .any, .any, .any, .any, .any, .any, .any, .any, .any, .any], h := [.dead, .vec 96 [(.int .i64), (.int .i64), .bool, (.int .i64), (.int .i64)]] }
def ref47_Design_L17O : List Out := [{ x := (.exit 2), tm := { t := [.any, .any, .any, .any, .any, .any, .any, (.vec 1), .any, .any, .any, .any, .any, .any, .any, .any, .any, .any, .any, .any, .any, .any, .any, .any, .any, .any, .any, .any, .any, .any, .any, .any, .any, .any, .any, .any, .any, .any, .any, .any, .any, .any, .any, .any, .any, .any, .any, .any, .any, .any, .any, .any, .any, .any, .any, .any, .any, .any, .any, .any, .any, .any], h := [.dead, .vec 96 [(.int .i64), (.int .i64), .bool, (.int .i64), (.int .i64)]] } }, { x := .ret, tm := { t := [.any, .any, .any, .any, .nils, (.int .i64), .any, .any, .any, .any, .any, .any, .any, .any, .any, .any, .any, .any, .any, .any, .any, .any, .any, .any, .any, .any, .any, .any, .any, .any, .any, .any, .any, .any, .any, .any, .any, .any, .any, .any, .any, .any, .any, .any, .any, .any, .any, .any, .any, .any, .any, .any, .any, .any, .any, .any, .any, .any, .any, .any, .any, .any], h := [] } }]
noncomputable def ref47_Design_L17E : Env := { tt := seat_TT, glob := seat_GL, spec := [(28, specG ref47_Check_I ref47_Check_O ref47_Check_T), (59, specG ref47_Ideal_I ref47_Ideal_O ref47_Ideal_T)], body := [(26, Tryd.f26)], loops := [], nimp := 0 }
noncomputable def ref47_Design_L17S (ps : List PV) : TR := stepT ref47_Design_L17E 26 Tryd.f26 17 ref47_Design_L17I ref47_Design_L17O ps
theorem ref47_Design_L17Eok : EnvOK ref47_Design_L17E Tryd.prog := ⟨tok_of seat_TTok,
  all_cons ref47_Check_spec (all_cons ref47_Ideal_spec (all_nil)),
  all_nil,
  all_cons (body_ok Tryd.func26 (by kernel_rfl)) (all_nil)⟩
theorem ref47_Design_L17good : LoopGood Tryd.prog seat_GL ref47_Design_L17E.nimp (nodeC Tryd.f26 17) (pieceL ref47_Design_L17I ref47_Design_L17O (loopT ref47_Design_L17S)) :=
  loopGood_of seat_mo ref47_Design_L17Eok Tryd.func26 (by kernel_rfl) (by kernel_rfl) (by kernel_rfl) (fun _ => rfl)
noncomputable def ref47_Design_E : Env := { tt := seat_TT, glob := seat_GL, spec := [(28, specG ref47_Check_I ref47_Check_O ref47_Check_T), (59, specG ref47_Ideal_I ref47_Ideal_O ref47_Ideal_T)], body := [(26, Tryd.f26)], loops := [((26, 11), pieceL ref47_Design_L11I ref47_Design_L11O (loopT ref47_Design_L11S)), ((26, 17), pieceL ref47_Design_L17I ref47_Design_L17O (loopT ref47_Design_L17S))], nimp := 0 }
noncomputable def ref47_Design_T (ps : List PV) : TR := funcT ref47_Design_E 26 Tryd.f26 true ref47_Design_I ref47_Design_O ps
theorem ref47_Design_Eok : EnvOK ref47_Design_E Tryd.prog := ⟨tok_of seat_TTok,
  all_cons ref47_Check_spec (all_cons ref47_Ideal_spec (all_nil)),
  all_cons (loop_ok Tryd.func26 (by kernel_rfl) (by kernel_rfl) ref47_Design_L11good) (all_cons (loop_ok Tryd.func26 (by kernel_rfl) (by kernel_rfl) ref47_Design_L17good) (all_nil)),
  all_cons (body_ok Tryd.func26 (by kernel_rfl)) (all_nil)⟩
theorem ref47_Design_spec : Spec Tryd.prog seat_GL 26 (specG ref47_Design_I ref47_Design_O ref47_Design_T) := spec_of seat_mo ref47_Design_Eok Tryd.func26 (by kernel_rfl) (by kernel_rfl) (fun _ => rfl)

/-! 27 metrolab/gauge.Check -/
def gauge_Check_I : FIn := { args := [(.imm [(.int .i64), (.int .i64), (.int .i64), (.int .i64), (.int .i64), (.int .i64), .bool])], h := [] }
def gauge_Check_O : List FOut := [{ res := (.int .i64), h := [] }]
noncomputable def gauge_Check_E : Env := { tt := seat_TT, glob := seat_GL, spec := [(49, specG gauge_virtual_I gauge_virtual_O gauge_virtual_T)], body := [(27, Tryd.f27)], loops := [], nimp := 0 }
noncomputable def gauge_Check_T (ps : List PV) : TR := funcT gauge_Check_E 27 Tryd.f27 true gauge_Check_I gauge_Check_O ps
theorem gauge_Check_Eok : EnvOK gauge_Check_E Tryd.prog := ⟨tok_of seat_TTok,
  all_cons gauge_virtual_spec (all_nil),
  all_nil,
  all_cons (body_ok Tryd.func27 (by kernel_rfl)) (all_nil)⟩
theorem gauge_Check_spec : Spec Tryd.prog seat_GL 27 (specG gauge_Check_I gauge_Check_O gauge_Check_T) := spec_of seat_mo gauge_Check_Eok Tryd.func27 (by kernel_rfl) (by kernel_rfl) (fun _ => rfl)

/-! 29 metrolab/metrolabref47.SameElements -/
def ref47_SameElements_I : FIn := { args := [(.imm [(.int .i64), (.int .i64), .bool, (.int .i64), (.int .i64)]), (.imm [(.int .i64), (.int .i64), .bool, (.int .i64), (.int .i64)])], h := [] }
def ref47_SameElements_O : List FOut := [{ res := .bool, h := [] }]
def ref47_SameElements_L6I : Tmpl := { t := [(.imm [(.int .i64), (.int .i64), .bool, (.int .i64), (.int .i64)]), (.imm [(.int .i64), (.int .i64), .bool, (.int .i64), (.int .i64)]), .any, .any, .any, (.int .i64), .any, .any, .any, .any, .any, .any, .any, .any, .any, .any, .any, .any, .any, .any, .any, .any, .any, .any, .any, .any], h := [] }
def ref47_SameElements_L6O : List Out := [{ x := (.exit 0), tm := { t := [.any, .any, .any, .any, .any, .any, .any, .any, .any, .any, .any, .any, .any, .any, .any, .any, .any, .any, .any, .any, .any, .any, .any, .any, .any, .any], h := [] } }, { x := .ret, tm := { t := [.any, .any, .any, .any, .bool, .any, .any, .any, .any, .any, .any, .any, .any, .any, .any, .any, .any, .any, .any, .any, .any, .any, .any, .any, .any, .any], h := [] } }]
noncomputable def ref47_SameElements_L6E : Env := { tt := seat_TT, glob := seat_GL, spec := [], body := [(29, Tryd.f29)], loops := [], nimp := 0 }
noncomputable def ref47_SameElements_L6S (ps : List PV) : TR := stepT ref47_SameElements_L6E 29 Tryd.f29 6 ref47_SameElements_L6I ref47_SameElements_L6O ps
theorem ref47_SameElements_L6Eok : EnvOK ref47_SameElements_L6E Tryd.prog := ⟨tok_of seat_TTok,
  all_nil,
  all_nil,
  all_cons (body_ok Tryd.func29 (by kernel_rfl)) (all_nil)⟩
theorem ref47_SameElements_L6good : LoopGood Tryd.prog seat_GL ref47_SameElements_L6E.nimp (nodeC Tryd.f29 6) (pieceL ref47_SameElements_L6I ref47_SameElements_L6O (loopT ref47_SameElements_L6S)) :=
  loopGood_of seat_mo ref47_SameElements_L6Eok Tryd.func29 (by kernel_rfl) (by kernel_rfl) (by kernel_rfl) (fun _ => rfl)
noncomputable def ref47_SameElements_E : Env := { tt := seat_TT, glob := seat_GL, spec := [], body := [(29, Tryd.f29)], loops := [((29, 6), pieceL ref47_SameElements_L6I ref47_SameElements_L6O (loopT ref47_SameElements_L6S))], nimp := 0 }
noncomputable def ref47_SameElements_T (ps : List PV) : TR := funcT ref47_SameElements_E 29 Tryd.f29 true ref47_SameElements_I ref47_SameElements_O ps
theorem ref47_SameElements_Eok : EnvOK ref47_SameElements_E Tryd.prog := ⟨tok_of seat_TTok,
  all_nil,
  all_cons (loop_ok Tryd.func29 (by kernel_rfl) (by kernel_rfl) ref47_SameElements_L6good) (all_nil),
  all_cons (body_ok Tryd.func29 (by kernel_rfl)) (all_nil)⟩
theorem ref47_SameElements_spec : Spec Tryd.prog seat_GL 29 (specG ref47_SameElements_I ref47_SameElements_O ref47_SameElements_T) := spec_of seat_mo ref47_SameElements_Eok Tryd.func29 (by kernel_rfl) (by kernel_rfl) (fun _ => rfl)

/-! 7 metrolab/metrolablaw47.GaugeDesigns -/
def law47_GaugeDesigns_I : FIn := { args := [(.imm [(.int .i64), (.int .i64), (.int .i64), (.int .i64), (.int .i64), (.int .i64), .bool]), (.agg [(.int .i64), (.int .i64)])], h := [] }
def law47_GaugeDesigns_O : List FOut := [{ res := .bool, h := [] }]
noncomputable def law47_GaugeDesigns_E : Env := { tt := seat_TT, glob := seat_GL, spec := [(10, specG law47_few_I law47_few_O law47_few_T), (11, specG law47_awake_I law47_awake_O law47_awake_T), (14, specG law47_elements_I law47_elements_O law47_elements_T), (24, specG gauge_Design_I gauge_Design_O gauge_Design_T), (26, specG ref47_Design_I ref47_Design_O ref47_Design_T), (27, specG gauge_Check_I gauge_Check_O gauge_Check_T), (28, specG ref47_Check_I ref47_Check_O ref47_Check_T), (29, specG ref47_SameElements_I ref47_SameElements_O ref47_SameElements_T)], body := [(7, Tryd.f7)], loops := [], nimp := 0 }
noncomputable def law47_GaugeDesigns_T (ps : List PV) : TR := funcT law47_GaugeDesigns_E 7 Tryd.f7 true law47_GaugeDesigns_I law47_GaugeDesigns_O ps
theorem law47_GaugeDesigns_Eok : EnvOK law47_GaugeDesigns_E Tryd.prog := ⟨tok_of seat_TTok,
  all_cons law47_few_spec (all_cons law47_awake_spec (all_cons law47_elements_spec (all_cons gauge_Design_spec (all_cons ref47_Design_spec (all_cons gauge_Check_spec (all_cons ref47_Check_spec (all_cons ref47_SameElements_spec (all_nil)))))))),
  all_nil,
  all_cons (body_ok Tryd.func7 (by kernel_rfl)) (all_nil)⟩
theorem law47_GaugeDesigns_spec : Spec Tryd.prog seat_GL 7 (specG law47_GaugeDesigns_I law47_GaugeDesigns_O law47_GaugeDesigns_T) := spec_of seat_mo law47_GaugeDesigns_Eok Tryd.func7 (by kernel_rfl) (by kernel_rfl) (fun _ => rfl)

/-! 30 metrolab/metrolablaw47.sign -/
def law47_sign_I : FIn := { args := [(.agg [(.int .i64), (.int .i64), .bool, (.int .i64)])], h := [] }
def law47_sign_O : List FOut := [{ res := (.int .i64), h := [] }]
noncomputable def law47_sign_E : Env := { tt := seat_TT, glob := seat_GL, spec := [], body := [(30, Tryd.f30)], loops := [], nimp := 0 }
noncomputable def law47_sign_T (ps : List PV) : TR := funcT law47_sign_E 30 Tryd.f30 true law47_sign_I law47_sign_O ps
theorem law47_sign_Eok : EnvOK law47_sign_E Tryd.prog := ⟨tok_of seat_TTok,
  all_nil,
  all_nil,
  all_cons (body_ok Tryd.func30 (by kernel_rfl)) (all_nil)⟩
theorem law47_sign_spec : Spec Tryd.prog seat_GL 30 (specG law47_sign_I law47_sign_O law47_sign_T) := spec_of seat_mo law47_sign_Eok Tryd.func30 (by kernel_rfl) (by kernel_rfl) (fun _ => rfl)

/-! 32 metrolab/metrolablaw47.GaugeLasts$1 -/
def law47_GaugeLasts_1_I : FIn := { args := [(.agg [(.int .i64), (.int .i64), .bool, (.int .i64)])], h := [] }
def law47_GaugeLasts_1_O : List FOut := [{ res := .bool, h := [] }]
noncomputable def law47_GaugeLasts_1_E : Env := { tt := seat_TT, glob := seat_GL, spec := [], body := [(32, Tryd.f32)], loops := [], nimp := 0 }
noncomputable def law47_GaugeLasts_1_T (ps : List PV) : TR := funcT law47_GaugeLasts_1_E 32 Tryd.f32 true law47_GaugeLasts_1_I law47_GaugeLasts_1_O ps
theorem law47_GaugeLasts_1_Eok : EnvOK law47_GaugeLasts_1_E Tryd.prog := ⟨tok_of seat_TTok,
  all_nil,
  all_nil,
  all_cons (body_ok Tryd.func32 (by kernel_rfl)) (all_nil)⟩
theorem law47_GaugeLasts_1_spec : Spec Tryd.prog seat_GL 32 (specG law47_GaugeLasts_1_I law47_GaugeLasts_1_O law47_GaugeLasts_1_T) := spec_of seat_mo law47_GaugeLasts_1_Eok Tryd.func32 (by kernel_rfl) (by kernel_rfl) (fun _ => rfl)

/-! 61 slices.IndexFunc[[]metrolab/gauge.Tool,metrolab/gauge.Tool] -/
def slices_IndexFunc_gauge_Tool_gauge_Tool_I : FIn := { args := [(.imm [(.int .i64), (.int .i64), .bool, (.int .i64)]), (.fn 32 [] [])], h := [] }
def slices_IndexFunc_gauge_Tool_gauge_Tool_O : List FOut := [{ res := (.int .i64), h := [] }]
def slices_IndexFunc_gauge_Tool_gauge_Tool_L3I : Tmpl := { t := [(.imm [(.int .i64), (.int .i64), .bool, (.int .i64)]), (.fn 32 [] []), .any, .any, .any, .any, .any, (.int .i64), (.int .i64), .any, .any, .any, .any, .any, .any, .any, .any, .any, .any], h := [] }
def slices_IndexFunc_gauge_Tool_gauge_Tool_L3O : List Out := [{ x := (.exit 0), tm := { t := [.any, .any, .any, .any, .any, .any, .any, .any, .any, .any, .any, .any, .any, .any, .any, .any, .any, .any, .any], h := [] } }, { x := .ret, tm := { t := [.any, .any, .any, .any, (.int .i64), .any, .any, .any, .any, .any, .any, .any, .any, .any, .any, .any, .any, .any, .any], h := [] } }]
noncomputable def slices_IndexFunc_gauge_Tool_gauge_Tool_L3E : Env := { tt := seat_TT, glob := seat_GL, spec := [(32, specG law47_GaugeLasts_1_I law47_GaugeLasts_1_O law47_GaugeLasts_1_T)], body := [(61, Tryd.f61)], loops := [], nimp := 0 }
noncomputable def slices_IndexFunc_gauge_Tool_gauge_Tool_L3S (ps : List PV) : TR := stepT slices_IndexFunc_gauge_Tool_gauge_Tool_L3E 61 Tryd.f61 3 slices_IndexFunc_gauge_Tool_gauge_Tool_L3I slices_IndexFunc_gauge_Tool_gauge_Tool_L3O ps
theorem slices_IndexFunc_gauge_Tool_gauge_Tool_L3Eok : EnvOK slices_IndexFunc_gauge_Tool_gauge_Tool_L3E Tryd.prog := ⟨tok_of seat_TTok,
  all_cons law47_GaugeLasts_1_spec (all_nil),
  all_nil,
  all_cons (body_ok Tryd.func61 (by kernel_rfl)) (all_nil)⟩
theorem slices_IndexFunc_gauge_Tool_gauge_Tool_L3good : LoopGood Tryd.prog seat_GL slices_IndexFunc_gauge_Tool_gauge_Tool_L3E.nimp (nodeC Tryd.f61 3) (pieceL slices_IndexFunc_gauge_Tool_gauge_Tool_L3I slices_IndexFunc_gauge_Tool_gauge_Tool_L3O (loopT slices_IndexFunc_gauge_Tool_gauge_Tool_L3S)) :=
  loopGood_of seat_mo slices_IndexFunc_gauge_Tool_gauge_Tool_L3Eok Tryd.func61 (by kernel_rfl) (by kernel_rfl) (by kernel_rfl) (fun _ => rfl)
noncomputable def slices_IndexFunc_gauge_Tool_gauge_Tool_E : Env := { tt := seat_TT, glob := seat_GL, spec := [(32, specG law47_GaugeLasts_1_I law47_GaugeLasts_1_O law47_GaugeLasts_1_T)], body := [(61, Tryd.f61)], loops := [((61, 3), pieceL slices_IndexFunc_gauge_Tool_gauge_Tool_L3I slices_IndexFunc_gauge_Tool_gauge_Tool_L3O (loopT slices_IndexFunc_gauge_Tool_gauge_Tool_L3S))], nimp := 0 }
noncomputable def slices_IndexFunc_gauge_Tool_gauge_Tool_T (ps : List PV) : TR := funcT slices_IndexFunc_gauge_Tool_gauge_Tool_E 61 Tryd.f61 true slices_IndexFunc_gauge_Tool_gauge_Tool_I slices_IndexFunc_gauge_Tool_gauge_Tool_O ps
theorem slices_IndexFunc_gauge_Tool_gauge_Tool_Eok : EnvOK slices_IndexFunc_gauge_Tool_gauge_Tool_E Tryd.prog := ⟨tok_of seat_TTok,
  all_cons law47_GaugeLasts_1_spec (all_nil),
  all_cons (loop_ok Tryd.func61 (by kernel_rfl) (by kernel_rfl) slices_IndexFunc_gauge_Tool_gauge_Tool_L3good) (all_nil),
  all_cons (body_ok Tryd.func61 (by kernel_rfl)) (all_nil)⟩
theorem slices_IndexFunc_gauge_Tool_gauge_Tool_spec : Spec Tryd.prog seat_GL 61 (specG slices_IndexFunc_gauge_Tool_gauge_Tool_I slices_IndexFunc_gauge_Tool_gauge_Tool_O slices_IndexFunc_gauge_Tool_gauge_Tool_T) := spec_of seat_mo slices_IndexFunc_gauge_Tool_gauge_Tool_Eok Tryd.func61 (by kernel_rfl) (by kernel_rfl) (fun _ => rfl)

/-! 31 slices.ContainsFunc[[]metrolab/gauge.Tool,metrolab/gauge.Tool] -/
def slices_ContainsFunc_gauge_Tool_gauge_Tool_I : FIn := { args := [(.imm [(.int .i64), (.int .i64), .bool, (.int .i64)]), (.fn 32 [] [])], h := [] }
def slices_ContainsFunc_gauge_Tool_gauge_Tool_O : List FOut := [{ res := .bool, h := [] }]
noncomputable def slices_ContainsFunc_gauge_Tool_gauge_Tool_E : Env := { tt := seat_TT, glob := seat_GL, spec := [(32, specG law47_GaugeLasts_1_I law47_GaugeLasts_1_O law47_GaugeLasts_1_T), (61, specG slices_IndexFunc_gauge_Tool_gauge_Tool_I slices_IndexFunc_gauge_Tool_gauge_Tool_O slices_IndexFunc_gauge_Tool_gauge_Tool_T)], body := [(31, Tryd.f31)], loops := [], nimp := 0 }
noncomputable def slices_ContainsFunc_gauge_Tool_gauge_Tool_T (ps : List PV) : TR := funcT slices_ContainsFunc_gauge_Tool_gauge_Tool_E 31 Tryd.f31 true slices_ContainsFunc_gauge_Tool_gauge_Tool_I slices_ContainsFunc_gauge_Tool_gauge_Tool_O ps
theorem slices_ContainsFunc_gauge_Tool_gauge_Tool_Eok : EnvOK slices_ContainsFunc_gauge_Tool_gauge_Tool_E Tryd.prog := ⟨tok_of seat_TTok,
  all_cons law47_GaugeLasts_1_spec (all_cons slices_IndexFunc_gauge_Tool_gauge_Tool_spec (all_nil)),
  all_nil,
  all_cons (body_ok Tryd.func31 (by kernel_rfl)) (all_nil)⟩
theorem slices_ContainsFunc_gauge_Tool_gauge_Tool_spec : Spec Tryd.prog seat_GL 31 (specG slices_ContainsFunc_gauge_Tool_gauge_Tool_I slices_ContainsFunc_gauge_Tool_gauge_Tool_O slices_ContainsFunc_gauge_Tool_gauge_Tool_T) := spec_of seat_mo slices_ContainsFunc_gauge_Tool_gauge_Tool_Eok Tryd.func31 (by kernel_rfl) (by kernel_rfl) (fun _ => rfl)

/-! 34 metrolab/metrolablaw47.GaugeLasts$2 -/
def law47_GaugeLasts_2_I : FIn := { args := [(.int .i64), (.ptr 0 0)], h := [.cells [(.imm [(.int .i64), (.int .i64), .bool, (.int .i64)])]] }
def law47_GaugeLasts_2_O : List FOut := [{ res := .bool, h := [.cells [(.imm [(.int .i64), (.int .i64), .bool, (.int .i64)])]] }]
noncomputable def law47_GaugeLasts_2_E : Env := { tt := seat_TT, glob := seat_GL, spec := [], body := [(34, Tryd.f34)], loops := [], nimp := 1 }
noncomputable def law47_GaugeLasts_2_T (ps : List PV) : TR := funcT law47_GaugeLasts_2_E 34 Tryd.f34 true law47_GaugeLasts_2_I law47_GaugeLasts_2_O ps
theorem law47_GaugeLasts_2_Eok : EnvOK law47_GaugeLasts_2_E Tryd.prog := ⟨tok_of seat_TTok,
  all_nil,
  all_nil,
  all_cons (body_ok Tryd.func34 (by kernel_rfl)) (all_nil)⟩
theorem law47_GaugeLasts_2_spec : Spec Tryd.prog seat_GL 34 (specG law47_GaugeLasts_2_I law47_GaugeLasts_2_O law47_GaugeLasts_2_T) := spec_of seat_mo law47_GaugeLasts_2_Eok Tryd.func34 (by kernel_rfl) (by kernel_rfl) (fun _ => rfl)

/-! 62 slices.IndexFunc[[]int,int] -/
def slices_IndexFunc_int_int_I : FIn := { args := [(.imm [(.int .i64)]), (.fn 34 [] [(.ptr 0 0)])], h := [.cells [(.imm [(.int .i64), (.int .i64), .bool, (.int .i64)])]] }
def slices_IndexFunc_int_int_O : List FOut := [{ res := (.int .i64), h := [.cells [(.imm [(.int .i64), (.int .i64), .bool, (.int .i64)])]] }]
def slices_IndexFunc_int_int_L3I : Tmpl := { t := [(.imm [(.int .i64)]), (.fn 34 [] [(.ptr 0 0)]), .any, .any, .any, .any, .any, (.int .i64), (.int .i64), .any, .any, .any, .any, .any, .any, .any, .any, .any, .any], h := [.cells [(.imm [(.int .i64), (.int .i64), .bool, (.int .i64)])]] }
def slices_IndexFunc_int_int_L3O : List Out := [{ x := (.exit 0), tm := { t := [.any, .any, .any, .any, .any, .any, .any, .any, .any, .any, .any, .any, .any, .any, .any, .any, .any, .any, .any], h := [.cells [(.imm [(.int .i64), (.int .i64), .bool, (.int .i64)])]] } }, { x := .ret, tm := { t := [.any, .any, .any, .any, (.int .i64), .any, .any, .any, .any, .any, .any, .any, .any, .any, .any, .any, .any, .any, .any], h := [.cells [(.imm [(.int .i64), (.int .i64), .bool, (.int .i64)])]] } }]
noncomputable def slices_IndexFunc_int_int_L3E : Env := { tt := seat_TT, glob := seat_GL, spec := [(34, specG law47_GaugeLasts_2_I law47_GaugeLasts_2_O law47_GaugeLasts_2_T)], body := [(62, Tryd.f62)], loops := [], nimp := 1 }
noncomputable def slices_IndexFunc_int_int_L3S (ps : List PV) : TR := stepT slices_IndexFunc_int_int_L3E 62 Tryd.f62 3 slices_IndexFunc_int_int_L3I slices_IndexFunc_int_int_L3O ps
theorem slices_IndexFunc_int_int_L3Eok : EnvOK slices_IndexFunc_int_int_L3E Tryd.prog := ⟨tok_of seat_TTok,
  all_cons law47_GaugeLasts_2_spec (all_nil),
  all_nil,
  all_cons (body_ok Tryd.func62 (by kernel_rfl)) (all_nil)⟩
theorem slices_IndexFunc_int_int_L3good : LoopGood Tryd.prog seat_GL slices_IndexFunc_int_int_L3E.nimp (nodeC Tryd.f62 3) (pieceL slices_IndexFunc_int_int_L3I slices_IndexFunc_int_int_L3O (loopT slices_IndexFunc_int_int_L3S)) :=
  loopGood_of seat_mo slices_IndexFunc_int_int_L3Eok Tryd.func62 (by kernel_rfl) (by kernel_rfl) (by kernel_rfl) (fun _ => rfl)
noncomputable def slices_IndexFunc_int_int_E : Env := { tt := seat_TT, glob := seat_GL, spec := [(34, specG law47_GaugeLasts_2_I law47_GaugeLasts_2_O law47_GaugeLasts_2_T)], body := [(62, Tryd.f62)], loops := [((62, 3), pieceL slices_IndexFunc_int_int_L3I slices_IndexFunc_int_int_L3O (loopT slices_IndexFunc_int_int_L3S))], nimp := 1 }
noncomputable def slices_IndexFunc_int_int_T (ps : List PV) : TR := funcT slices_IndexFunc_int_int_E 62 Tryd.f62 true slices_IndexFunc_int_int_I slices_IndexFunc_int_int_O ps
theorem slices_IndexFunc_int_int_Eok : EnvOK slices_IndexFunc_int_int_E Tryd.prog := ⟨tok_of seat_TTok,
  all_cons law47_GaugeLasts_2_spec (all_nil),
  all_cons (loop_ok Tryd.func62 (by kernel_rfl) (by kernel_rfl) slices_IndexFunc_int_int_L3good) (all_nil),
  all_cons (body_ok Tryd.func62 (by kernel_rfl)) (all_nil)⟩
theorem slices_IndexFunc_int_int_spec : Spec Tryd.prog seat_GL 62 (specG slices_IndexFunc_int_int_I slices_IndexFunc_int_int_O slices_IndexFunc_int_int_T) := spec_of seat_mo slices_IndexFunc_int_int_Eok Tryd.func62 (by kernel_rfl) (by kernel_rfl) (fun _ => rfl)

/-! 33 slices.ContainsFunc[[]int,int] -/
def slices_ContainsFunc_int_int_I : FIn := { args := [(.imm [(.int .i64)]), (.fn 34 [] [(.ptr 0 0)])], h := [.cells [(.imm [(.int .i64), (.int .i64), .bool, (.int .i64)])]] }
def slices_ContainsFunc_int_int_O : List FOut := [{ res := .bool, h := [.cells [(.imm [(.int .i64), (.int .i64), .bool, (.int .i64)])]] }]
noncomputable def slices_ContainsFunc_int_int_E : Env := { tt := seat_TT, glob := seat_GL, spec := [(34, specG law47_GaugeLasts_2_I law47_GaugeLasts_2_O law47_GaugeLasts_2_T), (62, specG slices_IndexFunc_int_int_I slices_IndexFunc_int_int_O slices_IndexFunc_int_int_T)], body := [(33, Tryd.f33)], loops := [], nimp := 1 }
noncomputable def slices_ContainsFunc_int_int_T (ps : List PV) : TR := funcT slices_ContainsFunc_int_int_E 33 Tryd.f33 true slices_ContainsFunc_int_int_I slices_ContainsFunc_int_int_O ps
theorem slices_ContainsFunc_int_int_Eok : EnvOK slices_ContainsFunc_int_int_E Tryd.prog := ⟨tok_of seat_TTok,
  all_cons law47_GaugeLasts_2_spec (all_cons slices_IndexFunc_int_int_spec (all_nil)),
  all_nil,
  all_cons (body_ok Tryd.func33 (by kernel_rfl)) (all_nil)⟩
theorem slices_ContainsFunc_int_int_spec : Spec Tryd.prog seat_GL 33 (specG slices_ContainsFunc_int_int_I slices_ContainsFunc_int_int_O slices_ContainsFunc_int_int_T) := spec_of seat_mo slices_ContainsFunc_int_int_Eok Tryd.func33 (by kernel_rfl) (by kernel_rfl) (fun _ => rfl)

/-! 35 metrolab/metrolablaw47.pins -/
def law47_pins_I : FIn := { args := [(.imm [(.int .i64), (.int .i64), .bool, (.int .i64)])], h := [] }
def law47_pins_O : List FOut := [{ res := (.int .i64), h := [] }]
def law47_pins_L4I : Tmpl := { t := [.any, .any, .any, (.int .i64), .any, .any, (.imm [(.int .i64), (.int .i64), .bool, (.int .i64)]), (.int .i64), (.int .i64), .any, .any, .any, .any, .any, .any, .any, .any, .any, .any], h := [] }
def law47_pins_L4O : List Out := [{ x := (.exit 0), tm := { t := [.any, .any, .any, (.int .i64), .any, .any, .any, .any, .any, .any, .any, .any, .any, .any, .any, .any, .any, .any, .any], h := [] } }]
noncomputable def law47_pins_L4E : Env := { tt := seat_TT, glob := seat_GL, spec := [], body := [(35, Tryd.f35)], loops := [], nimp := 0 }
noncomputable def law47_pins_L4S (ps : List PV) : TR := stepT law47_pins_L4E 35 Tryd.f35 4 law47_pins_L4I law47_pins_L4O ps
theorem law47_pins_L4Eok : EnvOK law47_pins_L4E Tryd.prog := ⟨tok_of seat_TTok,
  all_nil,
  all_nil,
  all_cons (body_ok Tryd.func35 (by kernel_rfl)) (all_nil)⟩
theorem law47_pins_L4good : LoopGood Tryd.prog seat_GL law47_pins_L4E.nimp (nodeC Tryd.f35 4) (pieceL law47_pins_L4I law47_pins_L4O (loopT law47_pins_L4S)) :=
  loopGood_of seat_mo law47_pins_L4Eok Tryd.func35 (by kernel_rfl) (by kernel_rfl) (by kernel_rfl) (fun _ => rfl)
noncomputable def law47_pins_E : Env := { tt := seat_TT, glob := seat_GL, spec := [], body := [(35, Tryd.f35)], loops := [((35, 4), pieceL law47_pins_L4I law47_pins_L4O (loopT law47_pins_L4S))], nimp := 0 }
noncomputable def law47_pins_T (ps : List PV) : TR := funcT law47_pins_E 35 Tryd.f35 true law47_pins_I law47_pins_O ps
theorem law47_pins_Eok : EnvOK law47_pins_E Tryd.prog := ⟨tok_of seat_TTok,
  all_nil,
  all_cons (loop_ok Tryd.func35 (by kernel_rfl) (by kernel_rfl) law47_pins_L4good) (all_nil),
  all_cons (body_ok Tryd.func35 (by kernel_rfl)) (all_nil)⟩
theorem law47_pins_spec : Spec Tryd.prog seat_GL 35 (specG law47_pins_I law47_pins_O law47_pins_T) := spec_of seat_mo law47_pins_Eok Tryd.func35 (by kernel_rfl) (by kernel_rfl) (fun _ => rfl)

/-! 8 metrolab/metrolablaw47.GaugeLasts -/
def law47_GaugeLasts_I : FIn := { args := [(.imm [(.int .i64), (.int .i64), (.int .i64), (.int .i64), (.int .i64), (.int .i64), .bool]), (.agg [(.int .i64), (.int .i64)]), (.int .u16)], h := [] }
def law47_GaugeLasts_O : List FOut := [{ res := .bool, h := [] }]
def law47_GaugeLasts_L26I : Tmpl := { t := [(.imm [(.int .i64), (.int .i64), (.int .i64), (.int .i64), (.int .i64), (.int .i64), .bool]), .any, (.int .u16), .any, (.ptr 0 0), .any, .any, (.imm [(.int .i64), (.int .i64), .bool, (.int .i64), (.int .i64)]), .any, .any, .any, .any, (.vec 3), .any, (.int .i64), .any, .any, .any, .any, .any, .any, .any, .any, .any, .any, .any, .any, .any, .any, .any, .any, .any, .any, .any, .any, .any, .any, .any, .any, .any, .any, .any, .any, .any, .any, .any, .any, .any, .any, .any, .any, .any, .any, .any, .any, .any, .any, .any, .any, .any, .any, .any, .any, .any, .any, .any, .any, .any, .any, .any, .any, .any, .any, .any, .any, .any, (.vec 1), (.int .i64), (.int .i64), .any, .any, .any, .any, .any, .any, .any, .any, .any, .any, .any, .any, .any, .any, .any, .any, .any, .any, .any, .any, .any, .any, .any, .any, .any, (.int .i64), (.int .i64), .any, .any, .any, .any, .any, .any, .any, .any, .any, .any, .any, .any, .any, .any, .any, .any, .any, .any, .any, .any, .any, .any, .any, .any, .any, .any, .any, .any, .any, .any, .any, .any, .any, .any, .any, .any, .any, .any, .any, .any, .any, .any, .any, .any, .any, .any, .any, .any, .any, .any, .any, .any, .any, .any, .any, .any, .any, .any, .any, .any, .any, .any, .any, .any, .any, .any, .any, .any, .any, .any, .any, .any, .any, .any, .any, .any, .any, .any, .any, .any, .any, .any, .any, .any, .any, .any, .any, .any, .any, .any, .any, .any, .any, .any], h := [.cells [(.int .i64), (.int .i64)], .vec 4 [.bool], .dead, .vec 75 [(.int .i64), (.int .i64), .bool, (.int .i64)]] }
def law47_GaugeLasts_L26O : List Out := [{ x := (.exit 2), tm := { t := [(.imm [(.int .i64), (.int .i64), (.int .i64), (.int .i64), (.int .i64), (.int .i64), .bool]), .any, (.int .u16), .any, (.ptr 0 0), .any, .any, (.imm [(.int .i64), (.int .i64), .bool, (.int .i64), (.int .i64)]), .any, .any, .any, .any, (.vec 3), .any, .any, .any, .any, .any, .any, .any, .any, .any, .any, .any, .any, .any, .any, .any, .any, .any, .any, .any, .any, .any, .any, .any, .any, .any, .any, .any, .any, .any, .any, .any, .any, .any, .any, .any, .any, .any, .any, .any, .any, .any, .any, .any, .any, .any, .any, .any, .any, .any, .any, .any, .any, .any, .any, .any, .any, .any, .any, .any, .any, .any, .any, .any, (.vec 1), (.int .i64), (.int .i64), .any, .any, .any, .any, .any, .any, .any, .any, .any, .any, .any, .any, .any, .any, .any, .any, .any, .any, .any, .any, .any, .any, .any, .any, .any, .any, .any, .any, .any, .any, .any, .any, .any, .any, .any, .any, .any, .any, .any, .any, .any, .any, .any, .any, .any, .any, .any, .any, .any, .any, .any, .any, .any, .any, .any, .any, .any, .any, .any, .any, .any, .any, .any, .any, .any, .any, .any, .any, .any, .any, .any, .any, .any, .any, .any, .any, .any, .any, .any, .any, .any, .any, .any, .any, .any, .any, .any, .any, .any, .any, .any, .any, .any, .any, .any, .any, .any, .any, .any, .any, .any, .any, .any, .any, .any, .any, .any, .any, .any, .any, .any, .any, .any, .any, .any, .any, .any, .any, .any, .any, .any], h := [.cells [(.int .i64), (.int .i64)], .vec 4 [.bool], .dead, .vec 75 [(.int .i64), (.int .i64), .bool, (.int .i64)]] } }, { x := .ret, tm := { t := [.any, .any, .any, .any, .any, .any, .bool, .any, .any, .any, .any, .any, .any, .any, .any, .any, .any, .any, .any, .any, .any, .any, .any, .any, .any, .any, .any, .any, .any, .any, .any, .any, .any, .any, .any, .any, .any, .any, .any, .any, .any, .any, .any, .any, .any, .any, .any, .any, .any, .any, .any, .any, .any, .any, .any, .any, .any, .any, .any, .any, .any, .any, .any, .any, .any, .any, .any, .any, .any, .any, .any, .any, .any, .any, .any, .any, .any, .any, .any, .any, .any, .any, .any, .any, .any, .any, .any, .any, .any, .any, .any, .any, .any, .any, .any, .any, .any, .any, .any, .any, .any, .any, .any, .any, .any, .any, .any, .any, .any, .any, .any, .any, .any, .any, .any, .any, .any, .any, .any, .any, .any, .any, .any, .any, .any, .any, .any, .any, .any, .any, .any, .any, .any, .any, .any, .any, .any, .any, .any, .any, .any, .any, .any, .any, .any, .any, .any, .any, .any, .any, .any, .any, .any, .any, .any, .any, .any, .any, .any, .any, .any, .any, .any, .any, .any, .any, .any, .any, .any, .any, .any, .any, .any, .any, .any, .any, .any, .any, .any, .any, .any, .any, .any, .any, .any, .any, .any, .any, .any, .any, .any, .any, .any, .any, .any, .any, .any, .any, .any, .any], h := [] } }]
noncomputable def law47_GaugeLasts_L26E : Env := { tt := seat_TT, glob := seat_GL, spec := [(10, specG law47_few_I law47_few_O law47_few_T), (11, specG law47_awake_I law47_awake_O law47_awake_T), (12, specG gauge_Safe_I gauge_Safe_O gauge_Safe_T), (15, specG gauge_Loss_I gauge_Loss_O gauge_Loss_T), (17, specG gauge_Made_I gauge_Made_O gauge_Made_T), (21, specG gauge_Worn_I gauge_Worn_O gauge_Worn_T), (24, specG gauge_Design_I gauge_Design_O gauge_Design_T), (30, specG law47_sign_I law47_sign_O law47_sign_T), (31, specG slices_ContainsFunc_gauge_Tool_gauge_Tool_I slices_ContainsFunc_gauge_Tool_gauge_Tool_O slices_ContainsFunc_gauge_Tool_gauge_Tool_T), (32, specG law47_GaugeLasts_1_I law47_GaugeLasts_1_O law47_GaugeLasts_1_T), (33, specG slices_ContainsFunc_int_int_I slices_ContainsFunc_int_int_O slices_ContainsFunc_int_int_T), (34, specG law47_GaugeLasts_2_I law47_GaugeLasts_2_O law47_GaugeLasts_2_T), (35, specG law47_pins_I law47_pins_O law47_pins_T)], body := [(8, Tryd.f8)], loops := [], nimp := 0 }
noncomputable def law47_GaugeLasts_L26S (ps : List PV) : TR := stepT law47_GaugeLasts_L26E 8 Tryd.f8 26 law47_GaugeLasts_L26I law47_GaugeLasts_L26O ps
theorem law47_GaugeLasts_L26Eok : EnvOK law47_GaugeLasts_L26E Tryd.prog := ⟨tok_of seat_TTok,
  all_cons law47_few_spec (all_cons law47_awake_spec (all_cons gauge_Safe_spec (all_cons gauge_Loss_spec (all_cons gauge_Made_spec (all_cons gauge_Worn_spec (all_cons gauge_Design_spec (all_cons law47_sign_spec (all_cons slices_ContainsFunc_gauge_Tool_gauge_Tool_spec (all_cons law47_GaugeLasts_1_spec (all_cons slices_ContainsFunc_int_int_spec (all_cons law47_GaugeLasts_2_spec (all_cons law47_pins_spec (all_nil))))))))))))),
  all_nil,
  all_cons (body_ok Tryd.func8 (by kernel_rfl)) (all_nil)⟩
theorem law47_GaugeLasts_L26good : LoopGood Tryd.prog seat_GL law47_GaugeLasts_L26E.nimp (nodeC Tryd.f8 26) (pieceL law47_GaugeLasts_L26I law47_GaugeLasts_L26O (loopT law47_GaugeLasts_L26S)) :=
  loopGood_of seat_mo law47_GaugeLasts_L26Eok Tryd.func8 (by kernel_rfl) (by kernel_rfl) (by kernel_rfl) (fun _ => rfl)
def law47_GaugeLasts_L14I : Tmpl := { t := [(.imm [(.int .i64), (.int .i64), (.int .i64), (.int .i64), (.int .i64), (.int .i64), .bool]), .any, (.int .u16), .any, (.ptr 0 0), .any, .any, (.imm [(.int .i64), (.int .i64), .bool, (.int .i64), (.int .i64)]), .any, .any, .any, .any, .any, .any, .any, .any, .any, .any, .any, .any, .any, .any, .any, .any, .any, .any, .any, .any, .any, .any, .any, .any, .any, .any, .any, .any, .any, .any, .any, .any, .any, .any, .any, .any, .any, .any, .any, .any, .any, .any, .any, .any, .any, .any, .any, .any, .any, .any, .any, .any, .any, .any, .any, .any, .any, .any, .any, .any, .any, .any, .any, .any, .any, .any, .any, .any, (.vec 1), (.int .i64), (.int .i64), .any, .any, .any, .any, .any, .any, .any, .any, .any, .any, .any, .any, .any, .any, .any, .any, .any, .any, .any, .any, .any, .any, .any, .any, .any, .any, .any, .any, .any, .any, .any, .any, .any, .any, .any, .any, .any, .any, .any, .any, .any, .any, .any, .any, .any, .any, .any, .any, .any, .any, .any, .any, .any, .any, .any, .any, .any, .any, .any, .any, .any, .any, .any, .any, .any, .any, .any, .any, .any, .any, .any, .any, .any, .any, .any, .any, .any, .any, .any, .any, .any, .any, .any, .any, .any, .any, .any, .any, .any, .any, .any, .any, .any, .any, .any, .any, .any, .any, .any, .any, .any, .any, .any, .any, .any, .any, .any, .any, .any, .any, .any, .any, .any, .any, .any, .any, .any, .any, .any, .any, .any], h := [.cells [(.int .i64), (.int .i64)], .vec 4 [.bool]] }
def law47_GaugeLasts_L14O : List Out := [{ x := (.exit 0), tm := { t := [(.imm [(.int .i64), (.int .i64), (.int .i64), (.int .i64), (.int .i64), (.int .i64), .bool]), .any, .any, .any, (.ptr 0 0), .any, .any, (.imm [(.int .i64), (.int .i64), .bool, (.int .i64), (.int .i64)]), .any, .any, .any, .any, .any, .any, .any, .any, .any, .any, .any, .any, .any, .any, .any, .any, .any, .any, .any, .any, .any, .any, .any, .any, .any, .any, .any, .any, .any, .any, .any, .any, .any, .any, .any, .any, .any, .any, .any, .any, .any, .any, .any, .any, .any, .any, .any, .any, .any, .any, .any, .any, .any, .any, .any, .any, .any, .any, .any, .any, .any, .any, .any, .any, .any, .any, .any, .any, .any, .any, .any, .any, .any, .any, .any, .any, .any, .any, .any, .any, .any, .any, .any, .any, .any, .any, .any, .any, .any, .any, .any, .any, .any, .any, .any, .any, .any, .any, .any, .any, .any, .any, .any, .any, .any, .any, .any, .any, .any, .any, .any, .any, .any, .any, .any, .any, .any, .any, .any, .any, .any, .any, .any, .any, .any, .any, .any, .any, .any, .any, .any, .any, .any, .any, .any, .any, .any, .any, .any, .any, .any, .any, .any, .any, .any, .any, .any, .any, .any, .any, .any, .any, .any, .any, .any, .any, .any, .any, .any, .any, .any, .any, .any, .any, .any, .any, .any, .any, .any, .any, .any, .any, .any, .any, .any, .any, .any, .any, .any, .any, .any, .any, .any, .any, .any, .any, .any, .any, .any, .any, .any, .any], h := [.cells [(.int .i64), (.int .i64)]] } }, { x := .ret, tm := { t := [.any, .any, .any, .any, .any, .any, .bool, .any, .any, .any, .any, .any, .any, .any, .any, .any, .any, .any, .any, .any, .any, .any, .any, .any, .any, .any, .any, .any, .any, .any, .any, .any, .any, .any, .any, .any, .any, .any, .any, .any, .any, .any, .any, .any, .any, .any, .any, .any, .any, .any, .any, .any, .any, .any, .any, .any, .any, .any, .any, .any, .any, .any, .any, .any, .any, .any, .any, .any, .any, .any, .any, .any, .any, .any, .any, .any, .any, .any, .any, .any, .any, .any, .any, .any, .any, .any, .any, .any, .any, .any, .any, .any, .any, .any, .any, .any, .any, .any, .any, .any, .any, .any, .any, .any, .any, .any, .any, .any, .any, .any, .any, .any, .any, .any, .any, .any, .any, .any, .any, .any, .any, .any, .any, .any, .any, .any, .any, .any, .any, .any, .any, .any, .any, .any, .any, .any, .any, .any, .any, .any, .any, .any, .any, .any, .any, .any, .any, .any, .any, .any, .any, .any, .any, .any, .any, .any, .any, .any, .any, .any, .any, .any, .any, .any, .any, .any, .any, .any, .any, .any, .any, .any, .any, .any, .any, .any, .any, .any, .any, .any, .any, .any, .any, .any, .any, .any, .any, .any, .any, .any, .any, .any, .any, .any, .any, .any, .any, .any, .any, .any], h := [] } }]
noncomputable def law47_GaugeLasts_L14E : Env := { tt := seat_TT, glob := seat_GL, spec := [(10, specG law47_few_I law47_few_O law47_few_T), (11, specG law47_awake_I law47_awake_O law47_awake_T), (12, specG gauge_Safe_I gauge_Safe_O gauge_Safe_T), (15, specG gauge_Loss_I gauge_Loss_O gauge_Loss_T), (17, specG gauge_Made_I gauge_Made_O gauge_Made_T), (21, specG gauge_Worn_I gauge_Worn_O gauge_Worn_T), (24, specG gauge_Design_I gauge_Design_O gauge_Design_T), (30, specG law47_sign_I law47_sign_O law47_sign_T), (31, specG slices_ContainsFunc_gauge_Tool_gauge_Tool_I slices_ContainsFunc_gauge_Tool_gauge_Tool_O slices_ContainsFunc_gauge_Tool_gauge_Tool_T), (32, specG law47_GaugeLasts_1_I law47_GaugeLasts_1_O law47_GaugeLasts_1_T), (33, specG slices_ContainsFunc_int_int_I slices_ContainsFunc_int_int_O slices_ContainsFunc_int_int_T), (34, specG law47_GaugeLasts_2_I law47_GaugeLasts_2_O law47_GaugeLasts_2_T), (35, specG law47_pins_I law47_pins_O law47_pins_T)], body := [(8, Tryd.f8)], loops := [((8, 26), pieceL law47_GaugeLasts_L26I law47_GaugeLasts_L26O (loopT law47_GaugeLasts_L26S))], nimp := 0 }
noncomputable def law47_GaugeLasts_L14S (ps : List PV) : TR := stepT law47_GaugeLasts_L14E 8 Tryd.f8 14 law47_GaugeLasts_L14I law47_GaugeLasts_L14O ps
theorem law47_GaugeLasts_L14Eok : EnvOK law47_GaugeLasts_L14E Tryd.prog := ⟨tok_of seat_TTok,
  all_cons law47_few_spec (all_cons law47_awake_spec (all_cons gauge_Safe_spec (all_cons gauge_Loss_spec (all_cons gauge_Made_spec (all_cons gauge_Worn_spec (all_cons gauge_Design_spec (all_cons law47_sign_spec (all_cons slices_ContainsFunc_gauge_Tool_gauge_Tool_spec (all_cons law47_GaugeLasts_1_spec (all_cons slices_ContainsFunc_int_int_spec (all_cons law47_GaugeLasts_2_spec (all_cons law47_pins_spec (all_nil))))))))))))),
  all_cons (loop_ok Tryd.func8 (by kernel_rfl) (by kernel_rfl) law47_GaugeLasts_L26good) (all_nil),
  all_cons (body_ok Tryd.func8 (by kernel_rfl)) (all_nil)⟩
theorem law47_GaugeLasts_L14good : LoopGood Tryd.prog seat_GL law47_GaugeLasts_L14E.nimp (nodeC Tryd.f8 14) (pieceL law47_GaugeLasts_L14I law47_GaugeLasts_L14O (loopT law47_GaugeLasts_L14S)) :=
  loopGood_of seat_mo law47_GaugeLasts_L14Eok Tryd.func8 (by kernel_rfl) (by kernel_rfl) (by kernel_rfl) (fun _ => rfl)
def law47_GaugeLasts_L40I : Tmpl := { t := [(.imm [(.int .i64), (.int .i64), (.int .i64), (.int .i64), (.int .i64), (.int .i64), .bool]), .any, .any, .any, (.ptr 0 0), .any, .any, .any, .any, .any, .any, .any, .any, .any, .any, .any, .any, .any, (.ptr 3 0), .any, .any, .any, .any, .any, .any, .any, .any, .any, .any, .any, .any, .any, .any, .any, .any, .any, .any, .any, .any, .any, .any, .any, .any, .any, .any, .any, .any, .any, .any, .any, .any, .any, .any, .any, .any, .any, .any, .any, .any, .any, .any, .any, .any, .any, .any, .any, .any, .any, .any, .any, .any, .any, .any, .any, .any, .any, .any, .any, .any, .any, .any, .any, .any, .any, .any, .any, .any, .any, .any, .any, .any, .any, .any, .any, .any, .any, .any, .any, .any, .any, .any, .any, .any, .any, .any, .any, .any, .any, .any, .any, .any, .any, .any, .any, .any, .any, .any, .any, .any, .any, .any, .any, .any, .any, .any, .any, .any, .any, .any, .any, .any, .any, .any, .any, .any, .any, .any, .any, .any, .any, .any, .any, .any, .any, .any, .any, .any, .any, .any, .any, (.vec 2), (.int .i64), (.int .i64), .any, .any, .any, .any, .any, .any, .any, .any, .any, .any, .any, .any, .any, .any, .any, .any, .any, .any, .any, .any, .any, .any, .any, .any, .any, .any, .any, .any, .any, .any, .any, .any, .any, .any, .any, .any, .any, .any, .any, .any, .any, .any, .any, .any, .any, .any, .any], h := [.cells [(.int .i64), (.int .i64)], .dead, .vec 75 [(.int .i64), (.int .i64), .bool, (.int .i64)], .cells [(.vec 2)]] }
def law47_GaugeLasts_L40O : List Out := [{ x := (.exit 4), tm := { t := [(.imm [(.int .i64), (.int .i64), (.int .i64), (.int .i64), (.int .i64), (.int .i64), .bool]), .any, .any, .any, .any, .any, .any, .any, .any, .any, .any, .any, .any, .any, .any, .any, .any, .any, (.ptr 3 0), .any, .any, .any, .any, .any, .any, .any, .any, .any, .any, .any, .any, .any, .any, .any, .any, .any, .any, .any, .any, .any, .any, .any, .any, .any, .any, .any, .any, .any, .any, .any, .any, .any, .any, .any, .any, .any, .any, .any, .any, .any, .any, .any, .any, .any, .any, .any, .any, .any, .any, .any, .any, .any, .any, .any, .any, .any, .any, .any, .any, .any, .any, .any, .any, .any, .any, .any, .any, .any, .any, .any, .any, .any, .any, .any, .any, .any, .any, .any, .any, .any, .any, .any, .any, .any, .any, .any, .any, .any, .any, .any, .any, .any, .any, .any, .any, .any, .any, .any, .any, .any, .any, .any, .any, .any, .any, .any, .any, .any, .any, .any, .any, .any, .any, .any, .any, .any, .any, .any, .any, .any, .any, .any, .any, .any, .any, .any, .any, .any, .any, .any, .any, .any, .any, .any, .any, .any, .any, .any, .any, .any, .any, .any, .any, .any, .any, .any, .any, .any, .any, .any, .any, .any, .any, .any, .any, .any, .any, .any, .any, .any, .any, .any, .any, .any, .any, .any, .any, .any, .any, .any, .any, .any, .any, .any, .any, .any, .any, .any, .any, .any], h := [.dead, .dead, .vec 75 [(.int .i64), (.int .i64), .bool, (.int .i64)], .cells [(.vec 2)]] } }]
noncomputable def law47_GaugeLasts_L40E : Env := { tt := seat_TT, glob := seat_GL, spec := [(10, specG law47_few_I law47_few_O law47_few_T), (11, specG law47_awake_I law47_awake_O law47_awake_T), (12, specG gauge_Safe_I gauge_Safe_O gauge_Safe_T), (15, specG gauge_Loss_I gauge_Loss_O gauge_Loss_T), (17, specG gauge_Made_I gauge_Made_O gauge_Made_T), (21, specG gauge_Worn_I gauge_Worn_O gauge_Worn_T), (24, specG gauge_Design_I gauge_Design_O gauge_Design_T), (30, specG law47_sign_I law47_sign_O law47_sign_T), (31, specG slices_ContainsFunc_gauge_Tool_gauge_Tool_I slices_ContainsFunc_gauge_Tool_gauge_Tool_O slices_ContainsFunc_gauge_Tool_gauge_Tool_T), (32, specG law47_GaugeLasts_1_I law47_GaugeLasts_1_O law47_GaugeLasts_1_T), (33, specG slices_ContainsFunc_int_int_I slices_ContainsFunc_int_int_O slices_ContainsFunc_int_int_T), (34, specG law47_GaugeLasts_2_I law47_GaugeLasts_2_O law47_GaugeLasts_2_T), (35, specG law47_pins_I law47_pins_O law47_pins_T)], body := [(8, Tryd.f8)], loops := [], nimp := 0 }
noncomputable def law47_GaugeLasts_L40S (ps : List PV) : TR := stepT law47_GaugeLasts_L40E 8 Tryd.f8 40 law47_GaugeLasts_L40I law47_GaugeLasts_L40O ps
theorem law47_GaugeLasts_L40Eok : EnvOK law47_GaugeLasts_L40E Tryd.prog := ⟨tok_of seat_TTok,
  all_cons law47_few_spec (all_cons law47_awake_spec (all_cons gauge_Safe_spec (all_cons gauge_Loss_spec (all_cons gauge_Made_spec (all_cons gauge_Worn_spec (all_cons gauge_Design_spec (all_cons law47_sign_spec (all_cons slices_ContainsFunc_gauge_Tool_gauge_Tool_spec (all_cons law47_GaugeLasts_1_spec (all_cons slices_ContainsFunc_int_int_spec (all_cons law47_GaugeLasts_2_spec (all_cons law47_pins_spec (all_nil))))))))))))),
  all_nil,
  all_cons (body_ok Tryd.func8 (by kernel_rfl)) (all_nil)⟩
theorem law47_GaugeLasts_L40good : LoopGood Tryd.prog seat_GL law47_GaugeLasts_L40E.nimp (nodeC Tryd.f8 40) (pieceL law47_GaugeLasts_L40I law47_GaugeLasts_L40O (loopT law47_GaugeLasts_L40S)) :=
  loopGood_of seat_mo law47_GaugeLasts_L40Eok Tryd.func8 (by kernel_rfl) (by kernel_rfl) (by kernel_rfl) (fun _ => rfl)
noncomputable def law47_GaugeLasts_E : Env := { tt := seat_TT, glob := seat_GL, spec := [(10, specG law47_few_I law47_few_O law47_few_T), (11, specG law47_awake_I law47_awake_O law47_awake_T), (12, specG gauge_Safe_I gauge_Safe_O gauge_Safe_T), (15, specG gauge_Loss_I gauge_Loss_O gauge_Loss_T), (17, specG gauge_Made_I gauge_Made_O gauge_Made_T), (21, specG gauge_Worn_I gauge_Worn_O gauge_Worn_T), (24, specG gauge_Design_I gauge_Design_O gauge_Design_T), (30, specG law47_sign_I law47_sign_O law47_sign_T), (31, specG slices_ContainsFunc_gauge_Tool_gauge_Tool_I slices_ContainsFunc_gauge_Tool_gauge_Tool_O slices_ContainsFunc_gauge_Tool_gauge_Tool_T), (32, specG law47_GaugeLasts_1_I law47_GaugeLasts_1_O law47_GaugeLasts_1_T), (33, specG slices_ContainsFunc_int_int_I slices_ContainsFunc_int_int_O slices_ContainsFunc_int_int_T), (34, specG law47_GaugeLasts_2_I law47_GaugeLasts_2_O law47_GaugeLasts_2_T), (35, specG law47_pins_I law47_pins_O law47_pins_T)], body := [(8, Tryd.f8)], loops := [((8, 14), pieceL law47_GaugeLasts_L14I law47_GaugeLasts_L14O (loopT law47_GaugeLasts_L14S)), ((8, 40), pieceL law47_GaugeLasts_L40I law47_GaugeLasts_L40O (loopT law47_GaugeLasts_L40S))], nimp := 0 }
noncomputable def law47_GaugeLasts_T (ps : List PV) : TR := funcT law47_GaugeLasts_E 8 Tryd.f8 true law47_GaugeLasts_I law47_GaugeLasts_O ps
theorem law47_GaugeLasts_Eok : EnvOK law47_GaugeLasts_E Tryd.prog := ⟨tok_of seat_TTok,
  all_cons law47_few_spec (all_cons law47_awake_spec (all_cons gauge_Safe_spec (all_cons gauge_Loss_spec (all_cons gauge_Made_spec (all_cons gauge_Worn_spec (all_cons gauge_Design_spec (all_cons law47_sign_spec (all_cons slices_ContainsFunc_gauge_Tool_gauge_Tool_spec (all_cons law47_GaugeLasts_1_spec (all_cons slices_ContainsFunc_int_int_spec (all_cons law47_GaugeLasts_2_spec (all_cons law47_pins_spec (all_nil))))))))))))),
  all_cons (loop_ok Tryd.func8 (by kernel_rfl) (by kernel_rfl) law47_GaugeLasts_L14good) (all_cons (loop_ok Tryd.func8 (by kernel_rfl) (by kernel_rfl) law47_GaugeLasts_L40good) (all_nil)),
  all_cons (body_ok Tryd.func8 (by kernel_rfl)) (all_nil)⟩
theorem law47_GaugeLasts_spec : Spec Tryd.prog seat_GL 8 (specG law47_GaugeLasts_I law47_GaugeLasts_O law47_GaugeLasts_T) := spec_of seat_mo law47_GaugeLasts_Eok Tryd.func8 (by kernel_rfl) (by kernel_rfl) (fun _ => rfl)

/-! 36 metrolab/metrolabref44.Ring -/
def ref44_Ring_I : FIn := { args := [(.agg [(.int .i64), (.int .i64), (.int .i64)])], h := [] }
def ref44_Ring_O : List FOut := [{ res := (.int .i64), h := [] }]
noncomputable def ref44_Ring_E : Env := { tt := seat_TT, glob := seat_GL, spec := [(63, specG ref07_Right_I ref07_Right_O ref07_Right_T), (64, specG ref44_size_I ref44_size_O ref44_size_T)], body := [(36, Tryd.f36)], loops := [], nimp := 0 }
noncomputable def ref44_Ring_T (ps : List PV) : TR := funcT ref44_Ring_E 36 Tryd.f36 true ref44_Ring_I ref44_Ring_O ps
theorem ref44_Ring_Eok : EnvOK ref44_Ring_E Tryd.prog := ⟨tok_of seat_TTok,
  all_cons ref07_Right_spec (all_cons ref44_size_spec (all_nil)),
  all_nil,
  all_cons (body_ok Tryd.func36 (by kernel_rfl)) (all_nil)⟩
theorem ref44_Ring_spec : Spec Tryd.prog seat_GL 36 (specG ref44_Ring_I ref44_Ring_O ref44_Ring_T) := spec_of seat_mo ref44_Ring_Eok Tryd.func36 (by kernel_rfl) (by kernel_rfl) (fun _ => rfl)

/-! 75 metrolab/bonus.ring -/
def bonus_ring_I : FIn := { args := [(.agg [(.int .i64), (.int .i64), (.int .i64)])], h := [] }
def bonus_ring_O : List FOut := [{ res := (.int .i64), h := [] }]
noncomputable def bonus_ring_E : Env := { tt := seat_TT, glob := seat_GL, spec := [(72, specG bonus_in_I bonus_in_O bonus_in_T), (73, specG bonus_size_I bonus_size_O bonus_size_T)], body := [(75, Tryd.f75)], loops := [], nimp := 0 }
noncomputable def bonus_ring_T (ps : List PV) : TR := funcT bonus_ring_E 75 Tryd.f75 true bonus_ring_I bonus_ring_O ps
theorem bonus_ring_Eok : EnvOK bonus_ring_E Tryd.prog := ⟨tok_of seat_TTok,
  all_cons bonus_in_spec (all_cons bonus_size_spec (all_nil)),
  all_nil,
  all_cons (body_ok Tryd.func75 (by kernel_rfl)) (all_nil)⟩
theorem bonus_ring_spec : Spec Tryd.prog seat_GL 75 (specG bonus_ring_I bonus_ring_O bonus_ring_T) := spec_of seat_mo bonus_ring_Eok Tryd.func75 (by kernel_rfl) (by kernel_rfl) (fun _ => rfl)

/-! 65 metrolab/bonus.both -/
def bonus_both_I : FIn := { args := [(.agg [(.int .i64), (.int .i64), (.int .i64), (.int .i64), (.int .i64), (.int .i64), .bool]), (.agg [(.int .i64), (.int .i64), (.int .i64)])], h := [] }
def bonus_both_O : List FOut := [{ res := (.int .i64), h := [] }]
noncomputable def bonus_both_E : Env := { tt := seat_TT, glob := seat_GL, spec := [(56, specG bonus_Check_I bonus_Check_O bonus_Check_T), (75, specG bonus_ring_I bonus_ring_O bonus_ring_T)], body := [(65, Tryd.f65)], loops := [], nimp := 0 }
noncomputable def bonus_both_T (ps : List PV) : TR := funcT bonus_both_E 65 Tryd.f65 true bonus_both_I bonus_both_O ps
theorem bonus_both_Eok : EnvOK bonus_both_E Tryd.prog := ⟨tok_of seat_TTok,
  all_cons bonus_Check_spec (all_cons bonus_ring_spec (all_nil)),
  all_nil,
  all_cons (body_ok Tryd.func65 (by kernel_rfl)) (all_nil)⟩
theorem bonus_both_spec : Spec Tryd.prog seat_GL 65 (specG bonus_both_I bonus_both_O bonus_both_T) := spec_of seat_mo bonus_both_Eok Tryd.func65 (by kernel_rfl) (by kernel_rfl) (fun _ => rfl)

/-! 66 metrolab/bonus.gap -/
def bonus_gap_I : FIn := { args := [(.agg [(.int .i64), (.int .i64), (.int .i64), (.int .i64), (.int .i64), (.int .i64), .bool]), (.agg [(.int .i64), (.int .i64), (.int .i64)])], h := [] }
def bonus_gap_O : List FOut := [{ res := (.tuple [(.int .i64), (.int .i64)]), h := [] }]
noncomputable def bonus_gap_E : Env := { tt := seat_TT, glob := seat_GL, spec := [], body := [(66, Tryd.f66)], loops := [], nimp := 0 }
noncomputable def bonus_gap_T (ps : List PV) : TR := funcT bonus_gap_E 66 Tryd.f66 true bonus_gap_I bonus_gap_O ps
theorem bonus_gap_Eok : EnvOK bonus_gap_E Tryd.prog := ⟨tok_of seat_TTok,
  all_nil,
  all_nil,
  all_cons (body_ok Tryd.func66 (by kernel_rfl)) (all_nil)⟩
theorem bonus_gap_spec : Spec Tryd.prog seat_GL 66 (specG bonus_gap_I bonus_gap_O bonus_gap_T) := spec_of seat_mo bonus_gap_Eok Tryd.func66 (by kernel_rfl) (by kernel_rfl) (fun _ => rfl)

/-! 37 metrolab/bonus.Distance -/
def bonus_Distance_I : FIn := { args := [(.agg [(.int .i64), (.int .i64), (.int .i64), (.int .i64), (.int .i64), (.int .i64), .bool]), (.agg [(.int .i64), (.int .i64), (.int .i64)])], h := [] }
def bonus_Distance_O : List FOut := [{ res := (.tuple [(.int .i64), (.int .i64)]), h := [] }]
noncomputable def bonus_Distance_E : Env := { tt := seat_TT, glob := seat_GL, spec := [(65, specG bonus_both_I bonus_both_O bonus_both_T), (66, specG bonus_gap_I bonus_gap_O bonus_gap_T)], body := [(37, Tryd.f37)], loops := [], nimp := 0 }
noncomputable def bonus_Distance_T (ps : List PV) : TR := funcT bonus_Distance_E 37 Tryd.f37 true bonus_Distance_I bonus_Distance_O ps
theorem bonus_Distance_Eok : EnvOK bonus_Distance_E Tryd.prog := ⟨tok_of seat_TTok,
  all_cons bonus_both_spec (all_cons bonus_gap_spec (all_nil)),
  all_nil,
  all_cons (body_ok Tryd.func37 (by kernel_rfl)) (all_nil)⟩
theorem bonus_Distance_spec : Spec Tryd.prog seat_GL 37 (specG bonus_Distance_I bonus_Distance_O bonus_Distance_T) := spec_of seat_mo bonus_Distance_Eok Tryd.func37 (by kernel_rfl) (by kernel_rfl) (fun _ => rfl)

/-! 38 metrolab/metrolabref44.Inside -/
def ref44_Inside_I : FIn := { args := [(.agg [(.int .i64), (.int .i64), (.int .i64), (.int .i64), (.int .i64), (.int .i64), .bool]), (.int .i64)], h := [] }
def ref44_Inside_O : List FOut := [{ res := .bool, h := [] }]
noncomputable def ref44_Inside_E : Env := { tt := seat_TT, glob := seat_GL, spec := [], body := [(38, Tryd.f38)], loops := [], nimp := 0 }
noncomputable def ref44_Inside_T (ps : List PV) : TR := funcT ref44_Inside_E 38 Tryd.f38 true ref44_Inside_I ref44_Inside_O ps
theorem ref44_Inside_Eok : EnvOK ref44_Inside_E Tryd.prog := ⟨tok_of seat_TTok,
  all_nil,
  all_nil,
  all_cons (body_ok Tryd.func38 (by kernel_rfl)) (all_nil)⟩
theorem ref44_Inside_spec : Spec Tryd.prog seat_GL 38 (specG ref44_Inside_I ref44_Inside_O ref44_Inside_T) := spec_of seat_mo ref44_Inside_Eok Tryd.func38 (by kernel_rfl) (by kernel_rfl) (fun _ => rfl)

/-! 76 (metrolab/bonus.condition).extra -/
def bonus_condition_extra_I : FIn := { args := [(.agg [(.int .i64), (.int .i64), (.int .i64), (.int .i64), (.int .i64), (.int .i64), .bool, (.int .i64)]), (.int .i64)], h := [] }
def bonus_condition_extra_O : List FOut := [{ res := (.int .i64), h := [] }]
noncomputable def bonus_condition_extra_E : Env := { tt := seat_TT, glob := seat_GL, spec := [(58, specG bonus_condition_end_I bonus_condition_end_O bonus_condition_end_T)], body := [(76, Tryd.f76)], loops := [], nimp := 0 }
noncomputable def bonus_condition_extra_T (ps : List PV) : TR := funcT bonus_condition_extra_E 76 Tryd.f76 true bonus_condition_extra_I bonus_condition_extra_O ps
theorem bonus_condition_extra_Eok : EnvOK bonus_condition_extra_E Tryd.prog := ⟨tok_of seat_TTok,
  all_cons bonus_condition_end_spec (all_nil),
  all_nil,
  all_cons (body_ok Tryd.func76 (by kernel_rfl)) (all_nil)⟩
theorem bonus_condition_extra_spec : Spec Tryd.prog seat_GL 76 (specG bonus_condition_extra_I bonus_condition_extra_O bonus_condition_extra_T) := spec_of seat_mo bonus_condition_extra_Eok Tryd.func76 (by kernel_rfl) (by kernel_rfl) (fun _ => rfl)

/-! 77 metrolab/bonus.within -/
def bonus_within_I : FIn := { args := [(.agg [(.int .i64), (.int .i64), (.int .i64), (.int .i64), (.int .i64), (.int .i64), .bool]), (.int .i64)], h := [] }
def bonus_within_O : List FOut := [{ res := .bool, h := [] }]
noncomputable def bonus_within_E : Env := { tt := seat_TT, glob := seat_GL, spec := [], body := [(77, Tryd.f77)], loops := [], nimp := 0 }
noncomputable def bonus_within_T (ps : List PV) : TR := funcT bonus_within_E 77 Tryd.f77 true bonus_within_I bonus_within_O ps
theorem bonus_within_Eok : EnvOK bonus_within_E Tryd.prog := ⟨tok_of seat_TTok,
  all_nil,
  all_nil,
  all_cons (body_ok Tryd.func77 (by kernel_rfl)) (all_nil)⟩
theorem bonus_within_spec : Spec Tryd.prog seat_GL 77 (specG bonus_within_I bonus_within_O bonus_within_T) := spec_of seat_mo bonus_within_Eok Tryd.func77 (by kernel_rfl) (by kernel_rfl) (fun _ => rfl)

/-! 67 metrolab/bonus.good -/
def bonus_good_I : FIn := { args := [(.agg [(.int .i64), (.int .i64), (.int .i64), (.int .i64), (.int .i64), (.int .i64), .bool]), (.agg [(.int .i64), (.int .i64), (.int .i64)])], h := [] }
def bonus_good_O : List FOut := [{ res := .bool, h := [] }]
noncomputable def bonus_good_E : Env := { tt := seat_TT, glob := seat_GL, spec := [(57, specG bonus_of_I bonus_of_O bonus_of_T), (66, specG bonus_gap_I bonus_gap_O bonus_gap_T), (76, specG bonus_condition_extra_I bonus_condition_extra_O bonus_condition_extra_T), (77, specG bonus_within_I bonus_within_O bonus_within_T)], body := [(67, Tryd.f67)], loops := [], nimp := 0 }
noncomputable def bonus_good_T (ps : List PV) : TR := funcT bonus_good_E 67 Tryd.f67 true bonus_good_I bonus_good_O ps
theorem bonus_good_Eok : EnvOK bonus_good_E Tryd.prog := ⟨tok_of seat_TTok,
  all_cons bonus_of_spec (all_cons bonus_gap_spec (all_cons bonus_condition_extra_spec (all_cons bonus_within_spec (all_nil)))),
  all_nil,
  all_cons (body_ok Tryd.func67 (by kernel_rfl)) (all_nil)⟩
theorem bonus_good_spec : Spec Tryd.prog seat_GL 67 (specG bonus_good_I bonus_good_O bonus_good_T) := spec_of seat_mo bonus_good_Eok Tryd.func67 (by kernel_rfl) (by kernel_rfl) (fun _ => rfl)

/-! 39 metrolab/bonus.Keeps -/
def bonus_Keeps_I : FIn := { args := [(.agg [(.int .i64), (.int .i64), (.int .i64), (.int .i64), (.int .i64), (.int .i64), .bool]), (.agg [(.int .i64), (.int .i64), (.int .i64)])], h := [] }
def bonus_Keeps_O : List FOut := [{ res := (.tuple [.bool, (.int .i64)]), h := [] }]
noncomputable def bonus_Keeps_E : Env := { tt := seat_TT, glob := seat_GL, spec := [(65, specG bonus_both_I bonus_both_O bonus_both_T), (67, specG bonus_good_I bonus_good_O bonus_good_T)], body := [(39, Tryd.f39)], loops := [], nimp := 0 }
noncomputable def bonus_Keeps_T (ps : List PV) : TR := funcT bonus_Keeps_E 39 Tryd.f39 true bonus_Keeps_I bonus_Keeps_O ps
theorem bonus_Keeps_Eok : EnvOK bonus_Keeps_E Tryd.prog := ⟨tok_of seat_TTok,
  all_cons bonus_both_spec (all_cons bonus_good_spec (all_nil)),
  all_nil,
  all_cons (body_ok Tryd.func39 (by kernel_rfl)) (all_nil)⟩
theorem bonus_Keeps_spec : Spec Tryd.prog seat_GL 39 (specG bonus_Keeps_I bonus_Keeps_O bonus_Keeps_T) := spec_of seat_mo bonus_Keeps_Eok Tryd.func39 (by kernel_rfl) (by kernel_rfl) (fun _ => rfl)

/-! 9 metrolab/metrolablaw47.GaugeKeeps -/
def law47_GaugeKeeps_I : FIn := { args := [(.imm [(.int .i64), (.int .i64), (.int .i64), (.int .i64), (.int .i64), (.int .i64), .bool]), (.agg [(.int .i64), (.int .i64)]), (.agg [(.int .i64), (.int .i64), (.int .i64)])], h := [] }
def law47_GaugeKeeps_O : List FOut := [{ res := .bool, h := [] }]
def law47_GaugeKeeps_L20I : Tmpl := { t := [(.imm [(.int .i64), (.int .i64), (.int .i64), (.int .i64), (.int .i64), (.int .i64), .bool]), .any, .any, .any, .any, (.ptr 1 0), .any, (.imm [(.int .i64), (.int .i64), .bool, (.int .i64), (.int .i64)]), .any, .any, .any, .any, .any, .any, .any, .any, .any, .any, .any, .any, .any, .any, .any, .any, .any, .any, .any, .any, .any, .any, .any, .any, .any, .any, .any, .any, .any, .any, (.vec 2), (.int .i64), (.int .i64), .any, .any, .any, .any, .any, .any, .any, .any, .any, .any, .any, .any, .any, .any, .any, .any, .any, .any, (.vec 4), (.int .i64), (.int .i64), .any, .any, .any, .any, .any, .any, .any, .any, .any, .any, .any, .any, .any, .any, .any, .any, .any, .any, .any, .any, .any, .any, .any, .any, .any, .any, .any, .any, .any, .any, .any, .any, .any, .any, .any, .any, .any, .any, .any, .any, .any, .any, .any, .any, .any, .any, .any, .any, .any, .any, .any, .any, .any, .any, .any, .any, .any, .any, .any, .any, .any, .any, .any, .any, .any], h := [.dead, .cells [(.int .i64), (.int .i64), (.int .i64)], .vec 4 [.bool], .dead, .vec 75 [(.int .i64), (.int .i64), .bool, (.int .i64)]] }
def law47_GaugeKeeps_L20O : List Out := [{ x := (.exit 2), tm := { t := [(.imm [(.int .i64), (.int .i64), (.int .i64), (.int .i64), (.int .i64), (.int .i64), .bool]), .any, .any, .any, .any, (.ptr 1 0), .any, (.imm [(.int .i64), (.int .i64), .bool, (.int .i64), (.int .i64)]), .any, .any, .any, .any, .any, .any, .any, .any, .any, .any, .any, .any, .any, .any, .any, .any, .any, .any, .any, .any, .any, .any, .any, .any, .any, .any, .any, .any, .any, .any, (.vec 2), (.int .i64), (.int .i64), .any, .any, .any, .any, .any, .any, .any, .any, .any, .any, .any, .any, .any, .any, .any, .any, .any, .any, .any, .any, .any, .any, .any, .any, .any, .any, .any, .any, .any, .any, .any, .any, .any, .any, .any, .any, .any, .any, .any, .any, .any, .any, .any, .any, .any, .any, .any, .any, .any, .any, .any, .any, .any, .any, .any, .any, .any, .any, .any, .any, .any, .any, .any, .any, .any, .any, .any, .any, .any, .any, .any, .any, .any, .any, .any, .any, .any, .any, .any, .any, .any, .any, .any, .any, .any, .any], h := [.dead, .cells [(.int .i64), (.int .i64), (.int .i64)], .vec 4 [.bool]] } }, { x := .ret, tm := { t := [.any, .any, .any, .any, .any, .any, .bool, .any, .any, .any, .any, .any, .any, .any, .any, .any, .any, .any, .any, .any, .any, .any, .any, .any, .any, .any, .any, .any, .any, .any, .any, .any, .any, .any, .any, .any, .any, .any, .any, .any, .any, .any, .any, .any, .any, .any, .any, .any, .any, .any, .any, .any, .any, .any, .any, .any, .any, .any, .any, .any, .any, .any, .any, .any, .any, .any, .any, .any, .any, .any, .any, .any, .any, .any, .any, .any, .any, .any, .any, .any, .any, .any, .any, .any, .any, .any, .any, .any, .any, .any, .any, .any, .any, .any, .any, .any, .any, .any, .any, .any, .any, .any, .any, .any, .any, .any, .any, .any, .any, .any, .any, .any, .any, .any, .any, .any, .any, .any, .any, .any, .any, .any, .any, .any, .any, .any, .any], h := [] } }]
noncomputable def law47_GaugeKeeps_L20E : Env := { tt := seat_TT, glob := seat_GL, spec := [(10, specG law47_few_I law47_few_O law47_few_T), (11, specG law47_awake_I law47_awake_O law47_awake_T), (17, specG gauge_Made_I gauge_Made_O gauge_Made_T), (24, specG gauge_Design_I gauge_Design_O gauge_Design_T), (36, specG ref44_Ring_I ref44_Ring_O ref44_Ring_T), (37, specG bonus_Distance_I bonus_Distance_O bonus_Distance_T), (38, specG ref44_Inside_I ref44_Inside_O ref44_Inside_T), (39, specG bonus_Keeps_I bonus_Keeps_O bonus_Keeps_T)], body := [(9, Tryd.f9)], loops := [], nimp := 0 }
noncomputable def law47_GaugeKeeps_L20S (ps : List PV) : TR := stepT law47_GaugeKeeps_L20E 9 Tryd.f9 20 law47_GaugeKeeps_L20I law47_GaugeKeeps_L20O ps
theorem law47_GaugeKeeps_L20Eok : EnvOK law47_GaugeKeeps_L20E Tryd.prog := ⟨tok_of seat_TTok,
  all_cons law47_few_spec (all_cons law47_awake_spec (all_cons gauge_Made_spec (all_cons gauge_Design_spec (all_cons ref44_Ring_spec (all_cons bonus_Distance_spec (all_cons ref44_Inside_spec (all_cons bonus_Keeps_spec (all_nil)))))))),
  all_nil,
  all_cons (body_ok Tryd.func9 (by kernel_rfl)) (all_nil)⟩
theorem law47_GaugeKeeps_L20good : LoopGood Tryd.prog seat_GL law47_GaugeKeeps_L20E.nimp (nodeC Tryd.f9 20) (pieceL law47_GaugeKeeps_L20I law47_GaugeKeeps_L20O (loopT law47_GaugeKeeps_L20S)) :=
  loopGood_of seat_mo law47_GaugeKeeps_L20Eok Tryd.func9 (by kernel_rfl) (by kernel_rfl) (by kernel_rfl) (fun _ => rfl)
def law47_GaugeKeeps_L10I : Tmpl := { t := [(.imm [(.int .i64), (.int .i64), (.int .i64), (.int .i64), (.int .i64), (.int .i64), .bool]), .any, .any, .any, .any, (.ptr 1 0), .any, (.imm [(.int .i64), (.int .i64), .bool, (.int .i64), (.int .i64)]), .any, .any, .any, .any, .any, .any, .any, .any, .any, .any, .any, .any, .any, .any, .any, .any, .any, .any, .any, .any, .any, .any, .any, .any, .any, .any, .any, .any, .any, .any, (.vec 2), (.int .i64), (.int .i64), .any, .any, .any, .any, .any, .any, .any, .any, .any, .any, .any, .any, .any, .any, .any, .any, .any, .any, .any, .any, .any, .any, .any, .any, .any, .any, .any, .any, .any, .any, .any, .any, .any, .any, .any, .any, .any, .any, .any, .any, .any, .any, .any, .any, .any, .any, .any, .any, .any, .any, .any, .any, .any, .any, .any, .any, .any, .any, .any, .any, .any, .any, .any, .any, .any, .any, .any, .any, .any, .any, .any, .any, .any, .any, .any, .any, .any, .any, .any, .any, .any, .any, .any, .any, .any, .any], h := [.dead, .cells [(.int .i64), (.int .i64), (.int .i64)], .vec 4 [.bool]] }
def law47_GaugeKeeps_L10O : List Out := [{ x := (.exit 0), tm := { t := [.any, .any, .any, .any, .any, .any, .any, .any, .any, .any, .any, .any, .any, .any, .any, .any, .any, .any, .any, .any, .any, .any, .any, .any, .any, .any, .any, .any, .any, .any, .any, .any, .any, .any, .any, .any, .any, .any, .any, .any, .any, .any, .any, .any, .any, .any, .any, .any, .any, .any, .any, .any, .any, .any, .any, .any, .any, .any, .any, .any, .any, .any, .any, .any, .any, .any, .any, .any, .any, .any, .any, .any, .any, .any, .any, .any, .any, .any, .any, .any, .any, .any, .any, .any, .any, .any, .any, .any, .any, .any, .any, .any, .any, .any, .any, .any, .any, .any, .any, .any, .any, .any, .any, .any, .any, .any, .any, .any, .any, .any, .any, .any, .any, .any, .any, .any, .any, .any, .any, .any, .any, .any, .any, .any, .any, .any, .any], h := [] } }, { x := .ret, tm := { t := [.any, .any, .any, .any, .any, .any, .bool, .any, .any, .any, .any, .any, .any, .any, .any, .any, .any, .any, .any, .any, .any, .any, .any, .any, .any, .any, .any, .any, .any, .any, .any, .any, .any, .any, .any, .any, .any, .any, .any, .any, .any, .any, .any, .any, .any, .any, .any, .any, .any, .any, .any, .any, .any, .any, .any, .any, .any, .any, .any, .any, .any, .any, .any, .any, .any, .any, .any, .any, .any, .any, .any, .any, .any, .any, .any, .any, .any, .any, .any, .any, .any, .any, .any, .any, .any, .any, .any, .any, .any, .any, .any, .any, .any, .any, .any, .any, .any, .any, .any, .any, .any, .any, .any, .any, .any, .any, .any, .any, .any, .any, .any, .any, .any, .any, .any, .any, .any, .any, .any, .any, .any, .any, .any, .any, .any, .any, .any], h := [] } }]
noncomputable def law47_GaugeKeeps_L10E : Env := { tt := seat_TT, glob := seat_GL, spec := [(10, specG law47_few_I law47_few_O law47_few_T), (11, specG law47_awake_I law47_awake_O law47_awake_T), (17, specG gauge_Made_I gauge_Made_O gauge_Made_T), (24, specG gauge_Design_I gauge_Design_O gauge_Design_T), (36, specG ref44_Ring_I ref44_Ring_O ref44_Ring_T), (37, specG bonus_Distance_I bonus_Distance_O bonus_Distance_T), (38, specG ref44_Inside_I ref44_Inside_O ref44_Inside_T), (39, specG bonus_Keeps_I bonus_Keeps_O bonus_Keeps_T)], body := [(9, Tryd.f9)], loops := [((9, 20), pieceL law47_GaugeKeeps_L20I law47_GaugeKeeps_L20O (loopT law47_GaugeKeeps_L20S))], nimp := 0 }
noncomputable def law47_GaugeKeeps_L10S (ps : List PV) : TR := stepT law47_GaugeKeeps_L10E 9 Tryd.f9 10 law47_GaugeKeeps_L10I law47_GaugeKeeps_L10O ps
theorem law47_GaugeKeeps_L10Eok : EnvOK law47_GaugeKeeps_L10E Tryd.prog := ⟨tok_of seat_TTok,
  all_cons law47_few_spec (all_cons law47_awake_spec (all_cons gauge_Made_spec (all_cons gauge_Design_spec (all_cons ref44_Ring_spec (all_cons bonus_Distance_spec (all_cons ref44_Inside_spec (all_cons bonus_Keeps_spec (all_nil)))))))),
  all_cons (loop_ok Tryd.func9 (by kernel_rfl) (by kernel_rfl) law47_GaugeKeeps_L20good) (all_nil),
  all_cons (body_ok Tryd.func9 (by kernel_rfl)) (all_nil)⟩
theorem law47_GaugeKeeps_L10good : LoopGood Tryd.prog seat_GL law47_GaugeKeeps_L10E.nimp (nodeC Tryd.f9 10) (pieceL law47_GaugeKeeps_L10I law47_GaugeKeeps_L10O (loopT law47_GaugeKeeps_L10S)) :=
  loopGood_of seat_mo law47_GaugeKeeps_L10Eok Tryd.func9 (by kernel_rfl) (by kernel_rfl) (by kernel_rfl) (fun _ => rfl)
noncomputable def law47_GaugeKeeps_E : Env := { tt := seat_TT, glob := seat_GL, spec := [(10, specG law47_few_I law47_few_O law47_few_T), (11, specG law47_awake_I law47_awake_O law47_awake_T), (17, specG gauge_Made_I gauge_Made_O gauge_Made_T), (24, specG gauge_Design_I gauge_Design_O gauge_Design_T), (36, specG ref44_Ring_I ref44_Ring_O ref44_Ring_T), (37, specG bonus_Distance_I bonus_Distance_O bonus_Distance_T), (38, specG ref44_Inside_I ref44_Inside_O ref44_Inside_T), (39, specG bonus_Keeps_I bonus_Keeps_O bonus_Keeps_T)], body := [(9, Tryd.f9)], loops := [((9, 10), pieceL law47_GaugeKeeps_L10I law47_GaugeKeeps_L10O (loopT law47_GaugeKeeps_L10S))], nimp := 0 }
noncomputable def law47_GaugeKeeps_T (ps : List PV) : TR := funcT law47_GaugeKeeps_E 9 Tryd.f9 true law47_GaugeKeeps_I law47_GaugeKeeps_O ps
theorem law47_GaugeKeeps_Eok : EnvOK law47_GaugeKeeps_E Tryd.prog := ⟨tok_of seat_TTok,
  all_cons law47_few_spec (all_cons law47_awake_spec (all_cons gauge_Made_spec (all_cons gauge_Design_spec (all_cons ref44_Ring_spec (all_cons bonus_Distance_spec (all_cons ref44_Inside_spec (all_cons bonus_Keeps_spec (all_nil)))))))),
  all_cons (loop_ok Tryd.func9 (by kernel_rfl) (by kernel_rfl) law47_GaugeKeeps_L10good) (all_nil),
  all_cons (body_ok Tryd.func9 (by kernel_rfl)) (all_nil)⟩
theorem law47_GaugeKeeps_spec : Spec Tryd.prog seat_GL 9 (specG law47_GaugeKeeps_I law47_GaugeKeeps_O law47_GaugeKeeps_T) := spec_of seat_mo law47_GaugeKeeps_Eok Tryd.func9 (by kernel_rfl) (by kernel_rfl) (fun _ => rfl)
end Go.Eng
