/- Contracts of the functions, printed by gen.py and emit.py. -/
import Derived.Test.YtoemfkkeojmgkaaDoorEngW
import Derived.KernelRfl
import Derived.Test.YtoemfkkeojmgkaaDoorProg
namespace Go.Eng
open Go.Proofs
noncomputable def seat_TT : List (TypeId × TI) := [(1, (.mk .func 1 [.nilFunc] 8 false false)), (2, (.mk (.int .i64) 1 [(.int .i64 0)] 8 false false)), (3, (.mk (.int .i64) 1 [(.int .i64 0)] 8 false false)), (4, (.mk .bool 1 [(.bool false)] 1 false false)), (5, (.mk (.int .u8) 1 [(.int .u8 0)] 1 false false)), (6, (.mk (.int .u8) 1 [(.int .u8 0)] 1 false false)), (7, (.mk (.struct [(0, (2, 1)), (1, (3, 1)), (2, (4, 1)), (3, (6, 1))]) 4 [(.int .i64 0), (.int .i64 0), (.bool false), (.int .u8 0)] 24 true true)), (8, (.mk (.struct [(0, (2, 1)), (1, (3, 1)), (2, (4, 1)), (3, (6, 1))]) 4 [(.int .i64 0), (.int .i64 0), (.bool false), (.int .u8 0)] 24 true true)), (9, (.mk .str 1 [(.string (.mk (.mk [])))] 16 false false)), (12, (.mk (.int .u64) 1 [(.int .u64 0)] 8 false false)), (16, (.mk (.ptr 87) 1 [(.pointer .none)] 8 false false)), (23, (.mk (.struct [(0, (3, 1)), (1, (3, 1))]) 2 [(.int .i64 0), (.int .i64 0)] 16 true true)), (25, (.mk (.struct [(0, (3, 1)), (1, (3, 1))]) 2 [(.int .i64 0), (.int .i64 0)] 16 true true)), (27, (.mk (.struct [(0, (23, 2)), (2, (25, 2)), (4, (3, 1)), (5, (3, 1)), (6, (4, 1))]) 7 [(.int .i64 0), (.int .i64 0), (.int .i64 0), (.int .i64 0), (.int .i64 0), (.int .i64 0), (.bool false)] 56 true true)), (28, (.mk (.int .i64) 1 [(.int .i64 0)] 8 false false)), (32, (.mk .func 1 [.nilFunc] 8 false false)), (40, (.mk (.int .u16) 1 [(.int .u16 0)] 2 false false)), (43, (.mk (.struct [(0, (23, 2)), (2, (3, 1))]) 3 [(.int .i64 0), (.int .i64 0), (.int .i64 0)] 24 true true)), (44, (.mk (.int .i16) 1 [(.int .i16 0)] 2 false false)), (45, (.mk (.array 2 44 1) 2 [(.int .i16 0), (.int .i16 0)] 4 false false)), (56, (.mk (.slice 27 7) 1 [(.slice .none 0 0)] 24 false false)), (57, (.mk (.slice 43 3) 1 [(.slice .none 0 0)] 24 false false)), (59, (.mk (.slice 3 1) 1 [(.slice .none 0 0)] 24 false false)), (68, (.mk (.struct [(0, (27, 7)), (7, (3, 1))]) 8 [(.int .i64 0), (.int .i64 0), (.int .i64 0), (.int .i64 0), (.int .i64 0), (.int .i64 0), (.bool false), (.int .i64 0)] 64 true true)), (79, (.mk (.array 3 3 1) 3 [(.int .i64 0), (.int .i64 0), (.int .i64 0)] 24 false false)), (80, (.mk (.array 2 79 3) 6 [(.int .i64 0), (.int .i64 0), (.int .i64 0), (.int .i64 0), (.int .i64 0), (.int .i64 0)] 48 false false)), (85, (.mk (.array 0 16 1) 0 [] 0 false false)), (87, (.mk (.struct [(0, (85, 0))]) 0 [] 0 false true)), (89, (.mk (.int .u32) 1 [(.int .u32 0)] 4 false false)), (90, (.mk (.int .u8) 1 [(.int .u8 0)] 1 false false)), (91, (.mk (.int .u8) 1 [(.int .u8 0)] 1 false false)), (92, (.mk .func 1 [.nilFunc] 8 false false)), (93, (.mk (.ptr 5) 1 [(.pointer .none)] 8 false false)), (94, (.mk (.int .i32) 1 [(.int .i32 0)] 4 false false)), (95, (.mk (.int .i32) 1 [(.int .i32 0)] 4 false false)), (96, (.mk (.struct [(0, (12, 1)), (1, (12, 1)), (2, (89, 1)), (3, (90, 1)), (4, (5, 1)), (5, (5, 1)), (6, (91, 1)), (7, (92, 1)), (8, (93, 1)), (9, (94, 1)), (10, (95, 1))]) 11 [(.int .u64 0), (.int .u64 0), (.int .u32 0), (.int .u8 0), (.int .u8 0), (.int .u8 0), (.int .u8 0), .nilFunc, (.pointer .none), (.int .i32 0), (.int .i32 0)] 48 false true))]
noncomputable def seat_GL : List (Nat × AV) := [(0, (.eptr [.int .i64, .int .i64, .int .i64, .int .i64, .int .i64, .int .i64] [[.i (-1), .i (-1), .i 1, .i 1, .i 1, .i (-1)]] 0 0))]
theorem seat_TTok : seat_TT.map (fun x => mkTI Tryd.prog x.1) = seat_TT.map (·.2) := by kernel_rfl
theorem seat_mo : Tryd.prog.follows .mixedOrders = true := by kernel_rfl

/-! 39 metrolab/bonus.in -/
def bonus_in_I : FIn := { args := [(.int .i64)], h := [] }
def bonus_in_O : List FOut := [{ res := .bool, h := [] }]
noncomputable def bonus_in_E : Env := { tt := seat_TT, glob := seat_GL, spec := [], body := [(39, Tryd.f39)], loops := [], nimp := 0 }
noncomputable def bonus_in_T (ps : List PV) : TR := funcT bonus_in_E 39 Tryd.f39 true bonus_in_I bonus_in_O ps
theorem bonus_in_Eok : EnvOK bonus_in_E Tryd.prog := ⟨tok_of seat_TTok,
  all_nil,
  all_nil,
  all_cons (body_ok Tryd.func39 (by kernel_rfl)) (all_nil)⟩
theorem bonus_in_spec : Spec Tryd.prog seat_GL 39 (specG bonus_in_I bonus_in_O bonus_in_T) := spec_of seat_mo bonus_in_Eok Tryd.func39 (by kernel_rfl) (by kernel_rfl) (fun _ => rfl)

/-! 40 metrolab/bonus.size -/
def bonus_size_I : FIn := { args := [(.int .i64)], h := [] }
def bonus_size_O : List FOut := [{ res := .bool, h := [] }]
noncomputable def bonus_size_E : Env := { tt := seat_TT, glob := seat_GL, spec := [], body := [(40, Tryd.f40)], loops := [], nimp := 0 }
noncomputable def bonus_size_T (ps : List PV) : TR := funcT bonus_size_E 40 Tryd.f40 true bonus_size_I bonus_size_O ps
theorem bonus_size_Eok : EnvOK bonus_size_E Tryd.prog := ⟨tok_of seat_TTok,
  all_nil,
  all_nil,
  all_cons (body_ok Tryd.func40 (by kernel_rfl)) (all_nil)⟩
theorem bonus_size_spec : Spec Tryd.prog seat_GL 40 (specG bonus_size_I bonus_size_O bonus_size_T) := spec_of seat_mo bonus_size_Eok Tryd.func40 (by kernel_rfl) (by kernel_rfl) (fun _ => rfl)

/-! 15 metrolab/bonus.Check -/
def bonus_Check_I : FIn := { args := [(.agg [(.int .i64), (.int .i64), (.int .i64), (.int .i64), (.int .i64), (.int .i64), .bool])], h := [] }
def bonus_Check_O : List FOut := [{ res := (.int .i64), h := [] }]
noncomputable def bonus_Check_E : Env := { tt := seat_TT, glob := seat_GL, spec := [(39, specG bonus_in_I bonus_in_O bonus_in_T), (40, specG bonus_size_I bonus_size_O bonus_size_T)], body := [(15, Tryd.f15)], loops := [], nimp := 0 }
noncomputable def bonus_Check_T (ps : List PV) : TR := funcT bonus_Check_E 15 Tryd.f15 true bonus_Check_I bonus_Check_O ps
theorem bonus_Check_Eok : EnvOK bonus_Check_E Tryd.prog := ⟨tok_of seat_TTok,
  all_cons bonus_in_spec (all_cons bonus_size_spec (all_nil)),
  all_nil,
  all_cons (body_ok Tryd.func15 (by kernel_rfl)) (all_nil)⟩
theorem bonus_Check_spec : Spec Tryd.prog seat_GL 15 (specG bonus_Check_I bonus_Check_O bonus_Check_T) := spec_of seat_mo bonus_Check_Eok Tryd.func15 (by kernel_rfl) (by kernel_rfl) (fun _ => rfl)

/-! 35 metrolab/bonus.of -/
def bonus_of_I : FIn := { args := [(.agg [(.int .i64), (.int .i64), (.int .i64), (.int .i64), (.int .i64), (.int .i64), .bool])], h := [] }
def bonus_of_O : List FOut := [{ res := (.agg [(.int .i64), (.int .i64), (.int .i64), (.int .i64), (.int .i64), (.int .i64), .bool, (.int .i64)]), h := [] }]
noncomputable def bonus_of_E : Env := { tt := seat_TT, glob := seat_GL, spec := [], body := [(35, Tryd.f35)], loops := [], nimp := 0 }
noncomputable def bonus_of_T (ps : List PV) : TR := funcT bonus_of_E 35 Tryd.f35 true bonus_of_I bonus_of_O ps
theorem bonus_of_Eok : EnvOK bonus_of_E Tryd.prog := ⟨tok_of seat_TTok,
  all_nil,
  all_nil,
  all_cons (body_ok Tryd.func35 (by kernel_rfl)) (all_nil)⟩
theorem bonus_of_spec : Spec Tryd.prog seat_GL 35 (specG bonus_of_I bonus_of_O bonus_of_T) := spec_of seat_mo bonus_of_Eok Tryd.func35 (by kernel_rfl) (by kernel_rfl) (fun _ => rfl)

/-! 36 (metrolab/bonus.condition).end -/
def bonus_condition_end_I : FIn := { args := [(.agg [(.int .i64), (.int .i64), (.int .i64), (.int .i64), (.int .i64), (.int .i64), .bool, (.int .i64)]), (.int .i64)], h := [] }
def bonus_condition_end_O : List FOut := [{ res := (.int .i64), h := [] }]
noncomputable def bonus_condition_end_E : Env := { tt := seat_TT, glob := seat_GL, spec := [], body := [(36, Tryd.f36)], loops := [], nimp := 0 }
noncomputable def bonus_condition_end_T (ps : List PV) : TR := funcT bonus_condition_end_E 36 Tryd.f36 true bonus_condition_end_I bonus_condition_end_O ps
theorem bonus_condition_end_Eok : EnvOK bonus_condition_end_E Tryd.prog := ⟨tok_of seat_TTok,
  all_nil,
  all_nil,
  all_cons (body_ok Tryd.func36 (by kernel_rfl)) (all_nil)⟩
theorem bonus_condition_end_spec : Spec Tryd.prog seat_GL 36 (specG bonus_condition_end_I bonus_condition_end_O bonus_condition_end_T) := spec_of seat_mo bonus_condition_end_Eok Tryd.func36 (by kernel_rfl) (by kernel_rfl) (fun _ => rfl)

/-! 11 metrolab/bonus.Virtual -/
def bonus_Virtual_I : FIn := { args := [(.agg [(.int .i64), (.int .i64), (.int .i64), (.int .i64), (.int .i64), (.int .i64), .bool])], h := [] }
def bonus_Virtual_O : List FOut := [{ res := (.tuple [(.int .i64), (.int .i64)]), h := [] }]
noncomputable def bonus_Virtual_E : Env := { tt := seat_TT, glob := seat_GL, spec := [(15, specG bonus_Check_I bonus_Check_O bonus_Check_T), (35, specG bonus_of_I bonus_of_O bonus_of_T), (36, specG bonus_condition_end_I bonus_condition_end_O bonus_condition_end_T)], body := [(11, Tryd.f11)], loops := [], nimp := 0 }
noncomputable def bonus_Virtual_T (ps : List PV) : TR := funcT bonus_Virtual_E 11 Tryd.f11 true bonus_Virtual_I bonus_Virtual_O ps
theorem bonus_Virtual_Eok : EnvOK bonus_Virtual_E Tryd.prog := ⟨tok_of seat_TTok,
  all_cons bonus_Check_spec (all_cons bonus_of_spec (all_cons bonus_condition_end_spec (all_nil))),
  all_nil,
  all_cons (body_ok Tryd.func11 (by kernel_rfl)) (all_nil)⟩
theorem bonus_Virtual_spec : Spec Tryd.prog seat_GL 11 (specG bonus_Virtual_I bonus_Virtual_O bonus_Virtual_T) := spec_of seat_mo bonus_Virtual_Eok Tryd.func11 (by kernel_rfl) (by kernel_rfl) (fun _ => rfl)

/-! 56 metrolab/metrolabref07.in -/
def ref07_in_I : FIn := { args := [(.int .i64)], h := [] }
def ref07_in_O : List FOut := [{ res := .bool, h := [] }]
noncomputable def ref07_in_E : Env := { tt := seat_TT, glob := seat_GL, spec := [], body := [(56, Tryd.f56)], loops := [], nimp := 0 }
noncomputable def ref07_in_T (ps : List PV) : TR := funcT ref07_in_E 56 Tryd.f56 true ref07_in_I ref07_in_O ps
theorem ref07_in_Eok : EnvOK ref07_in_E Tryd.prog := ⟨tok_of seat_TTok,
  all_nil,
  all_nil,
  all_cons (body_ok Tryd.func56 (by kernel_rfl)) (all_nil)⟩
theorem ref07_in_spec : Spec Tryd.prog seat_GL 56 (specG ref07_in_I ref07_in_O ref07_in_T) := spec_of seat_mo ref07_in_Eok Tryd.func56 (by kernel_rfl) (by kernel_rfl) (fun _ => rfl)

/-! 41 metrolab/metrolabref07.Right -/
def ref07_Right_I : FIn := { args := [(.agg [(.int .i64), (.int .i64)])], h := [] }
def ref07_Right_O : List FOut := [{ res := .bool, h := [] }]
noncomputable def ref07_Right_E : Env := { tt := seat_TT, glob := seat_GL, spec := [(56, specG ref07_in_I ref07_in_O ref07_in_T)], body := [(41, Tryd.f41)], loops := [], nimp := 0 }
noncomputable def ref07_Right_T (ps : List PV) : TR := funcT ref07_Right_E 41 Tryd.f41 true ref07_Right_I ref07_Right_O ps
theorem ref07_Right_Eok : EnvOK ref07_Right_E Tryd.prog := ⟨tok_of seat_TTok,
  all_cons ref07_in_spec (all_nil),
  all_nil,
  all_cons (body_ok Tryd.func41 (by kernel_rfl)) (all_nil)⟩
theorem ref07_Right_spec : Spec Tryd.prog seat_GL 41 (specG ref07_Right_I ref07_Right_O ref07_Right_T) := spec_of seat_mo ref07_Right_Eok Tryd.func41 (by kernel_rfl) (by kernel_rfl) (fun _ => rfl)

/-! 42 metrolab/metrolabref44.size -/
def ref44_size_I : FIn := { args := [(.int .i64)], h := [] }
def ref44_size_O : List FOut := [{ res := .bool, h := [] }]
noncomputable def ref44_size_E : Env := { tt := seat_TT, glob := seat_GL, spec := [], body := [(42, Tryd.f42)], loops := [], nimp := 0 }
noncomputable def ref44_size_T (ps : List PV) : TR := funcT ref44_size_E 42 Tryd.f42 true ref44_size_I ref44_size_O ps
theorem ref44_size_Eok : EnvOK ref44_size_E Tryd.prog := ⟨tok_of seat_TTok,
  all_nil,
  all_nil,
  all_cons (body_ok Tryd.func42 (by kernel_rfl)) (all_nil)⟩
theorem ref44_size_spec : Spec Tryd.prog seat_GL 42 (specG ref44_size_I ref44_size_O ref44_size_T) := spec_of seat_mo ref44_size_Eok Tryd.func42 (by kernel_rfl) (by kernel_rfl) (fun _ => rfl)

/-! 16 metrolab/metrolabref44.Check -/
def ref44_Check_I : FIn := { args := [(.agg [(.int .i64), (.int .i64), (.int .i64), (.int .i64), (.int .i64), (.int .i64), .bool])], h := [] }
def ref44_Check_O : List FOut := [{ res := (.int .i64), h := [] }]
noncomputable def ref44_Check_E : Env := { tt := seat_TT, glob := seat_GL, spec := [(41, specG ref07_Right_I ref07_Right_O ref07_Right_T), (42, specG ref44_size_I ref44_size_O ref44_size_T)], body := [(16, Tryd.f16)], loops := [], nimp := 0 }
noncomputable def ref44_Check_T (ps : List PV) : TR := funcT ref44_Check_E 16 Tryd.f16 true ref44_Check_I ref44_Check_O ps
theorem ref44_Check_Eok : EnvOK ref44_Check_E Tryd.prog := ⟨tok_of seat_TTok,
  all_cons ref07_Right_spec (all_cons ref44_size_spec (all_nil)),
  all_nil,
  all_cons (body_ok Tryd.func16 (by kernel_rfl)) (all_nil)⟩
theorem ref44_Check_spec : Spec Tryd.prog seat_GL 16 (specG ref44_Check_I ref44_Check_O ref44_Check_T) := spec_of seat_mo ref44_Check_Eok Tryd.func16 (by kernel_rfl) (by kernel_rfl) (fun _ => rfl)

/-! 37 metrolab/metrolabref44.Gauge -/
def ref44_Gauge_I : FIn := { args := [(.agg [(.int .i64), (.int .i64), (.int .i64), (.int .i64), (.int .i64), (.int .i64), .bool])], h := [] }
def ref44_Gauge_O : List FOut := [{ res := (.int .i64), h := [] }]
noncomputable def ref44_Gauge_E : Env := { tt := seat_TT, glob := seat_GL, spec := [], body := [(37, Tryd.f37)], loops := [], nimp := 0 }
noncomputable def ref44_Gauge_T (ps : List PV) : TR := funcT ref44_Gauge_E 37 Tryd.f37 true ref44_Gauge_I ref44_Gauge_O ps
theorem ref44_Gauge_Eok : EnvOK ref44_Gauge_E Tryd.prog := ⟨tok_of seat_TTok,
  all_nil,
  all_nil,
  all_cons (body_ok Tryd.func37 (by kernel_rfl)) (all_nil)⟩
theorem ref44_Gauge_spec : Spec Tryd.prog seat_GL 37 (specG ref44_Gauge_I ref44_Gauge_O ref44_Gauge_T) := spec_of seat_mo ref44_Gauge_Eok Tryd.func37 (by kernel_rfl) (by kernel_rfl) (fun _ => rfl)

/-! 12 metrolab/metrolabref44.Virtual -/
def ref44_Virtual_I : FIn := { args := [(.agg [(.int .i64), (.int .i64), (.int .i64), (.int .i64), (.int .i64), (.int .i64), .bool])], h := [] }
def ref44_Virtual_O : List FOut := [{ res := (.tuple [(.int .i64), (.int .i64)]), h := [] }]
noncomputable def ref44_Virtual_E : Env := { tt := seat_TT, glob := seat_GL, spec := [(16, specG ref44_Check_I ref44_Check_O ref44_Check_T), (37, specG ref44_Gauge_I ref44_Gauge_O ref44_Gauge_T)], body := [(12, Tryd.f12)], loops := [], nimp := 0 }
noncomputable def ref44_Virtual_T (ps : List PV) : TR := funcT ref44_Virtual_E 12 Tryd.f12 true ref44_Virtual_I ref44_Virtual_O ps
theorem ref44_Virtual_Eok : EnvOK ref44_Virtual_E Tryd.prog := ⟨tok_of seat_TTok,
  all_cons ref44_Check_spec (all_cons ref44_Gauge_spec (all_nil)),
  all_nil,
  all_cons (body_ok Tryd.func12 (by kernel_rfl)) (all_nil)⟩
theorem ref44_Virtual_spec : Spec Tryd.prog seat_GL 12 (specG ref44_Virtual_I ref44_Virtual_O ref44_Virtual_T) := spec_of seat_mo ref44_Virtual_Eok Tryd.func12 (by kernel_rfl) (by kernel_rfl) (fun _ => rfl)

/-! 13 metrolab/bonus.Resultant -/
def bonus_Resultant_I : FIn := { args := [(.agg [(.int .i64), (.int .i64), (.int .i64), (.int .i64), (.int .i64), (.int .i64), .bool])], h := [] }
def bonus_Resultant_O : List FOut := [{ res := (.tuple [(.int .i64), (.int .i64)]), h := [] }]
noncomputable def bonus_Resultant_E : Env := { tt := seat_TT, glob := seat_GL, spec := [(15, specG bonus_Check_I bonus_Check_O bonus_Check_T), (35, specG bonus_of_I bonus_of_O bonus_of_T), (36, specG bonus_condition_end_I bonus_condition_end_O bonus_condition_end_T)], body := [(13, Tryd.f13)], loops := [], nimp := 0 }
noncomputable def bonus_Resultant_T (ps : List PV) : TR := funcT bonus_Resultant_E 13 Tryd.f13 true bonus_Resultant_I bonus_Resultant_O ps
theorem bonus_Resultant_Eok : EnvOK bonus_Resultant_E Tryd.prog := ⟨tok_of seat_TTok,
  all_cons bonus_Check_spec (all_cons bonus_of_spec (all_cons bonus_condition_end_spec (all_nil))),
  all_nil,
  all_cons (body_ok Tryd.func13 (by kernel_rfl)) (all_nil)⟩
theorem bonus_Resultant_spec : Spec Tryd.prog seat_GL 13 (specG bonus_Resultant_I bonus_Resultant_O bonus_Resultant_T) := spec_of seat_mo bonus_Resultant_Eok Tryd.func13 (by kernel_rfl) (by kernel_rfl) (fun _ => rfl)

/-! 38 metrolab/metrolabref44.Other -/
def ref44_Other_I : FIn := { args := [(.agg [(.int .i64), (.int .i64), (.int .i64), (.int .i64), (.int .i64), (.int .i64), .bool])], h := [] }
def ref44_Other_O : List FOut := [{ res := (.int .i64), h := [] }]
noncomputable def ref44_Other_E : Env := { tt := seat_TT, glob := seat_GL, spec := [], body := [(38, Tryd.f38)], loops := [], nimp := 0 }
noncomputable def ref44_Other_T (ps : List PV) : TR := funcT ref44_Other_E 38 Tryd.f38 true ref44_Other_I ref44_Other_O ps
theorem ref44_Other_Eok : EnvOK ref44_Other_E Tryd.prog := ⟨tok_of seat_TTok,
  all_nil,
  all_nil,
  all_cons (body_ok Tryd.func38 (by kernel_rfl)) (all_nil)⟩
theorem ref44_Other_spec : Spec Tryd.prog seat_GL 38 (specG ref44_Other_I ref44_Other_O ref44_Other_T) := spec_of seat_mo ref44_Other_Eok Tryd.func38 (by kernel_rfl) (by kernel_rfl) (fun _ => rfl)

/-! 14 metrolab/metrolabref44.Resultant -/
def ref44_Resultant_I : FIn := { args := [(.agg [(.int .i64), (.int .i64), (.int .i64), (.int .i64), (.int .i64), (.int .i64), .bool])], h := [] }
def ref44_Resultant_O : List FOut := [{ res := (.tuple [(.int .i64), (.int .i64)]), h := [] }]
noncomputable def ref44_Resultant_E : Env := { tt := seat_TT, glob := seat_GL, spec := [(16, specG ref44_Check_I ref44_Check_O ref44_Check_T), (38, specG ref44_Other_I ref44_Other_O ref44_Other_T)], body := [(14, Tryd.f14)], loops := [], nimp := 0 }
noncomputable def ref44_Resultant_T (ps : List PV) : TR := funcT ref44_Resultant_E 14 Tryd.f14 true ref44_Resultant_I ref44_Resultant_O ps
theorem ref44_Resultant_Eok : EnvOK ref44_Resultant_E Tryd.prog := ⟨tok_of seat_TTok,
  all_cons ref44_Check_spec (all_cons ref44_Other_spec (all_nil)),
  all_nil,
  all_cons (body_ok Tryd.func14 (by kernel_rfl)) (all_nil)⟩
theorem ref44_Resultant_spec : Spec Tryd.prog seat_GL 14 (specG ref44_Resultant_I ref44_Resultant_O ref44_Resultant_T) := spec_of seat_mo ref44_Resultant_Eok Tryd.func14 (by kernel_rfl) (by kernel_rfl) (fun _ => rfl)

/-! 44 metrolab/bonus.within -/
def bonus_within_I : FIn := { args := [(.agg [(.int .i64), (.int .i64), (.int .i64), (.int .i64), (.int .i64), (.int .i64), .bool]), (.int .i64)], h := [] }
def bonus_within_O : List FOut := [{ res := .bool, h := [] }]
noncomputable def bonus_within_E : Env := { tt := seat_TT, glob := seat_GL, spec := [], body := [(44, Tryd.f44)], loops := [], nimp := 0 }
noncomputable def bonus_within_T (ps : List PV) : TR := funcT bonus_within_E 44 Tryd.f44 true bonus_within_I bonus_within_O ps
theorem bonus_within_Eok : EnvOK bonus_within_E Tryd.prog := ⟨tok_of seat_TTok,
  all_nil,
  all_nil,
  all_cons (body_ok Tryd.func44 (by kernel_rfl)) (all_nil)⟩
theorem bonus_within_spec : Spec Tryd.prog seat_GL 44 (specG bonus_within_I bonus_within_O bonus_within_T) := spec_of seat_mo bonus_within_Eok Tryd.func44 (by kernel_rfl) (by kernel_rfl) (fun _ => rfl)

/-! 45 (metrolab/bonus.condition).extra -/
def bonus_condition_extra_I : FIn := { args := [(.agg [(.int .i64), (.int .i64), (.int .i64), (.int .i64), (.int .i64), (.int .i64), .bool, (.int .i64)]), (.int .i64)], h := [] }
def bonus_condition_extra_O : List FOut := [{ res := (.int .i64), h := [] }]
noncomputable def bonus_condition_extra_E : Env := { tt := seat_TT, glob := seat_GL, spec := [(36, specG bonus_condition_end_I bonus_condition_end_O bonus_condition_end_T)], body := [(45, Tryd.f45)], loops := [], nimp := 0 }
noncomputable def bonus_condition_extra_T (ps : List PV) : TR := funcT bonus_condition_extra_E 45 Tryd.f45 true bonus_condition_extra_I bonus_condition_extra_O ps
theorem bonus_condition_extra_Eok : EnvOK bonus_condition_extra_E Tryd.prog := ⟨tok_of seat_TTok,
  all_cons bonus_condition_end_spec (all_nil),
  all_nil,
  all_cons (body_ok Tryd.func45 (by kernel_rfl)) (all_nil)⟩
theorem bonus_condition_extra_spec : Spec Tryd.prog seat_GL 45 (specG bonus_condition_extra_I bonus_condition_extra_O bonus_condition_extra_T) := spec_of seat_mo bonus_condition_extra_Eok Tryd.func45 (by kernel_rfl) (by kernel_rfl) (fun _ => rfl)

/-! 18 metrolab/bonus.Bonus -/
def bonus_Bonus_I : FIn := { args := [(.agg [(.int .i64), (.int .i64), (.int .i64), (.int .i64), (.int .i64), (.int .i64), .bool]), (.int .i64)], h := [] }
def bonus_Bonus_O : List FOut := [{ res := (.tuple [(.int .i64), (.int .i64)]), h := [] }]
noncomputable def bonus_Bonus_E : Env := { tt := seat_TT, glob := seat_GL, spec := [(15, specG bonus_Check_I bonus_Check_O bonus_Check_T), (35, specG bonus_of_I bonus_of_O bonus_of_T), (44, specG bonus_within_I bonus_within_O bonus_within_T), (45, specG bonus_condition_extra_I bonus_condition_extra_O bonus_condition_extra_T)], body := [(18, Tryd.f18)], loops := [], nimp := 0 }
noncomputable def bonus_Bonus_T (ps : List PV) : TR := funcT bonus_Bonus_E 18 Tryd.f18 true bonus_Bonus_I bonus_Bonus_O ps
theorem bonus_Bonus_Eok : EnvOK bonus_Bonus_E Tryd.prog := ⟨tok_of seat_TTok,
  all_cons bonus_Check_spec (all_cons bonus_of_spec (all_cons bonus_within_spec (all_cons bonus_condition_extra_spec (all_nil)))),
  all_nil,
  all_cons (body_ok Tryd.func18 (by kernel_rfl)) (all_nil)⟩
theorem bonus_Bonus_spec : Spec Tryd.prog seat_GL 18 (specG bonus_Bonus_I bonus_Bonus_O bonus_Bonus_T) := spec_of seat_mo bonus_Bonus_Eok Tryd.func18 (by kernel_rfl) (by kernel_rfl) (fun _ => rfl)

/-! 20 metrolab/bonus.Allowed -/
def bonus_Allowed_I : FIn := { args := [(.agg [(.int .i64), (.int .i64), (.int .i64), (.int .i64), (.int .i64), (.int .i64), .bool]), (.int .i64)], h := [] }
def bonus_Allowed_O : List FOut := [{ res := (.tuple [(.int .i64), (.int .i64)]), h := [] }]
noncomputable def bonus_Allowed_E : Env := { tt := seat_TT, glob := seat_GL, spec := [(18, specG bonus_Bonus_I bonus_Bonus_O bonus_Bonus_T)], body := [(20, Tryd.f20)], loops := [], nimp := 0 }
noncomputable def bonus_Allowed_T (ps : List PV) : TR := funcT bonus_Allowed_E 20 Tryd.f20 true bonus_Allowed_I bonus_Allowed_O ps
theorem bonus_Allowed_Eok : EnvOK bonus_Allowed_E Tryd.prog := ⟨tok_of seat_TTok,
  all_cons bonus_Bonus_spec (all_nil),
  all_nil,
  all_cons (body_ok Tryd.func20 (by kernel_rfl)) (all_nil)⟩
theorem bonus_Allowed_spec : Spec Tryd.prog seat_GL 20 (specG bonus_Allowed_I bonus_Allowed_O bonus_Allowed_T) := spec_of seat_mo bonus_Allowed_Eok Tryd.func20 (by kernel_rfl) (by kernel_rfl) (fun _ => rfl)

/-! 55 metrolab/bonus.ring -/
def bonus_ring_I : FIn := { args := [(.agg [(.int .i64), (.int .i64), (.int .i64)])], h := [] }
def bonus_ring_O : List FOut := [{ res := (.int .i64), h := [] }]
noncomputable def bonus_ring_E : Env := { tt := seat_TT, glob := seat_GL, spec := [(39, specG bonus_in_I bonus_in_O bonus_in_T), (40, specG bonus_size_I bonus_size_O bonus_size_T)], body := [(55, Tryd.f55)], loops := [], nimp := 0 }
noncomputable def bonus_ring_T (ps : List PV) : TR := funcT bonus_ring_E 55 Tryd.f55 true bonus_ring_I bonus_ring_O ps
theorem bonus_ring_Eok : EnvOK bonus_ring_E Tryd.prog := ⟨tok_of seat_TTok,
  all_cons bonus_in_spec (all_cons bonus_size_spec (all_nil)),
  all_nil,
  all_cons (body_ok Tryd.func55 (by kernel_rfl)) (all_nil)⟩
theorem bonus_ring_spec : Spec Tryd.prog seat_GL 55 (specG bonus_ring_I bonus_ring_O bonus_ring_T) := spec_of seat_mo bonus_ring_Eok Tryd.func55 (by kernel_rfl) (by kernel_rfl) (fun _ => rfl)

/-! 48 metrolab/bonus.both -/
def bonus_both_I : FIn := { args := [(.agg [(.int .i64), (.int .i64), (.int .i64), (.int .i64), (.int .i64), (.int .i64), .bool]), (.agg [(.int .i64), (.int .i64), (.int .i64)])], h := [] }
def bonus_both_O : List FOut := [{ res := (.int .i64), h := [] }]
noncomputable def bonus_both_E : Env := { tt := seat_TT, glob := seat_GL, spec := [(15, specG bonus_Check_I bonus_Check_O bonus_Check_T), (55, specG bonus_ring_I bonus_ring_O bonus_ring_T)], body := [(48, Tryd.f48)], loops := [], nimp := 0 }
noncomputable def bonus_both_T (ps : List PV) : TR := funcT bonus_both_E 48 Tryd.f48 true bonus_both_I bonus_both_O ps
theorem bonus_both_Eok : EnvOK bonus_both_E Tryd.prog := ⟨tok_of seat_TTok,
  all_cons bonus_Check_spec (all_cons bonus_ring_spec (all_nil)),
  all_nil,
  all_cons (body_ok Tryd.func48 (by kernel_rfl)) (all_nil)⟩
theorem bonus_both_spec : Spec Tryd.prog seat_GL 48 (specG bonus_both_I bonus_both_O bonus_both_T) := spec_of seat_mo bonus_both_Eok Tryd.func48 (by kernel_rfl) (by kernel_rfl) (fun _ => rfl)

/-! 50 metrolab/bonus.gap -/
def bonus_gap_I : FIn := { args := [(.agg [(.int .i64), (.int .i64), (.int .i64), (.int .i64), (.int .i64), (.int .i64), .bool]), (.agg [(.int .i64), (.int .i64), (.int .i64)])], h := [] }
def bonus_gap_O : List FOut := [{ res := (.tuple [(.int .i64), (.int .i64)]), h := [] }]
noncomputable def bonus_gap_E : Env := { tt := seat_TT, glob := seat_GL, spec := [], body := [(50, Tryd.f50)], loops := [], nimp := 0 }
noncomputable def bonus_gap_T (ps : List PV) : TR := funcT bonus_gap_E 50 Tryd.f50 true bonus_gap_I bonus_gap_O ps
theorem bonus_gap_Eok : EnvOK bonus_gap_E Tryd.prog := ⟨tok_of seat_TTok,
  all_nil,
  all_nil,
  all_cons (body_ok Tryd.func50 (by kernel_rfl)) (all_nil)⟩
theorem bonus_gap_spec : Spec Tryd.prog seat_GL 50 (specG bonus_gap_I bonus_gap_O bonus_gap_T) := spec_of seat_mo bonus_gap_Eok Tryd.func50 (by kernel_rfl) (by kernel_rfl) (fun _ => rfl)

/-! 49 metrolab/bonus.good -/
def bonus_good_I : FIn := { args := [(.agg [(.int .i64), (.int .i64), (.int .i64), (.int .i64), (.int .i64), (.int .i64), .bool]), (.agg [(.int .i64), (.int .i64), (.int .i64)])], h := [] }
def bonus_good_O : List FOut := [{ res := .bool, h := [] }]
noncomputable def bonus_good_E : Env := { tt := seat_TT, glob := seat_GL, spec := [(35, specG bonus_of_I bonus_of_O bonus_of_T), (44, specG bonus_within_I bonus_within_O bonus_within_T), (45, specG bonus_condition_extra_I bonus_condition_extra_O bonus_condition_extra_T), (50, specG bonus_gap_I bonus_gap_O bonus_gap_T)], body := [(49, Tryd.f49)], loops := [], nimp := 0 }
noncomputable def bonus_good_T (ps : List PV) : TR := funcT bonus_good_E 49 Tryd.f49 true bonus_good_I bonus_good_O ps
theorem bonus_good_Eok : EnvOK bonus_good_E Tryd.prog := ⟨tok_of seat_TTok,
  all_cons bonus_of_spec (all_cons bonus_within_spec (all_cons bonus_condition_extra_spec (all_cons bonus_gap_spec (all_nil)))),
  all_nil,
  all_cons (body_ok Tryd.func49 (by kernel_rfl)) (all_nil)⟩
theorem bonus_good_spec : Spec Tryd.prog seat_GL 49 (specG bonus_good_I bonus_good_O bonus_good_T) := spec_of seat_mo bonus_good_Eok Tryd.func49 (by kernel_rfl) (by kernel_rfl) (fun _ => rfl)

/-! 23 metrolab/bonus.Keeps -/
def bonus_Keeps_I : FIn := { args := [(.agg [(.int .i64), (.int .i64), (.int .i64), (.int .i64), (.int .i64), (.int .i64), .bool]), (.agg [(.int .i64), (.int .i64), (.int .i64)])], h := [] }
def bonus_Keeps_O : List FOut := [{ res := (.tuple [.bool, (.int .i64)]), h := [] }]
noncomputable def bonus_Keeps_E : Env := { tt := seat_TT, glob := seat_GL, spec := [(48, specG bonus_both_I bonus_both_O bonus_both_T), (49, specG bonus_good_I bonus_good_O bonus_good_T)], body := [(23, Tryd.f23)], loops := [], nimp := 0 }
noncomputable def bonus_Keeps_T (ps : List PV) : TR := funcT bonus_Keeps_E 23 Tryd.f23 true bonus_Keeps_I bonus_Keeps_O ps
theorem bonus_Keeps_Eok : EnvOK bonus_Keeps_E Tryd.prog := ⟨tok_of seat_TTok,
  all_cons bonus_both_spec (all_cons bonus_good_spec (all_nil)),
  all_nil,
  all_cons (body_ok Tryd.func23 (by kernel_rfl)) (all_nil)⟩
theorem bonus_Keeps_spec : Spec Tryd.prog seat_GL 23 (specG bonus_Keeps_I bonus_Keeps_O bonus_Keeps_T) := spec_of seat_mo bonus_Keeps_Eok Tryd.func23 (by kernel_rfl) (by kernel_rfl) (fun _ => rfl)

/-! 24 metrolab/bonus.KeepsBox -/
def bonus_KeepsBox_I : FIn := { args := [(.agg [(.int .i64), (.int .i64), (.int .i64), (.int .i64), (.int .i64), (.int .i64), .bool]), (.agg [(.int .i64), (.int .i64), (.int .i64)])], h := [] }
def bonus_KeepsBox_O : List FOut := [{ res := (.tuple [.bool, (.int .i64)]), h := [] }]
noncomputable def bonus_KeepsBox_E : Env := { tt := seat_TT, glob := seat_GL, spec := [(35, specG bonus_of_I bonus_of_O bonus_of_T), (44, specG bonus_within_I bonus_within_O bonus_within_T), (45, specG bonus_condition_extra_I bonus_condition_extra_O bonus_condition_extra_T), (48, specG bonus_both_I bonus_both_O bonus_both_T), (50, specG bonus_gap_I bonus_gap_O bonus_gap_T)], body := [(24, Tryd.f24)], loops := [], nimp := 0 }
noncomputable def bonus_KeepsBox_T (ps : List PV) : TR := funcT bonus_KeepsBox_E 24 Tryd.f24 true bonus_KeepsBox_I bonus_KeepsBox_O ps
theorem bonus_KeepsBox_Eok : EnvOK bonus_KeepsBox_E Tryd.prog := ⟨tok_of seat_TTok,
  all_cons bonus_of_spec (all_cons bonus_within_spec (all_cons bonus_condition_extra_spec (all_cons bonus_both_spec (all_cons bonus_gap_spec (all_nil))))),
  all_nil,
  all_cons (body_ok Tryd.func24 (by kernel_rfl)) (all_nil)⟩
theorem bonus_KeepsBox_spec : Spec Tryd.prog seat_GL 24 (specG bonus_KeepsBox_I bonus_KeepsBox_O bonus_KeepsBox_T) := spec_of seat_mo bonus_KeepsBox_Eok Tryd.func24 (by kernel_rfl) (by kernel_rfl) (fun _ => rfl)

/-! 43 metrolab/metrolablaw44.Hole -/
def law44_Hole_I : FIn := { args := [(.int .i64)], h := [] }
def law44_Hole_O : List FOut := [{ res := (.agg [(.int .i64), (.int .i64), (.int .i64), (.int .i64), (.int .i64), (.int .i64), .bool]), h := [] }]
noncomputable def law44_Hole_E : Env := { tt := seat_TT, glob := seat_GL, spec := [], body := [(43, Tryd.f43)], loops := [], nimp := 0 }
noncomputable def law44_Hole_T (ps : List PV) : TR := funcT law44_Hole_E 43 Tryd.f43 true law44_Hole_I law44_Hole_O ps
theorem law44_Hole_Eok : EnvOK law44_Hole_E Tryd.prog := ⟨tok_of seat_TTok,
  all_nil,
  all_nil,
  all_cons (body_ok Tryd.func43 (by kernel_rfl)) (all_nil)⟩
theorem law44_Hole_spec : Spec Tryd.prog seat_GL 43 (specG law44_Hole_I law44_Hole_O law44_Hole_T) := spec_of seat_mo law44_Hole_Eok Tryd.func43 (by kernel_rfl) (by kernel_rfl) (fun _ => rfl)

/-! 17 metrolab/metrolablaw44.awake -/
def law44_awake_I : FIn := { args := [], h := [] }
def law44_awake_O : List FOut := [{ res := .bool, h := [] }]
noncomputable def law44_awake_E : Env := { tt := seat_TT, glob := seat_GL, spec := [(11, specG bonus_Virtual_I bonus_Virtual_O bonus_Virtual_T), (13, specG bonus_Resultant_I bonus_Resultant_O bonus_Resultant_T), (18, specG bonus_Bonus_I bonus_Bonus_O bonus_Bonus_T), (20, specG bonus_Allowed_I bonus_Allowed_O bonus_Allowed_T), (23, specG bonus_Keeps_I bonus_Keeps_O bonus_Keeps_T), (24, specG bonus_KeepsBox_I bonus_KeepsBox_O bonus_KeepsBox_T), (43, specG law44_Hole_I law44_Hole_O law44_Hole_T)], body := [(17, Tryd.f17)], loops := [], nimp := 0 }
noncomputable def law44_awake_T (ps : List PV) : TR := funcT law44_awake_E 17 Tryd.f17 true law44_awake_I law44_awake_O ps
theorem law44_awake_Eok : EnvOK law44_awake_E Tryd.prog := ⟨tok_of seat_TTok,
  all_cons bonus_Virtual_spec (all_cons bonus_Resultant_spec (all_cons bonus_Bonus_spec (all_cons bonus_Allowed_spec (all_cons bonus_Keeps_spec (all_cons bonus_KeepsBox_spec (all_cons law44_Hole_spec (all_nil))))))),
  all_nil,
  all_cons (body_ok Tryd.func17 (by kernel_rfl)) (all_nil)⟩
theorem law44_awake_spec : Spec Tryd.prog seat_GL 17 (specG law44_awake_I law44_awake_O law44_awake_T) := spec_of seat_mo law44_awake_Eok Tryd.func17 (by kernel_rfl) (by kernel_rfl) (fun _ => rfl)

/-! 3 metrolab/metrolablaw44.BonusChecks -/
def law44_BonusChecks_I : FIn := { args := [(.agg [(.int .i64), (.int .i64), (.int .i64), (.int .i64), (.int .i64), (.int .i64), .bool])], h := [] }
def law44_BonusChecks_O : List FOut := [{ res := .bool, h := [] }]
noncomputable def law44_BonusChecks_E : Env := { tt := seat_TT, glob := seat_GL, spec := [(11, specG bonus_Virtual_I bonus_Virtual_O bonus_Virtual_T), (12, specG ref44_Virtual_I ref44_Virtual_O ref44_Virtual_T), (13, specG bonus_Resultant_I bonus_Resultant_O bonus_Resultant_T), (14, specG ref44_Resultant_I ref44_Resultant_O ref44_Resultant_T), (15, specG bonus_Check_I bonus_Check_O bonus_Check_T), (16, specG ref44_Check_I ref44_Check_O ref44_Check_T), (17, specG law44_awake_I law44_awake_O law44_awake_T)], body := [(3, Tryd.f3)], loops := [], nimp := 0 }
noncomputable def law44_BonusChecks_T (ps : List PV) : TR := funcT law44_BonusChecks_E 3 Tryd.f3 true law44_BonusChecks_I law44_BonusChecks_O ps
theorem law44_BonusChecks_Eok : EnvOK law44_BonusChecks_E Tryd.prog := ⟨tok_of seat_TTok,
  all_cons bonus_Virtual_spec (all_cons ref44_Virtual_spec (all_cons bonus_Resultant_spec (all_cons ref44_Resultant_spec (all_cons bonus_Check_spec (all_cons ref44_Check_spec (all_cons law44_awake_spec (all_nil))))))),
  all_nil,
  all_cons (body_ok Tryd.func3 (by kernel_rfl)) (all_nil)⟩
theorem law44_BonusChecks_spec : Spec Tryd.prog seat_GL 3 (specG law44_BonusChecks_I law44_BonusChecks_O law44_BonusChecks_T) := spec_of seat_mo law44_BonusChecks_Eok Tryd.func3 (by kernel_rfl) (by kernel_rfl) (fun _ => rfl)

/-! 46 metrolab/metrolabref44.Inside -/
def ref44_Inside_I : FIn := { args := [(.agg [(.int .i64), (.int .i64), (.int .i64), (.int .i64), (.int .i64), (.int .i64), .bool]), (.int .i64)], h := [] }
def ref44_Inside_O : List FOut := [{ res := .bool, h := [] }]
noncomputable def ref44_Inside_E : Env := { tt := seat_TT, glob := seat_GL, spec := [], body := [(46, Tryd.f46)], loops := [], nimp := 0 }
noncomputable def ref44_Inside_T (ps : List PV) : TR := funcT ref44_Inside_E 46 Tryd.f46 true ref44_Inside_I ref44_Inside_O ps
theorem ref44_Inside_Eok : EnvOK ref44_Inside_E Tryd.prog := ⟨tok_of seat_TTok,
  all_nil,
  all_nil,
  all_cons (body_ok Tryd.func46 (by kernel_rfl)) (all_nil)⟩
theorem ref44_Inside_spec : Spec Tryd.prog seat_GL 46 (specG ref44_Inside_I ref44_Inside_O ref44_Inside_T) := spec_of seat_mo ref44_Inside_Eok Tryd.func46 (by kernel_rfl) (by kernel_rfl) (fun _ => rfl)

/-! 47 metrolab/metrolabref44.Extra -/
def ref44_Extra_I : FIn := { args := [(.agg [(.int .i64), (.int .i64), (.int .i64), (.int .i64), (.int .i64), (.int .i64), .bool]), (.int .i64)], h := [] }
def ref44_Extra_O : List FOut := [{ res := (.int .i64), h := [] }]
noncomputable def ref44_Extra_E : Env := { tt := seat_TT, glob := seat_GL, spec := [], body := [(47, Tryd.f47)], loops := [], nimp := 0 }
noncomputable def ref44_Extra_T (ps : List PV) : TR := funcT ref44_Extra_E 47 Tryd.f47 true ref44_Extra_I ref44_Extra_O ps
theorem ref44_Extra_Eok : EnvOK ref44_Extra_E Tryd.prog := ⟨tok_of seat_TTok,
  all_nil,
  all_nil,
  all_cons (body_ok Tryd.func47 (by kernel_rfl)) (all_nil)⟩
theorem ref44_Extra_spec : Spec Tryd.prog seat_GL 47 (specG ref44_Extra_I ref44_Extra_O ref44_Extra_T) := spec_of seat_mo ref44_Extra_Eok Tryd.func47 (by kernel_rfl) (by kernel_rfl) (fun _ => rfl)

/-! 19 metrolab/metrolabref44.Bonus -/
def ref44_Bonus_I : FIn := { args := [(.agg [(.int .i64), (.int .i64), (.int .i64), (.int .i64), (.int .i64), (.int .i64), .bool]), (.int .i64)], h := [] }
def ref44_Bonus_O : List FOut := [{ res := (.tuple [(.int .i64), (.int .i64)]), h := [] }]
noncomputable def ref44_Bonus_E : Env := { tt := seat_TT, glob := seat_GL, spec := [(16, specG ref44_Check_I ref44_Check_O ref44_Check_T), (46, specG ref44_Inside_I ref44_Inside_O ref44_Inside_T), (47, specG ref44_Extra_I ref44_Extra_O ref44_Extra_T)], body := [(19, Tryd.f19)], loops := [], nimp := 0 }
noncomputable def ref44_Bonus_T (ps : List PV) : TR := funcT ref44_Bonus_E 19 Tryd.f19 true ref44_Bonus_I ref44_Bonus_O ps
theorem ref44_Bonus_Eok : EnvOK ref44_Bonus_E Tryd.prog := ⟨tok_of seat_TTok,
  all_cons ref44_Check_spec (all_cons ref44_Inside_spec (all_cons ref44_Extra_spec (all_nil))),
  all_nil,
  all_cons (body_ok Tryd.func19 (by kernel_rfl)) (all_nil)⟩
theorem ref44_Bonus_spec : Spec Tryd.prog seat_GL 19 (specG ref44_Bonus_I ref44_Bonus_O ref44_Bonus_T) := spec_of seat_mo ref44_Bonus_Eok Tryd.func19 (by kernel_rfl) (by kernel_rfl) (fun _ => rfl)

/-! 21 metrolab/metrolabref44.Allowed -/
def ref44_Allowed_I : FIn := { args := [(.agg [(.int .i64), (.int .i64), (.int .i64), (.int .i64), (.int .i64), (.int .i64), .bool]), (.int .i64)], h := [] }
def ref44_Allowed_O : List FOut := [{ res := (.tuple [(.int .i64), (.int .i64)]), h := [] }]
noncomputable def ref44_Allowed_E : Env := { tt := seat_TT, glob := seat_GL, spec := [(19, specG ref44_Bonus_I ref44_Bonus_O ref44_Bonus_T)], body := [(21, Tryd.f21)], loops := [], nimp := 0 }
noncomputable def ref44_Allowed_T (ps : List PV) : TR := funcT ref44_Allowed_E 21 Tryd.f21 true ref44_Allowed_I ref44_Allowed_O ps
theorem ref44_Allowed_Eok : EnvOK ref44_Allowed_E Tryd.prog := ⟨tok_of seat_TTok,
  all_cons ref44_Bonus_spec (all_nil),
  all_nil,
  all_cons (body_ok Tryd.func21 (by kernel_rfl)) (all_nil)⟩
theorem ref44_Allowed_spec : Spec Tryd.prog seat_GL 21 (specG ref44_Allowed_I ref44_Allowed_O ref44_Allowed_T) := spec_of seat_mo ref44_Allowed_Eok Tryd.func21 (by kernel_rfl) (by kernel_rfl) (fun _ => rfl)

/-! 4 metrolab/metrolablaw44.BonusSizes -/
def law44_BonusSizes_I : FIn := { args := [(.agg [(.int .i64), (.int .i64), (.int .i64), (.int .i64), (.int .i64), (.int .i64), .bool]), (.int .i64)], h := [] }
def law44_BonusSizes_O : List FOut := [{ res := .bool, h := [] }]
noncomputable def law44_BonusSizes_E : Env := { tt := seat_TT, glob := seat_GL, spec := [(17, specG law44_awake_I law44_awake_O law44_awake_T), (18, specG bonus_Bonus_I bonus_Bonus_O bonus_Bonus_T), (19, specG ref44_Bonus_I ref44_Bonus_O ref44_Bonus_T), (20, specG bonus_Allowed_I bonus_Allowed_O bonus_Allowed_T), (21, specG ref44_Allowed_I ref44_Allowed_O ref44_Allowed_T)], body := [(4, Tryd.f4)], loops := [], nimp := 0 }
noncomputable def law44_BonusSizes_T (ps : List PV) : TR := funcT law44_BonusSizes_E 4 Tryd.f4 true law44_BonusSizes_I law44_BonusSizes_O ps
theorem law44_BonusSizes_Eok : EnvOK law44_BonusSizes_E Tryd.prog := ⟨tok_of seat_TTok,
  all_cons law44_awake_spec (all_cons bonus_Bonus_spec (all_cons ref44_Bonus_spec (all_cons bonus_Allowed_spec (all_cons ref44_Allowed_spec (all_nil))))),
  all_nil,
  all_cons (body_ok Tryd.func4 (by kernel_rfl)) (all_nil)⟩
theorem law44_BonusSizes_spec : Spec Tryd.prog seat_GL 4 (specG law44_BonusSizes_I law44_BonusSizes_O law44_BonusSizes_T) := spec_of seat_mo law44_BonusSizes_Eok Tryd.func4 (by kernel_rfl) (by kernel_rfl) (fun _ => rfl)

/-! 5 metrolab/metrolablaw44.BonusMeets -/
def law44_BonusMeets_I : FIn := { args := [(.agg [(.int .i64), (.int .i64), (.int .i64), (.int .i64), (.int .i64), (.int .i64), .bool]), (.int .u16)], h := [] }
def law44_BonusMeets_O : List FOut := [{ res := .bool, h := [] }]
noncomputable def law44_BonusMeets_E : Env := { tt := seat_TT, glob := seat_GL, spec := [(11, specG bonus_Virtual_I bonus_Virtual_O bonus_Virtual_T), (16, specG ref44_Check_I ref44_Check_O ref44_Check_T), (17, specG law44_awake_I law44_awake_O law44_awake_T), (20, specG bonus_Allowed_I bonus_Allowed_O bonus_Allowed_T)], body := [(5, Tryd.f5)], loops := [], nimp := 0 }
noncomputable def law44_BonusMeets_T (ps : List PV) : TR := funcT law44_BonusMeets_E 5 Tryd.f5 true law44_BonusMeets_I law44_BonusMeets_O ps
theorem law44_BonusMeets_Eok : EnvOK law44_BonusMeets_E Tryd.prog := ⟨tok_of seat_TTok,
  all_cons bonus_Virtual_spec (all_cons ref44_Check_spec (all_cons law44_awake_spec (all_cons bonus_Allowed_spec (all_nil)))),
  all_nil,
  all_cons (body_ok Tryd.func5 (by kernel_rfl)) (all_nil)⟩
theorem law44_BonusMeets_spec : Spec Tryd.prog seat_GL 5 (specG law44_BonusMeets_I law44_BonusMeets_O law44_BonusMeets_T) := spec_of seat_mo law44_BonusMeets_Eok Tryd.func5 (by kernel_rfl) (by kernel_rfl) (fun _ => rfl)

/-! 22 metrolab/metrolabref44.Ring -/
def ref44_Ring_I : FIn := { args := [(.agg [(.int .i64), (.int .i64), (.int .i64)])], h := [] }
def ref44_Ring_O : List FOut := [{ res := (.int .i64), h := [] }]
noncomputable def ref44_Ring_E : Env := { tt := seat_TT, glob := seat_GL, spec := [(41, specG ref07_Right_I ref07_Right_O ref07_Right_T), (42, specG ref44_size_I ref44_size_O ref44_size_T)], body := [(22, Tryd.f22)], loops := [], nimp := 0 }
noncomputable def ref44_Ring_T (ps : List PV) : TR := funcT ref44_Ring_E 22 Tryd.f22 true ref44_Ring_I ref44_Ring_O ps
theorem ref44_Ring_Eok : EnvOK ref44_Ring_E Tryd.prog := ⟨tok_of seat_TTok,
  all_cons ref07_Right_spec (all_cons ref44_size_spec (all_nil)),
  all_nil,
  all_cons (body_ok Tryd.func22 (by kernel_rfl)) (all_nil)⟩
theorem ref44_Ring_spec : Spec Tryd.prog seat_GL 22 (specG ref44_Ring_I ref44_Ring_O ref44_Ring_T) := spec_of seat_mo ref44_Ring_Eok Tryd.func22 (by kernel_rfl) (by kernel_rfl) (fun _ => rfl)

/-! 6 metrolab/metrolablaw44.BonusGauges -/
def law44_BonusGauges_I : FIn := { args := [(.agg [(.int .i64), (.int .i64), (.int .i64), (.int .i64), (.int .i64), (.int .i64), .bool]), (.agg [(.int .i64), (.int .i64), (.int .i64)]), (.agg [(.int .i16), (.int .i16)])], h := [] }
def law44_BonusGauges_O : List FOut := [{ res := .bool, h := [] }]
noncomputable def law44_BonusGauges_E : Env := { tt := seat_TT, glob := seat_GL, spec := [(11, specG bonus_Virtual_I bonus_Virtual_O bonus_Virtual_T), (16, specG ref44_Check_I ref44_Check_O ref44_Check_T), (17, specG law44_awake_I law44_awake_O law44_awake_T), (22, specG ref44_Ring_I ref44_Ring_O ref44_Ring_T), (23, specG bonus_Keeps_I bonus_Keeps_O bonus_Keeps_T)], body := [(6, Tryd.f6)], loops := [], nimp := 0 }
noncomputable def law44_BonusGauges_T (ps : List PV) : TR := funcT law44_BonusGauges_E 6 Tryd.f6 true law44_BonusGauges_I law44_BonusGauges_O ps
theorem law44_BonusGauges_Eok : EnvOK law44_BonusGauges_E Tryd.prog := ⟨tok_of seat_TTok,
  all_cons bonus_Virtual_spec (all_cons ref44_Check_spec (all_cons law44_awake_spec (all_cons ref44_Ring_spec (all_cons bonus_Keeps_spec (all_nil))))),
  all_nil,
  all_cons (body_ok Tryd.func6 (by kernel_rfl)) (all_nil)⟩
theorem law44_BonusGauges_spec : Spec Tryd.prog seat_GL 6 (specG law44_BonusGauges_I law44_BonusGauges_O law44_BonusGauges_T) := spec_of seat_mo law44_BonusGauges_Eok Tryd.func6 (by kernel_rfl) (by kernel_rfl) (fun _ => rfl)

/-! 7 metrolab/metrolablaw44.BonusGrows -/
def law44_BonusGrows_I : FIn := { args := [(.agg [(.int .i64), (.int .i64), (.int .i64), (.int .i64), (.int .i64), (.int .i64), .bool]), (.int .u16)], h := [] }
def law44_BonusGrows_O : List FOut := [{ res := .bool, h := [] }]
noncomputable def law44_BonusGrows_E : Env := { tt := seat_TT, glob := seat_GL, spec := [(16, specG ref44_Check_I ref44_Check_O ref44_Check_T), (17, specG law44_awake_I law44_awake_O law44_awake_T), (18, specG bonus_Bonus_I bonus_Bonus_O bonus_Bonus_T)], body := [(7, Tryd.f7)], loops := [], nimp := 0 }
noncomputable def law44_BonusGrows_T (ps : List PV) : TR := funcT law44_BonusGrows_E 7 Tryd.f7 true law44_BonusGrows_I law44_BonusGrows_O ps
theorem law44_BonusGrows_Eok : EnvOK law44_BonusGrows_E Tryd.prog := ⟨tok_of seat_TTok,
  all_cons ref44_Check_spec (all_cons law44_awake_spec (all_cons bonus_Bonus_spec (all_nil))),
  all_nil,
  all_cons (body_ok Tryd.func7 (by kernel_rfl)) (all_nil)⟩
theorem law44_BonusGrows_spec : Spec Tryd.prog seat_GL 7 (specG law44_BonusGrows_I law44_BonusGrows_O law44_BonusGrows_T) := spec_of seat_mo law44_BonusGrows_Eok Tryd.func7 (by kernel_rfl) (by kernel_rfl) (fun _ => rfl)

/-! 8 metrolab/metrolablaw44.BonusBoxes -/
def law44_BonusBoxes_I : FIn := { args := [(.agg [(.int .i64), (.int .i64), (.int .i64), (.int .i64), (.int .i64), (.int .i64), .bool]), (.agg [(.int .i64), (.int .i64), (.int .i64)]), (.int .u8)], h := [] }
def law44_BonusBoxes_O : List FOut := [{ res := .bool, h := [] }]
noncomputable def law44_BonusBoxes_E : Env := { tt := seat_TT, glob := seat_GL, spec := [(16, specG ref44_Check_I ref44_Check_O ref44_Check_T), (17, specG law44_awake_I law44_awake_O law44_awake_T), (20, specG bonus_Allowed_I bonus_Allowed_O bonus_Allowed_T), (22, specG ref44_Ring_I ref44_Ring_O ref44_Ring_T), (23, specG bonus_Keeps_I bonus_Keeps_O bonus_Keeps_T), (24, specG bonus_KeepsBox_I bonus_KeepsBox_O bonus_KeepsBox_T)], body := [(8, Tryd.f8)], loops := [], nimp := 0 }
noncomputable def law44_BonusBoxes_T (ps : List PV) : TR := funcT law44_BonusBoxes_E 8 Tryd.f8 true law44_BonusBoxes_I law44_BonusBoxes_O ps
theorem law44_BonusBoxes_Eok : EnvOK law44_BonusBoxes_E Tryd.prog := ⟨tok_of seat_TTok,
  all_cons ref44_Check_spec (all_cons law44_awake_spec (all_cons bonus_Allowed_spec (all_cons ref44_Ring_spec (all_cons bonus_Keeps_spec (all_cons bonus_KeepsBox_spec (all_nil)))))),
  all_nil,
  all_cons (body_ok Tryd.func8 (by kernel_rfl)) (all_nil)⟩
theorem law44_BonusBoxes_spec : Spec Tryd.prog seat_GL 8 (specG law44_BonusBoxes_I law44_BonusBoxes_O law44_BonusBoxes_T) := spec_of seat_mo law44_BonusBoxes_Eok Tryd.func8 (by kernel_rfl) (by kernel_rfl) (fun _ => rfl)

/-! 25 metrolab/bonus.Distance -/
def bonus_Distance_I : FIn := { args := [(.agg [(.int .i64), (.int .i64), (.int .i64), (.int .i64), (.int .i64), (.int .i64), .bool]), (.agg [(.int .i64), (.int .i64), (.int .i64)])], h := [] }
def bonus_Distance_O : List FOut := [{ res := (.tuple [(.int .i64), (.int .i64)]), h := [] }]
noncomputable def bonus_Distance_E : Env := { tt := seat_TT, glob := seat_GL, spec := [(48, specG bonus_both_I bonus_both_O bonus_both_T), (50, specG bonus_gap_I bonus_gap_O bonus_gap_T)], body := [(25, Tryd.f25)], loops := [], nimp := 0 }
noncomputable def bonus_Distance_T (ps : List PV) : TR := funcT bonus_Distance_E 25 Tryd.f25 true bonus_Distance_I bonus_Distance_O ps
theorem bonus_Distance_Eok : EnvOK bonus_Distance_E Tryd.prog := ⟨tok_of seat_TTok,
  all_cons bonus_both_spec (all_cons bonus_gap_spec (all_nil)),
  all_nil,
  all_cons (body_ok Tryd.func25 (by kernel_rfl)) (all_nil)⟩
theorem bonus_Distance_spec : Spec Tryd.prog seat_GL 25 (specG bonus_Distance_I bonus_Distance_O bonus_Distance_T) := spec_of seat_mo bonus_Distance_Eok Tryd.func25 (by kernel_rfl) (by kernel_rfl) (fun _ => rfl)

/-! 51 metrolab/metrolabref44.both -/
def ref44_both_I : FIn := { args := [(.agg [(.int .i64), (.int .i64), (.int .i64), (.int .i64), (.int .i64), (.int .i64), .bool]), (.agg [(.int .i64), (.int .i64), (.int .i64)])], h := [] }
def ref44_both_O : List FOut := [{ res := (.int .i64), h := [] }]
noncomputable def ref44_both_E : Env := { tt := seat_TT, glob := seat_GL, spec := [(16, specG ref44_Check_I ref44_Check_O ref44_Check_T), (22, specG ref44_Ring_I ref44_Ring_O ref44_Ring_T)], body := [(51, Tryd.f51)], loops := [], nimp := 0 }
noncomputable def ref44_both_T (ps : List PV) : TR := funcT ref44_both_E 51 Tryd.f51 true ref44_both_I ref44_both_O ps
theorem ref44_both_Eok : EnvOK ref44_both_E Tryd.prog := ⟨tok_of seat_TTok,
  all_cons ref44_Check_spec (all_cons ref44_Ring_spec (all_nil)),
  all_nil,
  all_cons (body_ok Tryd.func51 (by kernel_rfl)) (all_nil)⟩
theorem ref44_both_spec : Spec Tryd.prog seat_GL 51 (specG ref44_both_I ref44_both_O ref44_both_T) := spec_of seat_mo ref44_both_Eok Tryd.func51 (by kernel_rfl) (by kernel_rfl) (fun _ => rfl)

/-! 57 metrolab/metrolabref07.Times -/
def ref07_Times_I : FIn := { args := [(.agg [(.int .i64), (.int .i64)]), (.agg [(.int .i64), (.int .i64)])], h := [] }
def ref07_Times_O : List FOut := [{ res := (.int .i64), h := [] }]
noncomputable def ref07_Times_E : Env := { tt := seat_TT, glob := seat_GL, spec := [], body := [(57, Tryd.f57)], loops := [], nimp := 0 }
noncomputable def ref07_Times_T (ps : List PV) : TR := funcT ref07_Times_E 57 Tryd.f57 true ref07_Times_I ref07_Times_O ps
theorem ref07_Times_Eok : EnvOK ref07_Times_E Tryd.prog := ⟨tok_of seat_TTok,
  all_nil,
  all_nil,
  all_cons (body_ok Tryd.func57 (by kernel_rfl)) (all_nil)⟩
theorem ref07_Times_spec : Spec Tryd.prog seat_GL 57 (specG ref07_Times_I ref07_Times_O ref07_Times_T) := spec_of seat_mo ref07_Times_Eok Tryd.func57 (by kernel_rfl) (by kernel_rfl) (fun _ => rfl)

/-! 58 metrolab/metrolabref07.Minus -/
def ref07_Minus_I : FIn := { args := [(.agg [(.int .i64), (.int .i64)]), (.agg [(.int .i64), (.int .i64)])], h := [] }
def ref07_Minus_O : List FOut := [{ res := (.agg [(.int .i64), (.int .i64)]), h := [] }]
noncomputable def ref07_Minus_E : Env := { tt := seat_TT, glob := seat_GL, spec := [], body := [(58, Tryd.f58)], loops := [], nimp := 0 }
noncomputable def ref07_Minus_T (ps : List PV) : TR := funcT ref07_Minus_E 58 Tryd.f58 true ref07_Minus_I ref07_Minus_O ps
theorem ref07_Minus_Eok : EnvOK ref07_Minus_E Tryd.prog := ⟨tok_of seat_TTok,
  all_nil,
  all_nil,
  all_cons (body_ok Tryd.func58 (by kernel_rfl)) (all_nil)⟩
theorem ref07_Minus_spec : Spec Tryd.prog seat_GL 58 (specG ref07_Minus_I ref07_Minus_O ref07_Minus_T) := spec_of seat_mo ref07_Minus_Eok Tryd.func58 (by kernel_rfl) (by kernel_rfl) (fun _ => rfl)

/-! 52 metrolab/metrolabref07.Far -/
def ref07_Far_I : FIn := { args := [(.agg [(.int .i64), (.int .i64)]), (.agg [(.int .i64), (.int .i64)])], h := [] }
def ref07_Far_O : List FOut := [{ res := (.int .i64), h := [] }]
noncomputable def ref07_Far_E : Env := { tt := seat_TT, glob := seat_GL, spec := [(57, specG ref07_Times_I ref07_Times_O ref07_Times_T), (58, specG ref07_Minus_I ref07_Minus_O ref07_Minus_T)], body := [(52, Tryd.f52)], loops := [], nimp := 0 }
noncomputable def ref07_Far_T (ps : List PV) : TR := funcT ref07_Far_E 52 Tryd.f52 true ref07_Far_I ref07_Far_O ps
theorem ref07_Far_Eok : EnvOK ref07_Far_E Tryd.prog := ⟨tok_of seat_TTok,
  all_cons ref07_Times_spec (all_cons ref07_Minus_spec (all_nil)),
  all_nil,
  all_cons (body_ok Tryd.func52 (by kernel_rfl)) (all_nil)⟩
theorem ref07_Far_spec : Spec Tryd.prog seat_GL 52 (specG ref07_Far_I ref07_Far_O ref07_Far_T) := spec_of seat_mo ref07_Far_Eok Tryd.func52 (by kernel_rfl) (by kernel_rfl) (fun _ => rfl)

/-! 26 metrolab/metrolabref44.Distance -/
def ref44_Distance_I : FIn := { args := [(.agg [(.int .i64), (.int .i64), (.int .i64), (.int .i64), (.int .i64), (.int .i64), .bool]), (.agg [(.int .i64), (.int .i64), (.int .i64)])], h := [] }
def ref44_Distance_O : List FOut := [{ res := (.tuple [(.int .i64), (.int .i64)]), h := [] }]
noncomputable def ref44_Distance_E : Env := { tt := seat_TT, glob := seat_GL, spec := [(51, specG ref44_both_I ref44_both_O ref44_both_T), (52, specG ref07_Far_I ref07_Far_O ref07_Far_T)], body := [(26, Tryd.f26)], loops := [], nimp := 0 }
noncomputable def ref44_Distance_T (ps : List PV) : TR := funcT ref44_Distance_E 26 Tryd.f26 true ref44_Distance_I ref44_Distance_O ps
theorem ref44_Distance_Eok : EnvOK ref44_Distance_E Tryd.prog := ⟨tok_of seat_TTok,
  all_cons ref44_both_spec (all_cons ref07_Far_spec (all_nil)),
  all_nil,
  all_cons (body_ok Tryd.func26 (by kernel_rfl)) (all_nil)⟩
theorem ref44_Distance_spec : Spec Tryd.prog seat_GL 26 (specG ref44_Distance_I ref44_Distance_O ref44_Distance_T) := spec_of seat_mo ref44_Distance_Eok Tryd.func26 (by kernel_rfl) (by kernel_rfl) (fun _ => rfl)

/-! 53 metrolab/metrolabref44.Good -/
def ref44_Good_I : FIn := { args := [(.agg [(.int .i64), (.int .i64), (.int .i64), (.int .i64), (.int .i64), (.int .i64), .bool]), (.agg [(.int .i64), (.int .i64), (.int .i64)])], h := [] }
def ref44_Good_O : List FOut := [{ res := .bool, h := [] }]
noncomputable def ref44_Good_E : Env := { tt := seat_TT, glob := seat_GL, spec := [(46, specG ref44_Inside_I ref44_Inside_O ref44_Inside_T), (47, specG ref44_Extra_I ref44_Extra_O ref44_Extra_T), (52, specG ref07_Far_I ref07_Far_O ref07_Far_T)], body := [(53, Tryd.f53)], loops := [], nimp := 0 }
noncomputable def ref44_Good_T (ps : List PV) : TR := funcT ref44_Good_E 53 Tryd.f53 true ref44_Good_I ref44_Good_O ps
theorem ref44_Good_Eok : EnvOK ref44_Good_E Tryd.prog := ⟨tok_of seat_TTok,
  all_cons ref44_Inside_spec (all_cons ref44_Extra_spec (all_cons ref07_Far_spec (all_nil))),
  all_nil,
  all_cons (body_ok Tryd.func53 (by kernel_rfl)) (all_nil)⟩
theorem ref44_Good_spec : Spec Tryd.prog seat_GL 53 (specG ref44_Good_I ref44_Good_O ref44_Good_T) := spec_of seat_mo ref44_Good_Eok Tryd.func53 (by kernel_rfl) (by kernel_rfl) (fun _ => rfl)

/-! 27 metrolab/metrolabref44.Keeps -/
def ref44_Keeps_I : FIn := { args := [(.agg [(.int .i64), (.int .i64), (.int .i64), (.int .i64), (.int .i64), (.int .i64), .bool]), (.agg [(.int .i64), (.int .i64), (.int .i64)])], h := [] }
def ref44_Keeps_O : List FOut := [{ res := (.tuple [.bool, (.int .i64)]), h := [] }]
noncomputable def ref44_Keeps_E : Env := { tt := seat_TT, glob := seat_GL, spec := [(51, specG ref44_both_I ref44_both_O ref44_both_T), (53, specG ref44_Good_I ref44_Good_O ref44_Good_T)], body := [(27, Tryd.f27)], loops := [], nimp := 0 }
noncomputable def ref44_Keeps_T (ps : List PV) : TR := funcT ref44_Keeps_E 27 Tryd.f27 true ref44_Keeps_I ref44_Keeps_O ps
theorem ref44_Keeps_Eok : EnvOK ref44_Keeps_E Tryd.prog := ⟨tok_of seat_TTok,
  all_cons ref44_both_spec (all_cons ref44_Good_spec (all_nil)),
  all_nil,
  all_cons (body_ok Tryd.func27 (by kernel_rfl)) (all_nil)⟩
theorem ref44_Keeps_spec : Spec Tryd.prog seat_GL 27 (specG ref44_Keeps_I ref44_Keeps_O ref44_Keeps_T) := spec_of seat_mo ref44_Keeps_Eok Tryd.func27 (by kernel_rfl) (by kernel_rfl) (fun _ => rfl)

/-! 54 metrolab/metrolabref44.GoodBox -/
def ref44_GoodBox_I : FIn := { args := [(.agg [(.int .i64), (.int .i64), (.int .i64), (.int .i64), (.int .i64), (.int .i64), .bool]), (.agg [(.int .i64), (.int .i64), (.int .i64)])], h := [] }
def ref44_GoodBox_O : List FOut := [{ res := .bool, h := [] }]
noncomputable def ref44_GoodBox_E : Env := { tt := seat_TT, glob := seat_GL, spec := [(46, specG ref44_Inside_I ref44_Inside_O ref44_Inside_T), (47, specG ref44_Extra_I ref44_Extra_O ref44_Extra_T)], body := [(54, Tryd.f54)], loops := [], nimp := 0 }
noncomputable def ref44_GoodBox_T (ps : List PV) : TR := funcT ref44_GoodBox_E 54 Tryd.f54 true ref44_GoodBox_I ref44_GoodBox_O ps
theorem ref44_GoodBox_Eok : EnvOK ref44_GoodBox_E Tryd.prog := ⟨tok_of seat_TTok,
  all_cons ref44_Inside_spec (all_cons ref44_Extra_spec (all_nil)),
  all_nil,
  all_cons (body_ok Tryd.func54 (by kernel_rfl)) (all_nil)⟩
theorem ref44_GoodBox_spec : Spec Tryd.prog seat_GL 54 (specG ref44_GoodBox_I ref44_GoodBox_O ref44_GoodBox_T) := spec_of seat_mo ref44_GoodBox_Eok Tryd.func54 (by kernel_rfl) (by kernel_rfl) (fun _ => rfl)

/-! 28 metrolab/metrolabref44.KeepsBox -/
def ref44_KeepsBox_I : FIn := { args := [(.agg [(.int .i64), (.int .i64), (.int .i64), (.int .i64), (.int .i64), (.int .i64), .bool]), (.agg [(.int .i64), (.int .i64), (.int .i64)])], h := [] }
def ref44_KeepsBox_O : List FOut := [{ res := (.tuple [.bool, (.int .i64)]), h := [] }]
noncomputable def ref44_KeepsBox_E : Env := { tt := seat_TT, glob := seat_GL, spec := [(51, specG ref44_both_I ref44_both_O ref44_both_T), (54, specG ref44_GoodBox_I ref44_GoodBox_O ref44_GoodBox_T)], body := [(28, Tryd.f28)], loops := [], nimp := 0 }
noncomputable def ref44_KeepsBox_T (ps : List PV) : TR := funcT ref44_KeepsBox_E 28 Tryd.f28 true ref44_KeepsBox_I ref44_KeepsBox_O ps
theorem ref44_KeepsBox_Eok : EnvOK ref44_KeepsBox_E Tryd.prog := ⟨tok_of seat_TTok,
  all_cons ref44_both_spec (all_cons ref44_GoodBox_spec (all_nil)),
  all_nil,
  all_cons (body_ok Tryd.func28 (by kernel_rfl)) (all_nil)⟩
theorem ref44_KeepsBox_spec : Spec Tryd.prog seat_GL 28 (specG ref44_KeepsBox_I ref44_KeepsBox_O ref44_KeepsBox_T) := spec_of seat_mo ref44_KeepsBox_Eok Tryd.func28 (by kernel_rfl) (by kernel_rfl) (fun _ => rfl)

/-! 9 metrolab/metrolablaw44.BonusKeeps -/
def law44_BonusKeeps_I : FIn := { args := [(.agg [(.int .i64), (.int .i64), (.int .i64), (.int .i64), (.int .i64), (.int .i64), .bool]), (.agg [(.int .i64), (.int .i64), (.int .i64)])], h := [] }
def law44_BonusKeeps_O : List FOut := [{ res := .bool, h := [] }]
noncomputable def law44_BonusKeeps_E : Env := { tt := seat_TT, glob := seat_GL, spec := [(17, specG law44_awake_I law44_awake_O law44_awake_T), (23, specG bonus_Keeps_I bonus_Keeps_O bonus_Keeps_T), (24, specG bonus_KeepsBox_I bonus_KeepsBox_O bonus_KeepsBox_T), (25, specG bonus_Distance_I bonus_Distance_O bonus_Distance_T), (26, specG ref44_Distance_I ref44_Distance_O ref44_Distance_T), (27, specG ref44_Keeps_I ref44_Keeps_O ref44_Keeps_T), (28, specG ref44_KeepsBox_I ref44_KeepsBox_O ref44_KeepsBox_T)], body := [(9, Tryd.f9)], loops := [], nimp := 0 }
noncomputable def law44_BonusKeeps_T (ps : List PV) : TR := funcT law44_BonusKeeps_E 9 Tryd.f9 true law44_BonusKeeps_I law44_BonusKeeps_O ps
theorem law44_BonusKeeps_Eok : EnvOK law44_BonusKeeps_E Tryd.prog := ⟨tok_of seat_TTok,
  all_cons law44_awake_spec (all_cons bonus_Keeps_spec (all_cons bonus_KeepsBox_spec (all_cons bonus_Distance_spec (all_cons ref44_Distance_spec (all_cons ref44_Keeps_spec (all_cons ref44_KeepsBox_spec (all_nil))))))),
  all_nil,
  all_cons (body_ok Tryd.func9 (by kernel_rfl)) (all_nil)⟩
theorem law44_BonusKeeps_spec : Spec Tryd.prog seat_GL 9 (specG law44_BonusKeeps_I law44_BonusKeeps_O law44_BonusKeeps_T) := spec_of seat_mo law44_BonusKeeps_Eok Tryd.func9 (by kernel_rfl) (by kernel_rfl) (fun _ => rfl)

/-! 29 metrolab/metrolabref44.Few -/
def ref44_Few_I : FIn := { args := [(.imm [(.int .i64), (.int .i64), (.int .i64), (.int .i64), (.int .i64), (.int .i64), .bool]), (.imm [(.int .i64), (.int .i64), (.int .i64)])], h := [] }
def ref44_Few_O : List FOut := [{ res := .bool, h := [] }]
noncomputable def ref44_Few_E : Env := { tt := seat_TT, glob := seat_GL, spec := [], body := [(29, Tryd.f29)], loops := [], nimp := 0 }
noncomputable def ref44_Few_T (ps : List PV) : TR := funcT ref44_Few_E 29 Tryd.f29 true ref44_Few_I ref44_Few_O ps
theorem ref44_Few_Eok : EnvOK ref44_Few_E Tryd.prog := ⟨tok_of seat_TTok,
  all_nil,
  all_nil,
  all_cons (body_ok Tryd.func29 (by kernel_rfl)) (all_nil)⟩
theorem ref44_Few_spec : Spec Tryd.prog seat_GL 29 (specG ref44_Few_I ref44_Few_O ref44_Few_T) := spec_of seat_mo ref44_Few_Eok Tryd.func29 (by kernel_rfl) (by kernel_rfl) (fun _ => rfl)

/-! 32 metrolab/bonus.CheckPlate -/
def bonus_CheckPlate_I : FIn := { args := [(.imm [(.int .i64), (.int .i64), (.int .i64), (.int .i64), (.int .i64), (.int .i64), .bool]), (.imm [(.int .i64), (.int .i64), (.int .i64)])], h := [] }
def bonus_CheckPlate_O : List FOut := [{ res := (.int .i64), h := [] }]
def bonus_CheckPlate_L6I : Tmpl := { t := [(.imm [(.int .i64), (.int .i64), (.int .i64), (.int .i64), (.int .i64), (.int .i64), .bool]), (.imm [(.int .i64), (.int .i64), (.int .i64)]), .any, .any, .any, .any, .any, .any, .any, .any, .any, .any, .any, .any, (.imm [(.int .i64), (.int .i64), (.int .i64), (.int .i64), (.int .i64), (.int .i64), .bool]), (.int .i64), (.int .i64), .any, .any, .any, .any, .any, .any, .any, .any, .any, .any, .any, .any, .any, .any, .any, .any, .any, .any, .any, .any, .any, .any, .any, .any, .any, .any], h := [] }
def bonus_CheckPlate_L6O : List Out := [{ x := (.exit 0), tm := { t := [(.imm [(.int .i64), (.int .i64), (.int .i64), (.int .i64), (.int .i64), (.int .i64), .bool]), (.imm [(.int .i64), (.int .i64), (.int .i64)]), .any, .any, .any, .any, .any, .any, .any, .any, .any, .any, .any, .any, .any, .any, .any, .any, .any, .any, .any, .any, .any, .any, .any, .any, .any, .any, .any, .any, .any, .any, .any, .any, .any, .any, .any, .any, .any, .any, .any, .any, .any], h := [] } }, { x := .ret, tm := { t := [.any, .any, .any, .any, (.int .i64), .any, .any, .any, .any, .any, .any, .any, .any, .any, .any, .any, .any, .any, .any, .any, .any, .any, .any, .any, .any, .any, .any, .any, .any, .any, .any, .any, .any, .any, .any, .any, .any, .any, .any, .any, .any, .any, .any], h := [] } }]
noncomputable def bonus_CheckPlate_L6E : Env := { tt := seat_TT, glob := seat_GL, spec := [(15, specG bonus_Check_I bonus_Check_O bonus_Check_T), (55, specG bonus_ring_I bonus_ring_O bonus_ring_T)], body := [(32, Tryd.f32)], loops := [], nimp := 0 }
noncomputable def bonus_CheckPlate_L6S (ps : List PV) : TR := stepT bonus_CheckPlate_L6E 32 Tryd.f32 6 bonus_CheckPlate_L6I bonus_CheckPlate_L6O ps
theorem bonus_CheckPlate_L6Eok : EnvOK bonus_CheckPlate_L6E Tryd.prog := ⟨tok_of seat_TTok,
  all_cons bonus_Check_spec (all_cons bonus_ring_spec (all_nil)),
  all_nil,
  all_cons (body_ok Tryd.func32 (by kernel_rfl)) (all_nil)⟩
theorem bonus_CheckPlate_L6good : LoopGood Tryd.prog seat_GL bonus_CheckPlate_L6E.nimp (nodeC Tryd.f32 6) (pieceL bonus_CheckPlate_L6I bonus_CheckPlate_L6O (loopT bonus_CheckPlate_L6S)) :=
  loopGood_of seat_mo bonus_CheckPlate_L6Eok Tryd.func32 (by kernel_rfl) (by kernel_rfl) (by kernel_rfl) (fun _ => rfl)
def bonus_CheckPlate_L19I : Tmpl := { t := [.any, .any, .any, .any, .any, .any, .any, .any, .any, .any, .any, .any, .any, .any, .any, .any, .any, .any, .any, .any, .any, .any, .any, .any, .any, .any, .any, .any, .any, .any, .any, (.imm [(.int .i64), (.int .i64), (.int .i64)]), (.int .i64), (.int .i64), .any, .any, .any, .any, .any, .any, .any, .any, .any], h := [] }
def bonus_CheckPlate_L19O : List Out := [{ x := (.exit 2), tm := { t := [.any, .any, .any, .any, .any, .any, .any, .any, .any, .any, .any, .any, .any, .any, .any, .any, .any, .any, .any, .any, .any, .any, .any, .any, .any, .any, .any, .any, .any, .any, .any, .any, .any, .any, .any, .any, .any, .any, .any, .any, .any, .any, .any], h := [] } }, { x := .ret, tm := { t := [.any, .any, .any, .any, (.int .i64), .any, .any, .any, .any, .any, .any, .any, .any, .any, .any, .any, .any, .any, .any, .any, .any, .any, .any, .any, .any, .any, .any, .any, .any, .any, .any, .any, .any, .any, .any, .any, .any, .any, .any, .any, .any, .any, .any], h := [] } }]
noncomputable def bonus_CheckPlate_L19E : Env := { tt := seat_TT, glob := seat_GL, spec := [(15, specG bonus_Check_I bonus_Check_O bonus_Check_T), (55, specG bonus_ring_I bonus_ring_O bonus_ring_T)], body := [(32, Tryd.f32)], loops := [], nimp := 0 }
noncomputable def bonus_CheckPlate_L19S (ps : List PV) : TR := stepT bonus_CheckPlate_L19E 32 Tryd.f32 19 bonus_CheckPlate_L19I bonus_CheckPlate_L19O ps
theorem bonus_CheckPlate_L19Eok : EnvOK bonus_CheckPlate_L19E Tryd.prog := ⟨tok_of seat_TTok,
  all_cons bonus_Check_spec (all_cons bonus_ring_spec (all_nil)),
  all_nil,
  all_cons (body_ok Tryd.func32 (by kernel_rfl)) (all_nil)⟩
theorem bonus_CheckPlate_L19good : LoopGood Tryd.prog seat_GL bonus_CheckPlate_L19E.nimp (nodeC Tryd.f32 19) (pieceL bonus_CheckPlate_L19I bonus_CheckPlate_L19O (loopT bonus_CheckPlate_L19S)) :=
  loopGood_of seat_mo bonus_CheckPlate_L19Eok Tryd.func32 (by kernel_rfl) (by kernel_rfl) (by kernel_rfl) (fun _ => rfl)
noncomputable def bonus_CheckPlate_E : Env := { tt := seat_TT, glob := seat_GL, spec := [(15, specG bonus_Check_I bonus_Check_O bonus_Check_T), (55, specG bonus_ring_I bonus_ring_O bonus_ring_T)], body := [(32, Tryd.f32)], loops := [((32, 6), pieceL bonus_CheckPlate_L6I bonus_CheckPlate_L6O (loopT bonus_CheckPlate_L6S)), ((32, 19), pieceL bonus_CheckPlate_L19I bonus_CheckPlate_L19O (loopT bonus_CheckPlate_L19S))], nimp := 0 }
noncomputable def bonus_CheckPlate_T (ps : List PV) : TR := funcT bonus_CheckPlate_E 32 Tryd.f32 true bonus_CheckPlate_I bonus_CheckPlate_O ps
theorem bonus_CheckPlate_Eok : EnvOK bonus_CheckPlate_E Tryd.prog := ⟨tok_of seat_TTok,
  all_cons bonus_Check_spec (all_cons bonus_ring_spec (all_nil)),
  all_cons (loop_ok Tryd.func32 (by kernel_rfl) (by kernel_rfl) bonus_CheckPlate_L6good) (all_cons (loop_ok Tryd.func32 (by kernel_rfl) (by kernel_rfl) bonus_CheckPlate_L19good) (all_nil)),
  all_cons (body_ok Tryd.func32 (by kernel_rfl)) (all_nil)⟩
theorem bonus_CheckPlate_spec : Spec Tryd.prog seat_GL 32 (specG bonus_CheckPlate_I bonus_CheckPlate_O bonus_CheckPlate_T) := spec_of seat_mo bonus_CheckPlate_Eok Tryd.func32 (by kernel_rfl) (by kernel_rfl) (fun _ => rfl)

/-! 30 metrolab/bonus.Failures -/
def bonus_Failures_I : FIn := { args := [(.imm [(.int .i64), (.int .i64), (.int .i64), (.int .i64), (.int .i64), (.int .i64), .bool]), (.imm [(.int .i64), (.int .i64), (.int .i64)])], h := [] }
def bonus_Failures_O : List FOut := [{ res := (.tuple [(.imm [(.int .i64)]), (.int .i64)]), h := [] }]
def bonus_Failures_L8I : Tmpl := { t := [.any, (.imm [(.int .i64), (.int .i64), (.int .i64)]), .any, .any, .any, .any, .any, (.vec 0), .any, .any, .any, .any, .any, .any, .any, .any, (.imm [(.int .i64), (.int .i64), (.int .i64), (.int .i64), (.int .i64), (.int .i64), .bool]), (.int .i64), (.int .i64), .any, .any, .any, .any, .any, .any, .any, .any, .any, .any, .any, .any, .any, .any, .any, .any, .any], h := [.vec 3 [(.int .i64)]], pro := [(7, 3, [(.int .i64)])] }
def bonus_Failures_L8O : List Out := [{ x := (.exit 0), tm := { t := [.any, .any, .any, .any, .any, .any, .any, (.vec 0), .any, .any, .any, .any, .any, .any, .any, .any, .any, .any, .any, .any, .any, .any, .any, .any, .any, .any, .any, .any, .any, .any, .any, .any, .any, .any, .any, .any], h := [.vec 3 [(.int .i64)]] } }]
noncomputable def bonus_Failures_L8E : Env := { tt := seat_TT, glob := seat_GL, spec := [(32, specG bonus_CheckPlate_I bonus_CheckPlate_O bonus_CheckPlate_T), (49, specG bonus_good_I bonus_good_O bonus_good_T)], body := [(30, Tryd.f30)], loops := [], nimp := 0 }
noncomputable def bonus_Failures_L8S (ps : List PV) : TR := stepT bonus_Failures_L8E 30 Tryd.f30 8 bonus_Failures_L8I bonus_Failures_L8O ps
theorem bonus_Failures_L8Eok : EnvOK bonus_Failures_L8E Tryd.prog := ⟨tok_of seat_TTok,
  all_cons bonus_CheckPlate_spec (all_cons bonus_good_spec (all_nil)),
  all_nil,
  all_cons (body_ok Tryd.func30 (by kernel_rfl)) (all_nil)⟩
theorem bonus_Failures_L8good : LoopGood Tryd.prog seat_GL bonus_Failures_L8E.nimp (nodeC Tryd.f30 8) (pieceL bonus_Failures_L8I bonus_Failures_L8O (loopT bonus_Failures_L8S)) :=
  loopGood_of seat_mo bonus_Failures_L8Eok Tryd.func30 (by kernel_rfl) (by kernel_rfl) (by kernel_rfl) (fun _ => rfl)
noncomputable def bonus_Failures_E : Env := { tt := seat_TT, glob := seat_GL, spec := [(32, specG bonus_CheckPlate_I bonus_CheckPlate_O bonus_CheckPlate_T), (49, specG bonus_good_I bonus_good_O bonus_good_T)], body := [(30, Tryd.f30)], loops := [((30, 8), pieceL bonus_Failures_L8I bonus_Failures_L8O (loopT bonus_Failures_L8S))], nimp := 0 }
noncomputable def bonus_Failures_T (ps : List PV) : TR := funcT bonus_Failures_E 30 Tryd.f30 true bonus_Failures_I bonus_Failures_O ps
theorem bonus_Failures_Eok : EnvOK bonus_Failures_E Tryd.prog := ⟨tok_of seat_TTok,
  all_cons bonus_CheckPlate_spec (all_cons bonus_good_spec (all_nil)),
  all_cons (loop_ok Tryd.func30 (by kernel_rfl) (by kernel_rfl) bonus_Failures_L8good) (all_nil),
  all_cons (body_ok Tryd.func30 (by kernel_rfl)) (all_nil)⟩
theorem bonus_Failures_spec : Spec Tryd.prog seat_GL 30 (specG bonus_Failures_I bonus_Failures_O bonus_Failures_T) := spec_of seat_mo bonus_Failures_Eok Tryd.func30 (by kernel_rfl) (by kernel_rfl) (fun _ => rfl)

/-! 33 metrolab/metrolabref44.CheckPlate -/
def ref44_CheckPlate_I : FIn := { args := [(.imm [(.int .i64), (.int .i64), (.int .i64), (.int .i64), (.int .i64), (.int .i64), .bool]), (.imm [(.int .i64), (.int .i64), (.int .i64)])], h := [] }
def ref44_CheckPlate_O : List FOut := [{ res := (.int .i64), h := [] }]
def ref44_CheckPlate_L6I : Tmpl := { t := [(.imm [(.int .i64), (.int .i64), (.int .i64), (.int .i64), (.int .i64), (.int .i64), .bool]), (.imm [(.int .i64), (.int .i64), (.int .i64)]), .any, .any, .any, (.int .i64), .any, .any, .any, .any, .any, .any, .any, .any, .any, .any, .any, .any, .any, .any, .any, .any, .any, .any, .any, .any, .any, .any, .any, .any, .any, .any, .any, .any, .any, .any, .any, .any, .any, .any, .any, .any, .any, .any, .any], h := [] }
def ref44_CheckPlate_L6O : List Out := [{ x := (.exit 0), tm := { t := [(.imm [(.int .i64), (.int .i64), (.int .i64), (.int .i64), (.int .i64), (.int .i64), .bool]), (.imm [(.int .i64), (.int .i64), (.int .i64)]), .any, .any, .any, .any, .any, .any, .any, .any, .any, .any, .any, .any, .any, .any, .any, .any, .any, .any, .any, .any, .any, .any, .any, .any, .any, .any, .any, .any, .any, .any, .any, .any, .any, .any, .any, .any, .any, .any, .any, .any, .any, .any, .any], h := [] } }, { x := .ret, tm := { t := [.any, .any, .any, .any, (.int .i64), .any, .any, .any, .any, .any, .any, .any, .any, .any, .any, .any, .any, .any, .any, .any, .any, .any, .any, .any, .any, .any, .any, .any, .any, .any, .any, .any, .any, .any, .any, .any, .any, .any, .any, .any, .any, .any, .any, .any, .any], h := [] } }]
noncomputable def ref44_CheckPlate_L6E : Env := { tt := seat_TT, glob := seat_GL, spec := [(16, specG ref44_Check_I ref44_Check_O ref44_Check_T), (22, specG ref44_Ring_I ref44_Ring_O ref44_Ring_T)], body := [(33, Tryd.f33)], loops := [], nimp := 0 }
noncomputable def ref44_CheckPlate_L6S (ps : List PV) : TR := stepT ref44_CheckPlate_L6E 33 Tryd.f33 6 ref44_CheckPlate_L6I ref44_CheckPlate_L6O ps
theorem ref44_CheckPlate_L6Eok : EnvOK ref44_CheckPlate_L6E Tryd.prog := ⟨tok_of seat_TTok,
  all_cons ref44_Check_spec (all_cons ref44_Ring_spec (all_nil)),
  all_nil,
  all_cons (body_ok Tryd.func33 (by kernel_rfl)) (all_nil)⟩
theorem ref44_CheckPlate_L6good : LoopGood Tryd.prog seat_GL ref44_CheckPlate_L6E.nimp (nodeC Tryd.f33 6) (pieceL ref44_CheckPlate_L6I ref44_CheckPlate_L6O (loopT ref44_CheckPlate_L6S)) :=
  loopGood_of seat_mo ref44_CheckPlate_L6Eok Tryd.func33 (by kernel_rfl) (by kernel_rfl) (by kernel_rfl) (fun _ => rfl)
def ref44_CheckPlate_L18I : Tmpl := { t := [.any, (.imm [(.int .i64), (.int .i64), (.int .i64)]), .any, .any, .any, .any, .any, (.int .i64), .any, .any, .any, .any, .any, .any, .any, .any, .any, .any, .any, .any, .any, .any, .any, .any, .any, .any, .any, .any, .any, .any, .any, .any, .any, .any, .any, .any, .any, .any, .any, .any, .any, .any, .any, .any, .any], h := [] }
def ref44_CheckPlate_L18O : List Out := [{ x := (.exit 2), tm := { t := [.any, .any, .any, .any, .any, .any, .any, .any, .any, .any, .any, .any, .any, .any, .any, .any, .any, .any, .any, .any, .any, .any, .any, .any, .any, .any, .any, .any, .any, .any, .any, .any, .any, .any, .any, .any, .any, .any, .any, .any, .any, .any, .any, .any, .any], h := [] } }, { x := .ret, tm := { t := [.any, .any, .any, .any, (.int .i64), .any, .any, .any, .any, .any, .any, .any, .any, .any, .any, .any, .any, .any, .any, .any, .any, .any, .any, .any, .any, .any, .any, .any, .any, .any, .any, .any, .any, .any, .any, .any, .any, .any, .any, .any, .any, .any, .any, .any, .any], h := [] } }]
noncomputable def ref44_CheckPlate_L18E : Env := { tt := seat_TT, glob := seat_GL, spec := [(16, specG ref44_Check_I ref44_Check_O ref44_Check_T), (22, specG ref44_Ring_I ref44_Ring_O ref44_Ring_T)], body := [(33, Tryd.f33)], loops := [], nimp := 0 }
noncomputable def ref44_CheckPlate_L18S (ps : List PV) : TR := stepT ref44_CheckPlate_L18E 33 Tryd.f33 18 ref44_CheckPlate_L18I ref44_CheckPlate_L18O ps
theorem ref44_CheckPlate_L18Eok : EnvOK ref44_CheckPlate_L18E Tryd.prog := ⟨tok_of seat_TTok,
  all_cons ref44_Check_spec (all_cons ref44_Ring_spec (all_nil)),
  all_nil,
  all_cons (body_ok Tryd.func33 (by kernel_rfl)) (all_nil)⟩
theorem ref44_CheckPlate_L18good : LoopGood Tryd.prog seat_GL ref44_CheckPlate_L18E.nimp (nodeC Tryd.f33 18) (pieceL ref44_CheckPlate_L18I ref44_CheckPlate_L18O (loopT ref44_CheckPlate_L18S)) :=
  loopGood_of seat_mo ref44_CheckPlate_L18Eok Tryd.func33 (by kernel_rfl) (by kernel_rfl) (by kernel_rfl) (fun _ => rfl)
noncomputable def ref44_CheckPlate_E : Env := { tt := seat_TT, glob := seat_GL, spec := [(16, specG ref44_Check_I ref44_Check_O ref44_Check_T), (22, specG ref44_Ring_I ref44_Ring_O ref44_Ring_T)], body := [(33, Tryd.f33)], loops := [((33, 6), pieceL ref44_CheckPlate_L6I ref44_CheckPlate_L6O (loopT ref44_CheckPlate_L6S)), ((33, 18), pieceL ref44_CheckPlate_L18I ref44_CheckPlate_L18O (loopT ref44_CheckPlate_L18S))], nimp := 0 }
noncomputable def ref44_CheckPlate_T (ps : List PV) : TR := funcT ref44_CheckPlate_E 33 Tryd.f33 true ref44_CheckPlate_I ref44_CheckPlate_O ps
theorem ref44_CheckPlate_Eok : EnvOK ref44_CheckPlate_E Tryd.prog := ⟨tok_of seat_TTok,
  all_cons ref44_Check_spec (all_cons ref44_Ring_spec (all_nil)),
  all_cons (loop_ok Tryd.func33 (by kernel_rfl) (by kernel_rfl) ref44_CheckPlate_L6good) (all_cons (loop_ok Tryd.func33 (by kernel_rfl) (by kernel_rfl) ref44_CheckPlate_L18good) (all_nil)),
  all_cons (body_ok Tryd.func33 (by kernel_rfl)) (all_nil)⟩
theorem ref44_CheckPlate_spec : Spec Tryd.prog seat_GL 33 (specG ref44_CheckPlate_I ref44_CheckPlate_O ref44_CheckPlate_T) := spec_of seat_mo ref44_CheckPlate_Eok Tryd.func33 (by kernel_rfl) (by kernel_rfl) (fun _ => rfl)

/-! 31 metrolab/metrolabref44.Failures -/
def ref44_Failures_I : FIn := { args := [(.imm [(.int .i64), (.int .i64), (.int .i64), (.int .i64), (.int .i64), (.int .i64), .bool]), (.imm [(.int .i64), (.int .i64), (.int .i64)])], h := [] }
def ref44_Failures_O : List FOut := [{ res := (.tuple [(.imm [(.int .i64)]), (.int .i64)]), h := [] }]
def ref44_Failures_L8I : Tmpl := { t := [(.imm [(.int .i64), (.int .i64), (.int .i64), (.int .i64), (.int .i64), (.int .i64), .bool]), (.imm [(.int .i64), (.int .i64), (.int .i64)]), .any, .any, .any, .any, .any, (.vec 0), (.int .i64), .any, .any, .any, .any, .any, .any, .any, .any, .any, .any, .any, .any, .any, .any, .any, .any, .any, .any, .any, .any, .any, .any, .any, .any, .any, .any, .any], h := [.vec 3 [(.int .i64)]], pro := [(7, 3, [(.int .i64)])] }
def ref44_Failures_L8O : List Out := [{ x := (.exit 0), tm := { t := [.any, .any, .any, .any, .any, .any, .any, (.vec 0), .any, .any, .any, .any, .any, .any, .any, .any, .any, .any, .any, .any, .any, .any, .any, .any, .any, .any, .any, .any, .any, .any, .any, .any, .any, .any, .any, .any], h := [.vec 3 [(.int .i64)]] } }]
noncomputable def ref44_Failures_L8E : Env := { tt := seat_TT, glob := seat_GL, spec := [(33, specG ref44_CheckPlate_I ref44_CheckPlate_O ref44_CheckPlate_T), (53, specG ref44_Good_I ref44_Good_O ref44_Good_T)], body := [(31, Tryd.f31)], loops := [], nimp := 0 }
noncomputable def ref44_Failures_L8S (ps : List PV) : TR := stepT ref44_Failures_L8E 31 Tryd.f31 8 ref44_Failures_L8I ref44_Failures_L8O ps
theorem ref44_Failures_L8Eok : EnvOK ref44_Failures_L8E Tryd.prog := ⟨tok_of seat_TTok,
  all_cons ref44_CheckPlate_spec (all_cons ref44_Good_spec (all_nil)),
  all_nil,
  all_cons (body_ok Tryd.func31 (by kernel_rfl)) (all_nil)⟩
theorem ref44_Failures_L8good : LoopGood Tryd.prog seat_GL ref44_Failures_L8E.nimp (nodeC Tryd.f31 8) (pieceL ref44_Failures_L8I ref44_Failures_L8O (loopT ref44_Failures_L8S)) :=
  loopGood_of seat_mo ref44_Failures_L8Eok Tryd.func31 (by kernel_rfl) (by kernel_rfl) (by kernel_rfl) (fun _ => rfl)
noncomputable def ref44_Failures_E : Env := { tt := seat_TT, glob := seat_GL, spec := [(33, specG ref44_CheckPlate_I ref44_CheckPlate_O ref44_CheckPlate_T), (53, specG ref44_Good_I ref44_Good_O ref44_Good_T)], body := [(31, Tryd.f31)], loops := [((31, 8), pieceL ref44_Failures_L8I ref44_Failures_L8O (loopT ref44_Failures_L8S))], nimp := 0 }
noncomputable def ref44_Failures_T (ps : List PV) : TR := funcT ref44_Failures_E 31 Tryd.f31 true ref44_Failures_I ref44_Failures_O ps
theorem ref44_Failures_Eok : EnvOK ref44_Failures_E Tryd.prog := ⟨tok_of seat_TTok,
  all_cons ref44_CheckPlate_spec (all_cons ref44_Good_spec (all_nil)),
  all_cons (loop_ok Tryd.func31 (by kernel_rfl) (by kernel_rfl) ref44_Failures_L8good) (all_nil),
  all_cons (body_ok Tryd.func31 (by kernel_rfl)) (all_nil)⟩
theorem ref44_Failures_spec : Spec Tryd.prog seat_GL 31 (specG ref44_Failures_I ref44_Failures_O ref44_Failures_T) := spec_of seat_mo ref44_Failures_Eok Tryd.func31 (by kernel_rfl) (by kernel_rfl) (fun _ => rfl)

/-! 34 slices.Equal[[]int,int] -/
def slices_Equal_int_int_I : FIn := { args := [(.imm [(.int .i64)]), (.imm [(.int .i64)])], h := [] }
def slices_Equal_int_int_O : List FOut := [{ res := .bool, h := [] }]
def slices_Equal_int_int_L6I : Tmpl := { t := [(.imm [(.int .i64)]), (.imm [(.int .i64)]), .any, .any, .any, .any, .any, .any, .any, .any, .any, .any, (.int .i64), (.int .i64), .any, .any, .any, .any, .any, .any, .any, .any, .any, .any, .any, .any], h := [] }
def slices_Equal_int_int_L6O : List Out := [{ x := (.exit 0), tm := { t := [.any, .any, .any, .any, .any, .any, .any, .any, .any, .any, .any, .any, .any, .any, .any, .any, .any, .any, .any, .any, .any, .any, .any, .any, .any, .any], h := [] } }, { x := .ret, tm := { t := [.any, .any, .any, .any, .bool, .any, .any, .any, .any, .any, .any, .any, .any, .any, .any, .any, .any, .any, .any, .any, .any, .any, .any, .any, .any, .any], h := [] } }]
noncomputable def slices_Equal_int_int_L6E : Env := { tt := seat_TT, glob := seat_GL, spec := [], body := [(34, Tryd.f34)], loops := [], nimp := 0 }
noncomputable def slices_Equal_int_int_L6S (ps : List PV) : TR := stepT slices_Equal_int_int_L6E 34 Tryd.f34 6 slices_Equal_int_int_L6I slices_Equal_int_int_L6O ps
theorem slices_Equal_int_int_L6Eok : EnvOK slices_Equal_int_int_L6E Tryd.prog := ⟨tok_of seat_TTok,
  all_nil,
  all_nil,
  all_cons (body_ok Tryd.func34 (by kernel_rfl)) (all_nil)⟩
theorem slices_Equal_int_int_L6good : LoopGood Tryd.prog seat_GL slices_Equal_int_int_L6E.nimp (nodeC Tryd.f34 6) (pieceL slices_Equal_int_int_L6I slices_Equal_int_int_L6O (loopT slices_Equal_int_int_L6S)) :=
  loopGood_of seat_mo slices_Equal_int_int_L6Eok Tryd.func34 (by kernel_rfl) (by kernel_rfl) (by kernel_rfl) (fun _ => rfl)
noncomputable def slices_Equal_int_int_E : Env := { tt := seat_TT, glob := seat_GL, spec := [], body := [(34, Tryd.f34)], loops := [((34, 6), pieceL slices_Equal_int_int_L6I slices_Equal_int_int_L6O (loopT slices_Equal_int_int_L6S))], nimp := 0 }
noncomputable def slices_Equal_int_int_T (ps : List PV) : TR := funcT slices_Equal_int_int_E 34 Tryd.f34 true slices_Equal_int_int_I slices_Equal_int_int_O ps
theorem slices_Equal_int_int_Eok : EnvOK slices_Equal_int_int_E Tryd.prog := ⟨tok_of seat_TTok,
  all_nil,
  all_cons (loop_ok Tryd.func34 (by kernel_rfl) (by kernel_rfl) slices_Equal_int_int_L6good) (all_nil),
  all_cons (body_ok Tryd.func34 (by kernel_rfl)) (all_nil)⟩
theorem slices_Equal_int_int_spec : Spec Tryd.prog seat_GL 34 (specG slices_Equal_int_int_I slices_Equal_int_int_O slices_Equal_int_int_T) := spec_of seat_mo slices_Equal_int_int_Eok Tryd.func34 (by kernel_rfl) (by kernel_rfl) (fun _ => rfl)

/-! 10 metrolab/metrolablaw44.BonusPlates -/
def law44_BonusPlates_I : FIn := { args := [(.imm [(.int .i64), (.int .i64), (.int .i64), (.int .i64), (.int .i64), (.int .i64), .bool]), (.imm [(.int .i64), (.int .i64), (.int .i64)])], h := [] }
def law44_BonusPlates_O : List FOut := [{ res := .bool, h := [] }]
noncomputable def law44_BonusPlates_E : Env := { tt := seat_TT, glob := seat_GL, spec := [(17, specG law44_awake_I law44_awake_O law44_awake_T), (29, specG ref44_Few_I ref44_Few_O ref44_Few_T), (30, specG bonus_Failures_I bonus_Failures_O bonus_Failures_T), (31, specG ref44_Failures_I ref44_Failures_O ref44_Failures_T), (32, specG bonus_CheckPlate_I bonus_CheckPlate_O bonus_CheckPlate_T), (33, specG ref44_CheckPlate_I ref44_CheckPlate_O ref44_CheckPlate_T), (34, specG slices_Equal_int_int_I slices_Equal_int_int_O slices_Equal_int_int_T)], body := [(10, Tryd.f10)], loops := [], nimp := 0 }
noncomputable def law44_BonusPlates_T (ps : List PV) : TR := funcT law44_BonusPlates_E 10 Tryd.f10 true law44_BonusPlates_I law44_BonusPlates_O ps
theorem law44_BonusPlates_Eok : EnvOK law44_BonusPlates_E Tryd.prog := ⟨tok_of seat_TTok,
  all_cons law44_awake_spec (all_cons ref44_Few_spec (all_cons bonus_Failures_spec (all_cons ref44_Failures_spec (all_cons bonus_CheckPlate_spec (all_cons ref44_CheckPlate_spec (all_cons slices_Equal_int_int_spec (all_nil))))))),
  all_nil,
  all_cons (body_ok Tryd.func10 (by kernel_rfl)) (all_nil)⟩
theorem law44_BonusPlates_spec : Spec Tryd.prog seat_GL 10 (specG law44_BonusPlates_I law44_BonusPlates_O law44_BonusPlates_T) := spec_of seat_mo law44_BonusPlates_Eok Tryd.func10 (by kernel_rfl) (by kernel_rfl) (fun _ => rfl)
end Go.Eng
