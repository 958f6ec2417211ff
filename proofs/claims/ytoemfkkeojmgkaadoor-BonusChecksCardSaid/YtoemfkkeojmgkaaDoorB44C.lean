/- Contracts of the functions, printed by gen.py and emit.py. -/
import Derived.Test.YtoemfkkeojmgkaaDoorEngW
import Derived.KernelRfl
import Derived.Test.YtoemfkkeojmgkaaDoorProg
namespace Go.Eng
open Go.Proofs
noncomputable def b44TT : List (TypeId × TI) := [(1, (.mk .func 1 [.nilFunc] 8 false false)), (2, (.mk (.int .i64) 1 [(.int .i64 0)] 8 false false)), (3, (.mk (.int .i64) 1 [(.int .i64 0)] 8 false false)), (4, (.mk .bool 1 [(.bool false)] 1 false false)), (5, (.mk (.int .u8) 1 [(.int .u8 0)] 1 false false)), (6, (.mk (.int .u8) 1 [(.int .u8 0)] 1 false false)), (7, (.mk (.struct [(0, (2, 1)), (1, (3, 1)), (2, (4, 1)), (3, (6, 1))]) 4 [(.int .i64 0), (.int .i64 0), (.bool false), (.int .u8 0)] 24 true true)), (8, (.mk (.struct [(0, (2, 1)), (1, (3, 1)), (2, (4, 1)), (3, (6, 1))]) 4 [(.int .i64 0), (.int .i64 0), (.bool false), (.int .u8 0)] 24 true true)), (9, (.mk .str 1 [(.string (.mk (.mk [])))] 16 false false)), (12, (.mk (.int .u64) 1 [(.int .u64 0)] 8 false false)), (16, (.mk (.ptr 87) 1 [(.pointer .none)] 8 false false)), (23, (.mk (.struct [(0, (3, 1)), (1, (3, 1))]) 2 [(.int .i64 0), (.int .i64 0)] 16 true true)), (25, (.mk (.struct [(0, (3, 1)), (1, (3, 1))]) 2 [(.int .i64 0), (.int .i64 0)] 16 true true)), (27, (.mk (.struct [(0, (23, 2)), (2, (25, 2)), (4, (3, 1)), (5, (3, 1)), (6, (4, 1))]) 7 [(.int .i64 0), (.int .i64 0), (.int .i64 0), (.int .i64 0), (.int .i64 0), (.int .i64 0), (.bool false)] 56 true true)), (28, (.mk (.int .i64) 1 [(.int .i64 0)] 8 false false)), (32, (.mk .func 1 [.nilFunc] 8 false false)), (40, (.mk (.int .u16) 1 [(.int .u16 0)] 2 false false)), (43, (.mk (.struct [(0, (23, 2)), (2, (3, 1))]) 3 [(.int .i64 0), (.int .i64 0), (.int .i64 0)] 24 true true)), (44, (.mk (.int .i16) 1 [(.int .i16 0)] 2 false false)), (45, (.mk (.array 2 44 1) 2 [(.int .i16 0), (.int .i16 0)] 4 false false)), (56, (.mk (.slice 27 7) 1 [(.slice .none 0 0)] 24 false false)), (57, (.mk (.slice 43 3) 1 [(.slice .none 0 0)] 24 false false)), (59, (.mk (.slice 3 1) 1 [(.slice .none 0 0)] 24 false false)), (68, (.mk (.struct [(0, (27, 7)), (7, (3, 1))]) 8 [(.int .i64 0), (.int .i64 0), (.int .i64 0), (.int .i64 0), (.int .i64 0), (.int .i64 0), (.bool false), (.int .i64 0)] 64 true true)), (79, (.mk (.array 3 3 1) 3 [(.int .i64 0), (.int .i64 0), (.int .i64 0)] 24 false false)), (80, (.mk (.array 2 79 3) 6 [(.int .i64 0), (.int .i64 0), (.int .i64 0), (.int .i64 0), (.int .i64 0), (.int .i64 0)] 48 false false)), (85, (.mk (.array 0 16 1) 0 [] 0 false false)), (87, (.mk (.struct [(0, (85, 0))]) 0 [] 0 false true)), (89, (.mk (.int .u32) 1 [(.int .u32 0)] 4 false false)), (90, (.mk (.int .u8) 1 [(.int .u8 0)] 1 false false)), (91, (.mk (.int .u8) 1 [(.int .u8 0)] 1 false false)), (92, (.mk .func 1 [.nilFunc] 8 false false)), (93, (.mk (.ptr 5) 1 [(.pointer .none)] 8 false false)), (94, (.mk (.int .i32) 1 [(.int .i32 0)] 4 false false)), (95, (.mk (.int .i32) 1 [(.int .i32 0)] 4 false false)), (96, (.mk (.struct [(0, (12, 1)), (1, (12, 1)), (2, (89, 1)), (3, (90, 1)), (4, (5, 1)), (5, (5, 1)), (6, (91, 1)), (7, (92, 1)), (8, (93, 1)), (9, (94, 1)), (10, (95, 1))]) 11 [(.int .u64 0), (.int .u64 0), (.int .u32 0), (.int .u8 0), (.int .u8 0), (.int .u8 0), (.int .u8 0), .nilFunc, (.pointer .none), (.int .i32 0), (.int .i32 0)] 48 false true))]
noncomputable def b44GL : List (Nat × AV) := [(0, (.eptr [.int .i64, .int .i64, .int .i64, .int .i64, .int .i64, .int .i64] [[.i (-1), .i (-1), .i 1, .i 1, .i 1, .i (-1)]] 0 0))]
theorem b44TTok : b44TT.map (fun x => mkTI Tryd.prog x.1) = b44TT.map (·.2) := by kernel_rfl
theorem b44mo : Tryd.prog.follows .mixedOrders = true := by kernel_rfl

/-! 39 metrolab/bonus.in -/
def b44f39I : FIn := { args := [(.int .i64)], h := [] }
def b44f39O : List FOut := [{ res := .bool, h := [] }]
noncomputable def b44f39E : Env := { tt := b44TT, glob := b44GL, spec := [], body := [(39, Tryd.f39)], loops := [], nimp := 0 }
noncomputable def b44f39T (ps : List PV) : TR := funcT b44f39E 39 Tryd.f39 true b44f39I b44f39O ps
theorem b44f39Eok : EnvOK b44f39E Tryd.prog := ⟨tok_of b44TTok,
  all_nil,
  all_nil,
  all_cons (body_ok Tryd.func39 (by kernel_rfl)) (all_nil)⟩
theorem b44f39spec : Spec Tryd.prog b44GL 39 (specG b44f39I b44f39O b44f39T) := spec_of b44mo b44f39Eok Tryd.func39 (by kernel_rfl) (by kernel_rfl) (fun _ => rfl)

/-! 40 metrolab/bonus.size -/
def b44f40I : FIn := { args := [(.int .i64)], h := [] }
def b44f40O : List FOut := [{ res := .bool, h := [] }]
noncomputable def b44f40E : Env := { tt := b44TT, glob := b44GL, spec := [], body := [(40, Tryd.f40)], loops := [], nimp := 0 }
noncomputable def b44f40T (ps : List PV) : TR := funcT b44f40E 40 Tryd.f40 true b44f40I b44f40O ps
theorem b44f40Eok : EnvOK b44f40E Tryd.prog := ⟨tok_of b44TTok,
  all_nil,
  all_nil,
  all_cons (body_ok Tryd.func40 (by kernel_rfl)) (all_nil)⟩
theorem b44f40spec : Spec Tryd.prog b44GL 40 (specG b44f40I b44f40O b44f40T) := spec_of b44mo b44f40Eok Tryd.func40 (by kernel_rfl) (by kernel_rfl) (fun _ => rfl)

/-! 15 metrolab/bonus.Check -/
def b44f15I : FIn := { args := [(.agg [(.int .i64), (.int .i64), (.int .i64), (.int .i64), (.int .i64), (.int .i64), .bool])], h := [] }
def b44f15O : List FOut := [{ res := (.int .i64), h := [] }]
noncomputable def b44f15E : Env := { tt := b44TT, glob := b44GL, spec := [(39, specG b44f39I b44f39O b44f39T), (40, specG b44f40I b44f40O b44f40T)], body := [(15, Tryd.f15)], loops := [], nimp := 0 }
noncomputable def b44f15T (ps : List PV) : TR := funcT b44f15E 15 Tryd.f15 true b44f15I b44f15O ps
theorem b44f15Eok : EnvOK b44f15E Tryd.prog := ⟨tok_of b44TTok,
  all_cons b44f39spec (all_cons b44f40spec (all_nil)),
  all_nil,
  all_cons (body_ok Tryd.func15 (by kernel_rfl)) (all_nil)⟩
theorem b44f15spec : Spec Tryd.prog b44GL 15 (specG b44f15I b44f15O b44f15T) := spec_of b44mo b44f15Eok Tryd.func15 (by kernel_rfl) (by kernel_rfl) (fun _ => rfl)

/-! 35 metrolab/bonus.of -/
def b44f35I : FIn := { args := [(.agg [(.int .i64), (.int .i64), (.int .i64), (.int .i64), (.int .i64), (.int .i64), .bool])], h := [] }
def b44f35O : List FOut := [{ res := (.agg [(.int .i64), (.int .i64), (.int .i64), (.int .i64), (.int .i64), (.int .i64), .bool, (.int .i64)]), h := [] }]
noncomputable def b44f35E : Env := { tt := b44TT, glob := b44GL, spec := [], body := [(35, Tryd.f35)], loops := [], nimp := 0 }
noncomputable def b44f35T (ps : List PV) : TR := funcT b44f35E 35 Tryd.f35 true b44f35I b44f35O ps
theorem b44f35Eok : EnvOK b44f35E Tryd.prog := ⟨tok_of b44TTok,
  all_nil,
  all_nil,
  all_cons (body_ok Tryd.func35 (by kernel_rfl)) (all_nil)⟩
theorem b44f35spec : Spec Tryd.prog b44GL 35 (specG b44f35I b44f35O b44f35T) := spec_of b44mo b44f35Eok Tryd.func35 (by kernel_rfl) (by kernel_rfl) (fun _ => rfl)

/-! 36 (metrolab/bonus.condition).end -/
def b44f36I : FIn := { args := [(.agg [(.int .i64), (.int .i64), (.int .i64), (.int .i64), (.int .i64), (.int .i64), .bool, (.int .i64)]), (.int .i64)], h := [] }
def b44f36O : List FOut := [{ res := (.int .i64), h := [] }]
noncomputable def b44f36E : Env := { tt := b44TT, glob := b44GL, spec := [], body := [(36, Tryd.f36)], loops := [], nimp := 0 }
noncomputable def b44f36T (ps : List PV) : TR := funcT b44f36E 36 Tryd.f36 true b44f36I b44f36O ps
theorem b44f36Eok : EnvOK b44f36E Tryd.prog := ⟨tok_of b44TTok,
  all_nil,
  all_nil,
  all_cons (body_ok Tryd.func36 (by kernel_rfl)) (all_nil)⟩
theorem b44f36spec : Spec Tryd.prog b44GL 36 (specG b44f36I b44f36O b44f36T) := spec_of b44mo b44f36Eok Tryd.func36 (by kernel_rfl) (by kernel_rfl) (fun _ => rfl)

/-! 11 metrolab/bonus.Virtual -/
def b44f11I : FIn := { args := [(.agg [(.int .i64), (.int .i64), (.int .i64), (.int .i64), (.int .i64), (.int .i64), .bool])], h := [] }
def b44f11O : List FOut := [{ res := (.tuple [(.int .i64), (.int .i64)]), h := [] }]
noncomputable def b44f11E : Env := { tt := b44TT, glob := b44GL, spec := [(15, specG b44f15I b44f15O b44f15T), (35, specG b44f35I b44f35O b44f35T), (36, specG b44f36I b44f36O b44f36T)], body := [(11, Tryd.f11)], loops := [], nimp := 0 }
noncomputable def b44f11T (ps : List PV) : TR := funcT b44f11E 11 Tryd.f11 true b44f11I b44f11O ps
theorem b44f11Eok : EnvOK b44f11E Tryd.prog := ⟨tok_of b44TTok,
  all_cons b44f15spec (all_cons b44f35spec (all_cons b44f36spec (all_nil))),
  all_nil,
  all_cons (body_ok Tryd.func11 (by kernel_rfl)) (all_nil)⟩
theorem b44f11spec : Spec Tryd.prog b44GL 11 (specG b44f11I b44f11O b44f11T) := spec_of b44mo b44f11Eok Tryd.func11 (by kernel_rfl) (by kernel_rfl) (fun _ => rfl)

/-! 56 metrolab/metrolabref07.in -/
def b44f56I : FIn := { args := [(.int .i64)], h := [] }
def b44f56O : List FOut := [{ res := .bool, h := [] }]
noncomputable def b44f56E : Env := { tt := b44TT, glob := b44GL, spec := [], body := [(56, Tryd.f56)], loops := [], nimp := 0 }
noncomputable def b44f56T (ps : List PV) : TR := funcT b44f56E 56 Tryd.f56 true b44f56I b44f56O ps
theorem b44f56Eok : EnvOK b44f56E Tryd.prog := ⟨tok_of b44TTok,
  all_nil,
  all_nil,
  all_cons (body_ok Tryd.func56 (by kernel_rfl)) (all_nil)⟩
theorem b44f56spec : Spec Tryd.prog b44GL 56 (specG b44f56I b44f56O b44f56T) := spec_of b44mo b44f56Eok Tryd.func56 (by kernel_rfl) (by kernel_rfl) (fun _ => rfl)

/-! 41 metrolab/metrolabref07.Right -/
def b44f41I : FIn := { args := [(.agg [(.int .i64), (.int .i64)])], h := [] }
def b44f41O : List FOut := [{ res := .bool, h := [] }]
noncomputable def b44f41E : Env := { tt := b44TT, glob := b44GL, spec := [(56, specG b44f56I b44f56O b44f56T)], body := [(41, Tryd.f41)], loops := [], nimp := 0 }
noncomputable def b44f41T (ps : List PV) : TR := funcT b44f41E 41 Tryd.f41 true b44f41I b44f41O ps
theorem b44f41Eok : EnvOK b44f41E Tryd.prog := ⟨tok_of b44TTok,
  all_cons b44f56spec (all_nil),
  all_nil,
  all_cons (body_ok Tryd.func41 (by kernel_rfl)) (all_nil)⟩
theorem b44f41spec : Spec Tryd.prog b44GL 41 (specG b44f41I b44f41O b44f41T) := spec_of b44mo b44f41Eok Tryd.func41 (by kernel_rfl) (by kernel_rfl) (fun _ => rfl)

/-! 42 metrolab/metrolabref44.size -/
def b44f42I : FIn := { args := [(.int .i64)], h := [] }
def b44f42O : List FOut := [{ res := .bool, h := [] }]
noncomputable def b44f42E : Env := { tt := b44TT, glob := b44GL, spec := [], body := [(42, Tryd.f42)], loops := [], nimp := 0 }
noncomputable def b44f42T (ps : List PV) : TR := funcT b44f42E 42 Tryd.f42 true b44f42I b44f42O ps
theorem b44f42Eok : EnvOK b44f42E Tryd.prog := ⟨tok_of b44TTok,
  all_nil,
  all_nil,
  all_cons (body_ok Tryd.func42 (by kernel_rfl)) (all_nil)⟩
theorem b44f42spec : Spec Tryd.prog b44GL 42 (specG b44f42I b44f42O b44f42T) := spec_of b44mo b44f42Eok Tryd.func42 (by kernel_rfl) (by kernel_rfl) (fun _ => rfl)

/-! 16 metrolab/metrolabref44.Check -/
def b44f16I : FIn := { args := [(.agg [(.int .i64), (.int .i64), (.int .i64), (.int .i64), (.int .i64), (.int .i64), .bool])], h := [] }
def b44f16O : List FOut := [{ res := (.int .i64), h := [] }]
noncomputable def b44f16E : Env := { tt := b44TT, glob := b44GL, spec := [(41, specG b44f41I b44f41O b44f41T), (42, specG b44f42I b44f42O b44f42T)], body := [(16, Tryd.f16)], loops := [], nimp := 0 }
noncomputable def b44f16T (ps : List PV) : TR := funcT b44f16E 16 Tryd.f16 true b44f16I b44f16O ps
theorem b44f16Eok : EnvOK b44f16E Tryd.prog := ⟨tok_of b44TTok,
  all_cons b44f41spec (all_cons b44f42spec (all_nil)),
  all_nil,
  all_cons (body_ok Tryd.func16 (by kernel_rfl)) (all_nil)⟩
theorem b44f16spec : Spec Tryd.prog b44GL 16 (specG b44f16I b44f16O b44f16T) := spec_of b44mo b44f16Eok Tryd.func16 (by kernel_rfl) (by kernel_rfl) (fun _ => rfl)

/-! 37 metrolab/metrolabref44.Gauge -/
def b44f37I : FIn := { args := [(.agg [(.int .i64), (.int .i64), (.int .i64), (.int .i64), (.int .i64), (.int .i64), .bool])], h := [] }
def b44f37O : List FOut := [{ res := (.int .i64), h := [] }]
noncomputable def b44f37E : Env := { tt := b44TT, glob := b44GL, spec := [], body := [(37, Tryd.f37)], loops := [], nimp := 0 }
noncomputable def b44f37T (ps : List PV) : TR := funcT b44f37E 37 Tryd.f37 true b44f37I b44f37O ps
theorem b44f37Eok : EnvOK b44f37E Tryd.prog := ⟨tok_of b44TTok,
  all_nil,
  all_nil,
  all_cons (body_ok Tryd.func37 (by kernel_rfl)) (all_nil)⟩
theorem b44f37spec : Spec Tryd.prog b44GL 37 (specG b44f37I b44f37O b44f37T) := spec_of b44mo b44f37Eok Tryd.func37 (by kernel_rfl) (by kernel_rfl) (fun _ => rfl)

/-! 12 metrolab/metrolabref44.Virtual -/
def b44f12I : FIn := { args := [(.agg [(.int .i64), (.int .i64), (.int .i64), (.int .i64), (.int .i64), (.int .i64), .bool])], h := [] }
def b44f12O : List FOut := [{ res := (.tuple [(.int .i64), (.int .i64)]), h := [] }]
noncomputable def b44f12E : Env := { tt := b44TT, glob := b44GL, spec := [(16, specG b44f16I b44f16O b44f16T), (37, specG b44f37I b44f37O b44f37T)], body := [(12, Tryd.f12)], loops := [], nimp := 0 }
noncomputable def b44f12T (ps : List PV) : TR := funcT b44f12E 12 Tryd.f12 true b44f12I b44f12O ps
theorem b44f12Eok : EnvOK b44f12E Tryd.prog := ⟨tok_of b44TTok,
  all_cons b44f16spec (all_cons b44f37spec (all_nil)),
  all_nil,
  all_cons (body_ok Tryd.func12 (by kernel_rfl)) (all_nil)⟩
theorem b44f12spec : Spec Tryd.prog b44GL 12 (specG b44f12I b44f12O b44f12T) := spec_of b44mo b44f12Eok Tryd.func12 (by kernel_rfl) (by kernel_rfl) (fun _ => rfl)

/-! 13 metrolab/bonus.Resultant -/
def b44f13I : FIn := { args := [(.agg [(.int .i64), (.int .i64), (.int .i64), (.int .i64), (.int .i64), (.int .i64), .bool])], h := [] }
def b44f13O : List FOut := [{ res := (.tuple [(.int .i64), (.int .i64)]), h := [] }]
noncomputable def b44f13E : Env := { tt := b44TT, glob := b44GL, spec := [(15, specG b44f15I b44f15O b44f15T), (35, specG b44f35I b44f35O b44f35T), (36, specG b44f36I b44f36O b44f36T)], body := [(13, Tryd.f13)], loops := [], nimp := 0 }
noncomputable def b44f13T (ps : List PV) : TR := funcT b44f13E 13 Tryd.f13 true b44f13I b44f13O ps
theorem b44f13Eok : EnvOK b44f13E Tryd.prog := ⟨tok_of b44TTok,
  all_cons b44f15spec (all_cons b44f35spec (all_cons b44f36spec (all_nil))),
  all_nil,
  all_cons (body_ok Tryd.func13 (by kernel_rfl)) (all_nil)⟩
theorem b44f13spec : Spec Tryd.prog b44GL 13 (specG b44f13I b44f13O b44f13T) := spec_of b44mo b44f13Eok Tryd.func13 (by kernel_rfl) (by kernel_rfl) (fun _ => rfl)

/-! 38 metrolab/metrolabref44.Other -/
def b44f38I : FIn := { args := [(.agg [(.int .i64), (.int .i64), (.int .i64), (.int .i64), (.int .i64), (.int .i64), .bool])], h := [] }
def b44f38O : List FOut := [{ res := (.int .i64), h := [] }]
noncomputable def b44f38E : Env := { tt := b44TT, glob := b44GL, spec := [], body := [(38, Tryd.f38)], loops := [], nimp := 0 }
noncomputable def b44f38T (ps : List PV) : TR := funcT b44f38E 38 Tryd.f38 true b44f38I b44f38O ps
theorem b44f38Eok : EnvOK b44f38E Tryd.prog := ⟨tok_of b44TTok,
  all_nil,
  all_nil,
  all_cons (body_ok Tryd.func38 (by kernel_rfl)) (all_nil)⟩
theorem b44f38spec : Spec Tryd.prog b44GL 38 (specG b44f38I b44f38O b44f38T) := spec_of b44mo b44f38Eok Tryd.func38 (by kernel_rfl) (by kernel_rfl) (fun _ => rfl)

/-! 14 metrolab/metrolabref44.Resultant -/
def b44f14I : FIn := { args := [(.agg [(.int .i64), (.int .i64), (.int .i64), (.int .i64), (.int .i64), (.int .i64), .bool])], h := [] }
def b44f14O : List FOut := [{ res := (.tuple [(.int .i64), (.int .i64)]), h := [] }]
noncomputable def b44f14E : Env := { tt := b44TT, glob := b44GL, spec := [(16, specG b44f16I b44f16O b44f16T), (38, specG b44f38I b44f38O b44f38T)], body := [(14, Tryd.f14)], loops := [], nimp := 0 }
noncomputable def b44f14T (ps : List PV) : TR := funcT b44f14E 14 Tryd.f14 true b44f14I b44f14O ps
theorem b44f14Eok : EnvOK b44f14E Tryd.prog := ⟨tok_of b44TTok,
  all_cons b44f16spec (all_cons b44f38spec (all_nil)),
  all_nil,
  all_cons (body_ok Tryd.func14 (by kernel_rfl)) (all_nil)⟩
theorem b44f14spec : Spec Tryd.prog b44GL 14 (specG b44f14I b44f14O b44f14T) := spec_of b44mo b44f14Eok Tryd.func14 (by kernel_rfl) (by kernel_rfl) (fun _ => rfl)

/-! 44 metrolab/bonus.within -/
def b44f44I : FIn := { args := [(.agg [(.int .i64), (.int .i64), (.int .i64), (.int .i64), (.int .i64), (.int .i64), .bool]), (.int .i64)], h := [] }
def b44f44O : List FOut := [{ res := .bool, h := [] }]
noncomputable def b44f44E : Env := { tt := b44TT, glob := b44GL, spec := [], body := [(44, Tryd.f44)], loops := [], nimp := 0 }
noncomputable def b44f44T (ps : List PV) : TR := funcT b44f44E 44 Tryd.f44 true b44f44I b44f44O ps
theorem b44f44Eok : EnvOK b44f44E Tryd.prog := ⟨tok_of b44TTok,
  all_nil,
  all_nil,
  all_cons (body_ok Tryd.func44 (by kernel_rfl)) (all_nil)⟩
theorem b44f44spec : Spec Tryd.prog b44GL 44 (specG b44f44I b44f44O b44f44T) := spec_of b44mo b44f44Eok Tryd.func44 (by kernel_rfl) (by kernel_rfl) (fun _ => rfl)

/-! 45 (metrolab/bonus.condition).extra -/
def b44f45I : FIn := { args := [(.agg [(.int .i64), (.int .i64), (.int .i64), (.int .i64), (.int .i64), (.int .i64), .bool, (.int .i64)]), (.int .i64)], h := [] }
def b44f45O : List FOut := [{ res := (.int .i64), h := [] }]
noncomputable def b44f45E : Env := { tt := b44TT, glob := b44GL, spec := [(36, specG b44f36I b44f36O b44f36T)], body := [(45, Tryd.f45)], loops := [], nimp := 0 }
noncomputable def b44f45T (ps : List PV) : TR := funcT b44f45E 45 Tryd.f45 true b44f45I b44f45O ps
theorem b44f45Eok : EnvOK b44f45E Tryd.prog := ⟨tok_of b44TTok,
  all_cons b44f36spec (all_nil),
  all_nil,
  all_cons (body_ok Tryd.func45 (by kernel_rfl)) (all_nil)⟩
theorem b44f45spec : Spec Tryd.prog b44GL 45 (specG b44f45I b44f45O b44f45T) := spec_of b44mo b44f45Eok Tryd.func45 (by kernel_rfl) (by kernel_rfl) (fun _ => rfl)

/-! 18 metrolab/bonus.Bonus -/
def b44f18I : FIn := { args := [(.agg [(.int .i64), (.int .i64), (.int .i64), (.int .i64), (.int .i64), (.int .i64), .bool]), (.int .i64)], h := [] }
def b44f18O : List FOut := [{ res := (.tuple [(.int .i64), (.int .i64)]), h := [] }]
noncomputable def b44f18E : Env := { tt := b44TT, glob := b44GL, spec := [(15, specG b44f15I b44f15O b44f15T), (35, specG b44f35I b44f35O b44f35T), (44, specG b44f44I b44f44O b44f44T), (45, specG b44f45I b44f45O b44f45T)], body := [(18, Tryd.f18)], loops := [], nimp := 0 }
noncomputable def b44f18T (ps : List PV) : TR := funcT b44f18E 18 Tryd.f18 true b44f18I b44f18O ps
theorem b44f18Eok : EnvOK b44f18E Tryd.prog := ⟨tok_of b44TTok,
  all_cons b44f15spec (all_cons b44f35spec (all_cons b44f44spec (all_cons b44f45spec (all_nil)))),
  all_nil,
  all_cons (body_ok Tryd.func18 (by kernel_rfl)) (all_nil)⟩
theorem b44f18spec : Spec Tryd.prog b44GL 18 (specG b44f18I b44f18O b44f18T) := spec_of b44mo b44f18Eok Tryd.func18 (by kernel_rfl) (by kernel_rfl) (fun _ => rfl)

/-! 20 metrolab/bonus.Allowed -/
def b44f20I : FIn := { args := [(.agg [(.int .i64), (.int .i64), (.int .i64), (.int .i64), (.int .i64), (.int .i64), .bool]), (.int .i64)], h := [] }
def b44f20O : List FOut := [{ res := (.tuple [(.int .i64), (.int .i64)]), h := [] }]
noncomputable def b44f20E : Env := { tt := b44TT, glob := b44GL, spec := [(18, specG b44f18I b44f18O b44f18T)], body := [(20, Tryd.f20)], loops := [], nimp := 0 }
noncomputable def b44f20T (ps : List PV) : TR := funcT b44f20E 20 Tryd.f20 true b44f20I b44f20O ps
theorem b44f20Eok : EnvOK b44f20E Tryd.prog := ⟨tok_of b44TTok,
  all_cons b44f18spec (all_nil),
  all_nil,
  all_cons (body_ok Tryd.func20 (by kernel_rfl)) (all_nil)⟩
theorem b44f20spec : Spec Tryd.prog b44GL 20 (specG b44f20I b44f20O b44f20T) := spec_of b44mo b44f20Eok Tryd.func20 (by kernel_rfl) (by kernel_rfl) (fun _ => rfl)

/-! 55 metrolab/bonus.ring -/
def b44f55I : FIn := { args := [(.agg [(.int .i64), (.int .i64), (.int .i64)])], h := [] }
def b44f55O : List FOut := [{ res := (.int .i64), h := [] }]
noncomputable def b44f55E : Env := { tt := b44TT, glob := b44GL, spec := [(39, specG b44f39I b44f39O b44f39T), (40, specG b44f40I b44f40O b44f40T)], body := [(55, Tryd.f55)], loops := [], nimp := 0 }
noncomputable def b44f55T (ps : List PV) : TR := funcT b44f55E 55 Tryd.f55 true b44f55I b44f55O ps
theorem b44f55Eok : EnvOK b44f55E Tryd.prog := ⟨tok_of b44TTok,
  all_cons b44f39spec (all_cons b44f40spec (all_nil)),
  all_nil,
  all_cons (body_ok Tryd.func55 (by kernel_rfl)) (all_nil)⟩
theorem b44f55spec : Spec Tryd.prog b44GL 55 (specG b44f55I b44f55O b44f55T) := spec_of b44mo b44f55Eok Tryd.func55 (by kernel_rfl) (by kernel_rfl) (fun _ => rfl)

/-! 48 metrolab/bonus.both -/
def b44f48I : FIn := { args := [(.agg [(.int .i64), (.int .i64), (.int .i64), (.int .i64), (.int .i64), (.int .i64), .bool]), (.agg [(.int .i64), (.int .i64), (.int .i64)])], h := [] }
def b44f48O : List FOut := [{ res := (.int .i64), h := [] }]
noncomputable def b44f48E : Env := { tt := b44TT, glob := b44GL, spec := [(15, specG b44f15I b44f15O b44f15T), (55, specG b44f55I b44f55O b44f55T)], body := [(48, Tryd.f48)], loops := [], nimp := 0 }
noncomputable def b44f48T (ps : List PV) : TR := funcT b44f48E 48 Tryd.f48 true b44f48I b44f48O ps
theorem b44f48Eok : EnvOK b44f48E Tryd.prog := ⟨tok_of b44TTok,
  all_cons b44f15spec (all_cons b44f55spec (all_nil)),
  all_nil,
  all_cons (body_ok Tryd.func48 (by kernel_rfl)) (all_nil)⟩
theorem b44f48spec : Spec Tryd.prog b44GL 48 (specG b44f48I b44f48O b44f48T) := spec_of b44mo b44f48Eok Tryd.func48 (by kernel_rfl) (by kernel_rfl) (fun _ => rfl)

/-! 50 metrolab/bonus.gap -/
def b44f50I : FIn := { args := [(.agg [(.int .i64), (.int .i64), (.int .i64), (.int .i64), (.int .i64), (.int .i64), .bool]), (.agg [(.int .i64), (.int .i64), (.int .i64)])], h := [] }
def b44f50O : List FOut := [{ res := (.tuple [(.int .i64), (.int .i64)]), h := [] }]
noncomputable def b44f50E : Env := { tt := b44TT, glob := b44GL, spec := [], body := [(50, Tryd.f50)], loops := [], nimp := 0 }
noncomputable def b44f50T (ps : List PV) : TR := funcT b44f50E 50 Tryd.f50 true b44f50I b44f50O ps
theorem b44f50Eok : EnvOK b44f50E Tryd.prog := ⟨tok_of b44TTok,
  all_nil,
  all_nil,
  all_cons (body_ok Tryd.func50 (by kernel_rfl)) (all_nil)⟩
theorem b44f50spec : Spec Tryd.prog b44GL 50 (specG b44f50I b44f50O b44f50T) := spec_of b44mo b44f50Eok Tryd.func50 (by kernel_rfl) (by kernel_rfl) (fun _ => rfl)

/-! 49 metrolab/bonus.good -/
def b44f49I : FIn := { args := [(.agg [(.int .i64), (.int .i64), (.int .i64), (.int .i64), (.int .i64), (.int .i64), .bool]), (.agg [(.int .i64), (.int .i64), (.int .i64)])], h := [] }
def b44f49O : List FOut := [{ res := .bool, h := [] }]
noncomputable def b44f49E : Env := { tt := b44TT, glob := b44GL, spec := [(35, specG b44f35I b44f35O b44f35T), (44, specG b44f44I b44f44O b44f44T), (45, specG b44f45I b44f45O b44f45T), (50, specG b44f50I b44f50O b44f50T)], body := [(49, Tryd.f49)], loops := [], nimp := 0 }
noncomputable def b44f49T (ps : List PV) : TR := funcT b44f49E 49 Tryd.f49 true b44f49I b44f49O ps
theorem b44f49Eok : EnvOK b44f49E Tryd.prog := ⟨tok_of b44TTok,
  all_cons b44f35spec (all_cons b44f44spec (all_cons b44f45spec (all_cons b44f50spec (all_nil)))),
  all_nil,
  all_cons (body_ok Tryd.func49 (by kernel_rfl)) (all_nil)⟩
theorem b44f49spec : Spec Tryd.prog b44GL 49 (specG b44f49I b44f49O b44f49T) := spec_of b44mo b44f49Eok Tryd.func49 (by kernel_rfl) (by kernel_rfl) (fun _ => rfl)

/-! 23 metrolab/bonus.Keeps -/
def b44f23I : FIn := { args := [(.agg [(.int .i64), (.int .i64), (.int .i64), (.int .i64), (.int .i64), (.int .i64), .bool]), (.agg [(.int .i64), (.int .i64), (.int .i64)])], h := [] }
def b44f23O : List FOut := [{ res := (.tuple [.bool, (.int .i64)]), h := [] }]
noncomputable def b44f23E : Env := { tt := b44TT, glob := b44GL, spec := [(48, specG b44f48I b44f48O b44f48T), (49, specG b44f49I b44f49O b44f49T)], body := [(23, Tryd.f23)], loops := [], nimp := 0 }
noncomputable def b44f23T (ps : List PV) : TR := funcT b44f23E 23 Tryd.f23 true b44f23I b44f23O ps
theorem b44f23Eok : EnvOK b44f23E Tryd.prog := ⟨tok_of b44TTok,
  all_cons b44f48spec (all_cons b44f49spec (all_nil)),
  all_nil,
  all_cons (body_ok Tryd.func23 (by kernel_rfl)) (all_nil)⟩
theorem b44f23spec : Spec Tryd.prog b44GL 23 (specG b44f23I b44f23O b44f23T) := spec_of b44mo b44f23Eok Tryd.func23 (by kernel_rfl) (by kernel_rfl) (fun _ => rfl)

/-! 24 metrolab/bonus.KeepsBox -/
def b44f24I : FIn := { args := [(.agg [(.int .i64), (.int .i64), (.int .i64), (.int .i64), (.int .i64), (.int .i64), .bool]), (.agg [(.int .i64), (.int .i64), (.int .i64)])], h := [] }
def b44f24O : List FOut := [{ res := (.tuple [.bool, (.int .i64)]), h := [] }]
noncomputable def b44f24E : Env := { tt := b44TT, glob := b44GL, spec := [(35, specG b44f35I b44f35O b44f35T), (44, specG b44f44I b44f44O b44f44T), (45, specG b44f45I b44f45O b44f45T), (48, specG b44f48I b44f48O b44f48T), (50, specG b44f50I b44f50O b44f50T)], body := [(24, Tryd.f24)], loops := [], nimp := 0 }
noncomputable def b44f24T (ps : List PV) : TR := funcT b44f24E 24 Tryd.f24 true b44f24I b44f24O ps
theorem b44f24Eok : EnvOK b44f24E Tryd.prog := ⟨tok_of b44TTok,
  all_cons b44f35spec (all_cons b44f44spec (all_cons b44f45spec (all_cons b44f48spec (all_cons b44f50spec (all_nil))))),
  all_nil,
  all_cons (body_ok Tryd.func24 (by kernel_rfl)) (all_nil)⟩
theorem b44f24spec : Spec Tryd.prog b44GL 24 (specG b44f24I b44f24O b44f24T) := spec_of b44mo b44f24Eok Tryd.func24 (by kernel_rfl) (by kernel_rfl) (fun _ => rfl)

/-! 43 metrolab/metrolablaw44.Hole -/
def b44f43I : FIn := { args := [(.int .i64)], h := [] }
def b44f43O : List FOut := [{ res := (.agg [(.int .i64), (.int .i64), (.int .i64), (.int .i64), (.int .i64), (.int .i64), .bool]), h := [] }]
noncomputable def b44f43E : Env := { tt := b44TT, glob := b44GL, spec := [], body := [(43, Tryd.f43)], loops := [], nimp := 0 }
noncomputable def b44f43T (ps : List PV) : TR := funcT b44f43E 43 Tryd.f43 true b44f43I b44f43O ps
theorem b44f43Eok : EnvOK b44f43E Tryd.prog := ⟨tok_of b44TTok,
  all_nil,
  all_nil,
  all_cons (body_ok Tryd.func43 (by kernel_rfl)) (all_nil)⟩
theorem b44f43spec : Spec Tryd.prog b44GL 43 (specG b44f43I b44f43O b44f43T) := spec_of b44mo b44f43Eok Tryd.func43 (by kernel_rfl) (by kernel_rfl) (fun _ => rfl)

/-! 17 metrolab/metrolablaw44.awake -/
def b44f17I : FIn := { args := [], h := [] }
def b44f17O : List FOut := [{ res := .bool, h := [] }]
noncomputable def b44f17E : Env := { tt := b44TT, glob := b44GL, spec := [(11, specG b44f11I b44f11O b44f11T), (13, specG b44f13I b44f13O b44f13T), (18, specG b44f18I b44f18O b44f18T), (20, specG b44f20I b44f20O b44f20T), (23, specG b44f23I b44f23O b44f23T), (24, specG b44f24I b44f24O b44f24T), (43, specG b44f43I b44f43O b44f43T)], body := [(17, Tryd.f17)], loops := [], nimp := 0 }
noncomputable def b44f17T (ps : List PV) : TR := funcT b44f17E 17 Tryd.f17 true b44f17I b44f17O ps
theorem b44f17Eok : EnvOK b44f17E Tryd.prog := ⟨tok_of b44TTok,
  all_cons b44f11spec (all_cons b44f13spec (all_cons b44f18spec (all_cons b44f20spec (all_cons b44f23spec (all_cons b44f24spec (all_cons b44f43spec (all_nil))))))),
  all_nil,
  all_cons (body_ok Tryd.func17 (by kernel_rfl)) (all_nil)⟩
theorem b44f17spec : Spec Tryd.prog b44GL 17 (specG b44f17I b44f17O b44f17T) := spec_of b44mo b44f17Eok Tryd.func17 (by kernel_rfl) (by kernel_rfl) (fun _ => rfl)

/-! 3 metrolab/metrolablaw44.BonusChecks -/
def b44f3I : FIn := { args := [(.agg [(.int .i64), (.int .i64), (.int .i64), (.int .i64), (.int .i64), (.int .i64), .bool])], h := [] }
def b44f3O : List FOut := [{ res := .bool, h := [] }]
noncomputable def b44f3E : Env := { tt := b44TT, glob := b44GL, spec := [(11, specG b44f11I b44f11O b44f11T), (12, specG b44f12I b44f12O b44f12T), (13, specG b44f13I b44f13O b44f13T), (14, specG b44f14I b44f14O b44f14T), (15, specG b44f15I b44f15O b44f15T), (16, specG b44f16I b44f16O b44f16T), (17, specG b44f17I b44f17O b44f17T)], body := [(3, Tryd.f3)], loops := [], nimp := 0 }
noncomputable def b44f3T (ps : List PV) : TR := funcT b44f3E 3 Tryd.f3 true b44f3I b44f3O ps
theorem b44f3Eok : EnvOK b44f3E Tryd.prog := ⟨tok_of b44TTok,
  all_cons b44f11spec (all_cons b44f12spec (all_cons b44f13spec (all_cons b44f14spec (all_cons b44f15spec (all_cons b44f16spec (all_cons b44f17spec (all_nil))))))),
  all_nil,
  all_cons (body_ok Tryd.func3 (by kernel_rfl)) (all_nil)⟩
theorem b44f3spec : Spec Tryd.prog b44GL 3 (specG b44f3I b44f3O b44f3T) := spec_of b44mo b44f3Eok Tryd.func3 (by kernel_rfl) (by kernel_rfl) (fun _ => rfl)

/-! 46 metrolab/metrolabref44.Inside -/
def b44f46I : FIn := { args := [(.agg [(.int .i64), (.int .i64), (.int .i64), (.int .i64), (.int .i64), (.int .i64), .bool]), (.int .i64)], h := [] }
def b44f46O : List FOut := [{ res := .bool, h := [] }]
noncomputable def b44f46E : Env := { tt := b44TT, glob := b44GL, spec := [], body := [(46, Tryd.f46)], loops := [], nimp := 0 }
noncomputable def b44f46T (ps : List PV) : TR := funcT b44f46E 46 Tryd.f46 true b44f46I b44f46O ps
theorem b44f46Eok : EnvOK b44f46E Tryd.prog := ⟨tok_of b44TTok,
  all_nil,
  all_nil,
  all_cons (body_ok Tryd.func46 (by kernel_rfl)) (all_nil)⟩
theorem b44f46spec : Spec Tryd.prog b44GL 46 (specG b44f46I b44f46O b44f46T) := spec_of b44mo b44f46Eok Tryd.func46 (by kernel_rfl) (by kernel_rfl) (fun _ => rfl)

/-! 47 metrolab/metrolabref44.Extra -/
def b44f47I : FIn := { args := [(.agg [(.int .i64), (.int .i64), (.int .i64), (.int .i64), (.int .i64), (.int .i64), .bool]), (.int .i64)], h := [] }
def b44f47O : List FOut := [{ res := (.int .i64), h := [] }]
noncomputable def b44f47E : Env := { tt := b44TT, glob := b44GL, spec := [], body := [(47, Tryd.f47)], loops := [], nimp := 0 }
noncomputable def b44f47T (ps : List PV) : TR := funcT b44f47E 47 Tryd.f47 true b44f47I b44f47O ps
theorem b44f47Eok : EnvOK b44f47E Tryd.prog := ⟨tok_of b44TTok,
  all_nil,
  all_nil,
  all_cons (body_ok Tryd.func47 (by kernel_rfl)) (all_nil)⟩
theorem b44f47spec : Spec Tryd.prog b44GL 47 (specG b44f47I b44f47O b44f47T) := spec_of b44mo b44f47Eok Tryd.func47 (by kernel_rfl) (by kernel_rfl) (fun _ => rfl)

/-! 19 metrolab/metrolabref44.Bonus -/
def b44f19I : FIn := { args := [(.agg [(.int .i64), (.int .i64), (.int .i64), (.int .i64), (.int .i64), (.int .i64), .bool]), (.int .i64)], h := [] }
def b44f19O : List FOut := [{ res := (.tuple [(.int .i64), (.int .i64)]), h := [] }]
noncomputable def b44f19E : Env := { tt := b44TT, glob := b44GL, spec := [(16, specG b44f16I b44f16O b44f16T), (46, specG b44f46I b44f46O b44f46T), (47, specG b44f47I b44f47O b44f47T)], body := [(19, Tryd.f19)], loops := [], nimp := 0 }
noncomputable def b44f19T (ps : List PV) : TR := funcT b44f19E 19 Tryd.f19 true b44f19I b44f19O ps
theorem b44f19Eok : EnvOK b44f19E Tryd.prog := ⟨tok_of b44TTok,
  all_cons b44f16spec (all_cons b44f46spec (all_cons b44f47spec (all_nil))),
  all_nil,
  all_cons (body_ok Tryd.func19 (by kernel_rfl)) (all_nil)⟩
theorem b44f19spec : Spec Tryd.prog b44GL 19 (specG b44f19I b44f19O b44f19T) := spec_of b44mo b44f19Eok Tryd.func19 (by kernel_rfl) (by kernel_rfl) (fun _ => rfl)

/-! 21 metrolab/metrolabref44.Allowed -/
def b44f21I : FIn := { args := [(.agg [(.int .i64), (.int .i64), (.int .i64), (.int .i64), (.int .i64), (.int .i64), .bool]), (.int .i64)], h := [] }
def b44f21O : List FOut := [{ res := (.tuple [(.int .i64), (.int .i64)]), h := [] }]
noncomputable def b44f21E : Env := { tt := b44TT, glob := b44GL, spec := [(19, specG b44f19I b44f19O b44f19T)], body := [(21, Tryd.f21)], loops := [], nimp := 0 }
noncomputable def b44f21T (ps : List PV) : TR := funcT b44f21E 21 Tryd.f21 true b44f21I b44f21O ps
theorem b44f21Eok : EnvOK b44f21E Tryd.prog := ⟨tok_of b44TTok,
  all_cons b44f19spec (all_nil),
  all_nil,
  all_cons (body_ok Tryd.func21 (by kernel_rfl)) (all_nil)⟩
theorem b44f21spec : Spec Tryd.prog b44GL 21 (specG b44f21I b44f21O b44f21T) := spec_of b44mo b44f21Eok Tryd.func21 (by kernel_rfl) (by kernel_rfl) (fun _ => rfl)

/-! 4 metrolab/metrolablaw44.BonusSizes -/
def b44f4I : FIn := { args := [(.agg [(.int .i64), (.int .i64), (.int .i64), (.int .i64), (.int .i64), (.int .i64), .bool]), (.int .i64)], h := [] }
def b44f4O : List FOut := [{ res := .bool, h := [] }]
noncomputable def b44f4E : Env := { tt := b44TT, glob := b44GL, spec := [(17, specG b44f17I b44f17O b44f17T), (18, specG b44f18I b44f18O b44f18T), (19, specG b44f19I b44f19O b44f19T), (20, specG b44f20I b44f20O b44f20T), (21, specG b44f21I b44f21O b44f21T)], body := [(4, Tryd.f4)], loops := [], nimp := 0 }
noncomputable def b44f4T (ps : List PV) : TR := funcT b44f4E 4 Tryd.f4 true b44f4I b44f4O ps
theorem b44f4Eok : EnvOK b44f4E Tryd.prog := ⟨tok_of b44TTok,
  all_cons b44f17spec (all_cons b44f18spec (all_cons b44f19spec (all_cons b44f20spec (all_cons b44f21spec (all_nil))))),
  all_nil,
  all_cons (body_ok Tryd.func4 (by kernel_rfl)) (all_nil)⟩
theorem b44f4spec : Spec Tryd.prog b44GL 4 (specG b44f4I b44f4O b44f4T) := spec_of b44mo b44f4Eok Tryd.func4 (by kernel_rfl) (by kernel_rfl) (fun _ => rfl)

/-! 5 metrolab/metrolablaw44.BonusMeets -/
def b44f5I : FIn := { args := [(.agg [(.int .i64), (.int .i64), (.int .i64), (.int .i64), (.int .i64), (.int .i64), .bool]), (.int .u16)], h := [] }
def b44f5O : List FOut := [{ res := .bool, h := [] }]
noncomputable def b44f5E : Env := { tt := b44TT, glob := b44GL, spec := [(11, specG b44f11I b44f11O b44f11T), (16, specG b44f16I b44f16O b44f16T), (17, specG b44f17I b44f17O b44f17T), (20, specG b44f20I b44f20O b44f20T)], body := [(5, Tryd.f5)], loops := [], nimp := 0 }
noncomputable def b44f5T (ps : List PV) : TR := funcT b44f5E 5 Tryd.f5 true b44f5I b44f5O ps
theorem b44f5Eok : EnvOK b44f5E Tryd.prog := ⟨tok_of b44TTok,
  all_cons b44f11spec (all_cons b44f16spec (all_cons b44f17spec (all_cons b44f20spec (all_nil)))),
  all_nil,
  all_cons (body_ok Tryd.func5 (by kernel_rfl)) (all_nil)⟩
theorem b44f5spec : Spec Tryd.prog b44GL 5 (specG b44f5I b44f5O b44f5T) := spec_of b44mo b44f5Eok Tryd.func5 (by kernel_rfl) (by kernel_rfl) (fun _ => rfl)

/-! 22 metrolab/metrolabref44.Ring -/
def b44f22I : FIn := { args := [(.agg [(.int .i64), (.int .i64), (.int .i64)])], h := [] }
def b44f22O : List FOut := [{ res := (.int .i64), h := [] }]
noncomputable def b44f22E : Env := { tt := b44TT, glob := b44GL, spec := [(41, specG b44f41I b44f41O b44f41T), (42, specG b44f42I b44f42O b44f42T)], body := [(22, Tryd.f22)], loops := [], nimp := 0 }
noncomputable def b44f22T (ps : List PV) : TR := funcT b44f22E 22 Tryd.f22 true b44f22I b44f22O ps
theorem b44f22Eok : EnvOK b44f22E Tryd.prog := ⟨tok_of b44TTok,
  all_cons b44f41spec (all_cons b44f42spec (all_nil)),
  all_nil,
  all_cons (body_ok Tryd.func22 (by kernel_rfl)) (all_nil)⟩
theorem b44f22spec : Spec Tryd.prog b44GL 22 (specG b44f22I b44f22O b44f22T) := spec_of b44mo b44f22Eok Tryd.func22 (by kernel_rfl) (by kernel_rfl) (fun _ => rfl)

/-! 6 metrolab/metrolablaw44.BonusGauges -/
def b44f6I : FIn := { args := [(.agg [(.int .i64), (.int .i64), (.int .i64), (.int .i64), (.int .i64), (.int .i64), .bool]), (.agg [(.int .i64), (.int .i64), (.int .i64)]), (.agg [(.int .i16), (.int .i16)])], h := [] }
def b44f6O : List FOut := [{ res := .bool, h := [] }]
noncomputable def b44f6E : Env := { tt := b44TT, glob := b44GL, spec := [(11, specG b44f11I b44f11O b44f11T), (16, specG b44f16I b44f16O b44f16T), (17, specG b44f17I b44f17O b44f17T), (22, specG b44f22I b44f22O b44f22T), (23, specG b44f23I b44f23O b44f23T)], body := [(6, Tryd.f6)], loops := [], nimp := 0 }
noncomputable def b44f6T (ps : List PV) : TR := funcT b44f6E 6 Tryd.f6 true b44f6I b44f6O ps
theorem b44f6Eok : EnvOK b44f6E Tryd.prog := ⟨tok_of b44TTok,
  all_cons b44f11spec (all_cons b44f16spec (all_cons b44f17spec (all_cons b44f22spec (all_cons b44f23spec (all_nil))))),
  all_nil,
  all_cons (body_ok Tryd.func6 (by kernel_rfl)) (all_nil)⟩
theorem b44f6spec : Spec Tryd.prog b44GL 6 (specG b44f6I b44f6O b44f6T) := spec_of b44mo b44f6Eok Tryd.func6 (by kernel_rfl) (by kernel_rfl) (fun _ => rfl)

/-! 7 metrolab/metrolablaw44.BonusGrows -/
def b44f7I : FIn := { args := [(.agg [(.int .i64), (.int .i64), (.int .i64), (.int .i64), (.int .i64), (.int .i64), .bool]), (.int .u16)], h := [] }
def b44f7O : List FOut := [{ res := .bool, h := [] }]
noncomputable def b44f7E : Env := { tt := b44TT, glob := b44GL, spec := [(16, specG b44f16I b44f16O b44f16T), (17, specG b44f17I b44f17O b44f17T), (18, specG b44f18I b44f18O b44f18T)], body := [(7, Tryd.f7)], loops := [], nimp := 0 }
noncomputable def b44f7T (ps : List PV) : TR := funcT b44f7E 7 Tryd.f7 true b44f7I b44f7O ps
theorem b44f7Eok : EnvOK b44f7E Tryd.prog := ⟨tok_of b44TTok,
  all_cons b44f16spec (all_cons b44f17spec (all_cons b44f18spec (all_nil))),
  all_nil,
  all_cons (body_ok Tryd.func7 (by kernel_rfl)) (all_nil)⟩
theorem b44f7spec : Spec Tryd.prog b44GL 7 (specG b44f7I b44f7O b44f7T) := spec_of b44mo b44f7Eok Tryd.func7 (by kernel_rfl) (by kernel_rfl) (fun _ => rfl)

/-! 8 metrolab/metrolablaw44.BonusBoxes -/
def b44f8I : FIn := { args := [(.agg [(.int .i64), (.int .i64), (.int .i64), (.int .i64), (.int .i64), (.int .i64), .bool]), (.agg [(.int .i64), (.int .i64), (.int .i64)]), (.int .u8)], h := [] }
def b44f8O : List FOut := [{ res := .bool, h := [] }]
noncomputable def b44f8E : Env := { tt := b44TT, glob := b44GL, spec := [(16, specG b44f16I b44f16O b44f16T), (17, specG b44f17I b44f17O b44f17T), (20, specG b44f20I b44f20O b44f20T), (22, specG b44f22I b44f22O b44f22T), (23, specG b44f23I b44f23O b44f23T), (24, specG b44f24I b44f24O b44f24T)], body := [(8, Tryd.f8)], loops := [], nimp := 0 }
noncomputable def b44f8T (ps : List PV) : TR := funcT b44f8E 8 Tryd.f8 true b44f8I b44f8O ps
theorem b44f8Eok : EnvOK b44f8E Tryd.prog := ⟨tok_of b44TTok,
  all_cons b44f16spec (all_cons b44f17spec (all_cons b44f20spec (all_cons b44f22spec (all_cons b44f23spec (all_cons b44f24spec (all_nil)))))),
  all_nil,
  all_cons (body_ok Tryd.func8 (by kernel_rfl)) (all_nil)⟩
theorem b44f8spec : Spec Tryd.prog b44GL 8 (specG b44f8I b44f8O b44f8T) := spec_of b44mo b44f8Eok Tryd.func8 (by kernel_rfl) (by kernel_rfl) (fun _ => rfl)

/-! 25 metrolab/bonus.Distance -/
def b44f25I : FIn := { args := [(.agg [(.int .i64), (.int .i64), (.int .i64), (.int .i64), (.int .i64), (.int .i64), .bool]), (.agg [(.int .i64), (.int .i64), (.int .i64)])], h := [] }
def b44f25O : List FOut := [{ res := (.tuple [(.int .i64), (.int .i64)]), h := [] }]
noncomputable def b44f25E : Env := { tt := b44TT, glob := b44GL, spec := [(48, specG b44f48I b44f48O b44f48T), (50, specG b44f50I b44f50O b44f50T)], body := [(25, Tryd.f25)], loops := [], nimp := 0 }
noncomputable def b44f25T (ps : List PV) : TR := funcT b44f25E 25 Tryd.f25 true b44f25I b44f25O ps
theorem b44f25Eok : EnvOK b44f25E Tryd.prog := ⟨tok_of b44TTok,
  all_cons b44f48spec (all_cons b44f50spec (all_nil)),
  all_nil,
  all_cons (body_ok Tryd.func25 (by kernel_rfl)) (all_nil)⟩
theorem b44f25spec : Spec Tryd.prog b44GL 25 (specG b44f25I b44f25O b44f25T) := spec_of b44mo b44f25Eok Tryd.func25 (by kernel_rfl) (by kernel_rfl) (fun _ => rfl)

/-! 51 metrolab/metrolabref44.both -/
def b44f51I : FIn := { args := [(.agg [(.int .i64), (.int .i64), (.int .i64), (.int .i64), (.int .i64), (.int .i64), .bool]), (.agg [(.int .i64), (.int .i64), (.int .i64)])], h := [] }
def b44f51O : List FOut := [{ res := (.int .i64), h := [] }]
noncomputable def b44f51E : Env := { tt := b44TT, glob := b44GL, spec := [(16, specG b44f16I b44f16O b44f16T), (22, specG b44f22I b44f22O b44f22T)], body := [(51, Tryd.f51)], loops := [], nimp := 0 }
noncomputable def b44f51T (ps : List PV) : TR := funcT b44f51E 51 Tryd.f51 true b44f51I b44f51O ps
theorem b44f51Eok : EnvOK b44f51E Tryd.prog := ⟨tok_of b44TTok,
  all_cons b44f16spec (all_cons b44f22spec (all_nil)),
  all_nil,
  all_cons (body_ok Tryd.func51 (by kernel_rfl)) (all_nil)⟩
theorem b44f51spec : Spec Tryd.prog b44GL 51 (specG b44f51I b44f51O b44f51T) := spec_of b44mo b44f51Eok Tryd.func51 (by kernel_rfl) (by kernel_rfl) (fun _ => rfl)

/-! 57 metrolab/metrolabref07.Times -/
def b44f57I : FIn := { args := [(.agg [(.int .i64), (.int .i64)]), (.agg [(.int .i64), (.int .i64)])], h := [] }
def b44f57O : List FOut := [{ res := (.int .i64), h := [] }]
noncomputable def b44f57E : Env := { tt := b44TT, glob := b44GL, spec := [], body := [(57, Tryd.f57)], loops := [], nimp := 0 }
noncomputable def b44f57T (ps : List PV) : TR := funcT b44f57E 57 Tryd.f57 true b44f57I b44f57O ps
theorem b44f57Eok : EnvOK b44f57E Tryd.prog := ⟨tok_of b44TTok,
  all_nil,
  all_nil,
  all_cons (body_ok Tryd.func57 (by kernel_rfl)) (all_nil)⟩
theorem b44f57spec : Spec Tryd.prog b44GL 57 (specG b44f57I b44f57O b44f57T) := spec_of b44mo b44f57Eok Tryd.func57 (by kernel_rfl) (by kernel_rfl) (fun _ => rfl)

/-! 58 metrolab/metrolabref07.Minus -/
def b44f58I : FIn := { args := [(.agg [(.int .i64), (.int .i64)]), (.agg [(.int .i64), (.int .i64)])], h := [] }
def b44f58O : List FOut := [{ res := (.agg [(.int .i64), (.int .i64)]), h := [] }]
noncomputable def b44f58E : Env := { tt := b44TT, glob := b44GL, spec := [], body := [(58, Tryd.f58)], loops := [], nimp := 0 }
noncomputable def b44f58T (ps : List PV) : TR := funcT b44f58E 58 Tryd.f58 true b44f58I b44f58O ps
theorem b44f58Eok : EnvOK b44f58E Tryd.prog := ⟨tok_of b44TTok,
  all_nil,
  all_nil,
  all_cons (body_ok Tryd.func58 (by kernel_rfl)) (all_nil)⟩
theorem b44f58spec : Spec Tryd.prog b44GL 58 (specG b44f58I b44f58O b44f58T) := spec_of b44mo b44f58Eok Tryd.func58 (by kernel_rfl) (by kernel_rfl) (fun _ => rfl)

/-! 52 metrolab/metrolabref07.Far -/
def b44f52I : FIn := { args := [(.agg [(.int .i64), (.int .i64)]), (.agg [(.int .i64), (.int .i64)])], h := [] }
def b44f52O : List FOut := [{ res := (.int .i64), h := [] }]
noncomputable def b44f52E : Env := { tt := b44TT, glob := b44GL, spec := [(57, specG b44f57I b44f57O b44f57T), (58, specG b44f58I b44f58O b44f58T)], body := [(52, Tryd.f52)], loops := [], nimp := 0 }
noncomputable def b44f52T (ps : List PV) : TR := funcT b44f52E 52 Tryd.f52 true b44f52I b44f52O ps
theorem b44f52Eok : EnvOK b44f52E Tryd.prog := ⟨tok_of b44TTok,
  all_cons b44f57spec (all_cons b44f58spec (all_nil)),
  all_nil,
  all_cons (body_ok Tryd.func52 (by kernel_rfl)) (all_nil)⟩
theorem b44f52spec : Spec Tryd.prog b44GL 52 (specG b44f52I b44f52O b44f52T) := spec_of b44mo b44f52Eok Tryd.func52 (by kernel_rfl) (by kernel_rfl) (fun _ => rfl)

/-! 26 metrolab/metrolabref44.Distance -/
def b44f26I : FIn := { args := [(.agg [(.int .i64), (.int .i64), (.int .i64), (.int .i64), (.int .i64), (.int .i64), .bool]), (.agg [(.int .i64), (.int .i64), (.int .i64)])], h := [] }
def b44f26O : List FOut := [{ res := (.tuple [(.int .i64), (.int .i64)]), h := [] }]
noncomputable def b44f26E : Env := { tt := b44TT, glob := b44GL, spec := [(51, specG b44f51I b44f51O b44f51T), (52, specG b44f52I b44f52O b44f52T)], body := [(26, Tryd.f26)], loops := [], nimp := 0 }
noncomputable def b44f26T (ps : List PV) : TR := funcT b44f26E 26 Tryd.f26 true b44f26I b44f26O ps
theorem b44f26Eok : EnvOK b44f26E Tryd.prog := ⟨tok_of b44TTok,
  all_cons b44f51spec (all_cons b44f52spec (all_nil)),
  all_nil,
  all_cons (body_ok Tryd.func26 (by kernel_rfl)) (all_nil)⟩
theorem b44f26spec : Spec Tryd.prog b44GL 26 (specG b44f26I b44f26O b44f26T) := spec_of b44mo b44f26Eok Tryd.func26 (by kernel_rfl) (by kernel_rfl) (fun _ => rfl)

/-! 53 metrolab/metrolabref44.Good -/
def b44f53I : FIn := { args := [(.agg [(.int .i64), (.int .i64), (.int .i64), (.int .i64), (.int .i64), (.int .i64), .bool]), (.agg [(.int .i64), (.int .i64), (.int .i64)])], h := [] }
def b44f53O : List FOut := [{ res := .bool, h := [] }]
noncomputable def b44f53E : Env := { tt := b44TT, glob := b44GL, spec := [(46, specG b44f46I b44f46O b44f46T), (47, specG b44f47I b44f47O b44f47T), (52, specG b44f52I b44f52O b44f52T)], body := [(53, Tryd.f53)], loops := [], nimp := 0 }
noncomputable def b44f53T (ps : List PV) : TR := funcT b44f53E 53 Tryd.f53 true b44f53I b44f53O ps
theorem b44f53Eok : EnvOK b44f53E Tryd.prog := ⟨tok_of b44TTok,
  all_cons b44f46spec (all_cons b44f47spec (all_cons b44f52spec (all_nil))),
  all_nil,
  all_cons (body_ok Tryd.func53 (by kernel_rfl)) (all_nil)⟩
theorem b44f53spec : Spec Tryd.prog b44GL 53 (specG b44f53I b44f53O b44f53T) := spec_of b44mo b44f53Eok Tryd.func53 (by kernel_rfl) (by kernel_rfl) (fun _ => rfl)

/-! 27 metrolab/metrolabref44.Keeps -/
def b44f27I : FIn := { args := [(.agg [(.int .i64), (.int .i64), (.int .i64), (.int .i64), (.int .i64), (.int .i64), .bool]), (.agg [(.int .i64), (.int .i64), (.int .i64)])], h := [] }
def b44f27O : List FOut := [{ res := (.tuple [.bool, (.int .i64)]), h := [] }]
noncomputable def b44f27E : Env := { tt := b44TT, glob := b44GL, spec := [(51, specG b44f51I b44f51O b44f51T), (53, specG b44f53I b44f53O b44f53T)], body := [(27, Tryd.f27)], loops := [], nimp := 0 }
noncomputable def b44f27T (ps : List PV) : TR := funcT b44f27E 27 Tryd.f27 true b44f27I b44f27O ps
theorem b44f27Eok : EnvOK b44f27E Tryd.prog := ⟨tok_of b44TTok,
  all_cons b44f51spec (all_cons b44f53spec (all_nil)),
  all_nil,
  all_cons (body_ok Tryd.func27 (by kernel_rfl)) (all_nil)⟩
theorem b44f27spec : Spec Tryd.prog b44GL 27 (specG b44f27I b44f27O b44f27T) := spec_of b44mo b44f27Eok Tryd.func27 (by kernel_rfl) (by kernel_rfl) (fun _ => rfl)

/-! 54 metrolab/metrolabref44.GoodBox -/
def b44f54I : FIn := { args := [(.agg [(.int .i64), (.int .i64), (.int .i64), (.int .i64), (.int .i64), (.int .i64), .bool]), (.agg [(.int .i64), (.int .i64), (.int .i64)])], h := [] }
def b44f54O : List FOut := [{ res := .bool, h := [] }]
noncomputable def b44f54E : Env := { tt := b44TT, glob := b44GL, spec := [(46, specG b44f46I b44f46O b44f46T), (47, specG b44f47I b44f47O b44f47T)], body := [(54, Tryd.f54)], loops := [], nimp := 0 }
noncomputable def b44f54T (ps : List PV) : TR := funcT b44f54E 54 Tryd.f54 true b44f54I b44f54O ps
theorem b44f54Eok : EnvOK b44f54E Tryd.prog := ⟨tok_of b44TTok,
  all_cons b44f46spec (all_cons b44f47spec (all_nil)),
  all_nil,
  all_cons (body_ok Tryd.func54 (by kernel_rfl)) (all_nil)⟩
theorem b44f54spec : Spec Tryd.prog b44GL 54 (specG b44f54I b44f54O b44f54T) := spec_of b44mo b44f54Eok Tryd.func54 (by kernel_rfl) (by kernel_rfl) (fun _ => rfl)

/-! 28 metrolab/metrolabref44.KeepsBox -/
def b44f28I : FIn := { args := [(.agg [(.int .i64), (.int .i64), (.int .i64), (.int .i64), (.int .i64), (.int .i64), .bool]), (.agg [(.int .i64), (.int .i64), (.int .i64)])], h := [] }
def b44f28O : List FOut := [{ res := (.tuple [.bool, (.int .i64)]), h := [] }]
noncomputable def b44f28E : Env := { tt := b44TT, glob := b44GL, spec := [(51, specG b44f51I b44f51O b44f51T), (54, specG b44f54I b44f54O b44f54T)], body := [(28, Tryd.f28)], loops := [], nimp := 0 }
noncomputable def b44f28T (ps : List PV) : TR := funcT b44f28E 28 Tryd.f28 true b44f28I b44f28O ps
theorem b44f28Eok : EnvOK b44f28E Tryd.prog := ⟨tok_of b44TTok,
  all_cons b44f51spec (all_cons b44f54spec (all_nil)),
  all_nil,
  all_cons (body_ok Tryd.func28 (by kernel_rfl)) (all_nil)⟩
theorem b44f28spec : Spec Tryd.prog b44GL 28 (specG b44f28I b44f28O b44f28T) := spec_of b44mo b44f28Eok Tryd.func28 (by kernel_rfl) (by kernel_rfl) (fun _ => rfl)

/-! 9 metrolab/metrolablaw44.BonusKeeps -/
def b44f9I : FIn := { args := [(.agg [(.int .i64), (.int .i64), (.int .i64), (.int .i64), (.int .i64), (.int .i64), .bool]), (.agg [(.int .i64), (.int .i64), (.int .i64)])], h := [] }
def b44f9O : List FOut := [{ res := .bool, h := [] }]
noncomputable def b44f9E : Env := { tt := b44TT, glob := b44GL, spec := [(17, specG b44f17I b44f17O b44f17T), (23, specG b44f23I b44f23O b44f23T), (24, specG b44f24I b44f24O b44f24T), (25, specG b44f25I b44f25O b44f25T), (26, specG b44f26I b44f26O b44f26T), (27, specG b44f27I b44f27O b44f27T), (28, specG b44f28I b44f28O b44f28T)], body := [(9, Tryd.f9)], loops := [], nimp := 0 }
noncomputable def b44f9T (ps : List PV) : TR := funcT b44f9E 9 Tryd.f9 true b44f9I b44f9O ps
theorem b44f9Eok : EnvOK b44f9E Tryd.prog := ⟨tok_of b44TTok,
  all_cons b44f17spec (all_cons b44f23spec (all_cons b44f24spec (all_cons b44f25spec (all_cons b44f26spec (all_cons b44f27spec (all_cons b44f28spec (all_nil))))))),
  all_nil,
  all_cons (body_ok Tryd.func9 (by kernel_rfl)) (all_nil)⟩
theorem b44f9spec : Spec Tryd.prog b44GL 9 (specG b44f9I b44f9O b44f9T) := spec_of b44mo b44f9Eok Tryd.func9 (by kernel_rfl) (by kernel_rfl) (fun _ => rfl)

/-! 29 metrolab/metrolabref44.Few -/
def b44f29I : FIn := { args := [(.imm [(.int .i64), (.int .i64), (.int .i64), (.int .i64), (.int .i64), (.int .i64), .bool]), (.imm [(.int .i64), (.int .i64), (.int .i64)])], h := [] }
def b44f29O : List FOut := [{ res := .bool, h := [] }]
noncomputable def b44f29E : Env := { tt := b44TT, glob := b44GL, spec := [], body := [(29, Tryd.f29)], loops := [], nimp := 0 }
noncomputable def b44f29T (ps : List PV) : TR := funcT b44f29E 29 Tryd.f29 true b44f29I b44f29O ps
theorem b44f29Eok : EnvOK b44f29E Tryd.prog := ⟨tok_of b44TTok,
  all_nil,
  all_nil,
  all_cons (body_ok Tryd.func29 (by kernel_rfl)) (all_nil)⟩
theorem b44f29spec : Spec Tryd.prog b44GL 29 (specG b44f29I b44f29O b44f29T) := spec_of b44mo b44f29Eok Tryd.func29 (by kernel_rfl) (by kernel_rfl) (fun _ => rfl)

/-! 32 metrolab/bonus.CheckPlate -/
def b44f32I : FIn := { args := [(.imm [(.int .i64), (.int .i64), (.int .i64), (.int .i64), (.int .i64), (.int .i64), .bool]), (.imm [(.int .i64), (.int .i64), (.int .i64)])], h := [] }
def b44f32O : List FOut := [{ res := (.int .i64), h := [] }]
def b44f32L6I : Tmpl := { t := [(.imm [(.int .i64), (.int .i64), (.int .i64), (.int .i64), (.int .i64), (.int .i64), .bool]), (.imm [(.int .i64), (.int .i64), (.int .i64)]), .any, .any, .any, .any, .any, .any, .any, .any, .any, .any, .any, .any, (.imm [(.int .i64), (.int .i64), (.int .i64), (.int .i64), (.int .i64), (.int .i64), .bool]), (.int .i64), (.int .i64), .any, .any, .any, .any, .any, .any, .any, .any, .any, .any, .any, .any, .any, .any, .any, .any, .any, .any, .any, .any, .any, .any, .any, .any, .any, .any], h := [] }
def b44f32L6O : List Out := [{ x := (.exit 0), tm := { t := [(.imm [(.int .i64), (.int .i64), (.int .i64), (.int .i64), (.int .i64), (.int .i64), .bool]), (.imm [(.int .i64), (.int .i64), (.int .i64)]), .any, .any, .any, .any, .any, .any, .any, .any, .any, .any, .any, .any, .any, .any, .any, .any, .any, .any, .any, .any, .any, .any, .any, .any, .any, .any, .any, .any, .any, .any, .any, .any, .any, .any, .any, .any, .any, .any, .any, .any, .any], h := [] } }, { x := .ret, tm := { t := [.any, .any, .any, .any, (.int .i64), .any, .any, .any, .any, .any, .any, .any, .any, .any, .any, .any, .any, .any, .any, .any, .any, .any, .any, .any, .any, .any, .any, .any, .any, .any, .any, .any, .any, .any, .any, .any, .any, .any, .any, .any, .any, .any, .any], h := [] } }]
noncomputable def b44f32L6E : Env := { tt := b44TT, glob := b44GL, spec := [(15, specG b44f15I b44f15O b44f15T), (55, specG b44f55I b44f55O b44f55T)], body := [(32, Tryd.f32)], loops := [], nimp := 0 }
noncomputable def b44f32L6S (ps : List PV) : TR := stepT b44f32L6E 32 Tryd.f32 6 b44f32L6I b44f32L6O ps
theorem b44f32L6Eok : EnvOK b44f32L6E Tryd.prog := ⟨tok_of b44TTok,
  all_cons b44f15spec (all_cons b44f55spec (all_nil)),
  all_nil,
  all_cons (body_ok Tryd.func32 (by kernel_rfl)) (all_nil)⟩
theorem b44f32L6good : LoopGood Tryd.prog b44GL b44f32L6E.nimp (nodeC Tryd.f32 6) (pieceL b44f32L6I b44f32L6O (loopT b44f32L6S)) :=
  loopGood_of b44mo b44f32L6Eok Tryd.func32 (by kernel_rfl) (by kernel_rfl) (by kernel_rfl) (fun _ => rfl)
def b44f32L19I : Tmpl := { t := [.any, .any, .any, .any, .any, .any, .any, .any, .any, .any, .any, .any, .any, .any, .any, .any, .any, .any, .any, .any, .any, .any, .any, .any, .any, .any, .any, .any, .any, .any, .any, (.imm [(.int .i64), (.int .i64), (.int .i64)]), (.int .i64), (.int .i64), .any, .any, .any, .any, .any, .any, .any, .any, .any], h := [] }
def b44f32L19O : List Out := [{ x := (.exit 2), tm := { t := [.any, .any, .any, .any, .any, .any, .any, .any, .any, .any, .any, .any, .any, .any, .any, .any, .any, .any, .any, .any, .any, .any, .any, .any, .any, .any, .any, .any, .any, .any, .any, .any, .any, .any, .any, .any, .any, .any, .any, .any, .any, .any, .any], h := [] } }, { x := .ret, tm := { t := [.any, .any, .any, .any, (.int .i64), .any, .any, .any, .any, .any, .any, .any, .any, .any, .any, .any, .any, .any, .any, .any, .any, .any, .any, .any, .any, .any, .any, .any, .any, .any, .any, .any, .any, .any, .any, .any, .any, .any, .any, .any, .any, .any, .any], h := [] } }]
noncomputable def b44f32L19E : Env := { tt := b44TT, glob := b44GL, spec := [(15, specG b44f15I b44f15O b44f15T), (55, specG b44f55I b44f55O b44f55T)], body := [(32, Tryd.f32)], loops := [], nimp := 0 }
noncomputable def b44f32L19S (ps : List PV) : TR := stepT b44f32L19E 32 Tryd.f32 19 b44f32L19I b44f32L19O ps
theorem b44f32L19Eok : EnvOK b44f32L19E Tryd.prog := ⟨tok_of b44TTok,
  all_cons b44f15spec (all_cons b44f55spec (all_nil)),
  all_nil,
  all_cons (body_ok Tryd.func32 (by kernel_rfl)) (all_nil)⟩
theorem b44f32L19good : LoopGood Tryd.prog b44GL b44f32L19E.nimp (nodeC Tryd.f32 19) (pieceL b44f32L19I b44f32L19O (loopT b44f32L19S)) :=
  loopGood_of b44mo b44f32L19Eok Tryd.func32 (by kernel_rfl) (by kernel_rfl) (by kernel_rfl) (fun _ => rfl)
noncomputable def b44f32E : Env := { tt := b44TT, glob := b44GL, spec := [(15, specG b44f15I b44f15O b44f15T), (55, specG b44f55I b44f55O b44f55T)], body := [(32, Tryd.f32)], loops := [((32, 6), pieceL b44f32L6I b44f32L6O (loopT b44f32L6S)), ((32, 19), pieceL b44f32L19I b44f32L19O (loopT b44f32L19S))], nimp := 0 }
noncomputable def b44f32T (ps : List PV) : TR := funcT b44f32E 32 Tryd.f32 true b44f32I b44f32O ps
theorem b44f32Eok : EnvOK b44f32E Tryd.prog := ⟨tok_of b44TTok,
  all_cons b44f15spec (all_cons b44f55spec (all_nil)),
  all_cons (loop_ok Tryd.func32 (by kernel_rfl) (by kernel_rfl) b44f32L6good) (all_cons (loop_ok Tryd.func32 (by kernel_rfl) (by kernel_rfl) b44f32L19good) (all_nil)),
  all_cons (body_ok Tryd.func32 (by kernel_rfl)) (all_nil)⟩
theorem b44f32spec : Spec Tryd.prog b44GL 32 (specG b44f32I b44f32O b44f32T) := spec_of b44mo b44f32Eok Tryd.func32 (by kernel_rfl) (by kernel_rfl) (fun _ => rfl)

/-! 30 metrolab/bonus.Failures -/
def b44f30I : FIn := { args := [(.imm [(.int .i64), (.int .i64), (.int .i64), (.int .i64), (.int .i64), (.int .i64), .bool]), (.imm [(.int .i64), (.int .i64), (.int .i64)])], h := [] }
def b44f30O : List FOut := [{ res := (.tuple [(.imm [(.int .i64)]), (.int .i64)]), h := [] }]
def b44f30L8I : Tmpl := { t := [.any, (.imm [(.int .i64), (.int .i64), (.int .i64)]), .any, .any, .any, .any, .any, (.vec 2), .any, .any, .any, .any, .any, .any, .any, .any, (.imm [(.int .i64), (.int .i64), (.int .i64), (.int .i64), (.int .i64), (.int .i64), .bool]), (.int .i64), (.int .i64), .any, .any, .any, .any, .any, .any, .any, .any, .any, .any, .any, .any, .any, .any, .any, .any, .any], h := [.dead, .dead, .vec 3 [(.int .i64)]], pro := [(7, 3, [(.int .i64)])] }
def b44f30L8O : List Out := [{ x := (.exit 0), tm := { t := [.any, .any, .any, .any, .any, .any, .any, (.vec 2), .any, .any, .any, .any, .any, .any, .any, .any, .any, .any, .any, .any, .any, .any, .any, .any, .any, .any, .any, .any, .any, .any, .any, .any, .any, .any, .any, .any], h := [.dead, .dead, .vec 3 [(.int .i64)]] } }]
noncomputable def b44f30L8E : Env := { tt := b44TT, glob := b44GL, spec := [(32, specG b44f32I b44f32O b44f32T), (49, specG b44f49I b44f49O b44f49T)], body := [(30, Tryd.f30)], loops := [], nimp := 0 }
noncomputable def b44f30L8S (ps : List PV) : TR := stepT b44f30L8E 30 Tryd.f30 8 b44f30L8I b44f30L8O ps
theorem b44f30L8Eok : EnvOK b44f30L8E Tryd.prog := ⟨tok_of b44TTok,
  all_cons b44f32spec (all_cons b44f49spec (all_nil)),
  all_nil,
  all_cons (body_ok Tryd.func30 (by kernel_rfl)) (all_nil)⟩
theorem b44f30L8good : LoopGood Tryd.prog b44GL b44f30L8E.nimp (nodeC Tryd.f30 8) (pieceL b44f30L8I b44f30L8O (loopT b44f30L8S)) :=
  loopGood_of b44mo b44f30L8Eok Tryd.func30 (by kernel_rfl) (by kernel_rfl) (by kernel_rfl) (fun _ => rfl)
noncomputable def b44f30E : Env := { tt := b44TT, glob := b44GL, spec := [(32, specG b44f32I b44f32O b44f32T), (49, specG b44f49I b44f49O b44f49T)], body := [(30, Tryd.f30)], loops := [((30, 8), pieceL b44f30L8I b44f30L8O (loopT b44f30L8S))], nimp := 0 }
noncomputable def b44f30T (ps : List PV) : TR := funcT b44f30E 30 Tryd.f30 true b44f30I b44f30O ps
theorem b44f30Eok : EnvOK b44f30E Tryd.prog := ⟨tok_of b44TTok,
  all_cons b44f32spec (all_cons b44f49spec (all_nil)),
  all_cons (loop_ok Tryd.func30 (by kernel_rfl) (by kernel_rfl) b44f30L8good) (all_nil),
  all_cons (body_ok Tryd.func30 (by kernel_rfl)) (all_nil)⟩
theorem b44f30spec : Spec Tryd.prog b44GL 30 (specG b44f30I b44f30O b44f30T) := spec_of b44mo b44f30Eok Tryd.func30 (by kernel_rfl) (by kernel_rfl) (fun _ => rfl)

/-! 33 metrolab/metrolabref44.CheckPlate -/
def b44f33I : FIn := { args := [(.imm [(.int .i64), (.int .i64), (.int .i64), (.int .i64), (.int .i64), (.int .i64), .bool]), (.imm [(.int .i64), (.int .i64), (.int .i64)])], h := [] }
def b44f33O : List FOut := [{ res := (.int .i64), h := [] }]
def b44f33L6I : Tmpl := { t := [(.imm [(.int .i64), (.int .i64), (.int .i64), (.int .i64), (.int .i64), (.int .i64), .bool]), (.imm [(.int .i64), (.int .i64), (.int .i64)]), .any, .any, .any, (.int .i64), .any, .any, .any, .any, .any, .any, .any, .any, .any, .any, .any, .any, .any, .any, .any, .any, .any, .any, .any, .any, .any, .any, .any, .any, .any, .any, .any, .any, .any, .any, .any, .any, .any, .any, .any, .any, .any, .any, .any], h := [] }
def b44f33L6O : List Out := [{ x := (.exit 0), tm := { t := [(.imm [(.int .i64), (.int .i64), (.int .i64), (.int .i64), (.int .i64), (.int .i64), .bool]), (.imm [(.int .i64), (.int .i64), (.int .i64)]), .any, .any, .any, .any, .any, .any, .any, .any, .any, .any, .any, .any, .any, .any, .any, .any, .any, .any, .any, .any, .any, .any, .any, .any, .any, .any, .any, .any, .any, .any, .any, .any, .any, .any, .any, .any, .any, .any, .any, .any, .any, .any, .any], h := [] } }, { x := .ret, tm := { t := [.any, .any, .any, .any, (.int .i64), .any, .any, .any, .any, .any, .any, .any, .any, .any, .any, .any, .any, .any, .any, .any, .any, .any, .any, .any, .any, .any, .any, .any, .any, .any, .any, .any, .any, .any, .any, .any, .any, .any, .any, .any, .any, .any, .any, .any, .any], h := [] } }]
noncomputable def b44f33L6E : Env := { tt := b44TT, glob := b44GL, spec := [(16, specG b44f16I b44f16O b44f16T), (22, specG b44f22I b44f22O b44f22T)], body := [(33, Tryd.f33)], loops := [], nimp := 0 }
noncomputable def b44f33L6S (ps : List PV) : TR := stepT b44f33L6E 33 Tryd.f33 6 b44f33L6I b44f33L6O ps
theorem b44f33L6Eok : EnvOK b44f33L6E Tryd.prog := ⟨tok_of b44TTok,
  all_cons b44f16spec (all_cons b44f22spec (all_nil)),
  all_nil,
  all_cons (body_ok Tryd.func33 (by kernel_rfl)) (all_nil)⟩
theorem b44f33L6good : LoopGood Tryd.prog b44GL b44f33L6E.nimp (nodeC Tryd.f33 6) (pieceL b44f33L6I b44f33L6O (loopT b44f33L6S)) :=
  loopGood_of b44mo b44f33L6Eok Tryd.func33 (by kernel_rfl) (by kernel_rfl) (by kernel_rfl) (fun _ => rfl)
def b44f33L18I : Tmpl := { t := [.any, (.imm [(.int .i64), (.int .i64), (.int .i64)]), .any, .any, .any, .any, .any, (.int .i64), .any, .any, .any, .any, .any, .any, .any, .any, .any, .any, .any, .any, .any, .any, .any, .any, .any, .any, .any, .any, .any, .any, .any, .any, .any, .any, .any, .any, .any, .any, .any, .any, .any, .any, .any, .any, .any], h := [] }
def b44f33L18O : List Out := [{ x := (.exit 2), tm := { t := [.any, .any, .any, .any, .any, .any, .any, .any, .any, .any, .any, .any, .any, .any, .any, .any, .any, .any, .any, .any, .any, .any, .any, .any, .any, .any, .any, .any, .any, .any, .any, .any, .any, .any, .any, .any, .any, .any, .any, .any, .any, .any, .any, .any, .any], h := [] } }, { x := .ret, tm := { t := [.any, .any, .any, .any, (.int .i64), .any, .any, .any, .any, .any, .any, .any, .any, .any, .any, .any, .any, .any, .any, .any, .any, .any, .any, .any, .any, .any, .any, .any, .any, .any, .any, .any, .any, .any, .any, .any, .any, .any, .any, .any, .any, .any, .any, .any, .any], h := [] } }]
noncomputable def b44f33L18E : Env := { tt := b44TT, glob := b44GL, spec := [(16, specG b44f16I b44f16O b44f16T), (22, specG b44f22I b44f22O b44f22T)], body := [(33, Tryd.f33)], loops := [], nimp := 0 }
noncomputable def b44f33L18S (ps : List PV) : TR := stepT b44f33L18E 33 Tryd.f33 18 b44f33L18I b44f33L18O ps
theorem b44f33L18Eok : EnvOK b44f33L18E Tryd.prog := ⟨tok_of b44TTok,
  all_cons b44f16spec (all_cons b44f22spec (all_nil)),
  all_nil,
  all_cons (body_ok Tryd.func33 (by kernel_rfl)) (all_nil)⟩
theorem b44f33L18good : LoopGood Tryd.prog b44GL b44f33L18E.nimp (nodeC Tryd.f33 18) (pieceL b44f33L18I b44f33L18O (loopT b44f33L18S)) :=
  loopGood_of b44mo b44f33L18Eok Tryd.func33 (by kernel_rfl) (by kernel_rfl) (by kernel_rfl) (fun _ => rfl)
noncomputable def b44f33E : Env := { tt := b44TT, glob := b44GL, spec := [(16, specG b44f16I b44f16O b44f16T), (22, specG b44f22I b44f22O b44f22T)], body := [(33, Tryd.f33)], loops := [((33, 6), pieceL b44f33L6I b44f33L6O (loopT b44f33L6S)), ((33, 18), pieceL b44f33L18I b44f33L18O (loopT b44f33L18S))], nimp := 0 }
noncomputable def b44f33T (ps : List PV) : TR := funcT b44f33E 33 Tryd.f33 true b44f33I b44f33O ps
theorem b44f33Eok : EnvOK b44f33E Tryd.prog := ⟨tok_of b44TTok,
  all_cons b44f16spec (all_cons b44f22spec (all_nil)),
  all_cons (loop_ok Tryd.func33 (by kernel_rfl) (by kernel_rfl) b44f33L6good) (all_cons (loop_ok Tryd.func33 (by kernel_rfl) (by kernel_rfl) b44f33L18good) (all_nil)),
  all_cons (body_ok Tryd.func33 (by kernel_rfl)) (all_nil)⟩
theorem b44f33spec : Spec Tryd.prog b44GL 33 (specG b44f33I b44f33O b44f33T) := spec_of b44mo b44f33Eok Tryd.func33 (by kernel_rfl) (by kernel_rfl) (fun _ => rfl)

/-! 31 metrolab/metrolabref44.Failures -/
def b44f31I : FIn := { args := [(.imm [(.int .i64), (.int .i64), (.int .i64), (.int .i64), (.int .i64), (.int .i64), .bool]), (.imm [(.int .i64), (.int .i64), (.int .i64)])], h := [] }
def b44f31O : List FOut := [{ res := (.tuple [(.imm [(.int .i64)]), (.int .i64)]), h := [] }]
def b44f31L8I : Tmpl := { t := [(.imm [(.int .i64), (.int .i64), (.int .i64), (.int .i64), (.int .i64), (.int .i64), .bool]), (.imm [(.int .i64), (.int .i64), (.int .i64)]), .any, .any, .any, .any, .any, (.vec 1), (.int .i64), .any, .any, .any, .any, .any, .any, .any, .any, .any, .any, .any, .any, .any, .any, .any, .any, .any, .any, .any, .any, .any, .any, .any, .any, .any, .any, .any], h := [.dead, .vec 3 [(.int .i64)]], pro := [(7, 3, [(.int .i64)])] }
def b44f31L8O : List Out := [{ x := (.exit 0), tm := { t := [.any, .any, .any, .any, .any, .any, .any, (.vec 1), .any, .any, .any, .any, .any, .any, .any, .any, .any, .any, .any, .any, .any, .any, .any, .any, .any, .any, .any, .any, .any, .any, .any, .any, .any, .any, .any, .any], h := [.dead, .vec 3 [(.int .i64)]] } }]
noncomputable def b44f31L8E : Env := { tt := b44TT, glob := b44GL, spec := [(33, specG b44f33I b44f33O b44f33T), (53, specG b44f53I b44f53O b44f53T)], body := [(31, Tryd.f31)], loops := [], nimp := 0 }
noncomputable def b44f31L8S (ps : List PV) : TR := stepT b44f31L8E 31 Tryd.f31 8 b44f31L8I b44f31L8O ps
theorem b44f31L8Eok : EnvOK b44f31L8E Tryd.prog := ⟨tok_of b44TTok,
  all_cons b44f33spec (all_cons b44f53spec (all_nil)),
  all_nil,
  all_cons (body_ok Tryd.func31 (by kernel_rfl)) (all_nil)⟩
theorem b44f31L8good : LoopGood Tryd.prog b44GL b44f31L8E.nimp (nodeC Tryd.f31 8) (pieceL b44f31L8I b44f31L8O (loopT b44f31L8S)) :=
  loopGood_of b44mo b44f31L8Eok Tryd.func31 (by kernel_rfl) (by kernel_rfl) (by kernel_rfl) (fun _ => rfl)
noncomputable def b44f31E : Env := { tt := b44TT, glob := b44GL, spec := [(33, specG b44f33I b44f33O b44f33T), (53, specG b44f53I b44f53O b44f53T)], body := [(31, Tryd.f31)], loops := [((31, 8), pieceL b44f31L8I b44f31L8O (loopT b44f31L8S))], nimp := 0 }
noncomputable def b44f31T (ps : List PV) : TR := funcT b44f31E 31 Tryd.f31 true b44f31I b44f31O ps
theorem b44f31Eok : EnvOK b44f31E Tryd.prog := ⟨tok_of b44TTok,
  all_cons b44f33spec (all_cons b44f53spec (all_nil)),
  all_cons (loop_ok Tryd.func31 (by kernel_rfl) (by kernel_rfl) b44f31L8good) (all_nil),
  all_cons (body_ok Tryd.func31 (by kernel_rfl)) (all_nil)⟩
theorem b44f31spec : Spec Tryd.prog b44GL 31 (specG b44f31I b44f31O b44f31T) := spec_of b44mo b44f31Eok Tryd.func31 (by kernel_rfl) (by kernel_rfl) (fun _ => rfl)

/-! 34 slices.Equal[[]int,int] -/
def b44f34I : FIn := { args := [(.imm [(.int .i64)]), (.imm [(.int .i64)])], h := [] }
def b44f34O : List FOut := [{ res := .bool, h := [] }]
def b44f34L6I : Tmpl := { t := [(.imm [(.int .i64)]), (.imm [(.int .i64)]), .any, .any, .any, .any, .any, .any, .any, .any, .any, .any, (.int .i64), (.int .i64), .any, .any, .any, .any, .any, .any, .any, .any, .any, .any, .any, .any], h := [] }
def b44f34L6O : List Out := [{ x := (.exit 0), tm := { t := [.any, .any, .any, .any, .any, .any, .any, .any, .any, .any, .any, .any, .any, .any, .any, .any, .any, .any, .any, .any, .any, .any, .any, .any, .any, .any], h := [] } }, { x := .ret, tm := { t := [.any, .any, .any, .any, .bool, .any, .any, .any, .any, .any, .any, .any, .any, .any, .any, .any, .any, .any, .any, .any, .any, .any, .any, .any, .any, .any], h := [] } }]
noncomputable def b44f34L6E : Env := { tt := b44TT, glob := b44GL, spec := [], body := [(34, Tryd.f34)], loops := [], nimp := 0 }
noncomputable def b44f34L6S (ps : List PV) : TR := stepT b44f34L6E 34 Tryd.f34 6 b44f34L6I b44f34L6O ps
theorem b44f34L6Eok : EnvOK b44f34L6E Tryd.prog := ⟨tok_of b44TTok,
  all_nil,
  all_nil,
  all_cons (body_ok Tryd.func34 (by kernel_rfl)) (all_nil)⟩
theorem b44f34L6good : LoopGood Tryd.prog b44GL b44f34L6E.nimp (nodeC Tryd.f34 6) (pieceL b44f34L6I b44f34L6O (loopT b44f34L6S)) :=
  loopGood_of b44mo b44f34L6Eok Tryd.func34 (by kernel_rfl) (by kernel_rfl) (by kernel_rfl) (fun _ => rfl)
noncomputable def b44f34E : Env := { tt := b44TT, glob := b44GL, spec := [], body := [(34, Tryd.f34)], loops := [((34, 6), pieceL b44f34L6I b44f34L6O (loopT b44f34L6S))], nimp := 0 }
noncomputable def b44f34T (ps : List PV) : TR := funcT b44f34E 34 Tryd.f34 true b44f34I b44f34O ps
theorem b44f34Eok : EnvOK b44f34E Tryd.prog := ⟨tok_of b44TTok,
  all_nil,
  all_cons (loop_ok Tryd.func34 (by kernel_rfl) (by kernel_rfl) b44f34L6good) (all_nil),
  all_cons (body_ok Tryd.func34 (by kernel_rfl)) (all_nil)⟩
theorem b44f34spec : Spec Tryd.prog b44GL 34 (specG b44f34I b44f34O b44f34T) := spec_of b44mo b44f34Eok Tryd.func34 (by kernel_rfl) (by kernel_rfl) (fun _ => rfl)

/-! 10 metrolab/metrolablaw44.BonusPlates -/
def b44f10I : FIn := { args := [(.imm [(.int .i64), (.int .i64), (.int .i64), (.int .i64), (.int .i64), (.int .i64), .bool]), (.imm [(.int .i64), (.int .i64), (.int .i64)])], h := [] }
def b44f10O : List FOut := [{ res := .bool, h := [] }]
noncomputable def b44f10E : Env := { tt := b44TT, glob := b44GL, spec := [(17, specG b44f17I b44f17O b44f17T), (29, specG b44f29I b44f29O b44f29T), (30, specG b44f30I b44f30O b44f30T), (31, specG b44f31I b44f31O b44f31T), (32, specG b44f32I b44f32O b44f32T), (33, specG b44f33I b44f33O b44f33T), (34, specG b44f34I b44f34O b44f34T)], body := [(10, Tryd.f10)], loops := [], nimp := 0 }
noncomputable def b44f10T (ps : List PV) : TR := funcT b44f10E 10 Tryd.f10 true b44f10I b44f10O ps
theorem b44f10Eok : EnvOK b44f10E Tryd.prog := ⟨tok_of b44TTok,
  all_cons b44f17spec (all_cons b44f29spec (all_cons b44f30spec (all_cons b44f31spec (all_cons b44f32spec (all_cons b44f33spec (all_cons b44f34spec (all_nil))))))),
  all_nil,
  all_cons (body_ok Tryd.func10 (by kernel_rfl)) (all_nil)⟩
theorem b44f10spec : Spec Tryd.prog b44GL 10 (specG b44f10I b44f10O b44f10T) := spec_of b44mo b44f10Eok Tryd.func10 (by kernel_rfl) (by kernel_rfl) (fun _ => rfl)
end Go.Eng
