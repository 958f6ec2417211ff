/- ENGINE A. Abstract values, decision trees, and an interpreter of the model's Code that yields decision trees. Nothing is proved here. -/
import Derived.Calls
import Derived.Orders
namespace Go.Eng

/-- the shape of one cell of a row -/
inductive Sh where
  | int (k : IntKind) | bool | str | sl (row : List Sh)

/-- universal data: what a cell of a row reads as -/
inductive U where
  | i (n : Int) | b (x : Bool) | s (l : List UInt8) | l (rows : List (List U))

abbrev R := List (List U)
def U.toI : U → Int | .i n => n | _ => 0
def U.toB : U → Bool | .b x => x | _ => false
def U.toS : U → List UInt8 | .s x => x | _ => []
def U.toR : U → R | .l x => x | _ => []

def cellU (l : R) (i : Int) (j : Nat) : U := (l.getD i.toNat []).getD j (.i 0)
def cI (l : R) (i : Int) (j : Nat) : Int := (cellU l i j).toI
def cB (l : R) (i : Int) (j : Nat) : Bool := (cellU l i j).toB
def cS (l : R) (i : Int) (j : Nat) : List UInt8 := (cellU l i j).toS
def cR (l : R) (i : Int) (j : Nat) : R := (cellU l i j).toR
def rlen (l : R) : Int := (l.length : Int)
def rapp (l m : R) : R := l ++ m
def rowSet (row : List U) (off : Nat) (us : List U) : List U :=
  (List.range (max row.length (off + us.length))).map fun j => if off ≤ j ∧ j < off + us.length then us.getD (j - off) (.i 0) else row.getD j (.i 0)
def rset (l : R) (i : Int) (off : Nat) (us : List U) : R := l.set i.toNat (rowSet (l.getD i.toNat []) off us)
def rsub (l : R) (lo hi : Int) : R := (l.take hi.toNat).drop lo.toNat
def slen (s : List UInt8) : Int := (s.length : Int)
def sat (s : List UInt8) (i : Int) : Int := ((s.getD i.toNat 0).toNat : Int)
def ssub (s : List UInt8) (lo hi : Int) : List UInt8 := (s.take hi.toNat).drop lo.toNat
def sapp (s t : List UInt8) : List UInt8 := s ++ t
def seq (s t : List UInt8) : Bool := s == t
def slt (s t : List UInt8) : Bool := Op.bytesLess s t

def wadd (k : IntKind) (x y : Int) : Int := k.wrap (x + y)
def wsub (k : IntKind) (x y : Int) : Int := k.wrap (x - y)
def wmul (k : IntKind) (x y : Int) : Int := k.wrap (x * y)
def wquo (k : IntKind) (x y : Int) : Int := k.wrap (x.tdiv y)
def wrem (x y : Int) : Int := x.tmod y
def wconv (k : IntKind) (x : Int) : Int := k.wrap x
def ieq (x y : Int) : Bool := x == y
def ine (x y : Int) : Bool := x != y
def ilt (x y : Int) : Bool := decide (x < y)
def ile (x y : Int) : Bool := decide (x ≤ y)
def imax (x y : Int) : Int := if y > x then y else x
def imin (x y : Int) : Int := if y < x then y else x
def inb (i n : Int) : Bool := decide (0 ≤ i) && decide (i < n)
def inbe (i n : Int) : Bool := decide (0 ≤ i) && decide (i ≤ n)
def beq (x y : Bool) : Bool := x == y
def isel (l : List Int) (i : Int) : Int := l.getD i.toNat 0
def band (x y : Bool) : Bool := x && y

inductive Ex where
  | normal | exit (id : Nat) | ret

inductive AV where
  | undef | skip | yld
  | blit (b : Bool) | bool (b : Bool)
  | ilit (k : IntKind) (n : Int) | int (k : IntKind) (n : Int)
  | str (s : List UInt8)
  | nilp | ptr (b off : Nat)
  | eptr (sh : List Sh) (l : R) (i : Int) (off : Nat)
  | mptr (c : Bool) (sh : List Sh) (l : R) (i : Int) (off : Nat)
  | vptr (b : Nat) (i : Int) (off : Nat)
  | vsub (b : Nat) (i : Int)
  | aptr (b o : Nat) (i : Int)
  | asub (b o n : Nat) (i m : Int)
  | nils | imm (sh : List Sh) (l : R) | vec (b : Nat)
  | nilf | fn (f : FuncId) (first caps : List AV)
  | agg (cs : List AV) | tuple (vs : List AV)
  | bagg (cs : List AV) (k : IntKind) (n : Nat) (l : R)

inductive Blk where
  | cells (cs : List AV) | big (cs : List AV) (k : IntKind) (n : Nat) (l : R) | vec (e : TypeId) (sh : List Sh) (l : R) | frz (e : TypeId) (sh : List Sh) (l : R) | dead

structure St where
  t : List AV
  fs : List (List AV)
  h : List Blk
  pend : Option Ex := none

inductive Tree (α : Type) where
  | leaf (a : α) | br (b : Bool) (t e : Tree α) | fail

def Tree.bind {α β : Type} : Tree α → (α → Tree β) → Tree β
  | .leaf a, f => f a
  | .br b t e, f => .br b (t.bind f) (e.bind f)
  | .fail, _ => .fail

def Tree.run {α : Type} : Tree α → Option α
  | .leaf a => some a
  | .br b t e => match b with | true => t.run | false => e.run
  | .fail => none

/-- every leaf that is reached satisfies Q, and no failure is reached -/
def Tree.holds {α : Type} : Tree α → (α → Prop) → Prop
  | .leaf a, Q => Q a
  | .br b t e, Q => (b = true → t.holds Q) ∧ (b = false → e.holds Q)
  | .fail, _ => False

def Tree.ofOpt {α : Type} : Option α → Tree α
  | some a => .leaf a
  | none => .fail

/-! ### Types -/
inductive TD where
  | none | bool | int (k : IntKind) | str | slice (e : TypeId) (es : Nat) | array (n : Nat) (e : TypeId) (es : Nat)
  | struct (fs : List (Nat × TypeId × Nat)) | ptr (e : TypeId) | func

structure TI where
  d : TD
  size : Nat
  zero : List Value
  bytes : Nat
  eqok : Bool
  fok : Bool

def mkTD (P : Program) : TypeDesc → TD
  | .bool => .bool
  | .int k => .int k
  | .string => .str
  | .slice e => .slice e (P.cellsOf e)
  | .array n e => .array n e (P.cellsOf e)
  | .struct fs => .struct (fs.toList.map fun f => (f.offset, f.type, P.cellsOf f.type))
  | .pointer e => .ptr e
  | .func _ _ _ => .func
  | _ => .none

def mkTI (P : Program) (t : TypeId) : TI :=
  match P.info? t with
  | some i => { d := match P.underlying t with | some d => mkTD P d | none => .none, size := i.size, zero := match i.zero with | some v => v.cells.toList | none => [], bytes := i.bytes,
                eqok := match P.underlying t with | some (.struct fs) => !P.stoodInHeld t && !P.eqGuardType P.depth t && fs.toList.all (fun f => f.name != "_") | _ => false,
                fok := match P.underlying t with | some (.struct fs) => fs.toList.all (fun f => (P.info? f.type).isSome) | _ => false }
  | none => { d := .none, size := 0, zero := [], bytes := 0, eqok := false, fok := false }

structure Env where
  tt : List (TypeId × TI)
  glob : List (Nat × AV)
  spec : List (FuncId × (List AV → List Blk → Tree (AV × List Blk)))
  body : List (FuncId × Func)
  loops : List ((FuncId × Nat) × (St → Tree (Ex × St)))
  nimp : Nat
  iter : List (FuncId × FuncId × Nat) := []

def noTI : TI := { d := .none, size := 0, zero := [], bytes := 0, eqok := false, fok := false }
def Env.ty (E : Env) (t : TypeId) : TI := ((E.tt.find? fun x => x.1 == t).map (·.2)).getD noTI

def TD.known : TD → Bool
  | .none => false
  | _ => true

def TD.isAgg : TD → Bool
  | .struct _ | .array _ _ _ => true
  | _ => false

def Env.shape (E : Env) : Nat → TypeId → Option (List Sh)
  | 0, _ => none
  | n + 1, t => match (E.ty t).d with
    | .bool => some [.bool]
    | .int k => some [.int k]
    | .str => some [.str]
    | .slice e _ => (E.shape n e).map fun r => [.sl r]
    | .array m e _ => (E.shape n e).map fun r => (List.replicate m r).flatten
    | .struct fs => (fs.mapM fun f => E.shape n f.2.1).map List.flatten
    | _ => none

mutual
def Sh.beq : Sh → Sh → Bool
  | .int k, .int k' => decide (k = k')
  | .bool, .bool => true
  | .str, .str => true
  | .sl r, .sl r' => Sh.beqL r r'
  | _, _ => false
def Sh.beqL : List Sh → List Sh → Bool
  | [], [] => true
  | a :: l, b :: m => a.beq b && Sh.beqL l m
  | _, _ => false
end

/-! ### Abstract values -/
def ofCell : Value → AV
  | .bool b => .blit b
  | .int k n => .ilit k n
  | .string s => .str s.data.toList
  | .pointer none => .nilp
  | .slice none 0 0 => .nils
  | .nilFunc => .nilf
  | _ => .undef

def ofV : Value → AV
  | .agg cs => .agg (cs.toList.map ofCell)
  | v => ofCell v

def AV.cells : AV → List AV
  | .agg cs => cs
  | v => [v]

def AV.isCell : AV → Bool
  | .undef | .skip | .agg _ | .tuple _ | .bagg _ _ _ _ => false
  | _ => true

mutual
/-- rename (or forget) own blocks -/
def AV.ren (f : Nat → Option Nat) : AV → AV
  | .ptr b off => match f b with | some b' => .ptr b' off | none => .undef
  | .vptr b i off => match f b with | some b' => .vptr b' i off | none => .undef
  | .vec b => match f b with | some b' => .vec b' | none => .undef
  | .vsub b i => match f b with | some b' => .vsub b' i | none => .undef
  | .aptr b o i => match f b with | some b' => .aptr b' o i | none => .undef
  | .asub b o n i m => match f b with | some b' => .asub b' o n i m | none => .undef
  | .bagg cs k n l => .bagg (AV.renL f cs) k n l
  | .fn g first caps => .fn g (AV.renL f first) (AV.renL f caps)
  | .agg cs => .agg (AV.renL f cs)
  | .tuple vs => .tuple (AV.renL f vs)
  | v => v
def AV.renL (f : Nat → Option Nat) : List AV → List AV
  | [] => []
  | a :: l => a.ren f :: AV.renL f l
end

mutual
/-- no yield in it -/
def AV.noY : AV → Bool
  | .yld => false
  | .fn _ first caps => AV.noYL first && AV.noYL caps
  | .agg cs => AV.noYL cs
  | .bagg cs _ _ _ => AV.noYL cs
  | .tuple vs => AV.noYL vs
  | _ => true
def AV.noYL : List AV → Bool
  | [] => true
  | a :: l => a.noY && AV.noYL l
end
def Blk.noY : Blk → Bool
  | .cells cs => AV.noYL cs
  | .big cs _ _ _ => AV.noYL cs
  | _ => true

def Blk.ren (f : Nat → Option Nat) : Blk → Blk
  | .cells cs => .cells (AV.renL f cs)
  | .big cs k n l => .big (AV.renL f cs) k n l
  | b => b

mutual
def AV.men : AV → List Nat
  | .ptr b _ => [b]
  | .vptr b _ _ => [b]
  | .vsub b _ => [b]
  | .aptr b _ _ => [b]
  | .asub b _ _ _ _ => [b]
  | .bagg cs _ _ _ => AV.menL cs
  | .vec b => [b]
  | .fn _ first caps => AV.menL first ++ AV.menL caps
  | .agg cs => AV.menL cs
  | .tuple vs => AV.menL vs
  | _ => []
def AV.menL : List AV → List Nat
  | [] => []
  | a :: l => a.men ++ AV.menL l
end

mutual
def AV.hasImm : AV → Bool
  | .imm _ _ => true
  | .eptr _ _ _ _ => true
  | .mptr _ _ _ _ _ => true
  | .fn _ first caps => AV.hasImmL first || AV.hasImmL caps
  | .agg cs => AV.hasImmL cs
  | .bagg cs _ _ _ => AV.hasImmL cs
  | .tuple vs => AV.hasImmL vs
  | _ => false
def AV.hasImmL : List AV → Bool
  | [] => false
  | a :: l => a.hasImm || AV.hasImmL l
end

def Sh.isSl : Sh → Bool
  | .sl _ => true
  | _ => false

def Blk.hasImm : Blk → Bool
  | .cells cs => AV.hasImmL cs
  | .big cs _ _ _ => AV.hasImmL cs
  | .vec _ sh _ => sh.any Sh.isSl
  | .frz _ _ _ => true
  | .dead => false

def asI : AV → Option (IntKind × Int)
  | .ilit k n => some (k, n)
  | .int k n => some (k, n)
  | _ => none

def asB : AV → Option Bool
  | .blit b => some b
  | .bool b => some b
  | _ => none

def cellAV (sh : List Sh) (l : R) (i : Int) (j : Nat) : Option AV :=
  match sh[j]? with
  | some (.int k) => some (.int k (cI l i j))
  | some .bool => some (.bool (cB l i j))
  | some .str => some (.str (cS l i j))
  | some (.sl row) => some (.imm row (cR l i j))
  | none => none

/-- the cells from off on, so many -/
def cellsAV (sh : List Sh) (l : R) (i : Int) : Nat → Nat → Option (List AV)
  | _, 0 => some []
  | off, n + 1 => match cellAV sh l i off, cellsAV sh l i (off + 1) n with
    | some a, some r => some (a :: r)
    | _, _ => none

def rowsOf (h : List Blk) : AV → Option (List Sh × R)
  | .imm sh l => some (sh, l)
  | .vec b => match h[b]? with
    | some (.vec _ sh l) => some (sh, l)
    | some (.frz _ sh l) => some (sh, l)
    | _ => none
  | _ => none

/-- a cell as universal data of a shape -/
def toU (h : List Blk) : Sh → AV → Option U
  | .int k, .ilit k' n => if k = k' then some (.i n) else none
  | .int k, .int k' n => if k = k' then some (.i n) else none
  | .bool, .blit b => some (.b b)
  | .bool, .bool b => some (.b b)
  | .str, .str s => some (.s s)
  | .sl _, .nils => some (.l [])
  | .sl row, .imm row' l => if Sh.beqL row row' then some (.l l) else none
  | .sl row, .vec b => match h[b]? with
    | some (.vec _ row' l) => if Sh.beqL row row' then some (.l l) else none
    | some (.frz _ row' l) => if Sh.beqL row row' then some (.l l) else none
    | _ => none
  | _, _ => none

def toUs (h : List Blk) : List Sh → List AV → Option (List U)
  | [], [] => some []
  | s :: sh, a :: as => match toU h s a, toUs h sh as with
    | some u, some us => some (u :: us)
    | _, _ => none
  | _, _ => none

/-- own slices that stand in cells, when these become rows, are never written again -/
def freeze1 (h : List Blk) (b : Nat) : List Blk :=
  match h[b]? with
  | some (.vec e sh l) => h.set b (.frz e sh l)
  | _ => h
def freezeAll (h : List Blk) : List AV → List Blk
  | [] => h
  | .vec b :: l => freezeAll (freeze1 h b) l
  | _ :: l => freezeAll h l

def chunk (h : List Blk) (sh : List Sh) : Nat → List AV → Option R
  | 0, [] => some []
  | 0, _ => none
  | n + 1, cs => match toUs h sh (cs.take sh.length), chunk h sh n (cs.drop sh.length) with
    | some u, some r => some (u :: r)
    | _, _ => none

/-- the result of an operation: its value, the blocks, and the own block whose elder references are void -/
abbrev Res := AV × List Blk × Option Nat

def okv (h : List Blk) (v : AV) : Tree Res := .leaf (v, h, none)
def okb (h : List Blk) (b : Bool) : Tree Res := .leaf (.bool b, h, none)

def allCells (l : List AV) : Bool := l.all AV.isCell

def splice (cs : List AV) (off : Nat) (vs : List AV) : List AV := cs.take off ++ vs ++ cs.drop (off + vs.length)

def evLoad (E : Env) (h : List Blk) (t : TypeId) (p : AV) : Tree Res :=
  let ti := E.ty t
  if ti.d.known = false then .fail else
  match p with
  | .ptr b off => match h[b]? with
    | some (.cells cs) =>
      if ti.d.isAgg then (if off + ti.size ≤ cs.length then okv h (.agg ((cs.drop off).take ti.size)) else .fail)
      else match cs[off]? with | some v => okv h v | none => .fail
    | _ => .fail
  | .eptr sh l i off =>
    if ti.d.isAgg then (match cellsAV sh l i off ti.size with | some cs => okv h (.agg cs) | none => .fail)
    else (match cellAV sh l i off with | some v => okv h v | none => .fail)
  | .vptr b i off => match rowsOf h (.vec b) with
    | some (sh, l) =>
      if ti.d.isAgg then (match cellsAV sh l i off ti.size with | some cs => okv h (.agg cs) | none => .fail)
      else (match cellAV sh l i off with | some v => okv h v | none => .fail)
    | none => .fail
  | _ => .fail

def evStore (E : Env) (h : List Blk) (t : TypeId) (p v : AV) : Tree Res :=
  let cs' := v.cells
  if cs'.length = (E.ty t).size ∧ allCells cs' = true ∧ cs'.length ≠ 0 then
    match p with
    | .ptr b off => match h[b]? with
      | some (.cells cs) => if off + cs'.length ≤ cs.length then .leaf (.skip, h.set b (.cells (splice cs off cs')), none) else .fail
      | _ => .fail
    | .vptr b i off => match h[b]? with
      | some (.vec e sh l) => if (AV.menL cs').isEmpty then (match toUs h ((sh.drop off).take cs'.length) cs' with
        | some us => .leaf (.skip, h.set b (.vec e sh (rset l i off us)), none)
        | none => .fail) else .fail
      | _ => .fail
    | _ => .fail
  else .fail

def fillL (place : Nat → Option (Nat × Nat)) (cells : List AV) : List (Nat × AV) → Option (List AV)
  | [] => some cells
  | (i, v) :: rest => match place i with
    | none => none
    | some (off, size) =>
      if v.cells.length = size ∧ off + v.cells.length ≤ cells.length ∧ allCells v.cells = true then fillL place (splice cells off v.cells) rest else none

def evBuild (E : Env) (h : List Blk) (t : TypeId) (parts : List (Nat × AV)) : Tree Res :=
  if (E.ty t).zero.length = 0 then .fail else
  match (E.ty t).d with
  | .struct fs => if (E.ty t).fok then (match fillL (fun i => (fs[i]?).map fun f => (f.1, f.2.2)) ((E.ty t).zero.map ofCell) parts with
    | some cs => okv h (.agg cs)
    | none => .fail) else .fail
  | .array _ _ es => if es = 0 then .fail else match fillL (fun i => some (i * es, es)) ((E.ty t).zero.map ofCell) parts with
    | some cs => okv h (.agg cs)
    | none => .fail
  | _ => .fail

def evBuildSlice (E : Env) (h : List Blk) (t : TypeId) (len : Nat) (parts : List (Nat × AV)) : Tree Res :=
  match (E.ty t).d with
  | .slice e es =>
    if len * es ≤ 16777216 ∧ 0 < es ∧ (E.ty e).zero.length = es then
      match fillL (fun i => some (i * es, es)) ((List.replicate len ((E.ty e).zero.map ofCell)).flatten) parts, E.shape 16 e with
      | some cs, some sh => if sh.length = es then (match chunk h sh len cs with
        | some l => .leaf (.vec h.length, freezeAll h cs ++ [.vec e sh l], none)
        | none => .fail) else .fail
      | _, _ => .fail
    else .fail
  | _ => .fail

def evFieldAddr (E : Env) (h : List Blk) (s : TypeId) (x : AV) (f : Nat) : Tree Res :=
  match (E.ty s).d with
  | .struct fs => match fs[f]? with
    | some (o, _, sz) => if sz = 0 then .fail else
      match x with
      | .ptr b off => okv h (.ptr b (off + o))
      | .eptr sh l i off => okv h (.eptr sh l i (off + o))
      | .vptr b i off => okv h (.vptr b i (off + o))
      | _ => .fail
    | none => .fail
  | _ => .fail

def partAV (E : Env) (t : TypeId) (cs : List AV) (off : Nat) : Option AV :=
  let ti := E.ty t
  if ti.d.known = false then none else
  if ti.d.isAgg then (if off + ti.size ≤ cs.length then some (.agg ((cs.drop off).take ti.size)) else none)
  else cs[off]?

def evPart (E : Env) (h : List Blk) (t : TypeId) (cs : List AV) (off : Nat) : Tree Res :=
  match partAV E t cs off with
  | some v => okv h v
  | none => .fail

def evField (E : Env) (h : List Blk) (s : TypeId) (x : AV) (f : Nat) : Tree Res :=
  match (E.ty s).d, x with
  | .struct fs, .agg cs => match fs[f]? with
    | some (o, t, _) => evPart E h t cs o
    | none => .fail
  | _, _ => .fail

/-- an index of a small array, one case a place -/
def idxTree (h : List Blk) (i : Int) (f : Nat → AV) : Nat → Tree Res
  | 0 => .fail
  | m + 1 => .br (ieq i m) (okv h (f m)) (idxTree h i f m)

def evIndexAddr (E : Env) (h : List Blk) (t : TypeId) (x ix : AV) : Tree Res :=
  match (E.ty t).d, x, asI ix with
  | .slice _ es, .imm sh l, some (_, i) => if sh.length = es ∧ 0 < es then .br (inb i (rlen l)) (okv h (.eptr sh l i 0)) .fail else .fail
  | .slice _ es, .vec b, some (_, i) => match rowsOf h (.vec b) with
    | some (sh, l) => if sh.length = es ∧ 0 < es then .br (inb i (rlen l)) (okv h (.vptr b i 0)) .fail else .fail
    | none => .fail
  | .array n _ es, .ptr b off, _ => match ix with
    | .ilit _ i => if 0 ≤ i ∧ i < n ∧ 0 < es then okv h (.ptr b (off + i.toNat * es)) else .fail
    | .int _ i => if n ≤ 16 ∧ 0 < es then idxTree h i (fun m => .ptr b (off + m * es)) n else .fail
    | _ => .fail
  | .array n _ es, .eptr sh l i0 off, _ => match ix with
    | .ilit _ i => if 0 ≤ i ∧ i < n ∧ 0 < es then okv h (.eptr sh l i0 (off + i.toNat * es)) else .fail
    | .int _ i => if n ≤ 16 ∧ 0 < es then idxTree h i (fun m => .eptr sh l i0 (off + m * es)) n else .fail
    | _ => .fail
  | _, _, _ => .fail

/-- the ints of a list of cells of one kind -/
def intsOf (k : IntKind) : List AV → Option (List Int)
  | [] => some []
  | a :: l => match asI a, intsOf k l with
    | some (k', n), some r => if k = k' then some (n :: r) else none
    | _, _ => none

def evIndex (E : Env) (h : List Blk) (t : TypeId) (x ix : AV) : Tree Res :=
  match (E.ty t).d, x, asI ix with
  | .array n e es, .agg cs, some (_, i) => match ix with
    | .ilit _ i => if 0 ≤ i ∧ i < n ∧ 0 < es then evPart E h e cs (i.toNat * es) else .fail
    | _ => match (E.ty e).d with
      | .int k => if es = 1 ∧ cs.length = n then (match intsOf k cs with
        | some l => .br (inb i n) (okv h (.int k (isel l i))) .fail
        | none => .fail) else .fail
      | _ => .fail
  | .str, .str s, some (_, i) => .br (inb i (slen s)) (okv h (.int .u8 (sat s i))) .fail
  | _, _, _ => .fail

def iarith (h : List Blk) (k : IntKind) (f : Int → Int → Int) (lit : Bool) (x y : Int) : Tree Res :=
  if lit then okv h (.ilit k (f x y)) else okv h (.int k (f x y))
def icmp (h : List Blk) (f : Int → Int → Bool) (lit : Bool) (x y : Int) : Tree Res :=
  if lit then okv h (.blit (f x y)) else okv h (.bool (f x y))

def isLit : AV → Bool
  | .ilit _ _ => true
  | _ => false

def evBin (d : TD) (h : List Blk) (op : BinOp) (x y : AV) : Tree Res :=
  match asI x, asI y with
  | some (k, a), some (k', b) =>
    if k = k' then
      let lit := isLit x && isLit y
      match op with
      | .add => iarith h k (wadd k) lit a b
      | .sub => iarith h k (wsub k) lit a b
      | .mul => iarith h k (wmul k) lit a b
      | .quo => match y with
        | .ilit _ c => if c = 0 then .fail else iarith h k (wquo k) lit a b
        | _ => .br (ine b 0) (iarith h k (wquo k) lit a b) .fail
      | .rem => match y with
        | .ilit _ c => if c = 0 then .fail else iarith h k wrem lit a b
        | _ => .br (ine b 0) (iarith h k wrem lit a b) .fail
      | .eql => icmp h ieq lit a b
      | .neq => icmp h ine lit a b
      | .lss => icmp h ilt lit a b
      | .leq => icmp h ile lit a b
      | .gtr => icmp h (fun u v => ilt v u) lit a b
      | .geq => icmp h (fun u v => ile v u) lit a b
      | _ => .fail
    else .fail
  | _, _ =>
    match asB x, asB y with
    | some a, some b => (match d with
      | .bool => (match op with
        | .eql => okb h (Eng.beq a b)
        | .neq => okb h (!(Eng.beq a b))
        | _ => .fail)
      | _ => .fail)
    | _, _ => match x, y with
      | .str a, .str b => match op with
        | .eql => okb h (Eng.seq a b)
        | .neq => okb h (!(Eng.seq a b))
        | .lss => okb h (slt a b)
        | .leq => okb h (slt a b || Eng.seq a b)
        | .gtr => okb h (!(slt a b || Eng.seq a b))
        | .geq => okb h (!(slt a b))
        | .add => .br (ile (slen a + slen b) 140737488355328) (okv h (.str (sapp a b))) .fail
        | _ => .fail
      | .nilp, .nilp => (match d with
        | .ptr _ => (match op with | .eql => okv h (.blit true) | .neq => okv h (.blit false) | _ => .fail)
        | _ => .fail)
      | .ptr b _, .nilp => (match d, h[b]? with
        | .ptr _, some (.cells _) => (match op with | .eql => okv h (.blit false) | .neq => okv h (.blit true) | _ => .fail)
        | _, _ => .fail)
      | .eptr _ _ _ _, .nilp => (match d with
        | .ptr _ => (match op with | .eql => okv h (.blit false) | .neq => okv h (.blit true) | _ => .fail)
        | _ => .fail)
      | .imm _ l, .nils => (match d with
        | .slice _ _ => (match op with | .eql => .br (ilt 0 (rlen l)) (okv h (.blit false)) .fail | .neq => .br (ilt 0 (rlen l)) (okv h (.blit true)) .fail | _ => .fail)
        | _ => .fail)
      | .mptr c _ _ _ _, .nilp => (match d with
        | .ptr _ => (match op with | .eql => okb h (!c) | .neq => okb h c | _ => .fail)
        | _ => .fail)
      | _, _ => .fail

mutual
/-- equality of two values of a type, field by field -/
def eqT (E : Env) : Nat → TypeId → AV → AV → Option Bool
  | 0, _, _, _ => none
  | n + 1, t, x, y => match (E.ty t).d with
    | .int _ => match asI x, asI y with
      | some (k, a), some (k', b) => if k = k' then some (ieq a b) else none
      | _, _ => none
    | .bool => match asB x, asB y with
      | some a, some b => some (Eng.beq a b)
      | _, _ => none
    | .str => match x, y with
      | .str a, .str b => some (Eng.seq a b)
      | _, _ => none
    | .struct fs => if (E.ty t).eqok then (match x, y with
      | .agg xs, .agg ys => eqFs E n fs xs ys
      | _, _ => none) else none
    | _ => none
def eqFs (E : Env) : Nat → List (Nat × TypeId × Nat) → List AV → List AV → Option Bool
  | _, [], _, _ => some true
  | 0, _, _, _ => none
  | n + 1, f :: fs, xs, ys => match partAV E f.2.1 xs f.1, partAV E f.2.1 ys f.1 with
    | some a, some b => match eqT E n f.2.1 a b, eqFs E n fs xs ys with
      | some r, some s => some (band r s)
      | _, _ => none
    | _, _ => none
end

def evEqAgg (E : Env) (h : List Blk) (op : BinOp) (t : TypeId) (x y : AV) : Tree Res :=
  match eqT E 32 t x y with
  | some r => (match op with | .eql => okb h r | .neq => okb h (!r) | _ => .fail)
  | none => .fail

def evBinOp (E : Env) (h : List Blk) (op : BinOp) (t : TypeId) (x y : AV) : Tree Res :=
  match x, y with
  | .agg xs, .agg ys => evEqAgg E h op t (.agg xs) (.agg ys)
  | a, b => evBin (E.ty t).d h op a b

def evUn (h : List Blk) (op : UnOp) (x : AV) : Tree Res :=
  match op, x with
  | .not, .blit b => okv h (.blit (!b))
  | .not, .bool b => okv h (.bool (!b))
  | .neg, .ilit k n => okv h (.ilit k (wsub k 0 n))
  | .neg, .int k n => okv h (.int k (wsub k 0 n))
  | _, _ => .fail

def evConv (E : Env) (h : List Blk) (src dst : TypeId) (x : AV) : Tree Res :=
  match (E.ty src).d, (E.ty dst).d, x with
  | .int _, .int k, .ilit _ n => okv h (.ilit k (wconv k n))
  | .int _, .int k, .int _ n => okv h (.int k (wconv k n))
  | .str, .str, .str s => okv h (.str s)
  | _, _, _ => .fail

def optI : Option AV → Int → Option Int
  | none, d => some d
  | some a, _ => (asI a).map (·.2)

def isBytes : List Sh → Bool
  | [.int .u8] => true
  | _ => false
/-- bytes from some place on: a part that may be written -/
def byteTail (sh : List Sh) (hi : Option AV) : Bool := match hi with
  | none => isBytes sh
  | some _ => false
def rstr (l : R) : List UInt8 := l.map fun row => UInt8.ofNat (row.getD 0 (.i 0)).toI.toNat
def rmake (n : Int) (row : List U) : R := List.replicate n.toNat row
def rcpy (l : R) (i : Int) (s : List UInt8) : R := l.take i.toNat ++ s.map (fun c => [.i (c.toNat : Int)]) ++ l.drop (i.toNat + s.length)
def isub (x y : Int) : Int := x - y

def evBytes (E : Env) (h : List Blk) (e : TypeId) (x : AV) : Tree Res :=
  match (E.ty e).d with
  | .int .u8 => (match rowsOf h x with
    | some (sh, l) => if isBytes sh then okv h (.str (rstr l)) else .fail
    | none => .fail)
  | _ => .fail
def evConvB (E : Env) (h : List Blk) (src dst : TypeId) (x : AV) : Tree Res :=
  match (E.ty src).d with
  | .slice e _ => (match (E.ty dst).d with
    | .str => evBytes E h e x
    | _ => .fail)
  | _ => evConv E h src dst x

def evSlice (E : Env) (h : List Blk) (t : TypeId) (x : AV) (lo hi mx : Option AV) : Tree Res :=
  match mx with
  | some _ => .fail
  | none => match (E.ty t).d, x with
    | .str, .str s => match optI lo 0, optI hi (slen s) with
      | some l, some r => .br (inbe r (slen s)) (.br (inbe l r) (okv h (.str (ssub s l r))) .fail) .fail
      | _, _ => .fail
    | .slice _ es, .imm sh l => match optI lo 0, optI hi (rlen l) with
      | some a, some b => if sh.length = es ∧ 0 < es then .br (inbe b (rlen l)) (.br (inbe a b) (okv h (.imm sh (rsub l a b))) .fail) .fail else .fail
      | _, _ => .fail
    | .slice _ es, .vec b => match h[b]? with
      | some (.vec _ sh l) => (match byteTail sh hi with
        | true => (match optI lo 0 with
          | some a => if es = 1 then .br (ilt 0 (rlen l)) (.br (inbe a (rlen l)) (okv h (.vsub b a)) .fail) .fail else .fail
          | none => .fail)
        | false => (match optI lo 0, optI hi (rlen l) with
          | some a, some c => if sh.length = es ∧ 0 < es then .br (inbe c (rlen l)) (.br (inbe a c) (.leaf (.imm sh (rsub l a c), freeze1 h b, none)) .fail) .fail else .fail
          | _, _ => .fail))
      | some (.frz _ sh l) => (match optI lo 0, optI hi (rlen l) with
        | some a, some c => if sh.length = es ∧ 0 < es then .br (inbe c (rlen l)) (.br (inbe a c) (okv h (.imm sh (rsub l a c))) .fail) .fail else .fail
        | _, _ => .fail)
      | _ => .fail
    | _, _ => .fail

/-- so many elements of so many bytes may be appended -/
def roomE (b : Nat) : Int := ((140737488355328 / (if b = 0 then 1 else b) : Nat) : Int)

def frzArg (h : List Blk) (x : AV) : List Blk :=
  match x with
  | .vec b => freeze1 h b
  | _ => h

def evApp2 (rm : Int) (h : List Blk) (e : TypeId) (sh : List Sh) (l m : R) (b : Nat) (x : AV) : Tree Res :=
  match x with
  | .vec b' => if b = b' then .fail else
      .br (ile (rlen l + rlen m) rm) (.leaf (.vec b, (freeze1 h b').set b (.vec e sh (rapp l m)), some b)) .fail
  | _ => .br (ile (rlen l + rlen m) rm) (.leaf (.vec b, h.set b (.vec e sh (rapp l m)), some b)) .fail

def evApp1 (rm : Int) (h : List Blk) (e : TypeId) (sh : List Sh) (s x : AV) : Tree Res :=
  match rowsOf h x with
  | some (sh', m) => if Sh.beqL sh sh' then
    (match s with
    | .nils => .br (ile (rlen m) rm) (.leaf (.vec h.length, frzArg h x ++ [.vec e sh m], none)) .fail
    | .vec b => match h[b]? with
      | some (.vec e' sh'' l) => if Sh.beqL sh sh'' ∧ e = e' then evApp2 rm h e sh l m b x else .fail
      | _ => .fail
    | _ => .fail) else .fail
  | none => .fail

def evAppend (E : Env) (h : List Blk) (t : TypeId) (s x : AV) : Tree Res :=
  match (E.ty t).d with
  | .slice e es => match E.shape 16 e with
    | some sh => if sh.length = es ∧ 0 < es ∧ (E.ty e).zero.length = es then
        (match x with
        | .nils => (match s with
          | .nils => okv h .nils
          | _ => .fail)
        | x => evApp1 (roomE (E.ty e).bytes) h e sh s x) else .fail
    | none => .fail
  | _ => .fail

def evLen (E : Env) (h : List Blk) (t : TypeId) (x : AV) : Tree Res :=
  match (E.ty t).d, x with
  | .str, .str s => okv h (.int .i64 (slen s))
  | .array n _ _, _ => okv h (.ilit .i64 n)
  | .slice _ _, .nils => okv h (.ilit .i64 0)
  | .slice _ _, x => match rowsOf h x with
    | some (_, l) => okv h (.int .i64 (rlen l))
    | none => .fail
  | _, _ => .fail

def foldI (f : Int → Int → Int) (k : IntKind) : Int → List AV → Option Int
  | a, [] => some a
  | a, x :: l => match asI x with
    | some (k', b) => if k = k' then foldI f k (f a b) l else none
    | none => none

def evMake (E : Env) (h : List Blk) (t : TypeId) (x y : AV) : Tree Res :=
  match (E.ty t).d, asI x, asI y with
  | .slice e es, some (_, n), some (_, m) => (match E.shape 16 e with
    | some sh => if sh.length = es ∧ 0 < es ∧ (E.ty e).zero.length = es then
        (match toUs h sh ((E.ty e).zero.map ofCell) with
        | some us => .br (ieq n m) (.br (inbe n (roomE (E.ty e).bytes)) (.leaf (.vec h.length, h ++ [.vec e sh (rmake n us)], none)) .fail) .fail
        | none => .fail) else .fail
    | none => .fail)
  | _, _, _ => .fail

def evBCopy (E : Env) (h : List Blk) : List TypeId → List AV → Tree Res
  | [t, _], [.vsub b i, .str s] => (match (E.ty t).d with
    | .slice _ es => (match h[b]? with
      | some (.vec e' sh l) => if isBytes sh ∧ es = 1 then .br (ile (slen s) (isub (rlen l) i)) (.leaf (.int .i64 (slen s), h.set b (.vec e' sh (rcpy l i s)), none)) .fail else .fail
      | _ => .fail)
    | _ => .fail)
  | _, _ => .fail

/-! ### Structs that end in a great array of ints -/
def isZ (k : IntKind) : Value → Bool
  | .int k' n => decide (k = k') && decide (n = 0)
  | _ => false
/-- the cells ahead, kind and length of the array -/
def bigTy (E : Env) (t : TypeId) : Option (Nat × IntKind × Nat) :=
  match (E.ty t).d with
  | .struct fs => (match fs.getLast? with
    | some (o, ty, _) => (match (E.ty ty).d with
      | .array n e _ => (match (E.ty e).d with
        | .int k => if Nat.ble 32 n && Nat.beq (E.ty t).zero.length (o + n) && Nat.beq (E.ty t).size (o + n) && ((E.ty t).zero.drop o).all (isZ k) then some (o, k, n) else none
        | _ => none)
      | _ => none)
    | none => none)
  | _ => none
def allocBlk (E : Env) (t : TypeId) : Option Blk := match bigTy E t with
  | some (o, k, n) => if allCells (((E.ty t).zero.take o).map ofCell) = true then some (.big (((E.ty t).zero.take o).map ofCell) k n (rmake n [.i 0])) else none
  | none => if allCells ((E.ty t).zero.map ofCell) = true ∧ ((E.ty t).zero.map ofCell).length ≠ 0 then some (.cells ((E.ty t).zero.map ofCell)) else none
def boxBlk (x : AV) : Option Blk := match x with
  | .bagg cs k n l => if allCells cs = true then some (.big cs k n l) else none
  | x => if allCells x.cells = true then some (.cells x.cells) else none
def newBlk (h : List Blk) (k : Option Blk) : Tree Res := match k with
  | some k => .leaf (.ptr h.length 0, h ++ [k], none)
  | none => .fail
def ldBig (E : Env) (h : List Blk) (t : TypeId) (off : Nat) (cs : List AV) (k : IntKind) (n : Nat) (l : R) : Tree Res :=
  if (E.ty t).d.known = false then .fail else
  if (E.ty t).d.isAgg = true then (if off = 0 ∧ (E.ty t).size = cs.length + n then okv h (.bagg cs k n l) else .fail)
  else (match cs[off]? with
    | some v => okv h v
    | none => if off < cs.length + n then okv h (.int k (cI l ((off - cs.length : Nat) : Int) 0)) else .fail)
def evLoadB (E : Env) (h : List Blk) (t : TypeId) (p : AV) : Tree Res :=
  match p with
  | .ptr b off => (match h[b]? with
    | some (.big cs k n l) => ldBig E h t off cs k n l
    | _ => evLoad E h t (.ptr b off))
  | .aptr b o i => (match h[b]? with
    | some (.big cs k n l) => if (E.ty t).d.known = true ∧ (E.ty t).d.isAgg = false ∧ o = cs.length then .br (inb i n) (okv h (.int k (cI l i 0))) .fail else .fail
    | _ => .fail)
  | p => evLoad E h t p
def stBig (E : Env) (h : List Blk) (t : TypeId) (b off : Nat) (cs : List AV) (k : IntKind) (n : Nat) (l : R) (v : AV) : Tree Res :=
  match v with
  | .bagg cs' k' n' l' => if off = 0 ∧ k = k' ∧ n = n' ∧ cs.length = cs'.length ∧ (E.ty t).size = cs.length + n ∧ 0 < n ∧ allCells cs' = true then .leaf (.skip, h.set b (.big cs' k n l'), none) else .fail
  | v => if v.cells.length = (E.ty t).size ∧ allCells v.cells = true ∧ v.cells.length ≠ 0 then
      (match Nat.ble (off + v.cells.length) cs.length with
      | true => .leaf (.skip, h.set b (.big (splice cs off v.cells) k n l), none)
      | false => (match asI v with
        | some (k', x) => if k = k' ∧ cs.length ≤ off ∧ off < cs.length + n then .leaf (.skip, h.set b (.big cs k n (rset l ((off - cs.length : Nat) : Int) 0 [.i x])), none) else .fail
        | none => .fail))
      else .fail
def evStoreB (E : Env) (h : List Blk) (t : TypeId) (p v : AV) : Tree Res :=
  match p with
  | .ptr b off => (match h[b]? with
    | some (.big cs k n l) => stBig E h t b off cs k n l v
    | _ => evStore E h t (.ptr b off) v)
  | .aptr b o i => (match h[b]? with
    | some (.big cs k n l) => (match asI v with
      | some (k', x) => if k = k' ∧ o = cs.length ∧ (E.ty t).size = 1 then .br (inb i n) (.leaf (.skip, h.set b (.big cs k n (rset l i 0 [.i x])), none)) .fail else .fail
      | none => .fail)
    | _ => .fail)
  | p => evStore E h t p v
def evIndexAddrB (E : Env) (h : List Blk) (t : TypeId) (x ix : AV) : Tree Res :=
  match (E.ty t).d with
  | .array n _ es => (match Nat.blt 16 n with
    | true => (match x with
      | .ptr b off => (match ix with
        | .int _ i => if es = 1 then .br (inb i n) (okv h (.aptr b off i)) .fail else .fail
        | _ => evIndexAddr E h t x ix)
      | _ => evIndexAddr E h t x ix)
    | false => evIndexAddr E h t x ix)
  | _ => evIndexAddr E h t x ix
def evBuildB (E : Env) (h : List Blk) (t : TypeId) (parts : List (Nat × AV)) : Tree Res :=
  match bigTy E t with
  | some (o, k, n) => (match (E.ty t).d with
    | .struct fs => if (E.ty t).fok = true then (match fillL (fun i => (fs[i]?).map fun f => (f.1, f.2.2)) (((E.ty t).zero.take o).map ofCell) parts with
      | some cs => okv h (.bagg cs k n (rmake n [.i 0]))
      | none => .fail) else .fail
    | _ => .fail)
  | none => evBuild E h t parts
def slArr (h : List Blk) (b off n : Nat) (lo hi : Option AV) : Tree Res :=
  match optI lo 0, optI hi n with
  | some a, some c => .br (inbe c n) (.br (inbe a c) (okv h (.asub b off n a (isub c a))) .fail) .fail
  | _, _ => .fail
def evSliceB (E : Env) (h : List Blk) (t : TypeId) (x : AV) (lo hi mx : Option AV) : Tree Res :=
  match (E.ty t).d with
  | .ptr arr => (match x with
    | .ptr b off => (match mx with
      | none => (match (E.ty arr).d with
        | .array n _ es => if es = 1 then slArr h b off n lo hi else .fail
        | _ => .fail)
      | some _ => .fail)
    | _ => .fail)
  | _ => evSlice E h t x lo hi mx
def racpy (l : R) (i : Int) (l' : R) (i' c : Int) : R := l.take i.toNat ++ (l'.drop i'.toNat).take c.toNat ++ l.drop (i.toNat + c.toNat)
def evBCopyB (E : Env) (h : List Blk) : List TypeId → List AV → Tree Res
  | [t, t'], [.asub b o n i m, .asub b' o' n' i' m'] => (match (E.ty t).d with
    | .slice _ es => (match h[b]? with
      | some (.big cs k N l) => (match h[b']? with
        | some (.big cs' k' N' l') => if es = 1 ∧ o = cs.length ∧ n = N ∧ o' = cs'.length ∧ n' = N' ∧ k = k' then
            .leaf (.int .i64 (imin m' m), h.set b (.big cs k N (racpy l i l' i' (imin m' m))), none) else .fail
        | _ => .fail)
      | _ => .fail)
    | _ => .fail)
  | ts, as => evBCopy E h ts as

def evBAppend (E : Env) (h : List Blk) : List TypeId → List AV → Tree Res
  | [t, t'], [s, x] => if t = t' then evAppend E h t s x else .fail
  | _, _ => .fail
def evBLen (E : Env) (h : List Blk) : List TypeId → List AV → Tree Res
  | t :: _, [x] => evLen E h t x
  | _, _ => .fail
def evBMM (f : Int → Int → Int) (h : List Blk) : List AV → Tree Res
  | x :: l => match asI x with
    | some (k, n) => (match foldI f k n l with
      | some m => if (x :: l).all isLit then okv h (.ilit k m) else okv h (.int k m)
      | none => .fail)
    | none => .fail
  | [] => .fail

def evBuiltin (E : Env) (h : List Blk) (b : Builtin) (argTypes : List TypeId) (args : List AV) : Tree Res :=
  match b with
  | .append => evBAppend E h argTypes args
  | .len => evBLen E h argTypes args
  | .max => evBMM imax h args
  | .min => evBMM imin h args
  | .copy => evBCopyB E h argTypes args
  | _ => .fail

def evOp (E : Env) (h : List Blk) (ev : Operand → AV) (op : Op) : Tree Res :=
  match op with
  | .move x => okv h (ev x)
  | .assign x => okv h (ev x)
  | .pick c a b => (match ev c with
    | .blit t => okv h (if t then ev a else ev b)
    | .bool t => .br t (okv h (ev a)) (okv h (ev b))
    | _ => .fail)
  | .box _ x => newBlk h (boxBlk (ev x))
  | .alloc t => newBlk h (allocBlk E t)
  | .load t a => evLoadB E h t (ev a)
  | .store t a x => evStoreB E h t (ev a) (ev x)
  | .build t parts => evBuildB E h t (parts.toList.map fun p => (p.1, ev p.2))
  | .buildSlice t len parts => evBuildSlice E h t len (parts.toList.map fun p => (p.1, ev p.2))
  | .nilCheck x => (match ev x with
    | .ptr b o => (match h[b]? with
      | some (.cells _) => okv h (.ptr b o)
      | some (.big _ _ _ _) => okv h (.ptr b o)
      | _ => .fail)
    | .eptr sh l i o => okv h (.eptr sh l i o)
    | .mptr c sh l i o => .br c (okv h (.eptr sh l i o)) .fail
    | _ => .fail)
  | .binOp op t x y _ => evBinOp E h op t (ev x) (ev y)
  | .unOp op _ x => evUn h op (ev x)
  | .convert s d x => evConvB E h s d (ev x)
  | .makeSlice t n m => evMake E h t (ev n) (ev m)
  | .makeFunc (.func f) first caps => okv h (.fn f (first.toList.map ev) (caps.toList.map ev))
  | .slice t x lo hi mx => evSliceB E h t (ev x) (lo.map ev) (hi.map ev) (mx.map ev)
  | .fieldAddr s x f => evFieldAddr E h s (ev x) f
  | .field s x f => evField E h s (ev x) f
  | .indexAddr t x i => evIndexAddrB E h t (ev x) (ev i)
  | .index t x i => evIndex E h t (ev x) (ev i)
  | .extract x i => (match ev x with
    | .tuple vs => (match vs[i]? with | some v => okv h v | none => .fail)
    | _ => .fail)
  | .call { callee := .builtin b, args, argTypes } => evBuiltin E h b argTypes.toList (args.toList.map ev)
  | _ => .fail

/-! ### States -/
def Env.opd (E : Env) (t : List AV) : Operand → AV
  | .tmp i => t.getD i .undef
  | .const v => ofV v
  | .global g => ((E.glob.find? fun x => x.1 == g).map (·.2)).getD .undef
  | .func f => .fn f [] []

def putT (t : List AV) : Option Tmp → AV → List AV
  | some d, v => t.set d v
  | none, _ => t

def St.renAll (st : St) (f : Nat → Option Nat) : St :=
  { t := AV.renL f st.t, fs := st.fs.map (AV.renL f), h := st.h.map (Blk.ren f), pend := st.pend }

def void (b : Nat) : Nat → Option Nat := fun x => if x = b then none else some x

/-- what an operation leaves -/
def St.apply (st : St) (dst : Option Tmp) (r : Res) : St :=
  match r.2.2 with
  | none => { st with t := putT st.t dst r.1, h := r.2.1 }
  | some b => let s := ({ st with h := r.2.1 } : St).renAll (void b)
    { s with t := putT s.t dst r.1 }

/-- calls of functions; none: of yield -/
abbrev CallH := Option FuncId → List AV → St → Tree (AV × St)
abbrev CallY := List AV → St → Tree (AV × St)
/-- calls of functions that are ranged over -/
abbrev RangeH := FuncId → CallY → List AV → St → Tree (AV × St)
def withY (y : CallY) (callH : CallH) : CallH
  | none => y
  | some f => callH (some f)

def evStep (E : Env) (callH : CallH) (o : Oper) (st : St) : Tree St :=
  match o.op with
  | .call { callee := .value x, args, argTypes := _ } => (match E.opd st.t x with
    | .fn f first caps => (callH (some f) (first ++ args.toList.map (E.opd st.t) ++ caps) st).bind fun r =>
        .leaf { r.2 with t := putT r.2.t o.dst r.1 }
    | .yld => (callH none (args.toList.map (E.opd st.t)) st).bind fun r =>
        .leaf { r.2 with t := putT r.2.t o.dst r.1 }
    | _ => .fail)
  | op => (evOp E st.h (E.opd st.t) op).bind fun r => .leaf (st.apply o.dst r)

def skipOp (o : Oper) (st : St) : St := { st with t := putT st.t o.dst .skip }

def isGuard (all : Array Oper) (k : Nat) : Bool := all.toList.any fun o => match o.guard with | some (j, _) => j == k | none => false

/-- the value of an operation on which others depend is made known at once -/
def litSt (all : Array Oper) (k : Nat) (o : Oper) (st : St) : Tree St :=
  if isGuard all k then (match o.dst with
    | some d => match st.t[d]? with
      | some (.bool b) => .br b (.leaf { st with t := st.t.set d (.blit true) }) (.leaf { st with t := st.t.set d (.blit false) })
      | _ => .leaf st
    | none => .leaf st)
  else .leaf st

/-- is the operation carried out? -/
def wantedA (all : Array Oper) (o : Oper) (t : List AV) : Option Bool :=
  match o.guard with
  | none => some true
  | some (j, want) => match (all[j]?).bind (·.dst) with
    | none => none
    | some d => match t[d]? with
      | some (.blit b) => some (decide (b = want))
      | some .skip => some false
      | _ => none

/-- operations in index order -/
def evOps (E : Env) (callH : CallH) (all : Array Oper) : Nat → List Oper → St → Tree St
  | _, [], st => .leaf st
  | k, o :: rest, st => match wantedA all o st.t with
    | some true => (evStep E callH o st).bind fun s => (litSt all k o s).bind (evOps E callH all (k + 1) rest)
    | some false => evOps E callH all (k + 1) rest (skipOp o st)
    | none => .fail

/-! ### Regions whose order is open -/
/-- operations that leave the blocks alone -/
def stillOp (E : Env) : Op → Bool
  | .move _ | .assign _ | .pick _ _ _ | .load _ _ | .build _ _ | .nilCheck _ | .binOp _ _ _ _ _ | .unOp _ _ _ | .convert _ _ _
  | .fieldAddr _ _ _ | .field _ _ _ | .indexAddr _ _ _ | .index _ _ _ | .extract _ _ => true
  | .slice t _ _ _ _ => match (E.ty t).d with | .str => true | _ => false
  | .makeFunc _ _ _ => true
  | .call { callee := .builtin .len, .. } => true
  | .call { callee := .builtin .max, .. } => true
  | .call { callee := .builtin .min, .. } => true
  | _ => false

abbrev CallS := FuncId → List AV → Tree AV

/-- operations that make one block more, and turn no other -/
def isGrow : Op → Bool
  | .alloc _ => true
  | .box _ _ => true
  | .buildSlice _ _ _ => true
  | _ => false
def noVec : AV → Bool
  | .vec _ => false
  | _ => true
def growBlk (h : List Blk) (k : Option Blk) : Tree (AV × Blk) := match k with
  | some k => .leaf (.ptr h.length 0, k)
  | none => .fail
def evGrow (E : Env) (h : List Blk) (ev : Operand → AV) (op : Op) : Tree (AV × Blk) :=
  match op with
  | .alloc t => growBlk h (allocBlk E t)
  | .box _ x => growBlk h (boxBlk (ev x))
  | .buildSlice t len parts => (match (E.ty t).d with
    | .slice e es =>
      if len * es ≤ 16777216 ∧ 0 < es ∧ (E.ty e).zero.length = es then
        (match fillL (fun i => some (i * es, es)) ((List.replicate len ((E.ty e).zero.map ofCell)).flatten) (parts.toList.map fun p => (p.1, ev p.2)), E.shape 16 e with
        | some cs, some sh => if sh.length = es ∧ cs.all noVec = true then (match chunk h sh len cs with
          | some l => .leaf (.vec h.length, .vec e sh l)
          | none => .fail) else .fail
        | _, _ => .fail)
      else .fail
    | _ => .fail)
  | _ => .fail

/-- the value of an operation that leaves the blocks alone -/
def evStill (E : Env) (callS : CallS) (h : List Blk) (ev : Operand → AV) (op : Op) : Tree AV :=
  match op with
  | .call { callee := .value x, args, argTypes := _ } => (match ev x with
    | .fn f first caps => callS f (first ++ args.toList.map ev ++ caps)
    | _ => .fail)
  | op => if stillOp E op then (evOp E h ev op).bind fun r => .leaf r.1 else .fail

def evStillOps (E : Env) (callS : CallS) (all : Array Oper) : Nat → List Oper → St → Tree St
  | _, [], st => .leaf st
  | k, o :: rest, st => match wantedA all o st.t with
    | some true => (evStill E callS st.h (E.opd st.t) o.op).bind fun v =>
        (litSt all k o { st with t := putT st.t o.dst v }).bind (evStillOps E callS all (k + 1) rest)
    | some false => evStillOps E callS all (k + 1) rest (skipOp o st)
    | none => .fail

/-- the operations that must have come up before each one (edges that bind), as bits -/
def ancOf (ops : List Oper) : List Nat :=
  ops.foldl (fun acc o => acc ++ [o.after.toList.foldl (fun s e => if Region.binds .any e then s ||| 2 ^ e.on ||| acc.getD e.on 0 else s) 0]) []

def looks (all : Array Oper) (o : Oper) : List Tmp :=
  (o.op.operands.toList.filterMap fun | .tmp t => some t | _ => none) ++
  (match o.guard with
   | some (g, _) => ((all[g]?).bind (·.dst)).toList
   | none => [])

/-- in whatever order the edges allow, each operation finds what it finds in index order -/
def drawB (all : Array Oper) : Bool :=
  let ops := all.toList
  let anc := ancOf ops
  let n := ops.length
  (List.range n).all fun i =>
    match ops[i]? with
    | none => false
    | some oi =>
      (oi.after.toList.all fun e => !Region.binds .any e || decide (e.on < i)) &&
      (List.range n).all fun j => j == i ||
        match ops[j]? with
        | none => false
        | some oj => match oj.dst with
          | none => true
          | some t => oi.dst != some t && (!(looks all oi).contains t || (anc.getD i 0).testBit j || (anc.getD j 0).testBit i)

/-- operations that do not look at the blocks -/
def blind : Op → Bool
  | .move _ | .assign _ | .extract _ _ => true
  | _ => false
/-- each other operation comes ahead of k, or does not look at the blocks -/
def lateOk (all : Array Oper) (k : Nat) : Bool :=
  (List.range all.toList.length).all fun j => j == k || ((ancOf all.toList).getD k 0).testBit j || match all[j]? with | some o => blind o.op | none => false
def isStore : Op → Bool
  | .store _ _ _ => true
  | _ => false
/-- one operation that turns the blocks: it makes one more, or it is a store that the others do not see -/
def evEff (E : Env) (all : Array Oper) (k : Nat) (h : List Blk) (ev : Operand → AV) (op : Op) : Tree (AV × List Blk) :=
  match isStore op with
  | true => (match lateOk all k with
    | true => (evOp E h ev op).bind fun r => (match r.2.2 with
      | none => .leaf (r.1, r.2.1)
      | some _ => .fail)
    | false => .fail)
  | false => (evGrow E h ev op).bind fun r => .leaf (r.1, h ++ [r.2])
def isEff (op : Op) : Bool := isStore op || isGrow op

/-- the same, where one operation may turn the blocks (the others do not see it) -/
def evStillOpsG (E : Env) (callS : CallS) (all : Array Oper) : Nat → List Oper → Option (List Blk) → St → Tree (St × Option (List Blk))
  | _, [], nb, st => .leaf (st, nb)
  | k, o :: rest, nb, st => match wantedA all o st.t with
    | some true => (match isEff o.op with
      | true => (match nb, o.guard with
        | none, none => (evEff E all k st.h (E.opd st.t) o.op).bind fun r => evStillOpsG E callS all (k + 1) rest (some r.2) { st with t := putT st.t o.dst r.1 }
        | _, _ => .fail)
      | false => (evStill E callS st.h (E.opd st.t) o.op).bind fun v =>
          (litSt all k o { st with t := putT st.t o.dst v }).bind (evStillOpsG E callS all (k + 1) rest nb))
    | some false => evStillOpsG E callS all (k + 1) rest nb (skipOp o st)
    | none => .fail

/-- from where on each operation waits for all ahead of it -/
def sufAt (all : Array Oper) : Nat :=
  let ops := all.toList
  let anc := ancOf ops
  ((List.range ops.length).find? fun m => (List.range ops.length).all fun j => decide (j < m) || (List.range j).all fun i => (anc.getD j 0).testBit i).getD ops.length

def evDraw (E : Env) (callH : CallH) (callS : CallS) (all : Array Oper) (st : St) : Tree St :=
  if drawB all = false then .fail else
  (evStillOpsG E callS all 0 (all.toList.take (sufAt all)) none st).bind fun r =>
    evOps E callH all (sufAt all) (all.toList.drop (sufAt all)) { r.1 with h := r.2.getD r.1.h }

/-- sequences and loops, numbered in pre-order -/
def nLoops : Code → Nat
  | .seq a b => 1 + nLoops a + nLoops b
  | .cond _ a b => nLoops a + nLoops b
  | .block _ c => nLoops c
  | .scope c => nLoops c
  | .loop c => 1 + nLoops c
  | .rangeFunc _ _ a b => 1 + nLoops a + nLoops b
  | _ => 0

def findNode (l : List ((Nat × Nat) × (St → Tree (Ex × St)))) (f k : Nat) : Option (St → Tree (Ex × St)) :=
  match l with
  | [] => none
  | x :: l => if Nat.beq x.1.1 f && Nat.beq x.1.2 k then some x.2 else findNode l f k

def findIter (l : List (FuncId × FuncId × Nat)) (g : Nat) : Option (FuncId × Nat) :=
  match l with
  | [] => none
  | x :: l => if Nat.beq x.1 g then some x.2 else findIter l g
def iterAt (l : List (FuncId × FuncId × Nat)) (g f k : Nat) : Bool := match findIter l g with
  | some y => Nat.beq y.1 f && Nat.beq y.2 k
  | none => false
def noIter (l : List (FuncId × FuncId × Nat)) (f : Nat) : Bool := match findIter l f with
  | some _ => false
  | none => true

def setAll (t : List AV) : List Tmp → List AV → List AV
  | d :: ds, v :: vs => setAll (t.set d v) ds vs
  | _, _ => t

/-- a round of a range over a function: assignments and body in the frame of the statement -/
def yieldT (evA evB : St → Tree (Ex × St)) (ps : List Tmp) : CallY := fun args st =>
  match st.pend, st.fs with
  | none, ct :: fs => (match Nat.beq args.length ps.length with
    | true => (evA { t := setAll ct ps args, fs := st.t :: ct :: fs, h := st.h, pend := none }).bind fun r => (match r.1 with
      | .normal => (evB r.2).bind fun q => (match q.2.fs with
        | it :: fs' => (match q.1 with
          | .normal => .leaf (.blit true, { t := it, fs := fs', h := q.2.h, pend := none })
          | .ret => .leaf (.blit false, { t := it, fs := fs', h := q.2.h, pend := some .ret })
          | .exit i => .leaf (.blit false, { t := it, fs := fs', h := q.2.h, pend := some (.exit i) }))
        | [] => .fail)
      | _ => .fail)
    | false => .fail)
  | _, _ => .fail

/-- the activation of a function that is under proof itself, with no yield at hand -/
def topSt (st : St) : Bool := match st.fs, st.pend with
  | [[]], none => AV.noYL st.t && st.h.all Blk.noY
  | _, _ => false

/-- behind a range over a function -/
def afterT (r : AV × St) : Tree (Ex × St) := match topSt { r.2 with pend := none } with
  | true => (match r.2.pend with
    | none => .leaf (.normal, { r.2 with pend := none })
    | some .ret => .leaf (.ret, { r.2 with pend := none })
    | some (.exit i) => .leaf (.exit i, { r.2 with pend := none })
    | some .normal => .fail)
  | false => .fail

def evCode (E : Env) (callH : CallH) (callS : List Blk → CallS) (rangeH : RangeH) (f : FuncId) : Code → Nat → St → Tree (Ex × St)
  | .skip, _, st => .leaf (.normal, st)
  | .label _, _, st => .leaf (.normal, st)
  | .region _ ops draw, _, st => ((match draw with
      | true => evDraw E callH (callS st.h) ops st
      | false => evOps E callH ops 0 ops.toList st) : Tree St).bind fun s => .leaf (.normal, s)
  | .seq a b, k, st => match findNode E.loops f k with
    | some L => L st
    | none => (evCode E callH callS rangeH f a (k + 1) st).bind fun r => match r.1 with
      | .normal => evCode E callH callS rangeH f b (k + 1 + nLoops a) r.2
      | e => .leaf (e, r.2)
  | .cond c a b, k, st => match E.opd st.t c with
    | .blit true => evCode E callH callS rangeH f a k st
    | .blit false => evCode E callH callS rangeH f b (k + nLoops a) st
    | .bool x => match c with
      | .tmp d => .br x (evCode E callH callS rangeH f a k { st with t := st.t.set d (.blit true) }) (evCode E callH callS rangeH f b (k + nLoops a) { st with t := st.t.set d (.blit false) })
      | _ => .fail
    | _ => .fail
  | .block id c, k, st => (evCode E callH callS rangeH f c k st).bind fun r => match r.1 with
    | .exit i => if i = id then .leaf (.normal, r.2) else .leaf (.exit i, r.2)
    | e => .leaf (e, r.2)
  | .loop _, k, st => match findNode E.loops f k with
    | some L => L st
    | none => .fail
  | .exit id, _, st => .leaf (.exit id, st)
  | .ret, _, st => .leaf (.ret, st)
  | .rangeFunc x ps a b, k, st => (match E.opd st.t x with
    | .fn g first caps => (match iterAt E.iter g f k && noIter E.iter f && topSt st with
      | true => (rangeH g (yieldT (evCode E callH callS rangeH f a (k + 1)) (evCode E callH callS rangeH f b (k + 1 + nLoops a)) ps.toList) (first ++ [.yld] ++ caps) st).bind afterT
      | false => .fail)
    | _ => .fail)
  | _, _, _ => .fail

/-! ### Calls -/
def dedup : List Nat → List Nat
  | [] => []
  | a :: l => if (dedup l).contains a then dedup l else a :: dedup l

def idxOf (l : List Nat) (b : Nat) : Option Nat := let i := l.findIdx (· == b); if i < l.length then some i else none

mutual
/-- own slices (which are frozen) as lists -/
def AV.lend (h : List Blk) : AV → AV
  | .vec b => match h[b]? with | some (.frz _ sh l) => .imm sh l | _ => .undef
  | .agg cs => .agg (AV.lendL h cs)
  | .tuple cs => .tuple (AV.lendL h cs)
  | v => v
def AV.lendL (h : List Blk) : List AV → List AV
  | [] => []
  | a :: l => a.lend h :: AV.lendL h l
end

def vecsOf : AV → List Nat
  | .vec b => [b]
  | .agg cs => cs.filterMap fun | .vec b => some b | _ => none
  | _ => []

def Blk.plain : Blk → Bool
  | .cells cs => (AV.menL cs).isEmpty
  | .big cs _ _ _ => (AV.menL cs).isEmpty
  | _ => false
/-- the blocks that pointers among the arguments lead to: plain cells without references -/
def takeBlks (h : List Blk) : List Nat → Option (List Blk)
  | [] => some []
  | b :: l => match h[b]?, takeBlks h l with
    | some k, some r => if k.plain = true then some (k :: r) else none
    | _, _ => none

/-- back from a call: the blocks handed over, as they are now -/
def putBlks (h : List Blk) : List Nat → List Blk → Option (List Blk)
  | [], _ => some h
  | b :: l, k :: r => if k.plain = true then (putBlks h l r).map fun h' => h'.set b k else none
  | _ :: _, [] => none

def backOf (fp : List Nat) (n : Nat) : Nat → Option Nat := fun k => if k < fp.length then fp[k]? else some (n + (k - fp.length))

abbrev Contract := List AV → List Blk → Tree (AV × List Blk)

def freezeL (h : List Blk) : List Nat → List Blk
  | [] => h
  | b :: l => freezeL (freeze1 h b) l

/-- own slices in the cells that are handed over become lists, too -/
def lendAt (h : List Blk) : List Nat → List Blk
  | [] => h
  | b :: l => match h[b]? with
    | some (.cells cs) => lendAt (h.set b (.cells (AV.lendL h cs))) l
    | _ => lendAt h l
def cellVecs (h : List Blk) : List Nat → List Nat
  | [] => []
  | b :: l => match h[b]? with
    | some (.cells cs) => cs.flatMap vecsOf ++ cellVecs h l
    | _ => cellVecs h l
def prepCall (h : List Blk) (args : List AV) : List Blk :=
  let h1 := freezeL h (args.flatMap vecsOf)
  let fp := AV.menL (AV.lendL h1 args)
  lendAt (freezeL h1 (cellVecs h1 fp)) fp

def callSpec (G : Contract) (args : List AV) (st : St) : Tree (AV × St) :=
  let h1 := prepCall st.h args
  let args1 := AV.lendL h1 args
  let fp := dedup (AV.menL args1)
  match takeBlks h1 fp with
  | none => .fail
  | some hin => (G (AV.renL (idxOf fp) args1) hin).bind fun r =>
      match putBlks h1 fp r.2 with
      | none => .fail
      | some h2 => .leaf (r.1.ren (backOf fp h1.length), { st with h := h2 ++ (r.2.drop fp.length).map (Blk.ren (backOf fp h1.length)) })

def isFrz (h : List Blk) (b : Nat) : Bool := match h[b]? with | some (.frz _ _ _) => true | _ => false

/-- a call of a function that takes no references and makes no own blocks -/
def callStill (E : Env) (h : List Blk) : CallS := fun f args =>
  match E.spec.find? fun x => x.1 == f with
  | none => .fail
  | some G => if (args.flatMap vecsOf).all (isFrz h) ∧ (AV.menL (AV.lendL h args)).isEmpty then
      (G.2 (AV.lendL h args) []).bind fun r => match r.2 with | [] => if (r.1.men).isEmpty then .leaf r.1 else .fail | _ => .fail
    else .fail

def resOf (E : Env) (h : List Blk) (t : List AV) : List ResultVar → Option (List AV)
  | [] => some []
  | .tmp i :: l => match resOf E h t l with | some r => some (t.getD i .undef :: r) | none => none
  | .cell a ty :: l => match (evLoad E h ty (t.getD a .undef)), resOf E h t l with
    | .leaf (v, _, _), some r => some (v :: r)
    | _, _ => none

def oneOf : List AV → AV
  | [v] => v
  | l => .tuple l

/-- the end of a function's body -/
def evEnd (E : Env) (fn : Func) (r : Ex × St) : Tree (AV × St) :=
  match r.1 with
  | .exit _ => .fail
  | _ => match resOf E r.2.h r.2.t fn.results.toList, r.2.fs with
    | some vs, caller :: fs => .leaf (oneOf vs, { t := caller, fs := fs, h := r.2.h, pend := r.2.pend })
    | _, _ => .fail

def initT (fn : Func) (args : List AV) : List AV := args ++ List.replicate (fn.ntmps - args.length) .skip

def evBody (E : Env) (callH : CallH) (rangeH : RangeH) (f : FuncId) (fn : Func) (args : List AV) (st : St) : Tree (AV × St) :=
  match fn.body with
  | none => .fail
  | some c => (evCode E callH (callStill E) rangeH f c 0 { t := initT fn args, fs := st.t :: st.fs, h := st.h, pend := st.pend }).bind (evEnd E fn)

def noRange : RangeH := fun _ _ _ _ => .fail
def evRange (E : Env) (callH : CallH) : RangeH := fun g y args st => match E.body.find? fun x => x.1 == g with
  | some fn => evBody E (withY y callH) noRange g fn.2 args st
  | none => .fail

def evCall (E : Env) : Nat → CallH
  | 0 => fun _ _ _ => .fail
  | n + 1 => fun o args st => match o with
    | none => .fail
    | some f => match E.spec.find? fun x => x.1 == f with
      | some G => callSpec G.2 args st
      | none => match E.body.find? fun x => x.1 == f with
        | some fn => (match noIter E.iter f with
          | true => (evBody E (evCall E n) (evRange E (evCall E n)) f fn.2 args st).bind fun r => .leaf (r.1, { t := r.2.t, fs := r.2.fs, h := r.2.h, pend := st.pend })
          | false => .fail)
        | none => .fail

/-- the contract that a function's own text yields -/
def evFunc (E : Env) (n : Nat) (f : FuncId) (fn : Func) : Contract := fun args h => match noIter E.iter f with
  | true => (evBody E (evCall E n) (evRange E (evCall E n)) f fn args { t := [], fs := [], h := h, pend := none }).bind fun r => .leaf (r.1, r.2.h)
  | false => .fail

end Go.Eng
