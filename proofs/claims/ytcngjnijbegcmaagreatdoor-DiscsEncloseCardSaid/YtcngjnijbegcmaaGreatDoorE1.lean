/- Texts of the proof, merged: what the code computes, and plain laws. No statement stands here. -/
import Derived.Calls
import Derived.Orders
import Derived.Laws.AppendOwn
import Derived.Laws.Entries
import Derived.Laws.Cells
import Derived.Laws.Slices
import Derived.Laws.Build
import Derived.Laws.StructEq
import Derived.Laws.Rows
import Derived.Laws.CopyRow
import Derived.ChangeKeysEq
import Derived.Laws.MakeOwn
import Derived.Laws.BytesString
import Derived.Laws.IdiomStrings
import Derived.OrdersIn
import Derived.TacticsIn
import Derived.Tactics
import Derived.RangeFuncIn
import Derived.RangeFuncLeaves
namespace Go.Eng
theorem qLq:type_of%@Option.some.injEq:=@Option.some.injEq
theorem qLr:type_of%@List.getD_eq_getElem?_getD:=@List.getD_eq_getElem?_getD
theorem qLs:type_of%@Nat.le_refl:=@Nat.le_refl
theorem qLt:type_of%@List.getElem?_set_ne:=@List.getElem?_set_ne
theorem qLu:type_of%@Nat.le_trans:=@Nat.le_trans
theorem qLv:type_of%@Sem.run_bind:=@Sem.run_bind
theorem qLw:type_of%@Array.getElem?_eq_some_iff:=@Array.getElem?_eq_some_iff
theorem qLx:type_of%@List.mem_cons:=@List.mem_cons
theorem qLy:type_of%@Nat.lt_or_ge:=@Nat.lt_or_ge
theorem qLz:type_of%@List.getElem?_eq_getElem:=@List.getElem?_eq_getElem
theorem qLA:type_of%@Result.andThen_ok:=@Result.andThen_ok
theorem qLB:type_of%@List.getElem?_append_left:=@List.getElem?_append_left
theorem qLC:type_of%@List.getElem?_map:=@List.getElem?_map
theorem qLD:type_of%@Int.toNat_natCast:=@Int.toNat_natCast
theorem qLE:type_of%@List.mem_cons_self:=@List.mem_cons_self
theorem qLF:type_of%@List.length_map:=@List.length_map
theorem qLG:type_of%@Int.le_refl:=@Int.le_refl
theorem qLH:type_of%@Nat.add_mul:=@Nat.add_mul
theorem qLI:type_of%@List.set_cons_zero:=@List.set_cons_zero
theorem qLJ:type_of%@Rat.mul_nonneg:=@Rat.mul_nonneg
theorem qLK:type_of%@Rat.intCast_mul:=@Rat.intCast_mul
theorem qLL:type_of%@List.getElem?_set_self:=@List.getElem?_set_self
theorem qLM:type_of%@List.set_cons_succ:=@List.set_cons_succ
theorem qLN:type_of%@Bool.and_eq_true:=@Bool.and_eq_true
theorem qLO:type_of%@List.mem_cons_of_mem:=@List.mem_cons_of_mem
theorem qLP:type_of%@List.getElem?_append_right:=@List.getElem?_append_right
theorem qLQ:type_of%@Bool.false_eq_true:=@Bool.false_eq_true
theorem qLR:type_of%@List.length_append:=@List.length_append
theorem qLS:type_of%@List.getElem?_eq_none:=@List.getElem?_eq_none
theorem qLT:type_of%@Nat.mul_le_mul_right:=@Nat.mul_le_mul_right
theorem qLU:type_of%@Rat.mul_pos:=@Rat.mul_pos
theorem qLV:type_of%@List.mem_append:=@List.mem_append
theorem qLW:type_of%@Option.bind_some:=@Option.bind_some
theorem qLX:type_of%@Ne.symm:=@Ne.symm
theorem qLY:type_of%@List.mem_singleton:=@List.mem_singleton
theorem qLZ:type_of%@List.all_eq_true:=@List.all_eq_true
theorem qM0:type_of%@List.map_append:=@List.map_append
theorem qM1:type_of%@Sem.run_pure:=@Sem.run_pure
theorem qM2:type_of%@Prod.mk.injEq:=@Prod.mk.injEq
theorem qM3:type_of%@Int.one_mul:=@Int.one_mul
theorem qM4:type_of%@List.append_assoc:=@List.append_assoc
theorem qM5:type_of%@List.length_cons:=@List.length_cons
theorem qM6:type_of%@Option.map_some:=@Option.map_some
theorem qM7:type_of%@Classical.byContradiction:=@Classical.byContradiction
theorem qM8:type_of%@Nat.add_zero:=@Nat.add_zero
theorem qM9:type_of%@Rat.intCast_sub:=@Rat.intCast_sub
theorem qMa:type_of%@List.length_range:=@List.length_range
theorem qMb:type_of%@Nat.sub_self:=@Nat.sub_self
theorem qMc:type_of%@Nat.lt_of_lt_of_le:=@Nat.lt_of_lt_of_le
theorem qMd:type_of%@Option.some.inj:=@Option.some.inj
theorem qMe:type_of%@Nat.zero_add:=@Nat.zero_add
theorem qMf:type_of%@List.mem_append_right:=@List.mem_append_right
theorem qMg:type_of%@List.getElem_mem:=@List.getElem_mem
theorem qMh:type_of%@Addr.add_lit:=@Addr.add_lit
theorem qMi:type_of%@List.mem_map:=@List.mem_map
theorem qMj:type_of%@Int.natCast_mul:=@Int.natCast_mul
theorem qMk:type_of%@Nat.mul_le_mul:=@Nat.mul_le_mul
theorem qMl:type_of%@Rat.intCast_add:=@Rat.intCast_add
theorem qMm:type_of%@List.mem_of_find?_eq_some:=@List.mem_of_find?_eq_some
theorem qMn:type_of%@List.map_cons:=@List.map_cons
theorem qMo:type_of%@List.ext_getElem?:=@List.ext_getElem?
theorem qMp:type_of%@List.getElem?_range:=@List.getElem?_range
theorem qMq:type_of%@List.mem_append_left:=@List.mem_append_left
theorem qMr:type_of%@List.cons_append:=@List.cons_append
theorem qMs:type_of%@Nat.eq_of_beq_eq_true:=@Nat.eq_of_beq_eq_true
theorem qMt:type_of%@List.getElem?_cons_succ:=@List.getElem?_cons_succ
theorem qMu:type_of%@World.cell?_of_block:=@World.cell?_of_block
theorem qMv:type_of%@Option.getD_some:=@Option.getD_some
theorem qMw:type_of%@List.length_take:=@List.length_take
theorem qMx:type_of%@List.getElem?_take:=@List.getElem?_take
theorem qMy:type_of%@List.getElem?_drop:=@List.getElem?_drop
theorem qMz:type_of%@Nat.eq_zero_or_pos:=@Nat.eq_zero_or_pos
theorem qMA:type_of%@List.length_nil:=@List.length_nil
theorem qMB:type_of%@Int.mul_comm:=@Int.mul_comm
theorem qMC:type_of%@List.append_nil:=@List.append_nil
theorem qMD:type_of%@List.nil_append:=@List.nil_append
theorem qME:type_of%@World.block_lt_of_cell?:=@World.block_lt_of_cell?
theorem qMF:type_of%@Rat.le_refl:=@Rat.le_refl
theorem qMG:type_of%@Int.natAbs_mul:=@Int.natAbs_mul
theorem qMH:type_of%@Int.mul_zero:=@Int.mul_zero
theorem qMI:type_of%@Nat.min_eq_left:=@Nat.min_eq_left
theorem qMJ:type_of%@List.mem_of_getElem?:=@List.mem_of_getElem?
theorem qMK:type_of%@List.mem_range:=@List.mem_range
theorem qML:type_of%@List.take_length:=@List.take_length
theorem qMM:type_of%@List.find?_some:=@List.find?_some
theorem qMN:type_of%@Array.ext':=@Array.ext'
theorem qMO:type_of%@List.getElem?_cons_zero:=@List.getElem?_cons_zero
theorem qMP:type_of%@Nat.mod_lt:=@Nat.mod_lt
theorem qMQ:type_of%@List.length_pos_iff:=@List.length_pos_iff
theorem qMR:type_of%@Array.getD_eq_getD_getElem?:=@Array.getD_eq_getD_getElem?
theorem qMS:type_of%@List.length_set:=@List.length_set
theorem qMT:type_of%@Rat.mul_eq_zero:=@Rat.mul_eq_zero
theorem qMU:type_of%@List.replicate_succ:=@List.replicate_succ
theorem qMV:type_of%@List.map_congr_left:=@List.map_congr_left
theorem qMW:type_of%@Bool.or_eq_true:=@Bool.or_eq_true
theorem qMX:type_of%@List.cons.injEq:=@List.cons.injEq
theorem qMY:type_of%@Nat.zero_le:=@Nat.zero_le
theorem qMZ:type_of%@Option.bind_eq_some_iff:=@Option.bind_eq_some_iff
theorem qN0:type_of%@Nat.pow_succ:=@Nat.pow_succ
theorem qN1:type_of%@Nat.pow_le_pow_right:=@Nat.pow_le_pow_right
theorem qN2:type_of%@Nat.gcd_comm:=@Nat.gcd_comm
theorem qN3:type_of%@Int.lt_trichotomy:=@Int.lt_trichotomy
theorem qN4:type_of%@Nat.eq_or_lt_of_le:=@Nat.eq_or_lt_of_le
theorem qN5:type_of%@List.range_succ:=@List.range_succ
theorem qN6:type_of%@UInt8.toNat_inj:=@UInt8.toNat_inj
theorem qN7:type_of%@Int.neg_mul_neg:=@Int.neg_mul_neg
theorem qN8:type_of%@Nat.add_assoc:=@Nat.add_assoc
theorem qN9:type_of%@Bool.not_eq_true':=@Bool.not_eq_true'
theorem qNa:type_of%@Nat.one_mul:=@Nat.one_mul
theorem qNb:type_of%@List.getElem?_eq_some_iff:=@List.getElem?_eq_some_iff
theorem qNc:type_of%@Nat.mul_one:=@Nat.mul_one
theorem qNd:type_of%@List.eq_nil_of_length_eq_zero:=@List.eq_nil_of_length_eq_zero
theorem qNe:type_of%@List.drop_eq_nil_of_le:=@List.drop_eq_nil_of_le
theorem qNf:type_of%@Array.getElem?_eq_getElem:=@Array.getElem?_eq_getElem
theorem qNg:type_of%@Option.map_eq_some_iff:=@Option.map_eq_some_iff
theorem qNh:type_of%@Int.mul_nonneg:=@Int.mul_nonneg
theorem qNi:type_of%@Nat.div_le_self:=@Nat.div_le_self
theorem qNj:type_of%@Int.mul_ediv_cancel:=@Int.mul_ediv_cancel
theorem qNk:type_of%@Nat.lt_succ_self:=@Nat.lt_succ_self
theorem qNl:type_of%@List.foldl_cons:=@List.foldl_cons
theorem qNm:type_of%@Int.toNat_of_nonneg:=@Int.toNat_of_nonneg
theorem qNn:type_of%@Nat.lt_of_le_of_lt:=@Nat.lt_of_le_of_lt
theorem qNo:type_of%@List.getD_cons_zero:=@List.getD_cons_zero
theorem qNp:type_of%@Classical.not_imp:=@Classical.not_imp
theorem qNq:type_of%@Int.natCast_add:=@Int.natCast_add
theorem qNr:type_of%@Int.natAbs_ediv_le_natAbs:=@Int.natAbs_ediv_le_natAbs
theorem qNs:type_of%@Int.mul_le_mul_of_nonneg_right:=@Int.mul_le_mul_of_nonneg_right
theorem qNt:type_of%@List.not_mem_nil:=@List.not_mem_nil
theorem qNu:type_of%@List.length_drop:=@List.length_drop
theorem qNv:type_of%@List.all_cons:=@List.all_cons
theorem qNw:type_of%@Nat.not_lt_zero:=@Nat.not_lt_zero
theorem qNx:type_of%@Nat.div_add_mod:=@Nat.div_add_mod
theorem qNy:type_of%@List.take_append_drop:=@List.take_append_drop
theorem qNz:type_of%@Array.toList_append:=@Array.toList_append
theorem qNA:type_of%@List.mem_flatMap:=@List.mem_flatMap
theorem qNB:type_of%@Rat.mul_inv_cancel:=@Rat.mul_inv_cancel
theorem qNC:type_of%@Array.getElem?_toList:=@Array.getElem?_toList
theorem qND:type_of%@List.mem_of_mem_take:=@List.mem_of_mem_take
theorem qNE:type_of%@List.mem_of_mem_drop:=@List.mem_of_mem_drop
theorem qNF:type_of%@List.flatten_cons:=@List.flatten_cons
theorem qNG:type_of%@List.mem_replicate:=@List.mem_replicate
theorem qNH:type_of%@List.take_of_length_le:=@List.take_of_length_le
theorem qNI:type_of%@List.getElem?_of_mem:=@List.getElem?_of_mem
theorem qNJ:type_of%@Option.isSome_some:=@Option.isSome_some
theorem qNK:type_of%@Nat.add_sub_cancel:=@Nat.add_sub_cancel
theorem qNL:type_of%@List.mem_or_eq_of_mem_set:=@List.mem_or_eq_of_mem_set
theorem qNM:type_of%@Classical.not_forall:=@Classical.not_forall
theorem qNN:type_of%@Int.natAbs_sign_of_ne_zero:=@Int.natAbs_sign_of_ne_zero
theorem qNO:type_of%@Int.mul_neg_of_neg_of_pos:=@Int.mul_neg_of_neg_of_pos
theorem qNP:type_of%@Int.mul_le_mul_of_nonneg_left:=@Int.mul_le_mul_of_nonneg_left
abbrev qLp:=List UInt8
inductive Sh where
 | int (k:IntKind)|bool|str|sl (row:List Sh)
inductive U where
 | i (n:Int)|b (x:Bool)|s (l:List UInt8)|l (rows:List (List U))
abbrev R:=List (List U)
def U.toI:U->Int|.i n=>n|_=>0
def U.toB:U->Bool|.b x=>x|_=>false
def U.toS:U->List UInt8|.s x=>x|_=>[]
def U.toR:U->R|.l x=>x|_=>[]
def wD(l:R)(i:Int)(j:Nat):U:=(l.getD i.toNat []).getD j (.i 0)
def cI(l:R)(i:Int)(j:Nat):Int:=(wD l i j).toI
def cB(l:R)(i:Int)(j:Nat):Bool:=(wD l i j).toB
def cS(l:R)(i:Int)(j:Nat):List UInt8:=(wD l i j).toS
def cR(l:R)(i:Int)(j:Nat):R:=(wD l i j).toR
def qm(l:R):Int:=(l.length:Int)
def kN(l m:R):R:=l++m
def qwk(row:List U)(off:Nat)(us:List U):List U:=(List.range (max row.length (off+us.length))).map fun j=>if off<=j/\j<off+us.length then us.getD (j-off) (.i 0) else row.getD j (.i 0)
def qgZ(l:R)(i:Int)(off:Nat)(us:List U):R:=l.set i.toNat (qwk (l.getD i.toNat []) off us)
def qy6(l:R)(lo hi:Int):R:=(l.take hi.toNat).drop lo.toNat
def qw(s:List UInt8):Int:=(s.length:Int)
def sat(s:List UInt8)(i:Int):Int:=((s.getD i.toNat 0).toNat:Int)
def qcE(s:List UInt8)(lo hi:Int):List UInt8:=(s.take hi.toNat).drop lo.toNat
def qeI(s t:List UInt8):List UInt8:=s++t
def seq(s t:List UInt8):Bool:=s==t
def slt(s t:List UInt8):Bool:=Op.bytesLess s t
def qC(k:IntKind)(x y:Int):Int:=k.wrap (x+y)
def yF(k:IntKind)(x y:Int):Int:=k.wrap (x-y)
def vd(k:IntKind)(x y:Int):Int:=k.wrap (x*y)
def qcK(k:IntKind)(x y:Int):Int:=k.wrap (x.tdiv y)
def qb4(x y:Int):Int:=x.tmod y
def q2J(k:IntKind)(x:Int):Int:=k.wrap x
def ieq(x y:Int):Bool:=x==y
def ine(x y:Int):Bool:=x != y
def ilt(x y:Int):Bool:=decide (x<y)
def ile(x y:Int):Bool:=decide (x<=y)
def qvr(x y:Int):Int:=if y>x then y else x
def qkU(x y:Int):Int:=if y<x then y else x
def inb(i n:Int):Bool:=decide (0<=i)&&decide (i<n)
def q7e(i n:Int):Bool:=decide (0<=i)&&decide (i<=n)
def beq(x y:Bool):Bool:=x==y
def qBJ(l:List Int)(i:Int):Int:=l.getD i.toNat 0
def qxG(x y:Bool):Bool:=x&&y
inductive Ex where
 | normal|exit (id:Nat)|ret
inductive AV where
 | undef|skip|yld
 | blit (b:Bool)|bool (b:Bool)
 | ilit (k:IntKind) (n:Int)|int (k:IntKind) (n:Int)
 | str (s:List UInt8)
 | nilp|ptr (b off:Nat)
 | eptr (sh:List Sh) (l:R) (i:Int) (off:Nat)
 | mptr (c:Bool) (sh:List Sh) (l:R) (i:Int) (off:Nat)
 | vptr (b:Nat) (i:Int) (off:Nat)
 | vsub (b:Nat) (i:Int)
 | aptr (b o:Nat) (i:Int)
 | asub (b o n:Nat) (i m:Int)
 | nils|imm (sh:List Sh) (l:R)|full (sh:List Sh) (l:R)|vec (b:Nat)
 | nilf|fn (f:FuncId) (first caps:List AV)
 | agg (cs:List AV)|tuple (vs:List AV)
 | bagg (cs:List AV) (k:IntKind) (n:Nat) (l:R)
inductive Blk where
 | cells (cs:List AV)|big (cs:List AV) (k:IntKind) (n:Nat) (l:R)|vec (e:TypeId) (sh:List Sh) (l:R)|frz (e:TypeId) (sh:List Sh) (l:R)|dead
structure St where
 t:List AV
 fs:List (List AV)
 h:List Blk
 pend:Option Ex:=none
inductive Tree (α:Type) where
 | leaf (a:α)|br (b:Bool) (t e:Tree α)|fail
def Tree.bind{α β:Type}:Tree α->(α->Tree β)->Tree β
 | .leaf a,f=>f a
 | .br b t e,f=>.br b (t.bind f) (e.bind f)
 | .fail,_=>.fail
def Tree.run{α:Type}:Tree α->Option α
 | .leaf a=>some a
 | .br b t e=>match b with|true=>t.run|false=>e.run
 | .fail=>none
def Tree.holds{α:Type}:Tree α->(α->Prop)->Prop
 | .leaf a,Q=>Q a
 | .br b t e,Q=>(b=true->t.holds Q)/\(b=false->e.holds Q)
 | .fail,_=>False
inductive TD where
 | none|bool|int (k:IntKind)|str|slice (e:TypeId) (es:Nat)|array (n:Nat) (e:TypeId) (es:Nat)
 | struct (fs:List (Nat×TypeId×Nat))|ptr (e:TypeId)|func
structure TI where
 d:TD
 size:Nat
 zero:List Value
 bytes:Nat
 eqok:Bool
 fok:Bool
def qEO(P:Program):TypeDesc->TD
 | .bool=>.bool
 | .int k=>.int k
 | .string=>.str
 | .slice e=>.slice e (P.cellsOf e)
 | .array n e=>.array n e (P.cellsOf e)
 | .struct fs=>.struct (fs.toList.map fun f=>(f.offset,f.type,P.cellsOf f.type))
 | .pointer e=>.ptr e
 | .func _ _ _=>.func
 | _=>.none
def qw1(P:Program)(t:TypeId):TI :=
  match P.info? t with
  | some i => { d := match P.underlying t with | some d => qEO P d | none => .none, size := i.size, zero := match i.zero with | some v => v.cells.toList | none => [], bytes := i.bytes,
                eqok:=match P.underlying t with|some (.struct fs)=>!P.stoodInHeld t&&!P.eqGuardType P.depth t&&fs.toList.all (fun f=>f.name != "_")|_=>false,
                fok:=match P.underlying t with|some (.struct fs)=>fs.toList.all (fun f=>(P.info? f.type).isSome)|_=>false }
  | none=>{ d:=.none,size:=0,zero:=[],bytes:=0,eqok:=false,fok:=false }
structure Env where
 tt:List (TypeId×TI)
 glob:List (Nat×AV)
 spec:List (FuncId×(List AV->List Blk->Tree (AV×List Blk)))
 body:List (FuncId×Func)
 loops:List ((FuncId×Nat)×(St->Tree (Ex×St)))
 nimp:Nat
 iter:List (FuncId×FuncId×Nat):=[]
 raws:List FuncId:=[]
 dels:List (FuncId×TypeId):=[]
def qKp:TI:={ d:=.none,size:=0,zero:=[],bytes:=0,eqok:=false,fok:=false }
def Env.ty(E:Env)(t:TypeId):TI:=((E.tt.find? fun x=>x.1==t).map (·.2)).getD qKp
def TD.known:TD->Bool
 | .none=>false
 | _=>true
def TD.isAgg:TD->Bool
 | .struct _|.array _ _ _=>true
 | _=>false
def Env.shape(E:Env):Nat->TypeId->Option (List Sh)
 | 0,_=>none
 | n+1,t=>match (E.ty t).d with
  | .bool=>some [.bool]
  | .int k=>some [.int k]
  | .str=>some [.str]
  | .slice e _=>(E.shape n e).map fun r=>[.sl r]
  | .array m e _=>(E.shape n e).map fun r=>(List.replicate m r).flatten
  | .struct fs=>(fs.mapM fun f=>E.shape n f.2.1).map List.flatten
  | _=>none
mutual
def Sh.beq:Sh->Sh->Bool
 | .int k,.int k'=>decide (k=k')
 | .bool,.bool=>true
 | .str,.str=>true
 | .sl r,.sl r'=>Sh.beqL r r'
 | _,_=>false
def Sh.beqL:List Sh->List Sh->Bool
 | [],[]=>true
 | a::l,b::m=>a.beq b&&Sh.beqL l m
 | _,_=>false
end
def jI:Value->AV
 | .bool b=>.blit b
 | .int k n=>.ilit k n
 | .string s=>.str s.data.toList
 | .pointer none=>.nilp
 | .slice none 0 0=>.nils
 | .nilFunc=>.nilf
 | _=>.undef
def ofV:Value->AV
 | .agg cs=>.agg (cs.toList.map jI)
 | v=>jI v
def AV.cells:AV->List AV
 | .agg cs=>cs
 | v=>[v]
def AV.isCell:AV->Bool
 | .undef|.skip|.agg _|.tuple _|.bagg _ _ _ _=>false
 | _=>true
mutual
def AV.ren(f:Nat->Option Nat):AV->AV
 | .ptr b off=>match f b with|some b'=>.ptr b' off|none=>.undef
 | .vptr b i off=>match f b with|some b'=>.vptr b' i off|none=>.undef
 | .vec b=>match f b with|some b'=>.vec b'|none=>.undef
 | .vsub b i=>match f b with|some b'=>.vsub b' i|none=>.undef
 | .aptr b o i=>match f b with|some b'=>.aptr b' o i|none=>.undef
 | .asub b o n i m=>match f b with|some b'=>.asub b' o n i m|none=>.undef
 | .bagg cs k n l=>.bagg (AV.renL f cs) k n l
 | .fn g first caps=>.fn g (AV.renL f first) (AV.renL f caps)
 | .agg cs=>.agg (AV.renL f cs)
 | .tuple vs=>.tuple (AV.renL f vs)
 | v=>v
def AV.renL(f:Nat->Option Nat):List AV->List AV
 | []=>[]
 | a::l=>a.ren f::AV.renL f l
end
mutual
def AV.noY:AV->Bool
 | .yld=>false
 | .fn _ first caps=>AV.noYL first&&AV.noYL caps
 | .agg cs=>AV.noYL cs
 | .bagg cs _ _ _=>AV.noYL cs
 | .tuple vs=>AV.noYL vs
 | _=>true
def AV.noYL:List AV->Bool
 | []=>true
 | a::l=>a.noY&&AV.noYL l
end
def Blk.noY:Blk->Bool
 | .cells cs=>AV.noYL cs
 | .big cs _ _ _=>AV.noYL cs
 | _=>true
def Blk.ren(f:Nat->Option Nat):Blk->Blk
 | .cells cs=>.cells (AV.renL f cs)
 | .big cs k n l=>.big (AV.renL f cs) k n l
 | b=>b
mutual
def AV.men:AV->List Nat
 | .ptr b _=>[b]
 | .vptr b _ _=>[b]
 | .vsub b _=>[b]
 | .aptr b _ _=>[b]
 | .asub b _ _ _ _=>[b]
 | .bagg cs _ _ _=>AV.menL cs
 | .vec b=>[b]
 | .fn _ first caps=>AV.menL first++AV.menL caps
 | .agg cs=>AV.menL cs
 | .tuple vs=>AV.menL vs
 | _=>[]
def AV.menL:List AV->List Nat
 | []=>[]
 | a::l=>a.men++AV.menL l
end
def asI:AV->Option (IntKind×Int)
 | .ilit k n=>some (k,n)
 | .int k n=>some (k,n)
 | _=>none
def asB:AV->Option Bool
 | .blit b=>some b
 | .bool b=>some b
 | _=>none
def qgH(sh:List Sh)(l:R)(i:Int)(j:Nat):Option AV:=
 match sh[j]? with
 | some (.int k)=>some (.int k (cI l i j))
 | some .bool=>some (.bool (cB l i j))
 | some .str=>some (.str (cS l i j))
 | some (.sl row)=>some (.imm row (cR l i j))
 | none=>none
def qbI(sh:List Sh)(l:R)(i:Int):Nat->Nat->Option (List AV)
 | _,0=>some []
 | off,n+1=>match qgH sh l i off,qbI sh l i (off+1) n with
  | some a,some r=>some (a::r)
  | _,_=>none
def vX(h:List Blk):AV->Option (List Sh×R)
 | .imm sh l=>some (sh,l)
 | .vec b=>match h[b]? with
  | some (.vec _ sh l)=>some (sh,l)
  | some (.frz _ sh l)=>some (sh,l)
  | _=>none
 | _=>none
def toU(h:List Blk):Sh->AV->Option U
 | .int k,.ilit k' n=>if k=k' then some (.i n) else none
 | .int k,.int k' n=>if k=k' then some (.i n) else none
 | .bool,.blit b=>some (.b b)
 | .bool,.bool b=>some (.b b)
 | .str,.str s=>some (.s s)
 | .sl _,.nils=>some (.l [])
 | .sl row,.imm row' l=>if Sh.beqL row row' then some (.l l) else none
 | .sl row,.vec b=>match h[b]? with
  | some (.vec _ row' l)=>if Sh.beqL row row' then some (.l l) else none
  | some (.frz _ row' l)=>if Sh.beqL row row' then some (.l l) else none
  | _=>none
 | _,_=>none
def qpq(h:List Blk):List Sh->List AV->Option (List U)
 | [],[]=>some []
 | s::sh,a::azz=>match toU h s a,qpq h sh azz with
  | some u,some us=>some (u::us)
  | _,_=>none
 | _,_=>none
def zU(h:List Blk)(b:Nat):List Blk:=
 match h[b]? with
 | some (.vec e sh l)=>h.set b (.frz e sh l)
 | _=>h
def qb9(h:List Blk):List AV->List Blk
 | []=>h
 | .vec b::l=>qb9 (zU h b) l
 | _::l=>qb9 h l
def qj7(h:List Blk)(sh:List Sh):Nat->List AV->Option R
 | 0,[]=>some []
 | 0,_=>none
 | n+1,cs=>match qpq h sh (cs.take sh.length),qj7 h sh n (cs.drop sh.length) with
  | some u,some r=>some (u::r)
  | _,_=>none
abbrev Res:=AV×List Blk×Option Nat
def okv(h:List Blk)(v:AV):Tree Res:=.leaf (v,h,none)
def okb(h:List Blk)(b:Bool):Tree Res:=.leaf (.bool b,h,none)
def u7(l:List AV):Bool:=l.all AV.isCell
def qo8(cs:List AV)(off:Nat)(vs:List AV):List AV:=cs.take off++vs++cs.drop (off+vs.length)
def qgv(E:Env)(h:List Blk)(t:TypeId)(p:AV):Tree Res:=
 let ti:=E.ty t
 if ti.d.known=false then .fail else
 match p with
 | .ptr b off=>match h[b]? with
  | some (.cells cs)=>
   if ti.d.isAgg then (if off+ti.size<=cs.length then okv h (.agg ((cs.drop off).take ti.size)) else .fail)
   else match cs[off]? with|some v=>okv h v|none=>.fail
  | _=>.fail
 | .eptr sh l i off=>
  if ti.d.isAgg then (match qbI sh l i off ti.size with|some cs=>okv h (.agg cs)|none=>.fail)
  else (match qgH sh l i off with|some v=>okv h v|none=>.fail)
 | .vptr b i off=>match vX h (.vec b) with
  | some (sh,l)=>
   if ti.d.isAgg then (match qbI sh l i off ti.size with|some cs=>okv h (.agg cs)|none=>.fail)
   else (match qgH sh l i off with|some v=>okv h v|none=>.fail)
  | none=>.fail
 | _=>.fail
def qfw(E:Env)(h:List Blk)(t:TypeId)(p v:AV):Tree Res:=
 let cs':=v.cells
 if cs'.length=(E.ty t).size/\u7 cs'=true/\cs'.length≠0 then
  match p with
  | .ptr b off=>match h[b]? with
   | some (.cells cs)=>if off+cs'.length<=cs.length then .leaf (.skip,h.set b (.cells (qo8 cs off cs')),none) else .fail
   | _=>.fail
  | .vptr b i off=>match h[b]? with
   | some (.vec e sh l)=>if (AV.menL cs').isEmpty then (match qpq h ((sh.drop off).take cs'.length) cs' with
    | some us=>.leaf (.skip,h.set b (.vec e sh (qgZ l i off us)),none)
    | none=>.fail) else .fail
   | _=>.fail
  | _=>.fail
 else .fail
def qeA(place:Nat->Option (Nat×Nat))(cells:List AV):List (Nat×AV)->Option (List AV)
 | []=>some cells
 | (i,v)::rest=>match place i with
  | none=>none
  | some (off,size)=>
   if v.cells.length=size/\off+v.cells.length<=cells.length/\u7 v.cells=true then qeA place (qo8 cells off v.cells) rest else none
def qh3(E:Env)(h:List Blk)(t:TypeId)(parts:List (Nat×AV)):Tree Res:=
 if (E.ty t).zero.length=0 then .fail else
 match (E.ty t).d with
 | .struct fs=>if (E.ty t).fok then (match qeA (fun i=>(fs[i]?).map fun f=>(f.1,f.2.2)) ((E.ty t).zero.map jI) parts with
  | some cs=>okv h (.agg cs)
  | none=>.fail) else .fail
 | .array _ _ es=>if es=0 then .fail else match qeA (fun i=>some (i*es,es)) ((E.ty t).zero.map jI) parts with
  | some cs=>okv h (.agg cs)
  | none=>.fail
 | _=>.fail
def q8O(E:Env)(h:List Blk)(t:TypeId)(len:Nat)(parts:List (Nat×AV)):Tree Res:=
 match (E.ty t).d with
 | .slice e es=>
  if len*es<=16777216/\0<es/\(E.ty e).zero.length=es then
   match qeA (fun i=>some (i*es,es)) ((List.replicate len ((E.ty e).zero.map jI)).flatten) parts,E.shape 16 e with
   | some cs,some sh=>if sh.length=es then (match qj7 h sh len cs with
    | some l=>.leaf (.vec h.length,qb9 h cs++[.vec e sh l],none)
    | none=>.fail) else .fail
   | _,_=>.fail
  else .fail
 | _=>.fail
def q39(E:Env)(h:List Blk)(s:TypeId)(x:AV)(f:Nat):Tree Res:=
 match (E.ty s).d with
 | .struct fs=>match fs[f]? with
  | some (o,_,sz)=>if sz=0 then .fail else
   match x with
   | .ptr b off=>okv h (.ptr b (off+o))
   | .eptr sh l i off=>okv h (.eptr sh l i (off+o))
   | .vptr b i off=>okv h (.vptr b i (off+o))
   | _=>.fail
  | none=>.fail
 | _=>.fail
def qg5(E:Env)(t:TypeId)(cs:List AV)(off:Nat):Option AV:=
 let ti:=E.ty t
 if ti.d.known=false then none else
 if ti.d.isAgg then (if off+ti.size<=cs.length then some (.agg ((cs.drop off).take ti.size)) else none)
 else cs[off]?
def qhO(E:Env)(h:List Blk)(t:TypeId)(cs:List AV)(off:Nat):Tree Res:=
 match qg5 E t cs off with
 | some v=>okv h v
 | none=>.fail
def qi1(E:Env)(h:List Blk)(s:TypeId)(x:AV)(f:Nat):Tree Res:=
 match (E.ty s).d,x with
 | .struct fs,.agg cs=>match fs[f]? with
  | some (o,t,_)=>qhO E h t cs o
  | none=>.fail
 | _,_=>.fail
def qht(h:List Blk)(i:Int)(f:Nat->AV):Nat->Tree Res
 | 0=>.fail
 | m+1=>.br (ieq i m) (okv h (f m)) (qht h i f m)
def uJ(E:Env)(h:List Blk)(t:TypeId)(x ix:AV):Tree Res:=
 match (E.ty t).d,x,asI ix with
 | .slice _ es,.imm sh l,some (_,i)=>if sh.length=es/\0<es then .br (inb i (qm l)) (okv h (.eptr sh l i 0)) .fail else .fail
 | .slice _ es,.vec b,some (_,i)=>match vX h (.vec b) with
  | some (sh,l)=>if sh.length=es/\0<es then .br (inb i (qm l)) (okv h (.vptr b i 0)) .fail else .fail
  | none=>.fail
 | .array n _ es,.ptr b off,_=>match ix with
  | .ilit _ i=>if 0<=i/\i<n/\0<es then okv h (.ptr b (off+i.toNat*es)) else .fail
  | .int _ i=>if n<=16/\0<es then qht h i (fun m=>.ptr b (off+m*es)) n else .fail
  | _=>.fail
 | .array n _ es,.eptr sh l i0 off,_=>match ix with
  | .ilit _ i=>if 0<=i/\i<n/\0<es then okv h (.eptr sh l i0 (off+i.toNat*es)) else .fail
  | .int _ i=>if n<=16/\0<es then qht h i (fun m=>.eptr sh l i0 (off+m*es)) n else .fail
  | _=>.fail
 | _,_,_=>.fail
def ql1(k:IntKind):List AV->Option (List Int)
 | []=>some []
 | a::l=>match asI a,ql1 k l with
  | some (k',n),some r=>if k=k' then some (n::r) else none
  | _,_=>none
def qon(E:Env)(h:List Blk)(e:TypeId)(cs:List AV)(es:Nat)(i:Int):Nat->Nat->Tree Res
 | _,0=>.fail
 | j,m+1=>.br (ieq i (j:Int)) (qhO E h e cs (j*es)) (qon E h e cs es i (j+1) m)
def qhe(E:Env)(h:List Blk)(t:TypeId)(x ix:AV):Tree Res:=
 match (E.ty t).d,x,asI ix with
 | .array n e es,.agg cs,some (_,i)=>match ix with
  | .ilit _ i=>if 0<=i/\i<n/\0<es then qhO E h e cs (i.toNat*es) else .fail
  | _=>match (E.ty e).d with
   | .int k=>if es=1/\cs.length=n then (match ql1 k cs with
    | some l=>.br (inb i n) (okv h (.int k (qBJ l i))) .fail
    | none=>.fail) else .fail
   | .slice _ _=>if 0<es then (match Nat.ble n 4 with|true=>qon E h e cs es i 0 n|false=>.fail) else .fail
   | _=>.fail
 | .str,.str s,some (_,i)=>.br (inb i (qw s)) (okv h (.int .u8 (sat s i))) .fail
 | _,_,_=>.fail
def q7p(h:List Blk)(k:IntKind)(f:Int->Int->Int)(lit:Bool)(x y:Int):Tree Res:=if lit then okv h (.ilit k (f x y)) else okv h (.int k (f x y))
def qAA(h:List Blk)(f:Int->Int->Bool)(lit:Bool)(x y:Int):Tree Res:=if lit then okv h (.blit (f x y)) else okv h (.bool (f x y))
def qHQ:AV->Bool
 | .ilit _ _=>true
 | _=>false
def qvT(d:TD)(h:List Blk)(op:BinOp)(x y:AV):Tree Res:=
 match asI x,asI y with
 | some (k,a),some (k',b)=>
  if k=k' then
   let lit:=qHQ x&&qHQ y
   match op with
   | .add=>q7p h k (qC k) lit a b
   | .sub=>q7p h k (yF k) lit a b
   | .mul=>q7p h k (vd k) lit a b
   | .quo=>match y with
    | .ilit _ c=>if c=0 then .fail else q7p h k (qcK k) lit a b
    | _=>.br (ine b 0) (q7p h k (qcK k) lit a b) .fail
   | .rem=>match y with
    | .ilit _ c=>if c=0 then .fail else q7p h k qb4 lit a b
    | _=>.br (ine b 0) (q7p h k qb4 lit a b) .fail
   | .eql=>qAA h ieq lit a b
   | .neq=>qAA h ine lit a b
   | .lss=>qAA h ilt lit a b
   | .leq=>qAA h ile lit a b
   | .gtr=>qAA h (fun u v=>ilt v u) lit a b
   | .geq=>qAA h (fun u v=>ile v u) lit a b
   | _=>.fail
  else .fail
 | _,_=>
  match asB x,asB y with
  | some a,some b=>(match d with
   | .bool=>(match op with
    | .eql=>okb h (Eng.beq a b)
    | .neq=>okb h (!(Eng.beq a b))
    | _=>.fail)
   | _=>.fail)
  | _,_=>match x,y with
   | .str a,.str b=>match op with
    | .eql=>okb h (Eng.seq a b)
    | .neq=>okb h (!(Eng.seq a b))
    | .lss=>okb h (slt a b)
    | .leq=>okb h (slt a b||Eng.seq a b)
    | .gtr=>okb h (!(slt a b||Eng.seq a b))
    | .geq=>okb h (!(slt a b))
    | .add=>.br (ile (qw a+qw b) 140737488355328) (okv h (.str (qeI a b))) .fail
    | _=>.fail
   | .nilp,.nilp=>(match d with
    | .ptr _=>(match op with|.eql=>okv h (.blit true)|.neq=>okv h (.blit false)|_=>.fail)
    | _=>.fail)
   | .ptr b _,.nilp=>(match d,h[b]? with
    | .ptr _,some (.cells _)=>(match op with|.eql=>okv h (.blit false)|.neq=>okv h (.blit true)|_=>.fail)
    | _,_=>.fail)
   | .eptr _ _ _ _,.nilp=>(match d with
    | .ptr _=>(match op with|.eql=>okv h (.blit false)|.neq=>okv h (.blit true)|_=>.fail)
    | _=>.fail)
   | .imm _ l,.nils=>(match d with
    | .slice _ _=>(match op with|.eql=>.br (ilt 0 (qm l)) (okv h (.blit false)) .fail|.neq=>.br (ilt 0 (qm l)) (okv h (.blit true)) .fail|_=>.fail)
    | _=>.fail)
   | .mptr c _ _ _ _,.nilp=>(match d with
    | .ptr _=>(match op with|.eql=>okb h (!c)|.neq=>okb h c|_=>.fail)
    | _=>.fail)
   | _,_=>.fail
def qw0(E:Env)(e:TypeId)(c:Nat)(xs ys:List AV):List Nat->Option Bool
 | []=>some true
 | i::is=>match qg5 E e xs (i*c),qg5 E e ys (i*c),qw0 E e c xs ys is with
  | some (.str a),some (.str b),some r=>some (qxG (Eng.seq a b) r)
  | _,_,_=>none
mutual
def eqT(E:Env):Nat->TypeId->AV->AV->Option Bool
 | 0,_,_,_=>none
 | n+1,t,x,y=>match (E.ty t).d with
  | .int _=>match asI x,asI y with
   | some (k,a),some (k',b)=>if k=k' then some (ieq a b) else none
   | _,_=>none
  | .bool=>match asB x,asB y with
   | some a,some b=>some (Eng.beq a b)
   | _,_=>none
  | .str=>match x,y with
   | .str a,.str b=>some (Eng.seq a b)
   | _,_=>none
  | .struct fs=>if (E.ty t).eqok then (match x,y with
   | .agg xs,.agg ys=>qI7 E n fs xs ys
   | _,_=>none) else none
  | .array m e es=>(match n,(E.ty e).d,x,y with
   | _+1,.str,.agg xs,.agg ys=>qw0 E e es xs ys (List.range m)
   | _,_,_,_=>none)
  | _=>none
def qI7(E:Env):Nat->List (Nat×TypeId×Nat)->List AV->List AV->Option Bool
 | _,[],_,_=>some true
 | 0,_,_,_=>none
 | n+1,f::fs,xs,ys=>match qg5 E f.2.1 xs f.1,qg5 E f.2.1 ys f.1 with
  | some a,some b=>match eqT E n f.2.1 a b,qI7 E n fs xs ys with
   | some r,some s=>some (qxG r s)
   | _,_=>none
  | _,_=>none
end
def qqX(E:Env)(h:List Blk)(op:BinOp)(t:TypeId)(x y:AV):Tree Res:=
 match eqT E 32 t x y with
 | some r=>(match op with|.eql=>okb h r|.neq=>okb h (!r)|_=>.fail)
 | none=>.fail
def qk6(E:Env)(h:List Blk)(op:BinOp)(t:TypeId)(x y:AV):Tree Res:=
 match x,y with
 | .agg xs,.agg ys=>qqX E h op t (.agg xs) (.agg ys)
 | a,b=>qvT (E.ty t).d h op a b
def qI0(h:List Blk)(op:UnOp)(x:AV):Tree Res:=
 match op,x with
 | .not,.blit b=>okv h (.blit (!b))
 | .not,.bool b=>okv h (.bool (!b))
 | .neg,.ilit k n=>okv h (.ilit k (yF k 0 n))
 | .neg,.int k n=>okv h (.int k (yF k 0 n))
 | _,_=>.fail
def qoj(E:Env)(h:List Blk)(src dst:TypeId)(x:AV):Tree Res:=
 match (E.ty src).d,(E.ty dst).d,x with
 | .int _,.int k,.ilit _ n=>okv h (.ilit k (q2J k n))
 | .int _,.int k,.int _ n=>okv h (.int k (q2J k n))
 | .str,.str,.str s=>okv h (.str s)
 | _,_,_=>.fail
def qeJ:Option AV->Int->Option Int
 | none,d=>some d
 | some a,_=>(asI a).map (·.2)
def qkA:List Sh->Bool
 | [.int .u8]=>true
 | _=>false
def qv1(sh:List Sh)(hi:Option AV):Bool:=match hi with
 | none=>qkA sh
 | some _=>false
def qnA(l:R):List UInt8:=l.map fun row=>UInt8.ofNat (row.getD 0 (.i 0)).toI.toNat
def q4f(n:Int)(row:List U):R:=List.replicate n.toNat row
def qxg(l:R)(i:Int)(s:List UInt8):R:=l.take i.toNat++s.map (fun c=>[.i (c.toNat:Int)])++l.drop (i.toNat+s.length)
def qxQ(x y:Int):Int:=x-y
def qrw(E:Env)(h:List Blk)(e:TypeId)(x:AV):Tree Res:=
 match (E.ty e).d with
 | .int .u8=>(match vX h x with
  | some (sh,l)=>if qkA sh then okv h (.str (qnA l)) else .fail
  | none=>.fail)
 | _=>.fail
def qhA(E:Env)(h:List Blk)(src dst:TypeId)(x:AV):Tree Res:=
 match (E.ty src).d with
 | .slice e _=>(match (E.ty dst).d with
  | .str=>qrw E h e x
  | _=>.fail)
 | _=>qoj E h src dst x
def qd7(E:Env)(h:List Blk)(t:TypeId)(x:AV)(lo hi mx:Option AV):Tree Res:=
 match mx with
 | some m=>(match (E.ty t).d,x,hi with
  | .slice _ es,.imm sh l,some y=>(match qeJ lo 0,asI y,asI m with
   | some a,some (_,b),some (_,c)=>if sh.length=es/\0<es then .br (q7e b (qm l)) (.br (q7e a b) (.br (ieq b c) (okv h (.full sh (qy6 l a b))) .fail) .fail) .fail else .fail
   | _,_,_=>.fail)
  | _,_,_=>.fail)
 | none=>match (E.ty t).d,x with
  | .str,.str s=>match qeJ lo 0,qeJ hi (qw s) with
   | some l,some r=>.br (q7e r (qw s)) (.br (q7e l r) (okv h (.str (qcE s l r))) .fail) .fail
   | _,_=>.fail
  | .slice _ es,.imm sh l=>match qeJ lo 0,qeJ hi (qm l) with
   | some a,some b=>if sh.length=es/\0<es then .br (q7e b (qm l)) (.br (q7e a b) (okv h (.imm sh (qy6 l a b))) .fail) .fail else .fail
   | _,_=>.fail
  | .slice _ es,.vec b=>match h[b]? with
   | some (.vec _ sh l)=>(match qv1 sh hi with
    | true=>(match qeJ lo 0 with
     | some a=>if es=1 then .br (ilt 0 (qm l)) (.br (q7e a (qm l)) (okv h (.vsub b a)) .fail) .fail else .fail
     | none=>.fail)
    | false=>(match qeJ lo 0,qeJ hi (qm l) with
     | some a,some c=>if sh.length=es/\0<es then .br (q7e c (qm l)) (.br (q7e a c) (.leaf (.imm sh (qy6 l a c),zU h b,none)) .fail) .fail else .fail
     | _,_=>.fail))
   | some (.frz _ sh l)=>(match qeJ lo 0,qeJ hi (qm l) with
    | some a,some c=>if sh.length=es/\0<es then .br (q7e c (qm l)) (.br (q7e a c) (okv h (.imm sh (qy6 l a c))) .fail) .fail else .fail
    | _,_=>.fail)
   | _=>.fail
  | _,_=>.fail
def qs5(b:Nat):Int:=((140737488355328/(if b=0 then 1 else b):Nat):Int)
def yU(h:List Blk)(x:AV):List Blk:=
 match x with
 | .vec b=>zU h b
 | _=>h
def qCt(rm:Int)(h:List Blk)(e:TypeId)(sh:List Sh)(l m:R)(b:Nat)(x:AV):Tree Res:=
 match x with
 | .vec b'=>if b=b' then .fail else
   .br (ile (qm l+qm m) rm) (.leaf (.vec b,(zU h b').set b (.vec e sh (kN l m)),some b)) .fail
 | _=>.br (ile (qm l+qm m) rm) (.leaf (.vec b,h.set b (.vec e sh (kN l m)),some b)) .fail
def qmv(rm:Int)(h:List Blk)(e:TypeId)(sh:List Sh)(s x:AV):Tree Res:=
 match vX h x with
 | some (sh',m)=>if Sh.beqL sh sh' then
  (match s with
  | .nils=>.br (ile (qm m) rm) (.leaf (.vec h.length,yU h x++[.vec e sh m],none)) .fail
  | .vec b=>match h[b]? with
   | some (.vec e' sh'' l)=>if Sh.beqL sh sh''/\e=e' then qCt rm h e sh l m b x else .fail
   | _=>.fail
  | .full sh'' l=>if Sh.beqL sh sh'' then .br (ilt 0 (qm m)) (.br (ile (qm l+qm m) rm) (.leaf (.vec h.length,yU h x++[.vec e sh (kN l m)],none)) .fail) (.br (ile (qm l) 0) (.leaf (.vec h.length,yU h x++[.vec e sh []],none)) .fail) else .fail
  | _=>.fail) else .fail
 | none=>.fail
def qvj(E:Env)(h:List Blk)(t:TypeId)(s x:AV):Tree Res:=
 match (E.ty t).d with
 | .slice e es=>match E.shape 16 e with
  | some sh=>if sh.length=es/\0<es/\(E.ty e).zero.length=es then
    (match x with
    | .nils=>(match s with
     | .nils=>okv h .nils
     | _=>.fail)
    | x=>qmv (qs5 (E.ty e).bytes) h e sh s x) else .fail
  | none=>.fail
 | _=>.fail
def qCz(E:Env)(h:List Blk)(t:TypeId)(x:AV):Tree Res:=
 match (E.ty t).d,x with
 | .str,.str s=>okv h (.int .i64 (qw s))
 | .array n _ _,_=>okv h (.ilit .i64 n)
 | .slice _ _,.nils=>okv h (.ilit .i64 0)
 | .slice _ _,x=>match vX h x with
  | some (_,l)=>okv h (.int .i64 (qm l))
  | none=>.fail
 | _,_=>.fail
def qxH(f:Int->Int->Int)(k:IntKind):Int->List AV->Option Int
 | a,[]=>some a
 | a,x::l=>match asI x with
  | some (k',b)=>if k=k' then qxH f k (f a b) l else none
  | none=>none
def qCo(E:Env)(h:List Blk)(t:TypeId)(x y:AV):Tree Res:=
 match (E.ty t).d,asI x,asI y with
 | .slice e es,some (_,n),some (_,m)=>(match E.shape 16 e with
  | some sh=>if sh.length=es/\0<es/\(E.ty e).zero.length=es then
    (match qpq h sh ((E.ty e).zero.map jI) with
    | some us=>.br (ieq n m) (.br (q7e n (qs5 (E.ty e).bytes)) (.leaf (.vec h.length,h++[.vec e sh (q4f n us)],none)) .fail) .fail
    | none=>.fail) else .fail
  | none=>.fail)
 | _,_,_=>.fail
def qxq(E:Env)(h:List Blk):List TypeId->List AV->Tree Res
 | [t,_],[.vsub b i,.str s]=>(match (E.ty t).d with
  | .slice _ es=>(match h[b]? with
   | some (.vec e' sh l)=>if qkA sh/\es=1 then .br (ile (qw s) (qxQ (qm l) i)) (.leaf (.int .i64 (qw s),h.set b (.vec e' sh (qxg l i s)),none)) .fail else .fail
   | _=>.fail)
  | _=>.fail)
 | _,_=>.fail
def isZ(k:IntKind):Value->Bool
 | .int k' n=>decide (k=k')&&decide (n=0)
 | _=>false
def qAn(E:Env)(t:TypeId):Option (Nat×IntKind×Nat):=
 match (E.ty t).d with
 | .struct fs=>(match fs.getLast? with
  | some (o,ty,_)=>(match (E.ty ty).d with
   | .array n e _=>(match (E.ty e).d with
    | .int k=>if Nat.ble 32 n&&Nat.beq (E.ty t).zero.length (o+n)&&Nat.beq (E.ty t).size (o+n)&&((E.ty t).zero.drop o).all (isZ k) then some (o,k,n) else none
    | _=>none)
   | _=>none)
  | none=>none)
 | _=>none
def qfq(E:Env)(t:TypeId):Option Blk:=match qAn E t with
 | some (o,k,n)=>if u7 (((E.ty t).zero.take o).map jI)=true then some (.big (((E.ty t).zero.take o).map jI) k n (q4f n [.i 0])) else none
 | none=>if u7 ((E.ty t).zero.map jI)=true/\((E.ty t).zero.map jI).length≠0 then some (.cells ((E.ty t).zero.map jI)) else none
def qCK(x:AV):Option Blk:=match x with
 | .bagg cs k n l=>if u7 cs=true then some (.big cs k n l) else none
 | x=>if u7 x.cells=true then some (.cells x.cells) else none
def qCg(h:List Blk)(k:Option Blk):Tree Res:=match k with
 | some k=>.leaf (.ptr h.length 0,h++[k],none)
 | none=>.fail
def qDj(E:Env)(h:List Blk)(t:TypeId)(off:Nat)(cs:List AV)(k:IntKind)(n:Nat)(l:R):Tree Res:=
 if (E.ty t).d.known=false then .fail else
 if (E.ty t).d.isAgg=true then (if off=0/\(E.ty t).size=cs.length+n then okv h (.bagg cs k n l) else .fail)
 else (match cs[off]? with
  | some v=>okv h v
  | none=>if off<cs.length+n then okv h (.int k (cI l ((off-cs.length:Nat):Int) 0)) else .fail)
def qdG(E:Env)(h:List Blk)(t:TypeId)(p:AV):Tree Res:=
 match p with
 | .ptr b off=>(match h[b]? with
  | some (.big cs k n l)=>qDj E h t off cs k n l
  | _=>qgv E h t (.ptr b off))
 | .aptr b o i=>(match h[b]? with
  | some (.big cs k n l)=>if (E.ty t).d.known=true/\(E.ty t).d.isAgg=false/\o=cs.length then .br (inb i n) (okv h (.int k (cI l i 0))) .fail else .fail
  | _=>.fail)
 | p=>qgv E h t p
def qtN(E:Env)(h:List Blk)(t:TypeId)(b off:Nat)(cs:List AV)(k:IntKind)(n:Nat)(l:R)(v:AV):Tree Res:=
 match v with
 | .bagg cs' k' n' l'=>if off=0/\k=k'/\n=n'/\cs.length=cs'.length/\(E.ty t).size=cs.length+n/\0<n/\u7 cs'=true then .leaf (.skip,h.set b (.big cs' k n l'),none) else .fail
 | v=>if v.cells.length=(E.ty t).size/\u7 v.cells=true/\v.cells.length≠0 then
   (match Nat.ble (off+v.cells.length) cs.length with
   | true=>.leaf (.skip,h.set b (.big (qo8 cs off v.cells) k n l),none)
   | false=>(match asI v with
    | some (k',x)=>if k=k'/\cs.length<=off/\off<cs.length+n then .leaf (.skip,h.set b (.big cs k n (qgZ l ((off-cs.length:Nat):Int) 0 [.i x])),none) else .fail
    | none=>.fail))
   else .fail
def q0t(E:Env)(h:List Blk)(t:TypeId)(p v:AV):Tree Res:=
 match p with
 | .ptr b off=>(match h[b]? with
  | some (.big cs k n l)=>qtN E h t b off cs k n l v
  | _=>qfw E h t (.ptr b off) v)
 | .aptr b o i=>(match h[b]? with
  | some (.big cs k n l)=>(match asI v with
   | some (k',x)=>if k=k'/\o=cs.length/\(E.ty t).size=1 then .br (inb i n) (.leaf (.skip,h.set b (.big cs k n (qgZ l i 0 [.i x])),none)) .fail else .fail
   | none=>.fail)
  | _=>.fail)
 | p=>qfw E h t p v
def q1i(E:Env)(h:List Blk)(t:TypeId)(x ix:AV):Tree Res:=
 match (E.ty t).d with
 | .array n _ es=>(match Nat.blt 16 n with
  | true=>(match x with
   | .ptr b off=>(match ix with
    | .int _ i=>if es=1 then .br (inb i n) (okv h (.aptr b off i)) .fail else .fail
    | _=>uJ E h t x ix)
   | _=>uJ E h t x ix)
  | false=>uJ E h t x ix)
 | _=>uJ E h t x ix
def qcA(E:Env)(h:List Blk)(t:TypeId)(parts:List (Nat×AV)):Tree Res:=
 match qAn E t with
 | some (o,k,n)=>(match (E.ty t).d with
  | .struct fs=>if (E.ty t).fok=true then (match qeA (fun i=>(fs[i]?).map fun f=>(f.1,f.2.2)) (((E.ty t).zero.take o).map jI) parts with
   | some cs=>okv h (.bagg cs k n (q4f n [.i 0]))
   | none=>.fail) else .fail
  | _=>.fail)
 | none=>qh3 E h t parts
def qF4(h:List Blk)(b off n:Nat)(lo hi:Option AV):Tree Res:=
 match qeJ lo 0,qeJ hi n with
 | some a,some c=>.br (q7e c n) (.br (q7e a c) (okv h (.asub b off n a (qxQ c a))) .fail) .fail
 | _,_=>.fail
def qxZ(sh:List Sh)(l:R)(i:Int)(off n:Nat):Option (Sh×R):=
 match sh[off]?,l with
 | some s,[row]=>if (i=0/\off+n<=sh.length)/\((sh.drop off).take n).all (Sh.beq s)=true/\off+n<=row.length then some (s,((row.drop off).take n).map fun u=>[u]) else none
 | _,_=>none
def qwH(h:List Blk)(n:Nat)(s:Sh)(l:R)(lo hi mx:Option AV):Tree Res:=
 match mx with
 | none=>(match qeJ lo 0,qeJ hi n with
  | some a,some c=>.br (q7e c n) (.br (q7e a c) (okv h (.imm [s] (qy6 l a c))) .fail) .fail
  | _,_=>.fail)
 | some m=>(match qeJ lo 0,hi.bind asI,asI m with
  | some a,some (_,c),some (_,d)=>.br (q7e c n) (.br (q7e a c) (.br (ieq c d) (okv h (.full [s] (qy6 l a c))) .fail) .fail) .fail
  | _,_,_=>.fail)
def uO(E:Env)(h:List Blk)(t:TypeId)(x:AV)(lo hi mx:Option AV):Tree Res:=
 match (E.ty t).d with
 | .array n _ es=>(match x with
  | .eptr sh l i off=>if es=1 then (match qxZ sh l i off n with
   | some (s,rows)=>qwH h n s rows lo hi mx
   | none=>.fail) else .fail
  | .ptr b off=>(match mx with
   | none=>if es=1 then qF4 h b off n lo hi else .fail
   | some _=>.fail)
  | _=>.fail)
 | _=>qd7 E h t x lo hi mx
def qmf(l:R)(i:Int)(l':R)(i' c:Int):R:=l.take i.toNat++(l'.drop i'.toNat).take c.toNat++l.drop (i.toNat+c.toNat)
def quJ(E:Env)(h:List Blk):List TypeId->List AV->Tree Res
 | [t,_],[.asub b o n i m,.asub b' o' n' i' m']=>(match (E.ty t).d with
  | .slice _ es=>(match h[b]? with
   | some (.big cs k N l)=>(match h[b']? with
    | some (.big cs' k' N' l')=>if es=1/\o=cs.length/\n=N/\o'=cs'.length/\n'=N'/\k=k' then
      .leaf (.int .i64 (qkU m' m),h.set b (.big cs k N (qmf l i l' i' (qkU m' m))),none) else .fail
    | _=>.fail)
   | _=>.fail)
  | _=>.fail)
 | ts,azz=>qxq E h ts azz
def qx2(E:Env)(h:List Blk):List TypeId->List AV->Tree Res
 | [t,t'],[s,x]=>if t=t' then qvj E h t s x else .fail
 | _,_=>.fail
def qqf(E:Env)(h:List Blk):List TypeId->List AV->Tree Res
 | t::_,[x]=>qCz E h t x
 | _,_=>.fail
def qva(f:Int->Int->Int)(h:List Blk):List AV->Tree Res
 | x::l=>match asI x with
  | some (k,n)=>(match qxH f k n l with
   | some m=>if (x::l).all qHQ then okv h (.ilit k m) else okv h (.int k m)
   | none=>.fail)
  | none=>.fail
 | []=>.fail
def q8B(E:Env)(h:List Blk)(b:Builtin)(argTypes:List TypeId)(args:List AV):Tree Res:=
 match b with
 | .append=>qx2 E h argTypes args
 | .len=>qqf E h argTypes args
 | .max=>qva qvr h args
 | .min=>qva qkU h args
 | .copy=>quJ E h argTypes args
 | _=>.fail
def qpl(E:Env)(h:List Blk)(ev:Operand->AV)(op:Op):Tree Res:=
 match op with
 | .move x=>okv h (ev x)
 | .assign x=>okv h (ev x)
 | .pick c a b=>(match ev c with
  | .blit t=>okv h (if t then ev a else ev b)
  | .bool t=>.br t (okv h (ev a)) (okv h (ev b))
  | _=>.fail)
 | .box _ x=>qCg h (qCK (ev x))
 | .alloc t=>qCg h (qfq E t)
 | .load t a=>qdG E h t (ev a)
 | .store t a x=>q0t E h t (ev a) (ev x)
 | .build t parts=>qcA E h t (parts.toList.map fun p=>(p.1,ev p.2))
 | .buildSlice t len parts=>q8O E h t len (parts.toList.map fun p=>(p.1,ev p.2))
 | .nilCheck x=>(match ev x with
  | .ptr b o=>(match h[b]? with
   | some (.cells _)=>okv h (.ptr b o)
   | some (.big _ _ _ _)=>okv h (.ptr b o)
   | _=>.fail)
  | .eptr sh l i o=>okv h (.eptr sh l i o)
  | .mptr c sh l i o=>.br c (okv h (.eptr sh l i o)) .fail
  | _=>.fail)
 | .binOp op t x y _=>qk6 E h op t (ev x) (ev y)
 | .unOp op _ x=>qI0 h op (ev x)
 | .convert s d x=>qhA E h s d (ev x)
 | .makeSlice t n m=>qCo E h t (ev n) (ev m)
 | .makeFunc (.func f) first caps=>okv h (.fn f (first.toList.map ev) (caps.toList.map ev))
 | .slice t x lo hi mx=>uO E h t (ev x) (lo.map ev) (hi.map ev) (mx.map ev)
 | .fieldAddr s x f=>q39 E h s (ev x) f
 | .field s x f=>qi1 E h s (ev x) f
 | .indexAddr t x i=>q1i E h t (ev x) (ev i)
 | .index t x i=>qhe E h t (ev x) (ev i)
 | .extract x i=>(match ev x with
  | .tuple vs=>(match vs[i]? with|some v=>okv h v|none=>.fail)
  | _=>.fail)
 | .call { callee:=.builtin b,args,argTypes }=>q8B E h b argTypes.toList (args.toList.map ev)
 | _=>.fail
def Env.opd(E:Env)(t:List AV):Operand->AV
 | .tmp i=>t.getD i .undef
 | .const v=>ofV v
 | .global g=>((E.glob.find? fun x=>x.1==g).map (·.2)).getD .undef
 | .func f=>.fn f [] []
def qjp(t:List AV):Option Tmp->AV->List AV
 | some d,v=>t.set d v
 | none,_=>t
def St.renAll(st:St)(f:Nat->Option Nat):St:={ t:=AV.renL f st.t,fs:=st.fs.map (AV.renL f),h:=st.h.map (Blk.ren f),pend:=st.pend }
def qdm(b:Nat):Nat->Option Nat:=fun x=>if x=b then none else some x
def St.apply(st:St)(dst:Option Tmp)(r:Res):St:=
 match r.2.2 with
 | none=>{ st with t:=qjp st.t dst r.1,h:=r.2.1 }
 | some b=>let s:=({ st with h:=r.2.1 }:St).renAll (qdm b)
  { s with t:=qjp s.t dst r.1 }
abbrev q97:=Option FuncId->List AV->St->Tree (AV×St)
abbrev qAj:=List AV->St->Tree (AV×St)
abbrev qe4:=FuncId->qAj->List AV->St->Tree (AV×St)
def qF3(y:qAj)(callH:q97):q97
 | none=>y
 | some f=>callH (some f)
def qpK(E:Env)(callH:q97)(o:Oper)(st:St):Tree St:=
 match o.op with
 | .call { callee:=.value x,args,argTypes:=_ }=>(match E.opd st.t x with
  | .fn f first caps=>(callH (some f) (first++args.toList.map (E.opd st.t)++caps) st).bind fun r=>
    .leaf { r.2 with t:=qjp r.2.t o.dst r.1 }
  | .yld=>(callH none (args.toList.map (E.opd st.t)) st).bind fun r=>
    .leaf { r.2 with t:=qjp r.2.t o.dst r.1 }
  | _=>.fail)
 | op=>(qpl E st.h (E.opd st.t) op).bind fun r=>.leaf (st.apply o.dst r)
def qDE(o:Oper)(st:St):St:={ st with t:=qjp st.t o.dst .skip }
def qyN(all:Array Oper)(k:Nat):Bool:=all.toList.any fun o=>match o.guard with|some (j,_)=>j==k|none=>false
def qrV(all:Array Oper)(k:Nat)(o:Oper)(st:St):Tree St:=
 if qyN all k then (match o.dst with
  | some d=>match st.t[d]? with
   | some (.bool b)=>.br b (.leaf { st with t:=st.t.set d (.blit true) }) (.leaf { st with t:=st.t.set d (.blit false) })
   | _=>.leaf st
  | none=>.leaf st)
 else .leaf st
def q6Z(all:Array Oper)(o:Oper)(t:List AV):Option Bool:=
 match o.guard with
 | none=>some true
 | some (j,want)=>match (all[j]?).bind (·.dst) with
  | none=>none
  | some d=>match t[d]? with
   | some (.blit b)=>some (decide (b=want))
   | some .skip=>some false
   | _=>none
def qkR(E:Env)(callH:q97)(all:Array Oper):Nat->List Oper->St->Tree St
 | _,[],st=>.leaf st
 | k,o::rest,st=>match q6Z all o st.t with
  | some true=>(qpK E callH o st).bind fun s=>(qrV all k o s).bind (qkR E callH all (k+1) rest)
  | some false=>qkR E callH all (k+1) rest (qDE o st)
  | none=>.fail
def qkg:List Nat->List Nat
 | []=>[]
 | a::l=>if (qkg l).contains a then qkg l else a::qkg l
def qCf(l:List Nat)(b:Nat):Option Nat:=let i:=l.findIdx (·==b);if i<l.length then some i else none
mutual
def AV.lend(h:List Blk):AV->AV
 | .vec b=>match h[b]? with|some (.frz _ sh l)=>.imm sh l|_=>.undef
 | .agg cs=>.agg (AV.lendL h cs)
 | .tuple cs=>.tuple (AV.lendL h cs)
 | v=>v
def AV.lendL(h:List Blk):List AV->List AV
 | []=>[]
 | a::l=>a.lend h::AV.lendL h l
end
def w9:AV->List Nat
 | .vec b=>[b]
 | .agg cs=>cs.filterMap fun|.vec b=>some b|_=>none
 | _=>[]
def Blk.plain:Blk->Bool
 | .cells cs=>(AV.menL cs).isEmpty
 | .big cs _ _ _=>(AV.menL cs).isEmpty
 | _=>false
def q6f(h:List Blk):List Nat->Option (List Blk)
 | []=>some []
 | b::l=>match h[b]?,q6f h l with
  | some k,some r=>if k.plain=true then some (k::r) else none
  | _,_=>none
def q1O(h:List Blk):List Nat->List Blk->Option (List Blk)
 | [],_=>some h
 | b::l,k::r=>if k.plain=true then (q1O h l r).map fun h'=>h'.set b k else none
 | _::_,[]=>none
def qot(fp:List Nat)(n:Nat):Nat->Option Nat:=fun k=>if k<fp.length then fp[k]? else some (n+(k-fp.length))
abbrev zw:=List AV->List Blk->Tree (AV×List Blk)
def qS(h:List Blk):List Nat->List Blk
 | []=>h
 | b::l=>qS (zU h b) l
def qcn(h:List Blk):List Nat->List Blk
 | []=>h
 | b::l=>match h[b]? with
  | some (.cells cs)=>qcn (h.set b (.cells (AV.lendL h cs))) l
  | _=>qcn h l
def q8d(h:List Blk):List Nat->List Nat
 | []=>[]
 | b::l=>match h[b]? with
  | some (.cells cs)=>cs.flatMap w9++q8d h l
  | _=>q8d h l
def vQ(h:List Blk)(args:List AV):List Blk:=
 let h1:=qS h (args.flatMap w9)
 let fp:=AV.menL (AV.lendL h1 args)
 qcn (qS h1 (q8d h1 fp)) fp
def q1z(G:zw)(args:List AV)(st:St):Tree (AV×St):=
 let h1:=vQ st.h args
 let args1:=AV.lendL h1 args
 let fp:=qkg (AV.menL args1)
 match q6f h1 fp with
 | none=>.fail
 | some hin=>(G (AV.renL (qCf fp) args1) hin).bind fun r=>
   match q1O h1 fp r.2 with
   | none=>.fail
   | some h2=>.leaf (r.1.ren (qot fp h1.length),{ st with h:=h2++(r.2.drop fp.length).map (Blk.ren (qot fp h1.length)) })
def qkf(h:List Blk)(b:Nat):Bool:=match h[b]? with|some (.frz _ _ _)=>true|_=>false
def qdd(E:Env):Op->Bool
 | .move _|.assign _|.pick _ _ _|.load _ _|.build _ _|.nilCheck _|.binOp _ _ _ _ _|.unOp _ _ _|.convert _ _ _
 | .fieldAddr _ _ _|.field _ _ _|.indexAddr _ _ _|.index _ _ _|.extract _ _=>true
 | .slice t _ _ _ mx=>match (E.ty t).d with|.str=>true|.array _ _ _=>true|.slice _ _=>mx.isSome|_=>false
 | .makeFunc _ _ _=>true
 | .call { callee:=.builtin .len,.. }=>true
 | .call { callee:=.builtin .max,.. }=>true
 | .call { callee:=.builtin .min,.. }=>true
 | _=>false
abbrev q7w:=FuncId->List AV->Tree AV
def qCl:AV->Bool
 | .vec _=>false
 | _=>true
def qjy(E:Env)(h:List Blk)(ev:Operand->AV)(op:Op):Tree (AV×Blk):=
 match op with
 | .buildSlice t len parts=>(match (E.ty t).d with
  | .slice e es=>
   if len*es<=16777216/\0<es/\(E.ty e).zero.length=es then
    (match qeA (fun i=>some (i*es,es)) ((List.replicate len ((E.ty e).zero.map jI)).flatten) (parts.toList.map fun p=>(p.1,ev p.2)),E.shape 16 e with
    | some cs,some sh=>if sh.length=es/\cs.all qCl=true then (match qj7 h sh len cs with
     | some l=>.leaf (.vec h.length,.vec e sh l)
     | none=>.fail) else .fail
    | _,_=>.fail)
   else .fail
  | _=>.fail)
 | _=>.fail
def qdy(E:Env)(callS:q7w)(h:List Blk)(ev:Operand->AV)(op:Op):Tree AV:=
 match op with
 | .call { callee:=.value x,args,argTypes:=_ }=>(match ev x with
  | .fn f first caps=>callS f (first++args.toList.map ev++caps)
  | _=>.fail)
 | op=>if qdd E op then (qpl E h ev op).bind fun r=>.leaf r.1 else .fail
def qgO(ops:List Oper):List Nat:=ops.foldl (fun acc o=>acc++[o.after.toList.foldl (fun s e=>if Region.binds .any e then s ||| 2^e.on ||| acc.getD e.on 0 else s) 0]) []
def qBv(all:Array Oper)(o:Oper):List Tmp :=
  (o.op.operands.toList.filterMap fun|.tmp t=>some t|_=>none) ++
  (match o.guard with
   | some (g,_)=>((all[g]?).bind (·.dst)).toList
   | none=>[])
def qCx(all:Array Oper):Bool:=
 let ops:=all.toList
 let anc:=qgO ops
 let n:=ops.length
 (List.range n).all fun i=>
  match ops[i]? with
  | none=>false
  | some oi=>
   (oi.after.toList.all fun e=>!Region.binds .any e||decide (e.on<i)) &&
   (List.range n).all fun j=>j==i ||
    match ops[j]? with
    | none=>false
    | some oj=>match oj.dst with
     | none=>true
     | some t=>oi.dst != some t&&(!(qBv all oi).contains t||(anc.getD i 0).testBit j||(anc.getD j 0).testBit i)
def Blk.menB:Blk->List Nat
 | .cells cs=>AV.menL cs
 | .big cs _ _ _=>AV.menL cs
 | _=>[]
def qdb:List Blk->List Nat
 | []=>[]
 | k::h=>k.menB++qdb h
def qmF:List (List AV)->List Nat
 | []=>[]
 | a::l=>AV.menL a++qmF l
def qnx:Op->Bool
 | .store _ _ _=>true
 | _=>false
def qh1(E:Env)(f:FuncId):Option zw:=(E.spec.find? fun x=>x.1==f).map (·.2)
def jP(ev:Operand->AV)(op:Op):Option (FuncId×List AV):=
 match op with
 | .call { callee:=.value x,args,argTypes:=_ }=>(match ev x with
  | .fn f first caps=>some (f,first++args.toList.map ev++caps)
  | _=>none)
 | _=>none
def qin(op:Op):Bool:=
 match op with
 | .call { callee:=.value _,args:=_,argTypes:=_ }=>true
 | _=>false
def qmy(E:Env)(h:List Blk)(ev:Operand->AV)(op:Op):Bool:=
 match qin op with
 | true=>(match jP ev op with
  | some (f,args)=>(match qh1 E f with
   | some _=>E.raws.contains f||(!(args.flatMap w9).all (qkf h)||!(AV.menL (AV.lendL h args)).isEmpty)
   | none=>false)
  | none=>false)
 | false=>qnx op
def qop(h:List Blk)(args:List AV):List Nat:=
 let h1:=qS h (args.flatMap w9)
 let fp:=AV.menL (AV.lendL h1 args)
 args.flatMap w9++q8d h1 fp++fp
def qyU(h:List Blk)(ev:Operand->AV)(op:Op):List Nat:=
 match jP ev op with
 | some (_,args)=>qop h args
 | none=>(match op with
  | .store _ x _=>(ev x).men
  | _=>[])
def qDJ(op:Op):Bool:=
 match op with
 | .move _|.assign _|.extract _ _|.fieldAddr _ _ _|.makeFunc _ _ _|.pick _ _ _|.build _ _=>false
 | _=>true
def qII(E:Env)(ev:Operand->AV)(op:Op):Option (List Nat):=
 match qin op with
 | true=>(match jP ev op with
  | some (f,args)=>(match qh1 E f with
   | some _=>some (AV.menL args)
   | none=>none)
  | none=>none)
 | false=>(match qDJ op with
  | true=>some (AV.menL (op.operands.toList.map ev))
  | false=>some [])
def qsb(ev:Operand->AV)(op:Op):List Nat:=
 match jP ev op with
 | some (_,args)=>AV.menL args
 | none=>AV.menL (op.operands.toList.map ev)
def qxj(h:List Blk):List Nat->List Nat
 | []=>[]
 | b::l=>(match h[b]? with|some k=>k.menB|none=>[])++qxj h l
def qDM(h:List Blk)(ev:Operand->AV)(op:Op):List Nat:=
 match jP ev op with
 | some (_,args)=>
  let h1:=qS h (args.flatMap w9)
  AV.menL args++qxj h1 (AV.menL (AV.lendL h1 args))
 | none=>AV.menL (op.operands.toList.map ev)
def qnC(E:Env)(h:List Blk)(ev:Operand->AV)(op:Op):Tree (AV×List Blk):=
 match jP ev op with
 | some (f,args)=>(match qh1 E f with
  | some G=>(q1z G args { t:=[],fs:=[],h:=h,pend:=none }).bind fun r=>.leaf (r.1,r.2.h)
  | none=>.fail)
 | none=>(match qnx op with
  | true=>(qpl E h ev op).bind fun r=>(match r.2.2 with
   | none=>.leaf (r.1,r.2.1)
   | some _=>.fail)
  | false=>.fail)
def qJY(anc:List Nat)(i j:Nat):Bool:=(anc.getD i 0).testBit j
def kT(all:Array Oper):Nat:=
 let ops:=all.toList
 let anc:=qgO ops
 ((List.range ops.length).find? fun m=>(List.range ops.length).all fun j=>decide (j<m)||(List.range j).all fun i=>(anc.getD j 0).testBit i).getD ops.length
structure LDesc where
 s:Option Nat
 r:Option (List Nat)
 w:List Nat
 v:List Nat
def qL5(op:Op):Bool:=
 match op with
 | .call { callee:=.builtin .append,args:=_,argTypes:=_ }=>true
 | _=>false
def qo6(op:Op):Option (FuncId×List Operand):=
 match op with
 | .call { callee:=.value (.func f),args:=args,argTypes:=_ }=>some (f,args.toList)
 | _=>none
def qIG(E:Env)(f:FuncId):Option TypeId:=(E.dels.find? fun x=>x.1==f).map (·.2)
def qrT(E:Env)(op:Op):Bool:=
 match op with
 | .buildSlice _ _ _=>true
 | .alloc _=>true
 | op=>qL5 op||(match qo6 op with
  | some (f,_)=>E.raws.contains f||(qIG E f).isSome
  | none=>false)
def qzv(b:Nat):AV->Bool
 | .vec b'=>!Nat.beq b' b
 | _=>true
def qta(_:Env)(_:List Blk)(_:TypeId)(_:List AV)(_:Nat):Tree (AV×List Blk):=.fail
def qEn(E:Env)(h:List Blk)(f:FuncId)(args:List AV)(k:Nat):Tree (AV×List Blk):=
 match E.spec.find? fun x=>x.1==f with
 | some G=>(match (AV.menL (AV.lendL (qS h (args.flatMap w9)) args)).isEmpty with
  | true=>(G.2 (AV.lendL (qS h (args.flatMap w9)) args) []).bind fun r=>(match r with
   | (.vec 0,[.vec e sh l])=>.leaf (.vec k,(qS h (args.flatMap w9)).set k (.vec e sh l))
   | _=>.fail)
  | false=>.fail)
 | none=>.fail
def quq(E:Env)(h:List Blk)(t:TypeId)(k:Nat):Tree (AV×List Blk):=
 match qfq E t with
 | some z=>(match z.menB.isEmpty with
  | true=>.leaf (.ptr k 0,h.set k z)
  | false=>.fail)
 | none=>.fail
def qwP(E:Env)(h:List Blk)(t:TypeId)(s x:AV)(k:Nat):Tree (AV×List Blk) :=
  match (E.ty t).d with
  | .slice e es=>(match E.shape 16 e,vX h x with
    | some sh,some (sh',m) =>
      if (sh.length = es /\ 0 < es /\ (E.ty e).zero.length = es) /\ Sh.beqL sh sh' = true then
        (match s with
        | .nils=>.br (ile (qm m) (qs5 (E.ty e).bytes)) (.leaf (.vec k,(yU h x).set k (.vec e sh m))) .fail
        | .vec b=>(match h[b]? with
          | some (.vec e' sh'' l)=>if (Sh.beqL sh sh''=true/\e=e')/\qzv b x=true then
              .br (ile (qm l+qm m) (qs5 (E.ty e).bytes)) (.leaf (.vec k,((yU h x).set b .dead).set k (.vec e sh (kN l m)))) .fail else .fail
          | _=>.fail)
        | .full sh'' l=>if Sh.beqL sh sh''=true then
            .br (ilt 0 (qm m)) (.br (ile (qm l+qm m) (qs5 (E.ty e).bytes)) (.leaf (.vec k,(yU h x).set k (.vec e sh (kN l m)))) .fail) .fail else .fail
        | _=>.fail) else .fail
    | _,_=>.fail)
  | _=>.fail
def qtr:Option Blk->Bool
 | some .dead=>true
 | _=>false
def qys(E:Env)(h:List Blk)(ts:List TypeId)(azz:List AV)(k:Nat):Tree (AV×List Blk):=
 match ts,azz with
 | [t,t'],[s,x]=>if t=t' then qwP E h t s x k else .fail
 | _,_=>.fail
def qu3(E:Env)(h:List Blk)(ev:Operand->AV)(op:Op)(k:Nat):Tree (AV×List Blk):=
 match qo6 op with
 | some (f,xs)=>(match qIG E f with
  | some e=>qta E h e (xs.map ev) k
  | none=>qEn E h f (xs.map ev) k)
 | none=>.fail
def q5g(E:Env)(callS:List Blk->q7w)(h:List Blk)(ev:Operand->AV)(op:Op)(k:Nat):Tree (AV×List Blk):=
 match qrT E op with
 | false=>(match qmy E h ev op with
  | true=>(qnC E h ev op).bind fun r=>(match Nat.beq r.2.length h.length with
   | true=>.leaf r
   | false=>.fail)
  | false=>(qdy E (callS h) h ev op).bind fun v=>.leaf (v,h))
 | true=>(match qtr h[k]? with
  | true=>(match op with
   | .buildSlice _ _ _=>(qjy E h ev op).bind fun r=>.leaf (.vec k,h.set k r.2)
   | .alloc t=>quq E h t k
   | .call { callee:=.builtin .append,args:=args,argTypes:=tys }=>qys E h tys.toList (args.toList.map ev) k
   | op=>qu3 E h ev op k)
  | false=>.fail)
def j5(E:Env)(h:List Blk)(ev:Operand->AV)(op:Op)(k:Nat)(v:AV)(g:List Blk):LDesc:=
 match qrT E op with
 | true=>⟨some k,some (k::qsb ev op),k::qsb ev op,v.men++qxj g (k::qsb ev op)⟩
 | false=>(match qmy E h ev op with
  | true=>⟨none,some (qDM h ev op++qyU h ev op),qyU h ev op,v.men++qxj g (qyU h ev op)⟩
  | false=>⟨none,qII E ev op,[],v.men⟩)
def qG2(w:List Nat)(r:Option (List Nat)):Bool:=
 match w with
 | []=>true
 | w=>(match r with
  | some l=>w.all fun b=>!l.contains b
  | none=>false)
def qKt(s:Option Nat)(v:List Nat):Bool:=
 match s with
 | some k=>v.contains k
 | none=>false
def qih(anc:List Nat)(x:Nat×LDesc)(k:Nat)(d:LDesc):Bool:=!qKt d.s x.2.v&&(qJY anc k x.1||(!qKt x.2.s d.v&&(qG2 x.2.w d.r&&qG2 d.w x.2.r)))
def qyf(E:Env)(callS:List Blk->q7w)(all:Array Oper)(anc:List Nat):Nat->List Oper->Nat->List (Nat×LDesc)->St->Tree St
 | _,[],_,_,st=>.leaf st
 | k,o::rest,c,ds,st=>match q6Z all o st.t with
  | some true=>(q5g E callS st.h (E.opd st.t) o.op c).bind fun r=>
    (match ((j5 E st.h (E.opd st.t) o.op c r.1 r.2).v.all fun b=>Nat.blt b st.h.length)&&ds.all fun x=>qih anc x k (j5 E st.h (E.opd st.t) o.op c r.1 r.2) with
    | true=>(qrV all k o { st with t:=qjp st.t o.dst r.1,h:=r.2 }).bind (qyf E callS all anc (k+1) rest (match qrT E o.op with|true=>c+1|false=>c) (ds++[(k,j5 E st.h (E.opd st.t) o.op c r.1 r.2)]))
    | false=>.fail)
  | some false=>qyf E callS all anc (k+1) rest c ds (qDE o st)
  | none=>.fail
def qKP(E:Env)(l:List Oper):Nat:=(l.filter fun o=>qrT E o.op).length
def qEq(E:Env)(callH:q97)(callS:List Blk->q7w)(all:Array Oper)(st:St):Tree St:=
 if qCx all=false then .fail else
 (qyf E callS all (qgO all.toList) 0 (all.toList.take (kT all)) st.h.length [] { st with h:=st.h++List.replicate (qKP E (all.toList.take (kT all))) .dead }).bind fun r=>
  qkR E callH all (kT all) (all.toList.drop (kT all)) r
def zT:Code->Nat
 | .seq a b=>1+zT a+zT b
 | .cond _ a b=>zT a+zT b
 | .block _ c=>zT c
 | .scope c=>zT c
 | .loop c=>1+zT c
 | .rangeFunc _ _ a b=>1+zT a+zT b
 | _=>0
def q9P(l:List ((Nat×Nat)×(St->Tree (Ex×St))))(f k:Nat):Option (St->Tree (Ex×St)):=
 match l with
 | []=>none
 | x::l=>if Nat.beq x.1.1 f&&Nat.beq x.1.2 k then some x.2 else q9P l f k
def qiH(l:List (FuncId×FuncId×Nat))(g:Nat):Option (FuncId×Nat):=
 match l with
 | []=>none
 | x::l=>if Nat.beq x.1 g then some x.2 else qiH l g
def qtp(l:List (FuncId×FuncId×Nat))(g f k:Nat):Bool:=match qiH l g with
 | some y=>Nat.beq y.1 f&&Nat.beq y.2 k
 | none=>false
def q8A(l:List (FuncId×FuncId×Nat))(f:Nat):Bool:=match qiH l f with
 | some _=>false
 | none=>true
def qrq(t:List AV):List Tmp->List AV->List AV
 | d::ds,v::vs=>qrq (t.set d v) ds vs
 | _,_=>t
def qvM(evA evB:St->Tree (Ex×St))(ps:List Tmp):qAj:=fun args st=>
 match st.pend,st.fs with
 | none,ct::fs=>(match Nat.beq args.length ps.length with
  | true=>(evA { t:=qrq ct ps args,fs:=st.t::ct::fs,h:=st.h,pend:=none }).bind fun r=>(match r.1 with
   | .normal=>(evB r.2).bind fun q=>(match q.2.fs with
    | it::fs'=>(match q.1 with
     | .normal=>.leaf (.blit true,{ t:=it,fs:=fs',h:=q.2.h,pend:=none })
     | .ret=>.leaf (.blit false,{ t:=it,fs:=fs',h:=q.2.h,pend:=some .ret })
     | .exit i=>.leaf (.blit false,{ t:=it,fs:=fs',h:=q.2.h,pend:=some (.exit i) }))
    | []=>.fail)
   | _=>.fail)
  | false=>.fail)
 | _,_=>.fail
def qyW(st:St):Bool:=match st.fs,st.pend with
 | [[]],none=>AV.noYL st.t&&st.h.all Blk.noY
 | _,_=>false
def qBP(r:AV×St):Tree (Ex×St):=match qyW { r.2 with pend:=none } with
 | true=>(match r.2.pend with
  | none=>.leaf (.normal,{ r.2 with pend:=none })
  | some .ret=>.leaf (.ret,{ r.2 with pend:=none })
  | some (.exit i)=>.leaf (.exit i,{ r.2 with pend:=none })
  | some .normal=>.fail)
 | false=>.fail
def uOf:AV->Option (Sh×U)
 | .str s=>some (.str,.s s)
 | .int k n=>some (.int k,.i n)
 | .ilit k n=>some (.int k,.i n)
 | .bool b=>some (.bool,.b b)
 | .blit b=>some (.bool,.b b)
 | .imm sh l=>some (.sl sh,.l l)
 | _=>none
def qIV:List AV->Option (List Sh×List U)
 | []=>some ([],[])
 | a::l=>match uOf a,qIV l with
  | some (s,u),some (ss,us)=>some (s::ss,u::us)
  | _,_=>none
def qKg(b:Nat)(sh:List Sh)(row:List U):AV->AV
 | .ptr b' off=>if Nat.beq b' b then .eptr sh [row] 0 off else .ptr b' off
 | a=>a
def qCu(ni b:Nat)(st:St):St:=
 match st.h[b]? with
 | some (.cells cs)=>(match qIV cs,Nat.ble ni b with
  | some (sh,row),true=>{ st with t:=st.t.map (qKg b sh row),h:=st.h.set b .dead }
  | _,_=>st)
 | _=>st
def qEI:AV->Option Nat
 | .ptr b _=>some b
 | _=>none
def qKl(o:Oper)(i:Nat):Bool:=match o.dst with
 | some j=>Nat.beq i j
 | none=>false
def qI4(E:Env)(ops:List Oper)(t:List AV):Option Nat:=
 ops.findSome? fun o=>match o.op with
  | .slice ty (.tmp i) _ _ _=>(match (E.ty ty).d with
   | .array n e _=>(match (E.ty e).d,Nat.ble n 16 with
    | .str,true=>(match ops.findSome? fun q=>if qKl q i then (match q.op with|.fieldAddr _ (.tmp j) _=>some j|_=>none) else none with
     | some j=>qEI (t.getD j .undef)
     | none=>qEI (t.getD i .undef))
    | _,_=>none)
   | _=>none)
  | .makeFunc (.func f) _ caps=>(match E.raws.contains (f+1000000) with
   | true=>caps.toList.findSome? fun x=>(match x with
    | .tmp i=>qEI (t.getD i .undef)
    | _=>none)
   | false=>none)
  | _=>none
def qt0(E:Env)(ops:List Oper)(st:St):St:=
 match qI4 E ops st.t with
 | some b=>qCu E.nimp b st
 | none=>st
def yY(E:Env)(callH:q97)(callS:List Blk->q7w)(rangeH:qe4)(f:FuncId):Code->Nat->St->Tree (Ex×St)
 | .skip,_,st=>.leaf (.normal,st)
 | .label _,_,st=>.leaf (.normal,st)
 | .region _ ops draw,_,st=>((match draw with
   | true=>qEq E callH callS ops (qt0 E ops.toList st)
   | false=>qkR E callH ops 0 ops.toList (qt0 E ops.toList st)):Tree St).bind fun s=>.leaf (.normal,s)
 | .seq a b,k,st=>match q9P E.loops f k with
  | some L=>L st
  | none=>(yY E callH callS rangeH f a (k+1) st).bind fun r=>match r.1 with
   | .normal=>yY E callH callS rangeH f b (k+1+zT a) r.2
   | e=>.leaf (e,r.2)
 | .cond c a b,k,st=>match E.opd st.t c with
  | .blit true=>yY E callH callS rangeH f a k st
  | .blit false=>yY E callH callS rangeH f b (k+zT a) st
  | .bool x=>match c with
   | .tmp d=>.br x (yY E callH callS rangeH f a k { st with t:=st.t.set d (.blit true) }) (yY E callH callS rangeH f b (k+zT a) { st with t:=st.t.set d (.blit false) })
   | _=>.fail
  | _=>.fail
 | .block id c,k,st=>(yY E callH callS rangeH f c k st).bind fun r=>match r.1 with
  | .exit i=>if i=id then .leaf (.normal,r.2) else .leaf (.exit i,r.2)
  | e=>.leaf (e,r.2)
 | .loop _,k,st=>match q9P E.loops f k with
  | some L=>L st
  | none=>.fail
 | .exit id,_,st=>.leaf (.exit id,st)
 | .ret,_,st=>.leaf (.ret,st)
 | .rangeFunc x ps a b,k,st=>(match E.opd st.t x with
  | .fn g first caps=>(match qtp E.iter g f k&&q8A E.iter f&&qyW st with
   | true=>(rangeH g (qvM (yY E callH callS rangeH f a (k+1)) (yY E callH callS rangeH f b (k+1+zT a)) ps.toList) (first++[.yld]++caps) st).bind qBP
   | false=>.fail)
  | _=>.fail)
 | _,_,_=>.fail
def qoP(E:Env)(h:List Blk)(t:List AV):List ResultVar->Option (List AV)
 | []=>some []
 | .tmp i::l=>match qoP E h t l with|some r=>some (t.getD i .undef::r)|none=>none
 | .cell a ty::l=>match (qgv E h ty (t.getD a .undef)),qoP E h t l with
  | .leaf (v,_,_),some r=>some (v::r)
  | _,_=>none
def qCY:List AV->AV
 | [v]=>v
 | l=>.tuple l
def qFP(E:Env)(fn:Func)(r:Ex×St):Tree (AV×St):=
 match r.1 with
 | .exit _=>.fail
 | _=>match qoP E r.2.h r.2.t fn.results.toList,r.2.fs with
  | some vs,caller::fs=>.leaf (qCY vs,{ t:=caller,fs:=fs,h:=r.2.h,pend:=r.2.pend })
  | _,_=>.fail
def qAi(fn:Func)(args:List AV):List AV:=args++List.replicate (fn.ntmps-args.length) .skip
def qav(E:Env)(h:List Blk):q7w:=fun f args=>
 match E.spec.find? fun x=>x.1==f with
 | none=>.fail
 | some G=>if (args.flatMap w9).all (qkf h)/\(AV.menL (AV.lendL h args)).isEmpty then
   (G.2 (AV.lendL h args) []).bind fun r=>match r.2 with|[]=>if (r.1.men).isEmpty then .leaf r.1 else .fail|_=>.fail
  else .fail
def qsO(E:Env)(h:List Blk)(all:Array Oper):Nat->List Oper->List AV->Tree (List AV)
 | _,[],t=>.leaf t
 | k,o::rest,t=>match q6Z all o t with
  | some true=>(match qdd E o.op with
   | true=>(qpl E h (E.opd t) o.op).bind fun r=>(qrV all k o { t:=qjp t o.dst r.1,fs:=[],h:=h,pend:=none }).bind fun s=>qsO E h all (k+1) rest s.t
   | false=>.fail)
  | some false=>qsO E h all (k+1) rest (qjp t o.dst .skip)
  | none=>.fail
def q2j(E:Env)(h:List Blk)(f:FuncId):Code->Nat->List AV->Tree (Ex×List AV)
 | .skip,_,t=>.leaf (.normal,t)
 | .label _,_,t=>.leaf (.normal,t)
 | .region _ ops draw,_,t=>(match draw with
  | true=>.fail
  | false=>(match qI4 E ops.toList t with
   | some _=>.fail
   | none=>(qsO E h ops 0 ops.toList t).bind fun t=>.leaf (.normal,t)))
 | .seq a b,k,t=>(match q9P E.loops f k with
  | some _=>.fail
  | none=>(q2j E h f a (k+1) t).bind fun r=>match r.1 with
   | .normal=>q2j E h f b (k+1+zT a) r.2
   | e=>.leaf (e,r.2))
 | .cond c a b,k,t=>(match E.opd t c with
  | .blit true=>q2j E h f a k t
  | .blit false=>q2j E h f b (k+zT a) t
  | .bool x=>(match c with
   | .tmp d=>.br x (q2j E h f a k (t.set d (.blit true))) (q2j E h f b (k+zT a) (t.set d (.blit false)))
   | _=>.fail)
  | _=>.fail)
 | .block id c,k,t=>(q2j E h f c k t).bind fun r=>match r.1 with
  | .exit i=>if i=id then .leaf (.normal,r.2) else .leaf (.exit i,r.2)
  | e=>.leaf (e,r.2)
 | .exit id,_,t=>.leaf (.exit id,t)
 | .ret,_,t=>.leaf (.ret,t)
 | _,_,_=>.fail
def qyS(E:Env)(h:List Blk)(f:FuncId)(fn:Func)(args:List AV):Tree AV:=
 match fn.body with
 | none=>.fail
 | some c=>(q2j E h f c 0 (qAi fn args)).bind fun r=>match r.1 with
  | .exit _=>.fail
  | _=>(match qoP E h r.2 fn.results.toList with
   | some vs=>.leaf (qCY vs)
   | none=>.fail)
def q8N(E:Env)(h:List Blk):q7w:=fun f args=>
 match E.spec.find? fun x=>x.1==f with
 | some _=>qav E h f args
 | none=>(match E.body.find? fun x=>x.1==f with
  | some fn=>(match q8A E.iter f with
   | true=>qyS E h f fn.2 args
   | false=>.fail)
  | none=>.fail)
def qvo:List Blk->q7w:=fun _ _ _=>.fail
def que(E:Env)(callS:List Blk->q7w)(callH:q97)(rangeH:qe4)(f:FuncId)(fn:Func)(args:List AV)(st:St):Tree (AV×St):=
 match fn.body with
 | none=>.fail
 | some c=>(yY E callH callS rangeH f c 0 { t:=qAi fn args,fs:=st.t::st.fs,h:=st.h,pend:=st.pend }).bind (qFP E fn)
def qzR(E:Env)(callH:q97)(rangeH:qe4)(f:FuncId)(fn:Func)(args:List AV)(st:St):Tree (AV×St):=
 match fn.body with
 | none=>.fail
 | some c=>(yY E callH (q8N E) rangeH f c 0 { t:=qAi fn args,fs:=st.t::st.fs,h:=st.h,pend:=st.pend }).bind (qFP E fn)
def qu9:qe4:=fun _ _ _ _=>.fail
def qkj(E:Env)(callH:q97):qe4:=fun g y args st=>match E.body.find? fun x=>x.1==g with
 | some fn=>qzR E (qF3 y callH) qu9 g fn.2 args st
 | none=>.fail
def qCP(_:Env)(_:TypeId)(_:List AV)(_:St):Tree (AV×St):=.fail
def q9C(E:Env):Nat->q97
  | 0=>fun _ _ _=>.fail
  | n+1=>fun o args st=>match o with
    | none=>.fail
    | some f=>match qIG E f with
     | some e=>qCP E e args st
     | none=>match E.spec.find? fun x=>x.1==f with
      | some G=>q1z G.2 args st
      | none=>match E.body.find? fun x=>x.1==f with
        | some fn=>(match q8A E.iter f with
          | true=>(qzR E (q9C E n) (qkj E (q9C E n)) f fn.2 args st).bind fun r=>.leaf (r.1,{ t:=r.2.t,fs:=r.2.fs,h:=r.2.h,pend:=st.pend })
          | false=>.fail)
        | none=>.fail
def qze(E:Env)(n:Nat)(f:FuncId)(fn:Func):zw:=fun args h=>match q8A E.iter f with
 | true=>(qzR E (q9C E n) (qkj E (q9C E n)) f fn args { t:=[],fs:=[],h:=h,pend:=none }).bind fun r=>.leaf (r.1,r.2.h)
 | false=>.fail
variable {l:R}{sh:List Sh}{v:Value}{w:World}
theorem Tree.run_bind {α β:Type}(t:Tree α)(f:α->Tree β):(t.bind f).run=t.run.bind fun a=>(f a).run:=by
 induction t with
 | leaf a=>rfl
 | br b t e iht ihe=>cases b<;>simp[Tree.bind,Tree.run,iht,ihe]
 | fail=>rfl
theorem bind_some {α β:Type}{t:Tree α}{f:α->Tree β}{b:β}(h:(t.bind f).run=some b):∃a,t.run=some a/\(f a).run=some b:=by
 rw[Tree.run_bind] at h;cases ht:t.run with
 | none=>rw[ht] at h;cases h
 | some a=>rw[ht] at h;exact⟨a,rfl,h⟩
inductive RepU (w:World) (M:Nat->Prop):Sh->U->Value->Prop
 | int (k:IntKind) (u:U):RepU w M (.int k) u (.int k u.toI)
 | bool (u:U):RepU w M .bool u (.bool u.toB)
 | str (u:U):RepU w M .str u (.string ⟨u.toS.toArray⟩)
 | slnil (row:List Sh) (u:U) (h:u.toR=[]):RepU w M (.sl row) u (.slice none 0 0)
 | sl (row:List Sh) (u:U) (a:Addr) (cap:Nat) (vs:Nat->Nat->Value) (hsp:0<u.toR.length->a.spot=none) (hcap:u.toR.length<=cap)
   (hM:∀r j,r<u.toR.length->j<row.length->M a.block)
   (hc:∀r j,r<u.toR.length->j<row.length->w.cell? ⟨a.block,a.off+r*row.length+j,none⟩=some (vs r j))
   (hr:∀r j (hj:j<row.length),r<u.toR.length->RepU w M row[j] (wD u.toR r j) (vs r j)) :
   RepU w M (.sl row) u (.slice (some a) u.toR.length cap)
def Rows(w:World)(M:Nat->Prop)(sh:List Sh)(l:R)(a:Addr):Prop:=∀r j (hj:j<sh.length),r<l.length->M a.block/\∃v,w.cell? ⟨a.block,a.off+r*sh.length+j,none⟩=some v/\RepU w M sh[j] (wD l r j) v
def qfC(w:World)(M:Nat->Prop)(sh:List Sh)(l:R)(v:Value):Prop:=(v=.slice none 0 0/\l=[])\/∃a cap,v=.slice (some a) l.length cap/\(0<l.length->a.spot=none)/\l.length<=cap/\Rows w M sh l a
theorem qls {M:Nat->Prop}{row:List Sh}{u:U}(h:RepU w M (.sl row) u v):qfC w M row u.toR v:=by
 cases h with
 | slnil _ _ h=>exact .inl ⟨rfl,h⟩
 | sl _ _ a cap vs hsp hcap hM hc hr=>exact .inr ⟨a,cap,rfl,hsp,hcap,fun r j hj hrr=>⟨hM r j hrr hj,vs r j,hc r j hrr hj,hr r j hj hrr⟩⟩
open Classical in
theorem qag {M:Nat->Prop}{row:List Sh}(h:qfC w M row l v):RepU w M (.sl row) (.l l) v:=by
 rcases h with⟨rfl,rfl⟩|⟨a,cap,rfl,hsp,hcap,hr⟩
 ·exact .slnil _ _ rfl
 ·exact .sl row (.l l) a cap (fun r j=>if h:∃hj:j<row.length,r<l.length then Classical.choose (hr r j h.1 h.2).2 else undef) hsp hcap
   (fun r j h1 h2=>(hr r j h2 h1).1)
   (fun r j h1 h2=>by rw[dif_pos ⟨h2,h1⟩];exact(Classical.choose_spec (hr r j h2 h1).2).1)
   (fun r j h2 h1=>by rw[dif_pos ⟨h2,h1⟩];exact(Classical.choose_spec (hr r j h2 h1).2).2)
theorem RepU.mono {w w':World}{M M':Nat->Prop}{s:Sh}{u:U}(h:RepU w M s u v)(hM:∀n,M n->M' n) (hw:∀a:Addr,M a.block->w'.cell? a=w.cell? a):RepU w' M' s u v:=by
 induction h with
 | int=>exact .int _ _
 | bool=>exact .bool _
 | str=>exact .str _
 | slnil row u h=>exact .slnil _ _ h
 | sl row u a cap vs hsp hcap h1 hc hr ih=>
  exact .sl row u a cap vs hsp hcap (fun r j h2 h3=>hM _ (h1 r j h2 h3)) (fun r j h2 h3=>by rw[hw ⟨a.block,a.off+r*row.length+j,none⟩ (h1 r j h2 h3)];exact hc r j h2 h3) ih
theorem Rows.mono {w w':World}{M M':Nat->Prop}{a:Addr}(h:Rows w M sh l a)(hM:∀n,M n->M' n) (hw:∀a:Addr,M a.block->w'.cell? a=w.cell? a):Rows w' M' sh l a:=by intro r j hj hr;obtain⟨h1,v,h2,h3⟩:=h r j hj hr;exact⟨hM _ h1,v,by rw[hw ⟨a.block,_,none⟩ h1];exact h2,h3.mono hM hw⟩
theorem qfC.mono {w w':World}{M M':Nat->Prop}(h:qfC w M sh l v)(hM:∀n,M n->M' n) (hw:∀a:Addr,M a.block->w'.cell? a=w.cell? a):qfC w' M' sh l v:=by
 rcases h with h|⟨a,cap,h1,h2,hc,h3⟩
 ·exact .inl h
 ·exact .inr ⟨a,cap,h1,h2,hc,h3.mono hM hw⟩
structure Ctx where
 σ:Nat->Option Nat
 h:List Blk
 w:World
 M:Nat->Prop
 kept:List (Nat×Obj):=[]
 y:Nat:=0
def Ctx.isVec(X:Ctx)(b:Nat)(sh:List Sh)(n:Nat):Prop:=∃e l,(X.h[b]?=some (.vec e sh l)\/X.h[b]?=some (.frz e sh l))/\l.length=n
def qvs(X:Ctx)(b:Nat)(sh:List Sh)(m:Nat)(v:Value):Prop:=
 match X.σ b with
 | none=>∃p,v=.slice p 0 0
 | some n=>∃cap,v=.slice (some ⟨n,0,none⟩) m cap/\m<=cap/\cap<=maxLen/\∃c T fr,X.w.heap[n]?=some (.cells c T fr)/\c.size=cap*sh.length
def q1p(k:IntKind)(l:R):List Value:=l.map fun row=>.int k (row.getD 0 (.i 0)).toI
theorem uF (k:IntKind)(l:R):(q1p k l).length=l.length:=by simp[q1p]
theorem qhf {k:IntKind}{i:Nat}(h:i<l.length):(q1p k l)[i]?=some (.int k (cI l i 0)):=by simp[q1p,cI,wD,h]
mutual
inductive Rep (X:Ctx):AV->Value->Prop
 | undef (v:Value):Rep X .undef v
 | skip:Rep X .skip Go.undef
 | yld:Rep X .yld (.func (.yield X.y) #[] #[])
 | blit (b:Bool):Rep X (.blit b) (.bool b)
 | bool (b:Bool):Rep X (.bool b) (.bool b)
 | ilit (k:IntKind) (n:Int):Rep X (.ilit k n) (.int k n)
 | int (k:IntKind) (n:Int):Rep X (.int k n) (.int k n)
 | str (s:qLp):Rep X (.str s) (.string ⟨s.toArray⟩)
 | nilp:Rep X .nilp (.pointer none)
 | ptr (b off n:Nat) (hb:b<X.h.length) (hσ:X.σ b=some n):Rep X (.ptr b off) (.pointer (some ⟨n,off,none⟩))
 | eptr (sh:List Sh) (l:R) (i:Int) (off:Nat) (a:Addr) (hsp:a.spot=none) (h0:0<=i) (h1:i.toNat<l.length) (hr:Rows X.w X.M sh l a) :
   Rep X (.eptr sh l i off) (.pointer (some ⟨a.block,a.off+i.toNat*sh.length+off,none⟩))
 | mnil (sh:List Sh) (l:R) (i:Int) (off:Nat):Rep X (.mptr false sh l i off) (.pointer none)
 | mptr (sh:List Sh) (l:R) (i:Int) (off:Nat) (a:Addr) (hsp:a.spot=none) (h0:0<=i) (h1:i.toNat<l.length) (hr:Rows X.w X.M sh l a) :
   Rep X (.mptr true sh l i off) (.pointer (some ⟨a.block,a.off+i.toNat*sh.length+off,none⟩))
 | vptr (b:Nat) (i:Int) (off n k:Nat) (hb:b<X.h.length) (hσ:X.σ b=some n)
   (h:∀sh m,X.isVec b sh m->0<=i/\i.toNat<m/\k=i.toNat*sh.length):Rep X (.vptr b i off) (.pointer (some ⟨n,k+off,none⟩))
 | vsub (b:Nat) (i:Int) (n k m c:Nat) (hb:b<X.h.length) (hσ:X.σ b=some n)
   (h:∀sh m',X.isVec b sh m'->0<=i/\i.toNat<=m'/\(k=i.toNat*sh.length\/(m=0/\k=0))/\m=m'-i.toNat):Rep X (.vsub b i) (.slice (some ⟨n,k,none⟩) m c)
 | aptr (b o:Nat) (i:Int) (n:Nat) (hb:b<X.h.length) (hσ:X.σ b=some n) (h0:0<=i):Rep X (.aptr b o i) (.pointer (some ⟨n,o+i.toNat,none⟩))
 | asub (b o N:Nat) (i m:Int) (n k c:Nat) (hb:b<X.h.length) (hσ:X.σ b=some n) (h0:0<=i) (h1:0<=m) (h2:i+m<=N) (hk:k=o+i.toNat\/m=0):Rep X (.asub b o N i m) (.slice (some ⟨n,k,none⟩) m.toNat c)
 | nils:Rep X .nils (.slice none 0 0)
 | imm (sh:List Sh) (l:R) (v:Value) (h:qfC X.w X.M sh l v):Rep X (.imm sh l) v
 | full (sh:List Sh) (l:R) (p:Option Addr) (n:Nat) (h:qfC X.w X.M sh l (.slice p n n)):Rep X (.full sh l) (.slice p n n)
 | vec (b:Nat) (p:Option Addr) (n c:Nat) (hb:b<X.h.length) (h:∀sh m,X.isVec b sh m->qvs X b sh m (.slice p n c)):Rep X (.vec b) (.slice p n c)
 | nilf:Rep X .nilf .nilFunc
 | fn (f:FuncId) (first caps:List AV) (vf vc:List Value) (h1:RepL X first vf) (h2:RepL X caps vc):Rep X (.fn f first caps) (.func (.func f) vf.toArray vc.toArray)
 | agg (cs:List AV) (vs:List Value) (h:RepL X cs vs):Rep X (.agg cs) (.agg vs.toArray)
 | tuple (cs:List AV) (vs:List Value) (h:RepL X cs vs):Rep X (.tuple cs) (.tuple vs.toArray)
 | bagg (cs:List AV) (k:IntKind) (n:Nat) (l:R) (vs:List Value) (h:RepL X cs vs) (hl:l.length=n):Rep X (.bagg cs k n l) (.agg (vs++q1p k l).toArray)
inductive RepL (X:Ctx):List AV->List Value->Prop
 | nil:RepL X [] []
 | cons {a:AV} {v:Value} {azz:List AV} {vs:List Value} (h:Rep X a v) (t:RepL X azz vs):RepL X (a::azz) (v::vs)
end
structure MoveB (X X':Ctx) (b b':Nat):Prop where
 lt:b'<X'.h.length
 σ:X'.σ b'=X.σ b
 vec:∀sh m,X'.isVec b' sh m->X.isVec b sh m
 size:∀sh m,X'.isVec b' sh m->∀n,X.σ b=some n->∀c T fr,X.w.heap[n]?=some (.cells c T fr)->∃c' T' fr',X'.w.heap[n]?=some (.cells c' T' fr')/\c'.size=c.size
structure Move0 (X X':Ctx) (f:Nat->Option Nat):Prop where
 M:∀n,X.M n->X'.M n
 w:∀a:Addr,X.M a.block->X'.w.cell? a=X.w.cell? a
 b:∀b b',b<X.h.length->f b=some b'->MoveB X X' b b'
 y:X'.y=X.y
structure Move (X X':Ctx) (f:Nat->Option Nat):Prop extends Move0 X X' f where
 kept:X'.kept=X.kept
theorem Move.of {X X':Ctx}{f:Nat->Option Nat}(M:∀n,X.M n->X'.M n)(w:∀a:Addr,X.M a.block->X'.w.cell? a=X.w.cell? a)(b:∀b b',b<X.h.length->f b=some b'->MoveB X X' b b') (y:X'.y=X.y:=by rfl) (k:X'.kept=X.kept:=by rfl):Move X X' f:=⟨⟨M,w,b,y⟩,k⟩
mutual
theorem Rep.ren{X X':Ctx}{f:Nat->Option Nat}(hm:Move0 X X' f):∀{av:AV} {v:Value},Rep X av v->Rep X' (av.ren f) v
 | _,_,.undef v=>.undef v
 | _,_,.skip=>.skip
 | _,_,.yld=>by rw[<-hm.y];exact .yld
 | _,_,.blit b=>.blit b
 | _,_,.bool b=>.bool b
 | _,_,.ilit k n=>.ilit k n
 | _,_,.int k n=>.int k n
 | _,_,.str s=>.str s
 | _,_,.nilp=>.nilp
 | _,_,.ptr b off n hb hσ=>by
  unfold AV.ren;cases hf:f b with
  | none=>exact .undef _
  | some b'=>exact .ptr b' off n (hm.b b b' hb hf).lt (by rw[(hm.b b b' hb hf).σ];exact hσ)
 | _,_,.eptr sh l i off a hsp h0 h1 hr=>.eptr sh l i off a hsp h0 h1 (hr.mono hm.M hm.w)
 | _,_,.mnil sh l i off=>.mnil sh l i off
 | _,_,.mptr sh l i off a hsp h0 h1 hr=>.mptr sh l i off a hsp h0 h1 (hr.mono hm.M hm.w)
 | _,_,.vptr b i off n k hb hσ h=>by
  unfold AV.ren;cases hf:f b with
  | none=>exact .undef _
  | some b'=>exact .vptr b' i off n k (hm.b b b' hb hf).lt (by rw[(hm.b b b' hb hf).σ];exact hσ) fun sh m hv=>h sh m ((hm.b b b' hb hf).vec sh m hv)
 | _,_,.vsub b i n k m c hb hσ h=>by
  unfold AV.ren;cases hf:f b with
  | none=>exact .undef _
  | some b'=>exact .vsub b' i n k m c (hm.b b b' hb hf).lt (by rw[(hm.b b b' hb hf).σ];exact hσ) fun sh m' hv=>h sh m' ((hm.b b b' hb hf).vec sh m' hv)
 | _,_,.aptr b o i n hb hσ h0=>by
  unfold AV.ren;cases hf:f b with
  | none=>exact .undef _
  | some b'=>exact .aptr b' o i n (hm.b b b' hb hf).lt (by rw[(hm.b b b' hb hf).σ];exact hσ) h0
 | _,_,.asub b o N i m n k c hb hσ h0 h1 h2 hk=>by
  unfold AV.ren;cases hf:f b with
  | none=>exact .undef _
  | some b'=>exact .asub b' o N i m n k c (hm.b b b' hb hf).lt (by rw[(hm.b b b' hb hf).σ];exact hσ) h0 h1 h2 hk
 | _,_,.nils=>.nils
 | _,_,.imm sh l v h=>.imm sh l v (h.mono hm.M hm.w)
 | _,_,.full sh l p n h=>.full sh l p n (h.mono hm.M hm.w)
 | _,_,.vec b p nn cc hb h=>by
  unfold AV.ren;cases hf:f b with
  | none=>exact .undef _
  | some b'=>
   refine .vec b' p nn cc (hm.b b b' hb hf).lt fun sh m hv=>?_;have h1:=h sh m ((hm.b b b' hb hf).vec sh m hv);unfold qvs at *;rw[(hm.b b b' hb hf).σ];cases hs:X.σ b with
   | none=>rw[hs] at h1;exact h1
   | some n=>
    rw[hs] at h1;obtain⟨cap,e1,e2,e2',c,T,fr,e3,e4⟩:=h1;obtain⟨c',T',fr',e5,e6⟩:=(hm.b b b' hb hf).size sh m hv n hs c T fr e3;exact⟨cap,e1,e2,e2',c',T',fr',e5,e6.trans e4⟩
 | _,_,.nilf=>.nilf
 | _,_,.fn g first caps vf vc h1 h2=>.fn g _ _ vf vc (RepL.ren hm h1) (RepL.ren hm h2)
 | _,_,.agg cs vs h=>.agg _ vs (RepL.ren hm h)
 | _,_,.tuple cs vs h=>.tuple _ vs (RepL.ren hm h)
 | _,_,.bagg cs k n l vs h hl=>.bagg _ k n l vs (RepL.ren hm h) hl
theorem RepL.ren{X X':Ctx}{f:Nat->Option Nat}(hm:Move0 X X' f):∀{av:List AV} {v:List Value},RepL X av v->RepL X' (AV.renL f av) v
 | _,_,.nil=>.nil
 | _,_,.cons h t=>.cons (Rep.ren hm h) (RepL.ren hm t)
end
mutual
theorem AV.ren_some:∀av:AV,av.ren some=av
 | .undef|.skip|.yld|.blit _|.bool _|.ilit _ _|.int _ _|.str _|.nilp|.eptr _ _ _ _|.mptr _ _ _ _ _|.nils|.imm _ _|.full _ _|.nilf=>rfl
 | .ptr _ _=>rfl
 | .vptr _ _ _=>rfl
 | .vsub _ _=>rfl
 | .aptr _ _ _=>rfl
 | .asub _ _ _ _ _=>rfl
 | .vec _=>rfl
 | .fn g first caps=>by simp[AV.ren,AV.renL_some first,AV.renL_some caps]
 | .agg cs=>by simp[AV.ren,AV.renL_some cs]
 | .tuple cs=>by simp[AV.ren,AV.renL_some cs]
 | .bagg cs k n l=>by simp[AV.ren,AV.renL_some cs]
theorem AV.renL_some:∀l:List AV,AV.renL some l=l
 | []=>rfl
 | a::l=>by simp[AV.renL,AV.ren_some a,AV.renL_some l]
end
abbrev Ext(X X':Ctx):Prop:=Move X X' some
theorem Rep.ext {X X':Ctx}(hm:Ext X X'){av:AV}(h:Rep X av v):Rep X' av v:=by have:=h.ren hm.toMove0;rwa [AV.ren_some] at this
theorem RepL.ext {X X':Ctx}(hm:Ext X X'){av:List AV}{v:List Value}(h:RepL X av v):RepL X' av v:=by have:=h.ren hm.toMove0;rwa [AV.renL_some] at this
theorem RepL.length{X:Ctx}:∀{azz:List AV} {vs:List Value},RepL X azz vs->azz.length=vs.length
 | _,_,.nil=>rfl
 | _,_,.cons _ t=>by simp[RepL.length t]
theorem RepL.get{X:Ctx}:∀{azz:List AV} {vs:List Value} (_:RepL X azz vs) (i:Nat) (a:AV),azz[i]?=some a->∃v,vs[i]?=some v/\Rep X a v
 | _,_,.nil,i,a,h=>by simp at h
 | _,_,.cons h _,0,a,e=>by simp at e;subst e;exact⟨_,by simp,h⟩
 | _,_,.cons _ t,i+1,a,e=>by
  obtain⟨v,h1,h2⟩:=RepL.get t i a (by simpa using e);exact⟨v,by simpa using h1,h2⟩
theorem RepL.getD {X:Ctx}{azz:List AV}{vs:List Value}(h:RepL X azz vs)(i:Nat):Rep X (azz.getD i .undef) (vs.getD i Go.undef):=by
 cases e:azz[i]? with
 | none=>
  have:azz.getD i .undef=.undef:=by simp[e]
  rw[this];exact .undef _
 | some a=>
  obtain⟨v,h1,h2⟩:=h.get i a e;simp[e,h1];exact h2
theorem RepL.append{X:Ctx}:∀{azz:List AV} {vs:List Value} {bs:List AV} {us:List Value},RepL X azz vs->RepL X bs us->RepL X (azz++bs) (vs++us)
 | _,_,_,_,.nil,h=>h
 | _,_,_,_,.cons h t,h'=>.cons h (RepL.append t h')
theorem RepL.take{X:Ctx}:∀{azz:List AV} {vs:List Value},RepL X azz vs->∀n,RepL X (azz.take n) (vs.take n)
 | _,_,.nil,n=>by simp;exact .nil
 | _,_,.cons h t,0=>by simp;exact .nil
 | _,_,.cons h t,n+1=>by simp;exact .cons h (RepL.take t n)
theorem RepL.drop{X:Ctx}:∀{azz:List AV} {vs:List Value},RepL X azz vs->∀n,RepL X (azz.drop n) (vs.drop n)
 | _,_,.nil,n=>by simp;exact .nil
 | _,_,.cons h t,0=>by simp;exact .cons h t
 | _,_,.cons h t,n+1=>by simp;exact RepL.drop t n
theorem RepL.set{X:Ctx}{a:AV}{v:Value}(hv:Rep X a v):∀{azz:List AV} {vs:List Value},RepL X azz vs->∀n,RepL X (azz.set n a) (vs.set n v)
 | _,_,.nil,n=>by simp;exact .nil
 | _,_,.cons h t,0=>by simp;exact .cons hv t
 | _,_,.cons h t,n+1=>by simp;exact .cons h (RepL.set hv t n)
def qx4(w:World)(M:Nat->Prop)(sh:List Sh)(l:R)(c:Array Value):Prop:=∀r j (hj:j<sh.length),r<l.length->∃v,c[r*sh.length+j]?=some v/\RepU w M sh[j] (wD l r j) v
theorem qx4.mono {w w':World}{M M':Nat->Prop}{c:Array Value}(h:qx4 w M sh l c)(hM:∀n,M n->M' n) (hw:∀a:Addr,M a.block->w'.cell? a=w.cell? a):qx4 w' M' sh l c:=by intro r j hj hr;obtain⟨v,h2,h3⟩:=h r j hj hr;exact⟨v,h2,h3.mono hM hw⟩
def jJ(X:Ctx)(b:Nat):Blk->Prop
 | .cells cs=>∃n c T,X.σ b=some n/\X.w.heap[n]?=some (.cells c T (0,0))/\RepL X cs c.toList
 | .big cs k N l=>∃n c T vs,X.σ b=some n/\X.w.heap[n]?=some (.cells c T (0,0))/\RepL X cs vs/\c.toList=vs++q1p k l/\l.length=N
 | .vec e sh l=>(X.σ b=none/\l=[])\/∃n c,X.σ b=some n/\X.w.heap[n]?=some (.cells c e (0,0))/\qx4 X.w X.M sh l c
 | .frz e sh l=>(X.σ b=none/\l=[])\/∃n c,X.σ b=some n/\X.w.heap[n]?=some (.cells c e (0,0))/\qx4 X.w X.M sh l c/\X.M n
 | .dead=>True
def Blk.mut:Blk->Bool
 | .cells _|.vec _ _ _|.big _ _ _ _=>true
 | _=>false
def Blk.solid:Blk->Bool
 | .cells _|.big _ _ _ _=>true
 | _=>false
def Ctx.own(X:Ctx)(b n:Nat):Prop:=X.σ b=some n/\∃k,X.h[b]?=some k/\k.mut=true
structure Base where
 w0:World
 imps:List (Option Nat)
 M0:Nat->Prop
 fs:List (List Value)
 ro:Option Nat:=none
 y:Nat:=0
 pin:Option Ex->List (Nat×Obj):=fun _=>[]
theorem Rep.ext0 {X X':Ctx}(hm:Move0 X X' some){av:AV}(h:Rep X av v):Rep X' av v:=by have:=h.ren hm;rwa [AV.ren_some] at this
theorem RepL.ext0 {X X':Ctx}(hm:Move0 X X' some){av:List AV}{v:List Value}(h:RepL X av v):RepL X' av v:=by have:=h.ren hm;rwa [AV.renL_some] at this
structure HSim (B:Base) (X:Ctx):Prop where
 blk:∀b k,X.h[b]?=some k->jJ X b k
 inj:∀b b' n,X.own b n->X.own b' n->b=b'
 notM:∀b n,X.own b n->¬X.M n
 ltM:∀n,X.M n->n<X.w.heap.size
 M0:∀n,B.M0 n->X.M n
 newM:∀n,X.M n->B.M0 n\/B.w0.heap.size<=n
 os:X.w.os=B.w0.os
 tape:X.w.tape=B.w0.tape
 output:X.w.output=B.w0.output
 size:B.w0.heap.size<=X.w.heap.size
 frame:∀n,n<B.w0.heap.size->some n∉B.imps->X.w.heap[n]?=B.w0.heap[n]?
 imps:∀b,b<B.imps.length->X.σ b=(B.imps[b]?).join
 impc:∀b,b<B.imps.length->∃k,X.h[b]?=some k/\k.solid=true
 fresh:∀b n,X.own b n->B.imps.length<=b->B.w0.heap.size<=n
 kept:∀p,p∈X.kept->X.w.heap[p.1]?=some p.2/\(∀c T fr,p.2≠.cells c T fr)/\B.w0.heap.size<=p.1
theorem Ctx.own.lt {B:Base}{X:Ctx}(hs:HSim B X){b n:Nat}(h:X.own b n):n<X.w.heap.size:=by
 obtain⟨h1,k,h2,h3⟩:=h;have:=hs.blk b k h2;cases k with
 | cells cs=>
  obtain⟨n',c,T,e1,e2,_⟩:=this;rw[h1] at e1;cases e1;exact(qLw.1 e2).1
 | big cs k N l=>
  obtain⟨n',c,T,vs,e1,e2,_⟩:=this;rw[h1] at e1;cases e1;exact(qLw.1 e2).1
 | vec e sh l=>
  rcases this with⟨e1,_⟩|⟨n',c,e1,e2,_⟩
  ·rw[h1] at e1;cases e1
  ·rw[h1] at e1;cases e1;exact(qLw.1 e2).1
 | frz e sh l=>cases h3
 | dead=>cases h3
theorem Ctx.own.cells {B:Base}{X:Ctx}(hs:HSim B X){b n:Nat}(h:X.own b n):∃c T fr,X.w.heap[n]?=some (.cells c T fr):=by
 obtain⟨h1,k,h2,h3⟩:=h;have:=hs.blk b k h2;cases k with
 | cells cs=>
  obtain⟨n',c,T,e1,e2,_⟩:=this;rw[h1] at e1;cases e1;exact⟨_,_,_,e2⟩
 | big cs k N l=>
  obtain⟨n',c,T,vs,e1,e2,_⟩:=this;rw[h1] at e1;cases e1;exact⟨_,_,_,e2⟩
 | vec e sh l=>
  rcases this with⟨e1,_⟩|⟨n',c,e1,e2,_⟩
  ·rw[h1] at e1;cases e1
  ·rw[h1] at e1;cases e1;exact⟨_,_,_,e2⟩
 | frz e sh l=>cases h3
 | dead=>cases h3
theorem zZ {n:Nat}{c:Array Value}{T:TypeId}{fr:Nat×Nat}(h:w.heap[n]?=some (.cells c T fr))(off:Nat):w.cell? ⟨n,off,none⟩=c[off]?:=by simp[World.cell?,h]
end Go.Eng

namespace Go.Eng
variable {B:Base}{X:Ctx}{b:Nat}{e:TypeId}{l:R}{sh:List Sh}{w':World}
theorem Blk.mut_ren (f:Nat->Option Nat)(k:Blk):(k.ren f).mut=k.mut:=by cases k<;>rfl
theorem Blk.solid_ren (f:Nat->Option Nat)(k:Blk):(k.ren f).solid=k.solid:=by cases k<;>rfl
theorem Blk.ren_some (k:Blk):k.ren some=k:=by cases k<;>simp[Blk.ren,AV.renL_some]
theorem HSim.hlen (hs:HSim B X):B.imps.length<=X.h.length:=by
 rcases qLy X.h.length B.imps.length with h|h
 ·obtain⟨cs,e,_⟩:=hs.impc X.h.length h;rw[qLS (qLs _)] at e;cases e
 ·exact h
theorem jJ.move {X X':Ctx}{f:Nat->Option Nat}(hm:Move0 X X' f){b b':Nat}{k:Blk}(hσ:X'.σ b'=X.σ b)(hw:∀n,X.σ b=some n->X'.w.heap[n]?=X.w.heap[n]?) (h:jJ X b k):jJ X' b' (k.ren f):=by
 cases k with
 | cells cs=>
  obtain⟨n,c,T,e1,e2,e3⟩:=h;exact⟨n,c,T,by rw[hσ];exact e1,by rw[hw n e1];exact e2,e3.ren hm⟩
 | big cs k N l=>
  obtain⟨n,c,T,vs,e1,e2,e3,e4,e5⟩:=h;exact⟨n,c,T,vs,by rw[hσ];exact e1,by rw[hw n e1];exact e2,e3.ren hm,e4,e5⟩
 | vec e sh l=>
  rcases h with⟨e1,e2⟩|⟨n,c,e1,e2,e3⟩
  ·exact .inl ⟨by rw[hσ];exact e1,e2⟩
  ·exact .inr ⟨n,c,by rw[hσ];exact e1,by rw[hw n e1];exact e2,e3.mono hm.M hm.w⟩
 | frz e sh l=>
  rcases h with⟨e1,e2⟩|⟨n,c,e1,e2,e3,e4⟩
  ·exact .inl ⟨by rw[hσ];exact e1,e2⟩
  ·exact .inr ⟨n,c,by rw[hσ];exact e1,by rw[hw n e1];exact e2,e3.mono hm.M hm.w,hm.M n e4⟩
 | dead=>trivial
theorem jJ.ext {X X':Ctx}(hm:Ext X X'){k:Blk}(hσ:X'.σ b=X.σ b)(hw:∀n,X.σ b=some n->X'.w.heap[n]?=X.w.heap[n]?) (h:jJ X b k):jJ X' b k:=by
 have:=jJ.move hm.toMove0 (b':=b) hσ hw h
 rwa [Blk.ren_some] at this
theorem HSim.lt (hs:HSim B X){b n:Nat}{k:Blk}(h:X.h[b]?=some k)(hd:k≠.dead)(hn:X.σ b=some n):n<X.w.heap.size:=by
 have:=hs.blk b k h;cases k with
 | cells cs=>
  obtain⟨n',c,T,e1,e2,_⟩:=this;rw[hn] at e1;cases e1;exact(qLw.1 e2).1
 | big cs k N l=>
  obtain⟨n',c,T,vs,e1,e2,_⟩:=this;rw[hn] at e1;cases e1;exact(qLw.1 e2).1
 | vec e sh l=>
  rcases this with⟨e1,_⟩|⟨n',c,e1,e2,_⟩<;>rw[hn] at e1<;>cases e1;exact(qLw.1 e2).1
 | frz e sh l=>
  rcases this with⟨e1,_⟩|⟨n',c,e1,e2,_⟩<;>rw[hn] at e1<;>cases e1;exact(qLw.1 e2).1
 | dead=>exact absurd rfl hd
def Ctx.pushW(X:Ctx)(k:Blk)(s':Option Nat)(w':World):Ctx:={ σ:=fun b=>if b=X.h.length then s' else X.σ b,h:=X.h++[k],w:=w',M:=X.M,kept:=X.kept,y:=X.y }
structure PushW (X:Ctx) (s':Option Nat) (w':World):Prop where
 old:∀m,m<X.w.heap.size->w'.heap[m]?=X.w.heap[m]?
 size:X.w.heap.size<=w'.heap.size
 os:w'.os=X.w.os
 tape:w'.tape=X.w.tape
 output:w'.output=X.w.output
 new:∀m,s'=some m->X.w.heap.size<=m
theorem wd (w:World)(o:Obj){n:Nat}(h:n<w.heap.size):(w.alloc o).heap[n]?=w.heap[n]?:=by show (w.heap.push o)[n]?=_;rw[Array.getElem?_push,if_neg (by omega)]
theorem wj (w:World)(o:Obj):(w.alloc o).heap[w.heap.size]?=some o:=by show (w.heap.push o)[w.heap.size]?=_;rw[Array.getElem?_push,if_pos rfl]
theorem PushW.alloc (X:Ctx)(o:Obj):PushW X (some X.w.heap.size) (X.w.alloc o):=⟨fun _ h=>wd _ _ h,by simp,rfl,rfl,rfl,fun m h=>by cases h;exact qLs _⟩
theorem PushW.same (X:Ctx):PushW X none X.w:=⟨fun _ _=>rfl,qLs _,rfl,rfl,rfl,fun m h=>by cases h⟩
theorem Ctx.push_ext (hs:HSim B X)(k:Blk){s':Option Nat}(hw:PushW X s' w'):Ext X (X.pushW k s' w'):=by
 refine Move.of (fun _ h=>h) (fun a ha=>qMu (hw.old _ (hs.ltM _ ha))) (fun b b' hb h=>?_);cases h;refine⟨by simp[Ctx.pushW];omega,by simp[Ctx.pushW];omega,fun sh m ⟨e,l,h1,h2⟩=>⟨e,l,?_,h2⟩,fun _ _ _ n hn c T fr hc=>⟨c,T,fr,?_,rfl⟩⟩
 ·simpa[Ctx.pushW,qLB hb] using h1
 ·rw[show (X.pushW k s' w').w=w' from rfl,hw.old _ (qLw.1 hc).1];exact hc
theorem HSim.push (hs:HSim B X){k:Blk}{s':Option Nat}(hw:PushW X s' w')(hk:jJ (X.pushW k s' w') X.h.length k):HSim B (X.pushW k s' w'):=by
 have hx:=Ctx.push_ext hs k hw;have hget:∀b k',(X.pushW k s' w').h[b]?=some k'->b<X.h.length/\X.h[b]?=some k'\/b=X.h.length/\k'=k:=by
  intro b k' h;rcases qLy b X.h.length with hb|hb
  ·exact .inl ⟨hb,by simpa[Ctx.pushW,qLB hb] using h⟩
  ·have:(X.h++[k])[b]?=some k':=h;rw[qLP hb] at this;rcases qN4 hb with hb'|hb'
   ·rw[<-hb'] at this;simp at this;exact .inr ⟨hb'.symm,this.symm⟩
   ·rw[qLS (by simp;omega)] at this;cases this
 have hσ:∀b,b<X.h.length->(X.pushW k s' w').σ b=X.σ b:=fun b hb=>by simp[Ctx.pushW];omega
 have hσn:(X.pushW k s' w').σ X.h.length=s':=by simp[Ctx.pushW]
 have hown:∀b n,(X.pushW k s' w').own b n->X.own b n\/b=X.h.length/\X.w.heap.size<=n:=by
  intro b n ⟨h1,k',h2,h3⟩;rcases hget b k' h2 with⟨hb,h4⟩|⟨rfl,rfl⟩
  ·exact .inl ⟨by rw[<-hσ b hb];exact h1,k',h4,h3⟩
  ·rw[hσn] at h1;exact .inr ⟨rfl,hw.new n h1⟩
 constructor
 ·intro b k' h;rcases hget b k' h with⟨hb,h4⟩|⟨rfl,rfl⟩
  ·by_cases hd:k'=.dead
   ·subst hd;trivial
   ·exact jJ.ext hx (hσ b hb) (fun n hn=>hw.old n (hs.lt h4 hd hn)) (hs.blk b k' h4)
  ·exact hk
 ·intro b b' n h h';rcases hown b n h with h1|⟨g1,g2⟩
  ·rcases hown b' n h' with h2|⟨g3,g4⟩
   ·exact hs.inj b b' n h1 h2
   ·exact absurd (Ctx.own.lt hs h1) (by omega)
  ·rcases hown b' _ h' with h2|⟨g3,_⟩
   ·exact absurd (Ctx.own.lt hs h2) (by omega)
   ·rw[g1,g3]
 ·intro b n h hM;rcases hown b n h with h1|⟨g1,g2⟩
  ·exact hs.notM b n h1 hM
  ·exact absurd (hs.ltM _ hM) (by omega)
 ·intro n h;have:=hs.ltM n h;have:=hw.size;show n<w'.heap.size;omega
 ·exact hs.M0
 ·exact hs.newM
 ·exact hw.os.trans hs.os
 ·exact hw.tape.trans hs.tape
 ·exact hw.output.trans hs.output
 ·have:=hs.size;have:=hw.size;show _<=w'.heap.size;omega
 ·intro n hn hni;have:=hs.size;rw[show (X.pushW k s' w').w=w' from rfl,hw.old _ (by omega)];exact hs.frame n hn hni
 ·intro b hb;have:=hs.hlen;rw[hσ b (by omega)];exact hs.imps b hb
 ·intro b hb;obtain⟨cs,h,hc⟩:=hs.impc b hb;exact⟨cs,by have:=hs.hlen;simpa[Ctx.pushW,qLB (show b<X.h.length by omega)] using h,hc⟩
 ·intro b n h hb;rcases hown b n h with h1|⟨g1,g2⟩
  ·exact hs.fresh b n h1 hb
  ·have:=hs.size;omega
 ·intro p hp;obtain⟨q1,q2,q3⟩:=hs.kept p hp;exact⟨(hw.old _ (qLw.1 q1).1).trans q1,q2,q3⟩
def qgk:Blk->Blk->Prop
 | .cells _,.cells _=>True
 | .big _ _ _ _,.big _ _ _ _=>True
 | .vec e sh l,.vec e' sh' l'=>e=e'/\sh=sh'/\l.length=l'.length
 | _,_=>False
def Ctx.upd(X:Ctx)(b:Nat)(k':Blk)(w':World):Ctx:={ X with h:=X.h.set b k',w:=w' }
structure UpdW (X:Ctx) (n:Nat) (c c':Array Value) (T:TypeId) (w':World):Prop where
 old:X.w.heap[n]?=some (.cells c T (0,0))
 new:w'.heap[n]?=some (.cells c' T (0,0))
 sz:c'.size=c.size
 other:∀m,m≠n->w'.heap[m]?=X.w.heap[m]?
 size:w'.heap.size=X.w.heap.size
 os:w'.os=X.w.os
 tape:w'.tape=X.w.tape
 output:w'.output=X.w.output
theorem UpdW.setRow {n:Nat}{c c':Array Value}{T:TypeId}(h:X.w.heap[n]?=some (.cells c T (0,0)))(hs:c'.size=c.size):UpdW X n c c' T (X.w.setRow n c'):=⟨h,setRow_heap _ _ _ _ _ _ h,hs,fun m hm=>setRow_other _ _ _ _ hm,by simp,rfl,rfl,rfl⟩
theorem q80 {α:Type}{l:List α}{k:α}(hb:b<l.length){b':Nat}{x:α}(h:(l.set b k)[b']?=some x):b'=b/\x=k\/b'≠b/\l[b']?=some x:=by
 rcases Nat.decEq b' b with hne|rfl
 ·right;rw[qLt (qLX hne)] at h;exact⟨hne,h⟩
 ·left;rw[qLL hb] at h;cases h;exact⟨rfl,rfl⟩
theorem qv {α:Type}{l:List α}{x:α}(h:l[b]?=some x):b<l.length:=by
 rcases qLy b l.length with h'|h'
 ·exact h'
 ·rw[qLS h'] at h;cases h
theorem Ctx.upd_ext (hs:HSim B X){b n:Nat}{k k':Blk}{c c':Array Value}{T:TypeId}(hb:X.h[b]?=some k)(hn:X.own b n)(hw:UpdW X n c c' T w') (hk:qgk k k'):Ext X (X.upd b k' w'):=by
 refine Move.of (fun _ h=>h) (fun a ha=>qMu (hw.other _ fun e=>hs.notM b n hn (e▸ha))) (fun b1 b2 hb1 h=>?_);cases h;refine⟨by simpa[Ctx.upd] using hb1,rfl,fun sh m ⟨e,l,h1,h2⟩=>?_,fun _ _ _ m hm c1 T1 fr1 hc1=>?_⟩
 ·simp only[Ctx.upd] at h1;have hbl:=qv hb;rcases h1 with h1|h1
  ·rcases q80 hbl h1 with⟨rfl,rfl⟩|⟨hne,h1⟩
   ·cases k<;>simp[qgk] at hk;obtain⟨rfl,rfl,h3⟩:=hk;exact⟨_,_,.inl hb,by omega⟩
   ·exact⟨e,l,.inl h1,h2⟩
  ·rcases q80 hbl h1 with⟨rfl,rfl⟩|⟨hne,h1⟩
   ·cases k<;>simp[qgk] at hk
   ·exact⟨e,l,.inr h1,h2⟩
 ·by_cases hmn:m=n
  ·subst hmn;rw[hw.old] at hc1;cases hc1;exact⟨c',T,_,hw.new,hw.sz⟩
  ·exact⟨c1,T1,fr1,by rw[show (X.upd b k' w').w=w' from rfl,hw.other m hmn];exact hc1,rfl⟩
theorem HSim.upd (hs:HSim B X){b n:Nat}{k k':Blk}{c c':Array Value}{T:TypeId}(hb:X.h[b]?=some k)(hn:X.own b n)(hw:UpdW X n c c' T w') (hk:qgk k k') (hk':jJ (X.upd b k' w') b k'):HSim B (X.upd b k' w'):=by
 have hx:=Ctx.upd_ext hs hb hn hw hk;have hbl:=qv hb;have hmut:k'.mut=true:=by cases k<;>cases k'<;>simp[qgk] at hk<;>rfl
 have hown:∀b1 n1,(X.upd b k' w').own b1 n1->X.own b1 n1:=by
  intro b1 n1 ⟨h1,k1,h2,h3⟩;rcases q80 hbl h2 with⟨rfl,rfl⟩|⟨hne,h2⟩
  ·have:n1=n:=by have:=hn.1;rw[show (X.upd b1 k1 w').σ=X.σ from rfl,this] at h1;exact(qMd h1).symm
   subst this;exact hn
  ·exact⟨h1,k1,h2,h3⟩
 constructor
 ·intro b1 k1 h;rcases q80 hbl h with⟨rfl,rfl⟩|⟨hne,h1⟩
  ·exact hk'
  ·by_cases hd:k1=.dead
   ·subst hd;trivial
   ·refine jJ.ext hx rfl (fun m hm=>hw.other m fun e=>?_) (hs.blk b1 k1 h1);subst e;by_cases hm1:k1.mut=true
    ·exact hne (hs.inj b1 b m ⟨hm,k1,h1,hm1⟩ hn)
    ·cases k1 with
     | cells=>exact hm1 rfl
     | big=>exact hm1 rfl
     | vec=>exact hm1 rfl
     | dead=>exact hd rfl
     | frz e sh l=>
      rcases hs.blk b1 _ h1 with⟨e1,_⟩|⟨n1,c1,e1,_,_,e4⟩
      ·rw[hm] at e1;cases e1
      ·rw[hm] at e1;cases e1;exact hs.notM b m hn e4
 ·intro b1 b2 m h1 h2;exact hs.inj b1 b2 m (hown b1 m h1) (hown b2 m h2)
 ·intro b1 m h1 h2;exact hs.notM b1 m (hown b1 m h1) h2
 ·intro m h;have:=hs.ltM m h;simpa[Ctx.upd,hw.size] using this
 ·exact hs.M0
 ·exact hs.newM
 ·exact hw.os.trans hs.os
 ·exact hw.tape.trans hs.tape
 ·exact hw.output.trans hs.output
 ·have:=hs.size;simpa[Ctx.upd,hw.size] using this
 ·intro m hm hni;have:m≠n:=by
   intro e;subst e;rcases qLy b B.imps.length with hlt|hge
   ·have h1:=hs.imps b hlt;rw[hn.1] at h1;rw[qLz hlt] at h1;simp at h1;exact hni (h1▸qMg hlt)
   ·have:=hs.fresh b m hn hge;omega
  rw[show (X.upd b k' w').w=w' from rfl,hw.other m this];exact hs.frame m hm hni
 ·exact hs.imps
 ·intro b1 hb1;obtain⟨cs,h,hc⟩:=hs.impc b1 hb1;by_cases hbb:b1=b
  ·subst hbb;rw[hb] at h;cases h;refine⟨k',by simp[Ctx.upd,qLL hbl],?_⟩;cases k<;>cases k'<;>simp[qgk] at hk<;>simp[Blk.solid] at hc<;>rfl
  ·exact⟨cs,by simpa[Ctx.upd,qLt (qLX hbb)] using h,hc⟩
 ·intro b1 m h1 h2;exact hs.fresh b1 m (hown b1 m h1) h2
 ·intro p hp;obtain⟨q1,q2,q3⟩:=hs.kept p hp;refine⟨(hw.other _ fun e=>?_).trans q1,q2,q3⟩;rw[e,hw.old] at q1;exact q2 _ _ _ (qMd q1).symm
def Ctx.frz(X:Ctx)(b:Nat)(e:TypeId)(sh:List Sh)(l:R):Ctx:={ X with h:=X.h.set b (.frz e sh l),M:=fun m=>X.M m\/X.σ b=some m }
theorem qqW (hs:HSim B X){k:Blk}(hb:X.h[b]?=some k)(hk:k.solid=false):B.imps.length<=b:=by
 rcases qLy b B.imps.length with h|h
 ·obtain⟨cs,e,hc⟩:=hs.impc b h;rw[hb] at e;cases e;rw[hk] at hc;cases hc
 ·exact h
theorem Ctx.frz_ext (hb:X.h[b]?=some (.vec e sh l)):Ext X (X.frz b e sh l):=by
 refine Move.of (fun _ h=>.inl h) (fun _ _=>rfl) (fun b1 b2 hb1 h=>?_);cases h;refine⟨by simpa[Ctx.frz] using hb1,rfl,fun sh1 m ⟨e1,l1,h1,h2⟩=>?_,fun _ _ _ m hm c T fr hc=>⟨c,T,fr,hc,rfl⟩⟩;have hbl:=qv hb;rcases h1 with h1|h1
 ·rcases q80 hbl h1 with⟨rfl,h3⟩|⟨hne,h1⟩
  ·cases h3
  ·exact⟨_,_,.inl h1,h2⟩
 ·rcases q80 hbl h1 with⟨rfl,h3⟩|⟨hne,h1⟩
  ·cases h3;exact⟨_,_,.inl hb,h2⟩
  ·exact⟨_,_,.inr h1,h2⟩
theorem HSim.frz (hs:HSim B X)(hb:X.h[b]?=some (.vec e sh l)):HSim B (X.frz b e sh l):=by
 have hx:=Ctx.frz_ext hb;have hbl:=qv hb;have hown:∀b1 n1,(X.frz b e sh l).own b1 n1->b1≠b/\X.own b1 n1:=by
  intro b1 n1 ⟨h1,k1,h2,h3⟩;rcases q80 hbl h2 with⟨rfl,rfl⟩|⟨hne,h2⟩
  ·cases h3
  ·exact⟨hne,h1,k1,h2,h3⟩
 have hob:∀m,X.σ b=some m->X.own b m:=fun m hm=>⟨hm,_,hb,rfl⟩;constructor
 ·intro b1 k1 h;rcases q80 hbl h with⟨rfl,rfl⟩|⟨hne,h1⟩
  ·rcases hs.blk b1 _ hb with h1|⟨n,c,h1,h2,h3⟩
   ·exact .inl h1
   ·exact .inr ⟨n,c,h1,h2,h3.mono hx.M hx.w,.inr h1⟩
  ·exact jJ.ext hx rfl (fun _ _=>rfl) (hs.blk b1 k1 h1)
 ·intro b1 b2 m h1 h2;exact hs.inj b1 b2 m (hown b1 m h1).2 (hown b2 m h2).2
 ·intro b1 m h1 h2;rcases h2 with h2|h2
  ·exact hs.notM b1 m (hown b1 m h1).2 h2
  ·exact(hown b1 m h1).1 (hs.inj b1 b m (hown b1 m h1).2 (hob m h2))
 ·intro m h;rcases h with h|h
  ·exact hs.ltM m h
  ·exact Ctx.own.lt hs (hob m h)
 ·intro m h;exact .inl (hs.M0 m h)
 ·intro m h;rcases h with h|h
  ·exact hs.newM m h
  ·exact .inr (hs.fresh b m (hob m h) (qqW hs hb rfl))
 ·exact hs.os
 ·exact hs.tape
 ·exact hs.output
 ·exact hs.size
 ·exact hs.frame
 ·exact hs.imps
 ·intro b1 hb1;obtain⟨cs,h,hc⟩:=hs.impc b1 hb1;by_cases hbb:b1=b
  ·subst hbb;rw[hb] at h;cases h;cases hc
  ·exact⟨cs,by simpa[Ctx.frz,qLt (qLX hbb)] using h,hc⟩
 ·intro b1 m h1 h2;exact hs.fresh b1 m (hown b1 m h1).2 h2
 ·exact hs.kept
def Ctx.repl(X:Ctx)(b:Nat)(s':Option Nat)(k':Blk)(w':World):Ctx:={ σ:=fun x=>if x=b then s' else X.σ x,h:=(X.h.set b k').map (Blk.ren (qdm b)),w:=w',M:=X.M,kept:=X.kept,y:=X.y }
structure ReplW (X:Ctx) (b:Nat) (s':Option Nat) (w':World):Prop where
 other:∀m,m<X.w.heap.size->X.σ b≠some m->w'.heap[m]?=X.w.heap[m]?
 same:∀m c T fr,X.σ b=some m->X.w.heap[m]?=some (.cells c T fr)->∃c' T' fr',w'.heap[m]?=some (.cells c' T' fr')/\c'.size=c.size
 size:X.w.heap.size<=w'.heap.size
 os:w'.os=X.w.os
 tape:w'.tape=X.w.tape
 output:w'.output=X.w.output
 at_:s'=X.σ b\/∀m,s'=some m->X.w.heap.size<=m
theorem qpt {k':Blk}{s':Option Nat}(hb:b<X.h.length){b1:Nat}{k1:Blk}(h:(X.repl b s' k' w').h[b1]?=some k1) :b1=b/\k1=k'.ren (qdm b)\/b1≠b/\∃k0,X.h[b1]?=some k0/\k1=k0.ren (qdm b):=by
 simp only[Ctx.repl,qLC] at h;cases h1:(X.h.set b k')[b1]? with
 | none=>rw[h1] at h;cases h
 | some k0=>
  rw[h1] at h;simp only[qM6,qLq] at h;rcases q80 hb h1 with⟨rfl,rfl⟩|⟨hne,h2⟩
  ·exact .inl ⟨rfl,h.symm⟩
  ·exact .inr ⟨hne,k0,h2,h.symm⟩
theorem qmZ {k:Blk}{f:Nat->Option Nat}(h:Blk.vec e sh l=k.ren f\/Blk.frz e sh l=k.ren f):k=.vec e sh l\/k=.frz e sh l:=by
 cases k<;>simp[Blk.ren] at h
 ·exact .inl (by simp[h])
 ·exact .inr (by simp[h])
theorem Ctx.repl_move (hs:HSim B X)(hb:X.h[b]?=some (.vec e sh l)){s':Option Nat}{k':Blk}(hw:ReplW X b s' w'):Move X (X.repl b s' k' w') (qdm b):=by
 have hbl:=qv hb;have hob:∀m,X.σ b=some m->X.own b m:=fun m hm=>⟨hm,_,hb,rfl⟩;refine Move.of (fun _ h=>h) (fun a ha=>qMu (hw.other _ (hs.ltM _ ha) fun hm=>hs.notM b _ (hob _ hm) ha)) (fun b1 b2 hb1 h=>?_);have hne:b1≠b:=by intro e;subst e;simp[qdm] at h
 have:b2=b1:=by simp[qdm,hne] at h;exact h.symm
 subst this;refine⟨by simpa[Ctx.repl] using hb1,by simp[Ctx.repl,hne],fun sh1 m ⟨e1,l1,h1,h2⟩=>?_,fun _ _ _ m hm c T fr hc=>?_⟩
 ·rcases h1 with h1|h1
  ·rcases qpt hbl h1 with⟨h3,_⟩|⟨_,k0,h3,h4⟩
   ·exact absurd h3 hne
   ·rcases qmZ (.inl h4) with rfl|rfl
    ·exact⟨_,_,.inl h3,h2⟩
    ·exact⟨_,_,.inr h3,h2⟩
  ·rcases qpt hbl h1 with⟨h3,_⟩|⟨_,k0,h3,h4⟩
   ·exact absurd h3 hne
   ·rcases qmZ (.inr h4) with rfl|rfl
    ·exact⟨_,_,.inl h3,h2⟩
    ·exact⟨_,_,.inr h3,h2⟩
 ·by_cases hbm:X.σ b=some m
  ·exact hw.same m c T fr hbm hc
  ·exact⟨c,T,fr,by rw[show (X.repl b s' k' w').w=w' from rfl,hw.other m (qLw.1 hc).1 hbm];exact hc,rfl⟩
theorem HSim.repl (hs:HSim B X)(hb:X.h[b]?=some (.vec e sh l)){s':Option Nat}{k':Blk}(hw:ReplW X b s' w') (hk':jJ (X.repl b s' k' w') b (k'.ren (qdm b))):HSim B (X.repl b s' k' w'):=by
 have hx:=Ctx.repl_move hs hb (k':=k') hw;have hbl:=qv hb;have hni:=qqW hs hb rfl;have hob:∀m,X.σ b=some m->X.own b m:=fun m hm=>⟨hm,_,hb,rfl⟩;have hown:∀b1 n1,(X.repl b s' k' w').own b1 n1->b1≠b/\X.own b1 n1\/b1=b/\s'=some n1:=by
  intro b1 n1 ⟨h1,k1,h2,h3⟩;rcases qpt hbl h2 with⟨rfl,_⟩|⟨hne,k0,h4,rfl⟩
  ·exact .inr ⟨rfl,by simpa[Ctx.repl] using h1⟩
  ·exact .inl ⟨hne,by simpa[Ctx.repl,hne] using h1,k0,h4,by rwa [Blk.mut_ren] at h3⟩
 have hnew:∀m,s'=some m->X.own b m\/X.w.heap.size<=m:=by
  intro m hm;rcases hw.at_ with h|h
  ·exact .inl (hob m (h▸hm))
  ·exact .inr (h m hm)
 constructor
 ·intro b1 k1 h;rcases qpt hbl h with⟨rfl,rfl⟩|⟨hne,k0,h1,rfl⟩
  ·exact hk'
  ·by_cases hd:k0=.dead
   ·subst hd;trivial
   ·refine jJ.move hx.toMove0 (by simp[Ctx.repl,hne]) (fun m hm=>hw.other m (hs.lt h1 hd hm) fun hbm=>?_) (hs.blk b1 k0 h1);by_cases hm1:k0.mut=true
    ·exact hne (hs.inj b1 b m ⟨hm,k0,h1,hm1⟩ (hob m hbm))
    ·cases k0 with
     | cells=>exact hm1 rfl
     | big=>exact hm1 rfl
     | vec=>exact hm1 rfl
     | dead=>exact hd rfl
     | frz e sh l=>
      rcases hs.blk b1 _ h1 with⟨e1,_⟩|⟨n1,c1,e1,_,_,e4⟩
      ·rw[hm] at e1;cases e1
      ·rw[hm] at e1;cases e1;exact hs.notM b m (hob m hbm) e4
 ·intro b1 b2 m h1 h2;rcases hown b1 m h1 with⟨n1,g1⟩|⟨n1,g1⟩
  ·rcases hown b2 m h2 with⟨n2,g2⟩|⟨n2,g2⟩
   ·exact hs.inj b1 b2 m g1 g2
   ·rcases hnew m g2 with h3|h3
    ·rw[n2];exact hs.inj b1 _ m g1 h3
    ·exact absurd (Ctx.own.lt hs g1) (by omega)
  ·rcases hown b2 m h2 with⟨n2,g2⟩|⟨n2,g2⟩
   ·rcases hnew m g1 with h3|h3
    ·rw[n1];exact hs.inj _ b2 m h3 g2
    ·exact absurd (Ctx.own.lt hs g2) (by omega)
   ·rw[n1,n2]
 ·intro b1 m h1 h2;rcases hown b1 m h1 with⟨n1,g1⟩|⟨n1,g1⟩
  ·exact hs.notM b1 m g1 h2
  ·rcases hnew m g1 with h3|h3
   ·exact hs.notM _ m h3 h2
   ·exact absurd (hs.ltM m h2) (by omega)
 ·intro m h;have:=hs.ltM m h;have:=hw.size;show m<w'.heap.size;omega
 ·exact hs.M0
 ·exact hs.newM
 ·exact hw.os.trans hs.os
 ·exact hw.tape.trans hs.tape
 ·exact hw.output.trans hs.output
 ·have:=hs.size;have:=hw.size;show _<=w'.heap.size;omega
 ·intro m hm hnm;have h1:=hs.size;have:X.σ b≠some m:=fun e=>by have:=hs.fresh b m (hob m e) hni;omega
  rw[show (X.repl b s' k' w').w=w' from rfl,hw.other m (by omega) this];exact hs.frame m hm hnm
 ·intro b1 hb1;have:b1≠b:=by omega
  simp only[Ctx.repl,this,if_false];exact hs.imps b1 hb1
 ·intro b1 hb1;obtain⟨cs,h,hc⟩:=hs.impc b1 hb1;have hne:b1≠b:=by omega
  exact⟨cs.ren (qdm b),by simp[Ctx.repl,qLt (qLX hne),h],by rw[Blk.solid_ren];exact hc⟩
 ·intro b1 m h1 h2;rcases hown b1 m h1 with⟨n1,g1⟩|⟨n1,g1⟩
  ·exact hs.fresh b1 m g1 h2
  ·rcases hnew m g1 with h3|h3
   ·exact hs.fresh _ m h3 hni
   ·have:=hs.size;omega
 ·intro p hp;obtain⟨q1,q2,q3⟩:=hs.kept p hp;refine⟨(hw.other _ (qLw.1 q1).1 fun e=>?_).trans q1,q2,q3⟩;obtain⟨c,T,fr,hc⟩:=(hob _ e).cells hs;rw[hc] at q1;exact q2 _ _ _ (qMd q1).symm
end Go.Eng

namespace Go.Eng
variable {B:Base}{E:Env}{P:Program}{X:Ctx}{av:AV}{l:R}{sh:List Sh}{t:TypeId}{v:Value}
def Env.tok(E:Env)(P:Program):Prop:=∀x,x∈E.tt->qw1 P x.1=x.2
theorem qpk (hE:E.tok P)(t:TypeId):E.ty t=qKp\/E.ty t=qw1 P t:=by
 unfold Env.ty;cases h:E.tt.find? fun x=>x.1==t with
 | none=>exact .inl rfl
 | some x=>
  have h1:=qMM h;have h2:=hE x (qMm h);have h3:x.1=t:=by simpa using h1
  right;simp only[qM6,qMv];rw[<-h2,h3]
theorem q0y (hE:E.tok P)(h:(E.ty t).d.known=true) :E.ty t=qw1 P t/\∃i d,P.info? t=some i/\P.underlying t=some d/\(E.ty t).d=qEO P d/\(E.ty t).size=i.size/\(E.ty t).bytes=i.bytes:=by
 rcases qpk hE t with h1|h1
 ·rw[h1] at h;cases h
 ·refine⟨h1,?_⟩;rw[h1] at h ⊢;unfold qw1 at *;cases hi:P.info? t with
  | none=>rw[hi] at h;cases h
  | some i=>
   rw[hi] at h;cases hd:P.underlying t with
   | none=>rw[hd] at h;cases h
   | some d=>exact⟨i,d,rfl,rfl,by simp,rfl,rfl⟩
theorem q1r (hE:E.tok P){t e:TypeId}{es:Nat}(h:(E.ty t).d=.slice e es):P.underlying t=some (.slice e)/\es=P.cellsOf e:=by obtain⟨_,i,d,_,h2,h3,_⟩:=q0y hE (t:=t) (by rw[h];rfl);rw[h] at h3;cases d<;>simp[qEO] at h3;obtain⟨rfl,rfl⟩:=h3;exact⟨h2,rfl⟩
theorem q84 (hE:E.tok P){t e:TypeId}{n es:Nat}(h:(E.ty t).d=.array n e es):P.underlying t=some (.array n e)/\es=P.cellsOf e:=by obtain⟨_,i,d,_,h2,h3,_⟩:=q0y hE (t:=t) (by rw[h];rfl);rw[h] at h3;cases d<;>simp[qEO] at h3;obtain⟨rfl,rfl,rfl⟩:=h3;exact⟨h2,rfl⟩
theorem q8J (hE:E.tok P){fs:List (Nat×TypeId×Nat)}(h:(E.ty t).d=.struct fs) :∃fields,P.underlying t=some (.struct fields)/\fs=fields.toList.map fun f=>(f.offset,f.type,P.cellsOf f.type):=by obtain⟨_,i,d,_,h2,h3,_⟩:=q0y hE (t:=t) (by rw[h];rfl);rw[h] at h3;cases d<;>simp[qEO] at h3;exact⟨_,h2,h3⟩
theorem qqU (hE:E.tok P){k:IntKind}(h:(E.ty t).d=.int k):P.underlying t=some (.int k):=by obtain⟨_,i,d,_,h2,h3,_⟩:=q0y hE (t:=t) (by rw[h];rfl);rw[h] at h3;cases d<;>simp[qEO] at h3;rw[h2,h3]
theorem qgD (hE:E.tok P)(h:(E.ty t).d=.str):P.underlying t=some .string:=by obtain⟨_,i,d,_,h2,h3,_⟩:=q0y hE (t:=t) (by rw[h];rfl);rw[h] at h3;cases d<;>simp[qEO] at h3;exact h2
theorem qeh (hE:E.tok P)(h:(E.ty t).d.known=true)(w:World):(isAgg t).run P w=.ok (E.ty t).d.isAgg w:=by obtain⟨_,i,d,_,h2,h3,_⟩:=q0y hE h;rw[h3];unfold isAgg;rw[qLv,run_underlying h2,qLA];rw[h3] at h;cases d<;>first|rfl|(simp[qEO,TD.known] at h)
theorem qiq (hE:E.tok P)(h:(E.ty t).d.known=true)(w:World):(sizeOf t).run P w=.ok (E.ty t).size w:=by obtain⟨_,i,d,h1,_,_,h4,_⟩:=q0y hE h;simp[sizeOf,typeInfo,h1,h4]
theorem zM (h:0<P.cellsOf t)(w:World):(sizeOf t).run P w=.ok (P.cellsOf t) w:=by
 unfold Program.cellsOf at *;cases h1:P.info? t with
 | none=>rw[h1] at h;simp at h
 | some i=>simp[sizeOf,typeInfo,h1]
def qW(P:Program)(B:Base)(X:Ctx)(m:Sem Next)(r:Res):Prop:=
 ∃nx v X',m.run P X.w=.ok nx X'.w/\(nx=.value v\/(nx=.skip/\v=Go.undef))/\Rep X' r.1 v/\HSim B X' /\
  match r.2.2 with
  | none=>X'.h=r.2.1/\Ext X X'
  | some b=>X'.h=r.2.1.map (Blk.ren (qdm b))/\Move X X' (qdm b)
theorem Ext.refl (X:Ctx):Ext X X:=Move.of (fun _ h=>h) (fun _ _=>rfl) (fun b b' hb h=>by cases h;exact⟨hb,rfl,fun _ _ h=>h,fun _ _ _ _ _ c T fr h=>⟨c,T,fr,h,rfl⟩⟩)
theorem qW.val {m:Sem Next}(hs:HSim B X)(h:m.run P X.w=.ok (.value v) X.w)(hr:Rep X av v):qW P B X m (av,X.h,none):=⟨_,v,X,h,.inl rfl,hr,hs,rfl,Ext.refl X⟩
theorem qfD (l:R)(i:Int)(j:Nat):wD l (i.toNat:Int) j=wD l i j:=by unfold wD;rw[qLD]
theorem qt4 {i:Int}{j:Nat}(h:qgH sh l i j=some av)(hj:j<sh.length)(hr:RepU X.w X.M sh[j] (wD l i j) v):Rep X av v:=by
 unfold qgH at h;rw[qLz hj] at h;generalize sh[j]=s at *;cases s with
 | int k=>cases h;cases hr;exact .int _ _
 | bool=>cases h;cases hr;exact .bool _
 | str=>cases h;cases hr;exact .str _
 | sl row=>cases h;exact .imm _ _ _ (qls hr)
theorem ql2 {i:Int}{j:Nat}(h:qgH sh l i j=some av):j<sh.length:=by
 unfold qgH at h;rcases qLy j sh.length with h'|h'
 ·exact h'
 ·rw[qLS h'] at h;cases h
theorem qra{X:Ctx}{sh:List Sh}{l:R}{i:Int}(g:Nat->Option Value)
  (hg:∀j (hj:j<sh.length),∃v,g j=some v/\RepU X.w X.M sh[j] (wD l i j) v) :
  ∀(n off:Nat) (cs:List AV),qbI sh l i off n=some cs->∃vs:List Value,vs.length=n/\RepL X cs vs/\∀j v,vs[j]?=some v->g (off+j)=some v
 | 0,off,cs,h=>by
  simp[qbI] at h;subst h;exact⟨[],rfl,.nil,fun j v h=>by simp at h⟩
 | n+1,off,cs,h=>by
  simp only[qbI] at h;cases h1:qgH sh l i off with
  | none=>rw[h1] at h;cases h
  | some a=>
   cases h2:qbI sh l i (off+1) n with
   | none=>rw[h1,h2] at h;cases h
   | some r=>
    rw[h1,h2] at h;cases h;obtain⟨vs,e1,e2,e3⟩:=qra g hg n (off+1) r h2;obtain⟨v,e4,e5⟩:=hg off (ql2 h1);refine⟨v::vs,by simp[e1],.cons (qt4 h1 (ql2 h1) e5) e2,fun j u hj=>?_⟩;cases j with
    | zero=>simp at hj;subst hj;exact e4
    | succ j=>rw[show off+(j+1)=off+1+j by omega];exact e3 j u (by simpa using hj)
theorem qjn (hE:E.tok P)(hk:(E.ty t).d.known=true){blk o:Nat}{i:Int}{off:Nat}(hg:∀j (hj:j<sh.length),∃v,X.w.cell? ⟨blk,o+j,none⟩=some v/\RepU X.w X.M sh[j] (wD l i j) v) {r:Res}(h:((if (E.ty t).d.isAgg then (match qbI sh l i off (E.ty t).size with|some cs=>okv X.h (.agg cs)|none=>.fail) else (match qgH sh l i off with|some v=>okv X.h v|none=>.fail)):Tree Res).run=some r) :∃av u,r=(av,X.h,none)/\(loadVar t ⟨blk,o+off,none⟩).run P X.w=.ok u X.w/\Rep X av u:=by
 unfold loadVar;rw[qLv,qeh hE hk,qLA];cases ha:(E.ty t).d.isAgg with
 | true=>
  rw[ha] at h;simp only[if_true] at h ⊢;cases hc:qbI sh l i off (E.ty t).size with
  | none=>rw[hc] at h;cases h
  | some cs=>
   rw[hc] at h;cases h;obtain⟨vs,e1,e2,e3⟩:=qra (fun j=>X.w.cell? ⟨blk,o+j,none⟩) hg _ _ _ hc;refine⟨_,.agg vs.toArray,rfl,?_,.agg cs vs e2⟩;have:=run_loadCells_list (P:=P) X.w ⟨blk,o+off,none⟩ vs (fun j v hj=>by rw[qMh];have:=e3 j v hj;rwa [<-qN8] at this);rw[e1] at this;simp[qiq hE hk,this]
 | false=>
  rw[ha] at h;simp only[qLQ,if_false] at h ⊢;cases hc:qgH sh l i off with
  | none=>rw[hc] at h;cases h
  | some v=>
   rw[hc] at h;cases h;obtain⟨u,e1,e2⟩:=hg off (ql2 hc);exact⟨_,u,rfl,by simp[e1],qt4 hc (ql2 hc) e2⟩
theorem qe1 {h:List Blk}{b:Nat}(hr:vX h (.vec b)=some (sh,l)):∃e,h[b]?=some (.vec e sh l)\/h[b]?=some (.frz e sh l):=by simp only[vX] at hr;split at hr<;>first|(cases hr;rename_i hh;exact⟨_,.inl hh⟩)|(cases hr;rename_i hh;exact⟨_,.inr hh⟩)|cases hr
theorem HSim.rows (hs:HSim B X){b:Nat}{e:TypeId}(h:X.h[b]?=some (.vec e sh l)\/X.h[b]?=some (.frz e sh l)) :(X.σ b=none/\l=[])\/∃n c,X.σ b=some n/\X.w.heap[n]?=some (.cells c e (0,0))/\qx4 X.w X.M sh l c:=by
 rcases h with h|h
 ·exact hs.blk b _ h
 ·rcases hs.blk b _ h with h1|⟨n,c,h1,h2,h3,_⟩
  ·exact .inl h1
  ·exact .inr ⟨n,c,h1,h2,h3⟩
theorem qil (hE:E.tok P)(hs:HSim B X){p:AV}(hv:Rep X p v){r:Res}(h:(qgv E X.h t p).run=some r):∃av u,r=(av,X.h,none)/\(Instr.loadAt t v).run P X.w=.ok u X.w/\Rep X av u:=by
 unfold qgv at h;by_cases hk:(E.ty t).d.known=false
 ·simp only[hk,if_true] at h;cases h
 simp only[hk] at h;have hk':(E.ty t).d.known=true:=by simpa using hk
 cases hv with
 | ptr b off n0 hb hσ=>
  simp only at h;cases hh:X.h[b]? with
  | none=>rw[hh] at h;cases h
  | some blk=>
   rw[hh] at h;cases blk with
   | vec=>cases h
   | frz=>cases h
   | dead=>cases h
   | big=>cases h
   | cells cs=>
    simp only at h;obtain⟨n,c,T,e1,e2,e3⟩:=hs.blk b _ hh;rw[hσ] at e1;cases e1;simp only[Instr.loadAt,Instr.sureAddr,qLv,qM1,qLA];unfold loadVar;rw[qLv,qeh hE hk',qLA];cases ha:(E.ty t).d.isAgg with
    | true=>
     rw[ha] at h;simp only[if_true] at h ⊢;by_cases hle:off+(E.ty t).size<=cs.length
     ·rw[if_pos hle] at h;cases h;have hlen:=e3.length;have h2:=(e3.drop off).take (E.ty t).size;refine⟨_,_,rfl,?_,.agg _ _ h2⟩;have hl:((c.toList.drop off).take (E.ty t).size).length=(E.ty t).size:=by simp only[qMw,qNu] at *;omega
      have:=run_loadCells_list (P:=P) X.w ⟨n0,off,none⟩ ((c.toList.drop off).take (E.ty t).size) (fun j v hj=>by
       rw[qMh,zZ e2];rw[qMx] at hj;split at hj
       ·rw[qMy] at hj;simpa using hj
       ·cases hj)
      rw[hl] at this;simp[qiq hE hk',this]
     ·rw[if_neg hle] at h;cases h
    | false=>
     rw[ha] at h;simp only[qLQ,if_false] at h ⊢;cases hc:cs[off]? with
     | none=>rw[hc] at h;cases h
     | some u=>
      rw[hc] at h;cases h;obtain⟨u',e4,e5⟩:=e3.get off u hc;refine⟨_,u',rfl,?_,e5⟩;have:X.w.cell? ⟨n0,off,none⟩=some u':=by rw[zZ e2];simpa using e4
      simp[this]
 | eptr sh l i off a hsp h0 h1 hr=>
  simp only at h;simp only[Instr.loadAt,Instr.sureAddr,qLv,qM1,qLA];exact qjn hE hk' (blk:=a.block) (o:=a.off+i.toNat*sh.length) (fun j hj=>by obtain⟨_,v,e1,e2⟩:=hr i.toNat j hj h1;exact⟨v,e1,by rwa [qfD] at e2⟩) h
 | vptr b i off n0 k0 hb hσ hv=>
  simp only at h;cases hr:vX X.h (.vec b) with
  | none=>rw[hr] at h;cases h
  | some x=>
   obtain⟨sh,l⟩:=x;rw[hr] at h;simp only at h;obtain⟨e,hh⟩:=qe1 hr;rcases hs.rows hh with⟨e1,rfl⟩|⟨n,c,e1,e2,e3⟩
   ·rw[hσ] at e1;cases e1
   ·rw[hσ] at e1;cases e1;obtain⟨f1,f2,rfl⟩:=hv sh l.length ⟨e,l,hh,rfl⟩;simp only[Instr.loadAt,Instr.sureAddr,qLv,qM1,qLA];exact qjn hE hk' (blk:=n0) (o:=i.toNat*sh.length) (fun j hj=>by obtain⟨v,g1,g2⟩:=e3 i.toNat j hj f2;exact⟨v,by rw[zZ e2];exact g1,by rwa [qfD] at g2⟩) h
 | _=>simp only at h;cases h
end Go.Eng

namespace Go.Eng
variable {E:Env}{P:Program}{X:Ctx}{r:Res}{t:TypeId}{v:Value}{w:World}
theorem qW.ofV {B:Base}{m:Sem Value}{av:AV}(hs:HSim B X)(h:m.run P X.w=.ok v X.w)(hr:Rep X av v) :qW P B X (do pure (.value (<-m))) (av,X.h,none):=qW.val (v:=v) hs (by simp[h]) hr
theorem q48 {a:AV}{k:IntKind}{n:Int}(hr:Rep X a v)(h:asI a=some (k,n)):v=.int k n:=by
 cases hr<;>simp[asI] at h
 ·obtain⟨rfl,rfl⟩:=h;rfl
 ·obtain⟨rfl,rfl⟩:=h;rfl
theorem quD {a:AV}{b:Bool}(hr:Rep X a v)(h:asB a=some b):v=.bool b:=by
 cases hr<;>simp[asB] at h
 ·subst h;rfl
 ·subst h;rfl
theorem qyz {s:qLp}(hr:Rep X (.str s) v):v=.string ⟨s.toArray⟩:=by cases hr;rfl
theorem qt6 (X:Ctx)(v:Value):Rep X (jI v) v:=by
 unfold jI;split<;>first|exact .blit _|exact .ilit _ _|exact .nilp|exact .nils|exact .nilf|exact .undef _|skip
 rename_i s;have:Rep X (.str s.data.toList) (.string ⟨s.data.toList.toArray⟩):=.str _;simpa using this
theorem yh(X:Ctx):∀l:List Value,RepL X (l.map jI) l
 | []=>.nil
 | v::l=>.cons (qt6 X v) (yh X l)
theorem qHp (X:Ctx)(v:Value):Rep X (ofV v) v:=by
 unfold ofV;split
 ·rename_i cs;have:Rep X (.agg (cs.toList.map jI)) (.agg cs.toList.toArray):=.agg _ _ (yh X _);simpa using this
 ·exact qt6 X v
theorem qet {h:List Blk}{k:IntKind}{f:Int->Int->Int}{lit:Bool}{x y:Int}(hr:(q7p h k f lit x y).run=some r)(X:Ctx) :∃av,r=(av,h,none)/\Rep X av (.int k (f x y)):=by
 unfold q7p at hr;split at hr<;>cases hr
 ·exact⟨_,rfl,.ilit _ _⟩
 ·exact⟨_,rfl,.int _ _⟩
theorem qiC {h:List Blk}{f:Int->Int->Bool}{lit:Bool}{x y:Int}(hr:(qAA h f lit x y).run=some r)(X:Ctx) :∃av,r=(av,h,none)/\Rep X av (.bool (f x y)):=by
 unfold qAA at hr;split at hr<;>cases hr
 ·exact⟨_,rfl,.blit _⟩
 ·exact⟨_,rfl,.bool _⟩
theorem jt {b:Bool}{t:Tree Res}(h:(Tree.br b t .fail).run=some r):b=true/\t.run=some r:=by
 cases b
 ·cases h
 ·exact⟨rfl,h⟩
theorem qpM (hE:E.tok P)(h:(E.ty t).d=.bool):P.underlying t=some .bool:=by obtain⟨_,i,d,_,h2,h3,_⟩:=q0y hE (t:=t) (by rw[h];rfl);rw[h] at h3;cases d<;>simp[qEO] at h3;exact h2
theorem qA7 (hE:E.tok P){t e:TypeId}(h:(E.ty t).d=.ptr e):P.underlying t=some (.pointer e):=by obtain⟨_,i,d,_,h2,h3,_⟩:=q0y hE (t:=t) (by rw[h];rfl);rw[h] at h3;cases d<;>simp[qEO] at h3;rw[h2,h3]
theorem quj (s t:qLp):(ByteArray.toList ⟨s.toArray⟩==ByteArray.toList ⟨t.toArray⟩)=seq s t:=by rw[ByteArray.toList_eq,ByteArray.toList_eq];rfl
theorem qGk (s t:qLp):Op.bytesLess (ByteArray.toList ⟨s.toArray⟩) (ByteArray.toList ⟨t.toArray⟩)=slt s t:=by rw[ByteArray.toList_eq,ByteArray.toList_eq];rfl
theorem qii {vx vy:Value}{r:Bool}(h:(Op.equalIn (9999+1) t vx vy).run P w=.ok r w):(Op.equal t vx vy).run P w=.ok r w:=h
theorem qby {x y:Operand}{vx vy:Value}{r:Bool}(h:(Op.equal t vx vy).run P w=.ok r w)(h1:∀op,eqGuard op t x y vx vy=pure ()) (h2:binOp .eql t vx vy=(do pure (.bool (<-Op.equal t vx vy)))) :(do eqGuard .eql t x y vx vy;binOp .eql t vx vy:Sem Value).run P w=.ok (.bool r) w:=by simp[h1,h2,h]
theorem q7A {x y:Operand}{vx vy:Value}{r:Bool}(h:(Op.equal t vx vy).run P w=.ok r w)(h1:∀op,eqGuard op t x y vx vy=pure ()) (h2:binOp .neq t vx vy=(do pure (.bool (!(<-Op.equal t vx vy))))) :(do eqGuard .neq t x y vx vy;binOp .neq t vx vy:Sem Value).run P w=.ok (.bool (!r)) w:=by simp[h1,h2,h]
theorem qjm (ht:P.underlying t=some .bool)(a b:Bool)(w:World):(Op.equal t (.bool a) (.bool b)).run P w=.ok (a==b) w:=qii (run_equalIn_bool' w 9999 t a b ht)
theorem q9D {t e:TypeId}(ht:P.underlying t=some (.pointer e))(w:World):(Op.equal t (.pointer none) (.pointer none)).run P w=.ok true w:=qii (by rw[Op.equalIn,qLv,run_underlying ht];rfl)
theorem q3G {t e:TypeId}(ht:P.underlying t=some (.pointer e))(a:Addr)(w:World):(Op.equal t (.pointer (some a)) (.pointer none)).run P w=.ok false w:=qii (by rw[Op.equalIn,qLv,run_underlying ht];rfl)
theorem qia {t e:TypeId}(ht:P.underlying t=some (.slice e))(a:Addr)(n c:Nat):(Op.equal t (.slice (some a) n c) (.slice none 0 0)).run P w=.ok false w:=qii (by rw[Op.equalIn,qLv,run_underlying ht];rfl)
theorem qxR (hE:E.tok P){B:Base}(hs:HSim B X){op:BinOp}{x y:Operand}{ax ay:AV}{vx vy:Value}(hx:Rep X ax vx)(hy:Rep X ay vy)(h:(qvT (E.ty t).d X.h op ax ay).run=some r):∃av u,r=(av,X.h,none)/\(do eqGuard op t x y vx vy;binOp op t vx vy:Sem Value).run P X.w=.ok u X.w/\Rep X av u:=by
 unfold qvT at h;cases h1:asI ax with
 | some p=>
  obtain⟨k,a⟩:=p;cases h2:asI ay with
  | some q=>
   obtain⟨k',b⟩:=q;rw[h1,h2] at h;simp only at h;have e1:=q48 hx h1;have e2:=q48 hy h2;subst e1 e2;by_cases hk:k=k'
   ·subst hk;simp only[if_true] at h;have hz:∀(f:Int->Int->Int) (lit:Bool),(match ay with
     | .ilit _ c=>if c=0 then Tree.fail else q7p X.h k f lit a b
     | _=>.br (ine b 0) (q7p X.h k f lit a b) .fail).run=some r->b≠0/\(q7p X.h k f lit a b).run=some r:=by
     intro f lit hh;cases ay<;>simp only[asI] at h2<;>cases h2
     ·have hh2:(if b=0 then Tree.fail else q7p X.h k f lit a b).run=some r:=hh;by_cases h0:b=0
      ·rw[if_pos h0] at hh2;cases hh2
      ·rw[if_neg h0] at hh2;exact⟨h0,hh2⟩
     ·obtain⟨g1,g2⟩:=jt hh;exact⟨by simpa[ine] using g1,g2⟩
    cases op with
    | add=>obtain⟨av,e,f⟩:=qet h X;exact⟨av,_,e,by simp[eqGuard,binOp,Op.intArith];rfl,f⟩
    | sub=>obtain⟨av,e,f⟩:=qet h X;exact⟨av,_,e,by simp[eqGuard,binOp,Op.intArith];rfl,f⟩
    | mul=>obtain⟨av,e,f⟩:=qet h X;exact⟨av,_,e,by simp[eqGuard,binOp,Op.intArith];rfl,f⟩
    | quo=>obtain⟨h0,hh⟩:=hz _ _ h;obtain⟨av,e,f⟩:=qet hh X;exact⟨av,_,e,by simp[eqGuard,binOp,Op.intDiv,h0];rfl,f⟩
    | rem=>obtain⟨h0,hh⟩:=hz _ _ h;obtain⟨av,e,f⟩:=qet hh X;exact⟨av,_,e,by simp[eqGuard,binOp,Op.intDiv,h0];rfl,f⟩
    | eql=>obtain⟨av,e,f⟩:=qiC h X;exact⟨av,_,e,by simp[eqGuard,binOp,Op.intCmp];rfl,f⟩
    | neq=>obtain⟨av,e,f⟩:=qiC h X;exact⟨av,_,e,by simp[eqGuard,binOp,Op.intCmp];rfl,f⟩
    | lss=>obtain⟨av,e,f⟩:=qiC h X;exact⟨av,_,e,by simp[eqGuard,binOp,Op.intCmp];rfl,f⟩
    | leq=>obtain⟨av,e,f⟩:=qiC h X;exact⟨av,_,e,by simp[eqGuard,binOp,Op.intCmp];rfl,f⟩
    | gtr=>obtain⟨av,e,f⟩:=qiC h X;exact⟨av,_,e,by simp[eqGuard,binOp,Op.intCmp];rfl,f⟩
    | geq=>obtain⟨av,e,f⟩:=qiC h X;exact⟨av,_,e,by simp[eqGuard,binOp,Op.intCmp];rfl,f⟩
    | _=>cases h
   ·simp only[hk,if_false] at h;cases h
  | none=>
   rw[h1,h2] at h;cases ax<;>simp[asI] at h1<;>simp[asB] at h<;>cases h
 | none=>
  rw[h1] at h;simp only at h;cases h2:asB ax with
  | some a=>
   cases h3:asB ay with
   | some b=>
    rw[h2,h3] at h;simp only at h;have e1:=quD hx h2;have e2:=quD hy h3;subst e1 e2;cases hd:(E.ty t).d<;>rw[hd] at h<;>try (cases h)
    have ht:=qpM hE hd;cases op<;>simp only[okb] at h<;>cases h
    ·exact⟨_,_,rfl,qby (qjm ht _ _ _) (fun op=>by cases op<;>rfl) rfl,.bool _⟩
    ·exact⟨_,_,rfl,q7A (qjm ht _ _ _) (fun op=>by cases op<;>rfl) rfl,.bool _⟩
   | none=>
    rw[h2,h3] at h;cases ax<;>simp[asB] at h2<;>simp only at h<;>cases h
  | none=>
   rw[h2] at h;simp only at h;cases ax with
   | str s=>
    cases ay<;>simp only at h<;>try (cases h)
    rename_i s';obtain rfl:=qyz hx;obtain rfl:=qyz hy;cases op<;>simp only[okb,okv] at h<;>try (cases h)
    ·obtain⟨g1,g2⟩:=jt h;cases g2;refine⟨_,.string ⟨(qeI s s').toArray⟩,rfl,?_,.str _⟩;have g3:(s.length:Int)+s'.length<=140737488355328:=of_decide_eq_true g1;have g4:¬(((ByteArray.mk s.toArray).size+(ByteArray.mk s'.toArray).size:Nat):Int)>IntKind.i64.max:=by
      have:IntKind.i64.max=9223372036854775807:=by decide
      have h1:(ByteArray.mk s.toArray).size=s.length:=rfl;have h2:(ByteArray.mk s'.toArray).size=s'.length:=rfl;omega
     have g5:(ByteArray.mk s.toArray++ByteArray.mk s'.toArray)=⟨(qeI s s').toArray⟩:=by apply ByteArray.ext;simp[qeI]
     simp only[eqGuard,binOp,Op.stringOp,qLv,qM1,qLA,Bool.not_false,if_true,g4,if_false,g5]
    all_goals exact⟨_,_,rfl,by simp only[eqGuard,binOp,Op.stringOp,quj,qGk];rfl,.bool _⟩
   | nilp=>
    cases ay<;>simp only at h<;>try (cases h)
    cases hd:(E.ty t).d<;>rw[hd] at h<;>try (cases h)
    have ht:=qA7 hE hd;cases hx;cases hy;cases op<;>simp only[okv] at h<;>cases h
    ·exact⟨_,_,rfl,qby (q9D ht _) (fun op=>by cases op<;>rfl) rfl,.blit _⟩
    ·exact⟨_,_,rfl,q7A (q9D ht _) (fun op=>by cases op<;>rfl) rfl,.blit _⟩
   | ptr b o=>
    cases ay<;>simp only at h<;>try (cases h)
    cases hd:(E.ty t).d<;>rw[hd] at h<;>try (cases h)
    have ht:=qA7 hE hd;cases hb:X.h[b]? with
    | none=>rw[hb] at h;cases h
    | some k=>
     rw[hb] at h;cases k<;>try (cases h)
     obtain⟨n,c,T,e1,_,_⟩:=hs.blk b _ hb;cases hy;cases hx with
     | ptr _ _ n0 hbl hσ=>
      cases op<;>simp only[okv] at h<;>cases h
      ·exact⟨_,_,rfl,qby (q3G ht _ _) (fun op=>by cases op<;>rfl) rfl,.blit _⟩
      ·exact⟨_,_,rfl,q7A (q3G ht _ _) (fun op=>by cases op<;>rfl) rfl,.blit _⟩
   | eptr sh l i o=>
    cases ay<;>simp only at h<;>try (cases h)
    cases hd:(E.ty t).d<;>rw[hd] at h<;>try (cases h)
    have ht:=qA7 hE hd;cases hy;cases hx;cases op<;>simp only[okv] at h<;>cases h
    ·exact⟨_,_,rfl,qby (q3G ht _ _) (fun op=>by cases op<;>rfl) rfl,.blit _⟩
    ·exact⟨_,_,rfl,q7A (q3G ht _ _) (fun op=>by cases op<;>rfl) rfl,.blit _⟩
   | imm sh l=>
    cases ay<;>simp only at h<;>try (cases h)
    cases hd:(E.ty t).d<;>rw[hd] at h<;>try (cases h)
    have ht:=q1r hE hd;cases hy;cases hx with
    | imm _ _ _ himm=>
     have hne:ilt 0 (qm l)=true->∃a c,vx=.slice (some a) l.length c:=by
      intro hl;have hl':(0:Int)<qm l:=of_decide_eq_true hl;rcases himm with⟨rfl,rfl⟩|⟨a,cap,rfl,_⟩
      ·simp[qm] at hl'
      ·exact⟨a,cap,rfl⟩
     cases op<;>simp only[okv] at h<;>try (cases h)
     ·obtain⟨g1,g2⟩:=jt h;cases g2;obtain⟨a,c,rfl⟩:=hne g1;exact⟨_,_,rfl,qby (qia ht.1 _ _ _) (fun op=>by cases op<;>rfl) rfl,.blit _⟩
     ·obtain⟨g1,g2⟩:=jt h;cases g2;obtain⟨a,c,rfl⟩:=hne g1;exact⟨_,_,rfl,q7A (qia ht.1 _ _ _) (fun op=>by cases op<;>rfl) rfl,.blit _⟩
   | mptr c sh l i o=>
    cases ay<;>simp only at h<;>try (cases h)
    cases hd:(E.ty t).d<;>rw[hd] at h<;>try (cases h)
    have ht:=qA7 hE hd;cases hy;cases hx with
    | mnil=>
     cases op<;>simp only[okb] at h<;>cases h
     ·exact⟨_,_,rfl,qby (q9D ht _) (fun op=>by cases op<;>rfl) rfl,.bool _⟩
     ·exact⟨_,_,rfl,q7A (q9D ht _) (fun op=>by cases op<;>rfl) rfl,.bool _⟩
    | mptr=>
     cases op<;>simp only[okb] at h<;>cases h
     ·exact⟨_,_,rfl,qby (q3G ht _ _) (fun op=>by cases op<;>rfl) rfl,.bool _⟩
     ·exact⟨_,_,rfl,q7A (q3G ht _ _) (fun op=>by cases op<;>rfl) rfl,.bool _⟩
   | _=>simp only at h;cases h
end Go.Eng

namespace Go.Eng
variable {E:Env}{P:Program}{X:Ctx}{r:Res}{t:TypeId}{v:Value}{w:World}
theorem qB8 {op:UnOp}{a:AV}(hv:Rep X a v)(h:(qI0 X.h op a).run=some r) :∃av u,r=(av,X.h,none)/\(Op.unary op v).run P X.w=.ok u X.w/\Rep X av u:=by
 unfold qI0 at h;cases op<;>cases hv<;>simp only[okv] at h<;>cases h
 ·exact⟨_,_,rfl,rfl,.ilit _ _⟩
 ·exact⟨_,_,rfl,rfl,.int _ _⟩
 ·exact⟨_,_,rfl,rfl,.blit _⟩
 ·exact⟨_,_,rfl,rfl,.bool _⟩
theorem qxa (hE:E.tok P){src dst:TypeId}{a:AV}(hv:Rep X a v)(h:(qoj E X.h src dst a).run=some r) :∃av u,r=(av,X.h,none)/\(convert src dst v).run P X.w=.ok u X.w/\Rep X av u:=by
 unfold qoj at h;cases hs:(E.ty src).d<;>rw[hs] at h<;>try (cases h)
 ·rename_i k1;cases hd:(E.ty dst).d<;>rw[hd] at h<;>try (cases h)
  rename_i k2;have e1:=qqU hE hs;have e2:=qqU hE hd;cases hv<;>simp only[okv] at h<;>cases h
  ·refine⟨_,_,rfl,?_,.ilit _ _⟩;simp only[convert,qLv,run_underlying e1,run_underlying e2,qLA];rfl
  ·refine⟨_,_,rfl,?_,.int _ _⟩;simp only[convert,qLv,run_underlying e1,run_underlying e2,qLA];rfl
 ·cases hd:(E.ty dst).d<;>rw[hd] at h<;>try (cases h)
  have e1:=qgD hE hs;have e2:=qgD hE hd;cases hv<;>simp only[okv] at h<;>cases h;refine⟨_,_,rfl,?_,.str _⟩;simp only[convert,qLv,run_underlying e1,run_underlying e2,qLA];rfl
theorem qso {a:Addr}{f:Field}(h:0<P.cellsOf f.type):(fieldPlace a f).run P w=.ok (a.add f.offset) w:=by
 have:P.cellsOf f.type≠0:=by omega
 simp[fieldPlace,zM h,this]
theorem qnG (hE:E.tok P){s:TypeId}{a:AV}(hv:Rep X a v){f:Nat}(h:(q39 E X.h s a f).run=some r) :∃av u,r=(av,X.h,none)/\(Instr.fieldAt s v f).run P X.w=.ok u X.w/\Rep X av u:=by
 unfold q39 at h;cases hs:(E.ty s).d<;>rw[hs] at h<;>try (cases h)
 rename_i fs;obtain⟨fields,e1,e2⟩:=q8J hE hs;simp only at h;cases hf:fs[f]? with
 | none=>rw[hf] at h;cases h
 | some x=>
  obtain⟨o,t,sz⟩:=x;rw[hf] at h;simp only at h;have hfield:∃fd,fields[f]?=some fd/\fd.offset=o/\P.cellsOf fd.type=sz:=by
   rw[e2,qLC] at hf;cases hg:fields.toList[f]? with
   | none=>rw[hg] at hf;cases hf
   | some fd=>
    rw[hg] at hf;simp only[qM6,qLq,qM2] at hf;exact⟨fd,by simpa using hg,hf.1,hf.2.2⟩
  obtain⟨fd,g1,rfl,g3⟩:=hfield;by_cases hz:sz=0
  ·rw[if_pos hz] at h;cases h
  rw[if_neg hz] at h;have hp:0<P.cellsOf fd.type:=by omega
  have hrun:∀a:Addr,(Instr.fieldAt s (.pointer (some a)) f).run P X.w=.ok (.pointer (some (a.add fd.offset))) X.w:=by intro a;simp[Instr.fieldAt,run_underlying e1,g1,Instr.sureAddr,qso hp]
  cases hv with
  | ptr b off n hb hσ=>
   simp only[okv] at h;cases h;refine⟨_,_,rfl,hrun _,?_⟩;rw[qMh];exact .ptr _ _ _ hb hσ
  | eptr sh l i off a hsp h0 h1 hr=>
   simp only[okv] at h;cases h;refine⟨_,_,rfl,hrun _,?_⟩;rw[qMh,qN8];exact .eptr _ _ _ _ _ hsp h0 h1 hr
  | vptr b i off n k hb hσ hp=>
   simp only[okv] at h;cases h;refine⟨_,_,rfl,hrun _,?_⟩;rw[qMh,qN8];exact .vptr _ _ _ _ _ hb hσ hp
  | _=>simp only at h;cases h
theorem q5I (hE:E.tok P){cs:List AV}{vs:List Value}(hv:RepL X cs vs){off:Nat}{a:AV}(h:qg5 E t cs off=some a) (w:World):∃u,(part t vs.toArray off).run P w=.ok u w/\Rep X a u:=by
 unfold qg5 at h;by_cases hk:(E.ty t).d.known=false
 ·simp only[hk,if_true] at h;cases h
 simp only[hk] at h;have hk':(E.ty t).d.known=true:=by simpa using hk
 unfold part;rw[qLv,qeh hE hk',qLA];cases ha:(E.ty t).d.isAgg with
 | true=>
  rw[ha] at h;simp only[if_true] at h ⊢;by_cases hle:off+(E.ty t).size<=cs.length
  ·have h':(some (AV.agg ((cs.drop off).take (E.ty t).size)):Option AV)=some a:=by simpa[hle] using h
   cases h';refine⟨.agg ((vs.drop off).take (E.ty t).size).toArray,?_,.agg _ _ ((hv.drop off).take _)⟩;rw[qLv,qiq hE hk',qLA,qM1];congr 2;apply qMN;simp[List.extract,Nat.add_sub_cancel_left]
  ·simp[hle] at h
 | false=>
  rw[ha] at h;simp only[qLQ,if_false] at h ⊢;obtain⟨u,e1,e2⟩:=hv.get off a h;exact⟨u,by simp[e1],e2⟩
theorem qtD {h:List Blk}{cs:List AV}{off:Nat}(hr:(qhO E h t cs off).run=some r):∃a,qg5 E t cs off=some a/\r=(a,h,none):=by
 unfold qhO at hr;cases hp:qg5 E t cs off with
 | none=>rw[hp] at hr;cases hr
 | some a=>rw[hp] at hr;cases hr;exact⟨a,rfl,rfl⟩
theorem qu4 (hE:E.tok P){s:TypeId}{a:AV}(hv:Rep X a v){f:Nat}(h:(qi1 E X.h s a f).run=some r) :∃av u,r=(av,X.h,none)/\(Instr.field s v f).run P X.w=.ok u X.w/\Rep X av u:=by
 unfold qi1 at h;cases hs:(E.ty s).d<;>rw[hs] at h<;>try (cases h)
 rename_i fs;obtain⟨fields,e1,e2⟩:=q8J hE hs;cases hv<;>simp only at h<;>try (cases h)
 rename_i cs vs hv;cases hf:fs[f]? with
 | none=>rw[hf] at h;cases h
 | some x=>
  obtain⟨o,t,sz⟩:=x;rw[hf] at h;simp only at h;rw[e2,qLC] at hf;cases hg:fields.toList[f]? with
  | none=>rw[hg] at hf;cases hf
  | some fd=>
   rw[hg] at hf;simp only[qM6,qLq,qM2] at hf;obtain⟨rfl,rfl,_⟩:=hf;obtain⟨a,h1,rfl⟩:=qtD h;obtain⟨u,h2,h3⟩:=q5I hE hv h1 X.w;have hg':fields[f]?=some fd:=by simpa using hg
   exact⟨_,u,rfl,by simp[Instr.field,run_underlying e1,hg',asAgg,h2],h3⟩
theorem qkQ {i n:Int}(h:inb i n=true):0<=i/\i<n:=by simpa[inb] using h
theorem q0o {i n:Int}(h:q7e i n=true):0<=i/\i<=n:=by simpa[q7e] using h
theorem qeu {t e:TypeId}{a:Addr}{n c:Nat}{k:IntKind}{i:Int}(ht:P.underlying t=some (.slice e))(hp:0<P.cellsOf e)(h0:0<=i)(h1:i<n) :(Instr.indexAt t (.slice (some a) n c) (.int k i)).run P w=.ok (.pointer (some (a.add (i.toNat*P.cellsOf e)))) w:=by simp[Instr.indexAt,asIntOf,run_underlying ht,h0,h1,zM hp]
theorem q12 {t e:TypeId}{a:Addr}{n:Nat}{k:IntKind}{i:Int}(ht:P.underlying t=some (.array n e))(hp:0<P.cellsOf e)(h0:0<=i)(h1:i<n) :(Instr.indexAt t (.pointer (some a)) (.int k i)).run P w=.ok (.pointer (some (a.add (i.toNat*P.cellsOf e)))) w:=by simp[Instr.indexAt,asIntOf,run_underlying ht,h0,h1,zM hp,Instr.sureAddr]
theorem Addr.add_of {a:Addr}(h:a.spot=none)(n:Nat):a.add n=⟨a.block,a.off+n,none⟩:=by obtain⟨b,o,s⟩:=a;subst h;exact qMh b o n
theorem qjV{h:List Blk}{i:Int}{f:Nat->AV}{r:Res}:∀n,(qht h i f n).run=some r->∃m:Nat,m<n/\i=m/\r=(f m,h,none)
 | 0,h=>by cases h
 | n+1,hr=>by
  simp only[qht,Tree.run] at hr;cases hb:ieq i n with
  | true=>
   rw[hb] at hr;cases hr;exact⟨n,qNk n,by simpa[ieq] using hb,rfl⟩
  | false=>
   rw[hb] at hr;obtain⟨m,h1,h2,h3⟩:=qjV n hr;exact⟨m,by omega,h2,h3⟩
theorem q3t (hE:E.tok P){B:Base}(hs:HSim B X){a ai:AV}{v vi:Value}(hv:Rep X a v)(hi:Rep X ai vi)(h:(uJ E X.h t a ai).run=some r):∃av u,r=(av,X.h,none)/\(Instr.indexAt t v vi).run P X.w=.ok u X.w/\Rep X av u:=by
 unfold uJ at h;cases hd:(E.ty t).d<;>rw[hd] at h<;>try (cases h)
 ·rename_i e es;obtain⟨ht,rfl⟩:=q1r hE hd;cases hai:asI ai with
  | none=>rw[hai] at h;cases hv<;>simp only at h<;>cases h
  | some p=>
   obtain⟨k,i⟩:=p;rw[hai] at h;obtain rfl:=q48 hi hai;cases hv<;>simp only at h<;>try (cases h)
   ·rename_i sh l himm;by_cases hc:sh.length=P.cellsOf e/\0<P.cellsOf e
    ·rw[if_pos hc] at h;obtain⟨g1,g2⟩:=jt h;cases g2;obtain⟨g3,g4⟩:=qkQ g1;rcases himm with⟨rfl,rfl⟩|⟨a,cap,rfl,hsp,hcap,hr⟩
     ·simp[qm] at g4;omega
     ·refine⟨_,_,rfl,qeu ht hc.2 g3 g4,?_⟩;have hsp:=hsp (by simp[qm] at g4;omega);rw[Addr.add_of hsp,<-hc.1];have:Rep X (.eptr sh l i 0) (.pointer (some ⟨a.block,a.off+i.toNat*sh.length+0,none⟩)):=.eptr _ _ _ _ _ hsp g3 (by simp[qm] at g4;omega) hr;simpa using this
    ·rw[if_neg hc] at h;cases h
   ·rename_i b p n c hb hv;cases hr:vX X.h (.vec b) with
    | none=>rw[hr] at h;cases h
    | some x=>
     obtain⟨sh,l⟩:=x;rw[hr] at h;simp only at h;by_cases hc:sh.length=P.cellsOf e/\0<P.cellsOf e
     ·rw[if_pos hc] at h;obtain⟨g1,g2⟩:=jt h;cases g2;obtain⟨g3,g4⟩:=qkQ g1;obtain⟨e0,hh⟩:=qe1 hr;have hvv:=hv sh l.length ⟨e0,l,hh,rfl⟩;unfold qvs at hvv;rcases hs.rows hh with⟨e1,rfl⟩|⟨n0,c0,e1,e2,e3⟩
      ·simp[qm] at g4;omega
      ·rw[e1] at hvv;obtain⟨cap,f1,f2,f3,c1,T1,fr1,f4,f5⟩:=hvv;cases f1;refine⟨_,_,rfl,qeu ht hc.2 g3 g4,?_⟩;rw[qMh,<-hc.1];have:Rep X (.vptr b i 0) (.pointer (some ⟨n0,i.toNat*sh.length+0,none⟩)):=.vptr _ _ _ _ _ hb e1 fun sh' m ⟨e',l',q1,q2⟩=>by
        have:sh'=sh/\l'=l:=by rcases hh with hh|hh<;>rcases q1 with q1|q1<;>rw[hh] at q1<;>cases q1<;>exact⟨rfl,rfl⟩
        obtain⟨rfl,rfl⟩:=this;exact⟨g3,by simp[qm] at g4;omega,rfl⟩
       simpa using this
     ·rw[if_neg hc] at h;cases h
 ·rename_i n e es;obtain⟨ht,rfl⟩:=q84 hE hd;cases hv<;>simp only at h<;>try (cases h)
  ·rename_i b off n0 hb hσ;cases hi<;>simp only at h<;>try (cases h)
   ·rename_i k i;by_cases hc:0<=i/\i<n/\0<P.cellsOf e
    ·rw[if_pos hc] at h;cases h;refine⟨_,_,rfl,q12 ht hc.2.2 hc.1 hc.2.1,?_⟩;rw[qMh];exact .ptr _ _ _ hb hσ
    ·rw[if_neg hc] at h;cases h
   ·rename_i k i;by_cases hc:n<=16/\0<P.cellsOf e
    ·rw[if_pos hc] at h;obtain⟨m,g1,rfl,rfl⟩:=qjV _ h;refine⟨_,_,rfl,q12 ht hc.2 (by omega) (by omega),?_⟩;rw[qMh];exact .ptr _ _ _ hb hσ
    ·rw[if_neg hc] at h;cases h
  ·rename_i sh l i0 off a hsp h0 h1 hr;cases hi<;>simp only at h<;>try (cases h)
   ·rename_i k i;by_cases hc:0<=i/\i<n/\0<P.cellsOf e
    ·rw[if_pos hc] at h;cases h;refine⟨_,_,rfl,q12 ht hc.2.2 hc.1 hc.2.1,?_⟩;rw[qMh,qN8];exact .eptr _ _ _ _ _ hsp h0 h1 hr
    ·rw[if_neg hc] at h;cases h
   ·rename_i k i;by_cases hc:n<=16/\0<P.cellsOf e
    ·rw[if_pos hc] at h;obtain⟨m,g1,rfl,rfl⟩:=qjV _ h;refine⟨_,_,rfl,q12 ht hc.2 (by omega) (by omega),?_⟩;rw[qMh,qN8];exact .eptr _ _ _ _ _ hsp h0 h1 hr
    ·rw[if_neg hc] at h;cases h
end Go.Eng

namespace Go.Eng
variable {P:Program}
theorem qrG{X:Ctx}{k:IntKind}:∀{cs:List AV} {l:List Int} {vs:List Value},ql1 k cs=some l->RepL X cs vs->vs=l.map (Value.int k)
 | [],l,vs,h,hr=>by cases hr;simp[ql1] at h;subst h;rfl
 | a::cs,l,vs,h,hr=>by
  cases hr with
  | cons ha ht=>
   simp only[ql1] at h;cases h1:asI a with
   | none=>rw[h1] at h;cases h
   | some p=>
    obtain⟨k',n⟩:=p;cases h2:ql1 k cs with
    | none=>rw[h1,h2] at h;cases h
    | some r=>
     rw[h1,h2] at h;simp only at h;by_cases hk:k=k'
     ·subst hk;rw[if_pos rfl] at h;cases h;rw[q48 ha h1,qrG h2 ht];rfl
     ·rw[if_neg hk] at h;cases h
theorem qur {E:Env}(hE:E.tok P){X:Ctx}{t:TypeId}{a ai:AV}{v vi:Value}(hv:Rep X a v)(hi:Rep X ai vi){r:Res}(h:(qhe E X.h t a ai).run=some r):∃av u,r=(av,X.h,none)/\(Instr.index t v vi).run P X.w=.ok u X.w/\Rep X av u:=by
 unfold qhe at h;cases hd:(E.ty t).d<;>rw[hd] at h<;>try (cases h)
 ·cases hai:asI ai with
  | none=>rw[hai] at h;cases hv<;>simp only at h<;>cases h
  | some p=>
   obtain⟨k,i⟩:=p;rw[hai] at h;obtain rfl:=q48 hi hai;have ht:=qgD hE hd;cases hv<;>simp only at h<;>try (cases h)
   rename_i s;obtain⟨g1,g2⟩:=jt h;cases g2;obtain⟨g3,g4⟩:=qkQ g1;refine⟨_,.int .u8 (sat s i),rfl,?_,.int _ _⟩;have hlt:i.toNat<s.length:=by simp only[qw] at g4;omega
   have hsz:(ByteArray.mk s.toArray)[i.toNat]?=some s[i.toNat]:=by
    have:(ByteArray.mk s.toArray)[i.toNat]?=(s.toArray)[i.toNat]?:=by simp only[getElem?_def];rfl
    rw[this];simp[hlt]
   simp only[Instr.index,asIntOf,qLv,qM1,qLA,run_underlying ht,g3,if_true,hsz];simp[sat,hlt]
 ·rename_i n e es;obtain⟨ht,rfl⟩:=q84 hE hd;cases hai:asI ai with
  | none=>rw[hai] at h;cases hv<;>simp only at h<;>cases h
  | some p=>
   obtain⟨k,i⟩:=p;rw[hai] at h;obtain rfl:=q48 hi hai;cases hv<;>simp only at h<;>try (cases h)
   rename_i cs vs hv;have lit:∀(_:0<=i) (_:i<n) (_:0<P.cellsOf e) (_:(qhO E X.h e cs (i.toNat*P.cellsOf e)).run=some r),
     ∃av u,r=(av,X.h,none)/\(Instr.index t (.agg vs.toArray) (.int k i)).run P X.w=.ok u X.w/\Rep X av u:=by
    intro h0 h1 hp hh;obtain⟨a,q1,rfl⟩:=qtD hh;obtain⟨u,q2,q3⟩:=q5I hE hv q1 X.w;exact⟨_,u,rfl,by simp[Instr.index,asIntOf,run_underlying ht,h0,h1,zM hp,q2],q3⟩
   have sym:∀(_:(match (E.ty e).d with
     | .int k=>if P.cellsOf e=1/\cs.length=n then (match ql1 k cs with
      | some l=>Tree.br (inb i n) (okv X.h (.int k (qBJ l i))) .fail
      | none=>.fail) else .fail
     | .slice _ _=>if 0<P.cellsOf e then (match Nat.ble n 4 with|true=>qon E X.h e cs (P.cellsOf e) i 0 n|false=>.fail) else .fail
     | _=>.fail).run=some r),
     ∃av u,r=(av,X.h,none)/\(Instr.index t (.agg vs.toArray) (.int k i)).run P X.w=.ok u X.w/\Rep X av u:=by
    intro hh;cases he:(E.ty e).d<;>rw[he] at hh<;>try (cases hh)
    case slice e' es'=>
     simp only at hh;split at hh
     case isFalse=>cases hh
     rename_i hp;split at hh
     case h_2=>cases hh
     have go:∀(m j:Nat),j+m=n->(qon E X.h e cs (P.cellsOf e) i j m).run=some r->∃av u,r=(av,X.h,none)/\(Instr.index t (.agg vs.toArray) (.int k i)).run P X.w=.ok u X.w/\Rep X av u:=by
      intro m;induction m with
      | zero=>intro j _ hh;cases hh
      | succ m ih=>
       intro j hj hh;unfold qon at hh;simp only[Tree.run] at hh;split at hh
       ·rename_i hi;have hij:i=(j:Int):=by simpa[ieq] using hi
        exact lit (by omega) (by omega) hp (by rw[hij,qLD];exact hh)
       ·exact ih (j+1) (by omega) hh
     exact go n 0 (by omega) hh
    rename_i k';simp only at hh;by_cases hc:P.cellsOf e=1/\cs.length=n
    ·rw[if_pos hc] at hh;cases hl:ql1 k' cs with
     | none=>rw[hl] at hh;cases hh
     | some l=>
      rw[hl] at hh;obtain⟨g1,g2⟩:=jt hh;cases g2;obtain⟨g3,g4⟩:=qkQ g1;have hvs:=qrG hl hv;have hlen:=hv.length;refine⟨_,.int k' (qBJ l i),rfl,?_,.int _ _⟩;have hlt:i.toNat<l.length:=by rw[hvs] at hlen;simp at hlen;omega
      have hag:(isAgg e).run P X.w=.ok false X.w:=by rw[qeh hE (by rw[he];rfl),he];rfl
      have hget:vs[i.toNat]?=some (.int k' (qBJ l i)):=by rw[hvs];simp[hlt,qBJ]
      simp[Instr.index,asIntOf,run_underlying ht,g3,g4,zM (show 0<P.cellsOf e by omega),part,hag,hc.1,hget]
    ·rw[if_neg hc] at hh;cases hh
   cases ai with
   | ilit k2 i2=>
    simp only[asI] at hai;cases hai;simp only at h;by_cases hc:0<=i/\i<n/\0<P.cellsOf e
    ·rw[if_pos hc] at h;exact lit hc.1 hc.2.1 hc.2.2 h
    ·rw[if_neg hc] at h;cases h
   | int k2 i2=>exact sym h
   | _=>simp[asI] at hai
theorem qyG {E:Env}(hE:E.tok P){B:Base}{X:Ctx}(hs:HSim B X){t ty:TypeId}{ts:Array TypeId}(h0:ts[0]?=some t){a:AV}{v:Value}(hv:Rep X a v){r:Res}(h:(qCz E X.h t a).run=some r):∃av u,r=(av,X.h,none)/\(Builtin.len_ ts ty #[v]).run P X.w=.ok u X.w/\Rep X av u:=by
 unfold qCz at h;cases hd:(E.ty t).d<;>rw[hd] at h<;>try (cases h)
 ·have ht:=qgD hE hd;cases hv<;>simp only at h<;>try (cases h)
  rename_i s;refine⟨_,.int .i64 (qw s),rfl,?_,.int _ _⟩;simp[Builtin.len_,h0,run_underlying ht,goInt,qw];rfl
 ·rename_i e es;obtain⟨ht,rfl⟩:=q1r hE hd;have run:∀p n c,(Builtin.len_ ts ty #[.slice p n c]).run P X.w=.ok (.int .i64 n) X.w:=by intro p n c;simp[Builtin.len_,h0,run_underlying ht,goInt]
  have gen:∀(_:(match vX X.h a with|some (_,l)=>okv X.h (.int .i64 (qm l))|none=>.fail).run=some r),
    ∃av u,r=(av,X.h,none)/\(Builtin.len_ ts ty #[v]).run P X.w=.ok u X.w/\Rep X av u:=by
   intro hh;cases hr:vX X.h a with
   | none=>rw[hr] at hh;cases hh
   | some x=>
    obtain⟨sh,l⟩:=x;rw[hr] at hh;cases hh;cases hv<;>simp only[vX] at hr<;>try (cases hr)
    ·rename_i himm;rcases himm with⟨rfl,rfl⟩|⟨a,cap,rfl,_⟩
     ·exact⟨_,_,rfl,run _ _ _,.int _ _⟩
     ·exact⟨_,_,rfl,run _ _ _,.int _ _⟩
    ·rename_i b p n c hb hv;obtain⟨e0,hh⟩:=qe1 (b:=b) (h:=X.h) (sh:=sh) (l:=l) (by simpa only [vX] using hr);have hvv:=hv sh l.length ⟨e0,l,hh,rfl⟩;unfold qvs at hvv;rcases hs.rows hh with⟨e1,rfl⟩|⟨n0,c0,e1,e2,e3⟩
     ·rw[e1] at hvv;obtain⟨p,hvv⟩:=hvv;cases hvv;exact⟨_,_,rfl,run _ _ _,.int _ _⟩
     ·rw[e1] at hvv;obtain⟨cap,f1,_⟩:=hvv;cases f1;exact⟨_,_,rfl,run _ _ _,.int _ _⟩
  cases hv with
  | nils=>simp only at h;cases h;exact⟨_,_,rfl,run _ _ _,.ilit _ _⟩
  | _=>exact gen h
 ·rename_i n e es;obtain⟨ht,rfl⟩:=q84 hE hd;refine⟨_,.int .i64 n,rfl,?_,.ilit _ _⟩;simp[Builtin.len_,h0,run_underlying ht,goInt]
theorem qGn {k k':IntKind}{x y:Int}{w:World}:(Builtin.max2 (.int k x) (.int k' y)).run P w=.ok (.int k (qvr x y)) w:=rfl
theorem qFv {k k':IntKind}{x y:Int}{w:World}:(Builtin.min2 (.int k x) (.int k' y)).run P w=.ok (.int k (qkU x y)) w:=rfl
theorem qqK{P:Program}{X:Ctx}{f:Int->Int->Int}{g:Value->Value->Sem Value}(hg:∀k k' x y w,(g (.int k x) (.int k' y)).run P w=.ok (.int k (f x y)) w)(k:IntKind) :
  ∀(l:List AV) (a m:Int) (vs:List Value),qxH f k a l=some m->RepL X l vs->(vs.foldlM g (.int k a)).run P X.w=.ok (.int k m) X.w
 | [],a,m,vs,h,hr=>by cases hr;simp[qxH] at h;subst h;rfl
 | x::l,a,m,vs,h,hr=>by
  cases hr with
  | cons hx ht=>
   simp only[qxH] at h;cases h1:asI x with
   | none=>rw[h1] at h;cases h
   | some p=>
    obtain⟨k',b⟩:=p;rw[h1] at h;simp only at h;by_cases hk:k=k'
    ·rw[if_pos hk] at h;rw[q48 hx h1,List.foldlM_cons,qLv,hg,qLA];exact qqK hg k l _ m _ h ht
    ·rw[if_neg hk] at h;cases h
theorem qoc{E:Env}{P:Program}(hE:E.tok P){X:Ctx}{e:TypeId}{c:Nat}(he:P.underlying e=some .string){xs ys:List AV}{vxs vys:List Value}(hx:RepL X xs vxs)(hy:RepL X ys vys)(d:Nat)(w:World) :
  ∀(is:List Nat) (r:Bool),qw0 E e c xs ys is=some r->(Op.eqItems (d+1) e c vxs.toArray vys.toArray is).run P w=.ok r w
 | [],r,h=>by
  simp only[qw0] at h;cases h;rfl
 | i::is,r,h=>by
  simp only[qw0] at h;split at h
  ·rename_i a b r' h1 h2 h3;cases h;obtain⟨u1,q1,q2⟩:=q5I hE hx h1 w;obtain⟨u2,q3,q4⟩:=q5I hE hy h2 w;cases q2;cases q4;have q5:=run_equalIn_string w d e ⟨a.toArray⟩ ⟨b.toArray⟩ he;have q6:=qoc hE he hx hy d w is r' h3;rw[quj] at q5;simp only[Op.eqItems,qLv,q1,q3,q5,qLA];cases hs:Eng.seq a b with
   | true=>simp[qxG,q6]
   | false=>simp[qxG]
  ·cases h
mutual
theorem qvG{E:Env}{P:Program}(hE:E.tok P){X:Ctx}:∀(n:Nat) (t:TypeId) (x y:AV) (r:Bool) (vx vy:Value),eqT E n t x y=some r->Rep X x vx->Rep X y vy ->
  ∀d,n<=d->∀w,(Op.equalIn d t vx vy).run P w=.ok r w
 | 0,_,_,_,_,_,_,h,_,_,_,_,_=>by simp[eqT] at h
 | n+1,t,x,y,r,vx,vy,h,hx,hy,d,hd,w=>by
  obtain⟨d,rfl⟩:∃d',d=d'+1:=⟨d-1,by omega⟩;simp only[eqT] at h;cases ht:(E.ty t).d<;>rw[ht] at h<;>try (cases h)
  ·have hu:=qpM hE ht;simp only at h;cases h1:asB x with
   | none=>rw[h1] at h;cases h
   | some a=>
    cases h2:asB y with
    | none=>rw[h1,h2] at h;cases h
    | some b=>
     rw[h1,h2] at h;cases h;rw[quD hx h1,quD hy h2];exact run_equalIn_bool' w d t a b hu
  ·have hu:=qqU hE ht;simp only at h;cases h1:asI x with
   | none=>rw[h1] at h;cases h
   | some a=>
    cases h2:asI y with
    | none=>rw[h1,h2] at h;cases h
    | some b=>
     obtain⟨k,a⟩:=a;obtain⟨k',b⟩:=b;rw[h1,h2] at h;simp only at h;by_cases hk:k=k'
     ·subst hk;rw[if_pos rfl] at h;cases h;rw[q48 hx h1,q48 hy h2];exact run_equalIn_int w d t k _ a b hu
     ·rw[if_neg hk] at h;cases h
  ·have hu:=qgD hE ht;simp only at h;cases hx<;>try (cases h)
   cases hy<;>try (cases h)
   rw[run_equalIn_string w d t _ _ hu,quj]
  ·rename_i m e es;simp only at h;obtain⟨hta,rfl⟩:=q84 hE ht;split at h
   ·rename_i n' hte;have hue:=qgD hE hte;obtain⟨d',rfl⟩:∃d',d=d'+1:=⟨d-1,by omega⟩;obtain⟨_,i,dd,h1,_⟩:=q0y hE (t:=e) (by rw[hte];rfl);cases hx with
    | agg _ vxs hxs=>
     cases hy with
     | agg _ vys hys=>
      rw[run_equalIn_array w (d'+1) vxs.toArray vys.toArray hta h1];exact qoc hE hue hxs hys d' w _ r h
   ·cases h
  ·rename_i fs;simp only at h;by_cases hok:(E.ty t).eqok=true
   ·rw[if_pos hok] at h;cases hx<;>try (cases h)
    cases hy<;>try (cases h)
    rename_i xs vxs hxs ys vys hys;obtain⟨fields,e1,e2⟩:=q8J hE ht;have hk:=q0y hE (t:=t) (by rw[ht];rfl);have hst:P.stoodInHeld t=false/\∀f∈fields.toList,f.name ≠ "_" := by rw[hk.1] at hok;unfold qw1 at hok;obtain⟨_,i,dd,h1,h2,_⟩:=hk;rw[h1] at hok;simp only[e1,qLN,qN9,qLZ,bne_iff_ne] at hok;exact⟨hok.1.1,hok.2⟩
    have hfo:P.fieldsOf t=fields:=by simp[Program.fieldsOf,e1]
    have hrun:=run_equalIn_struct (P:=P) w d t vxs.toArray vys.toArray (by rw[hfo];exact e1) hst.1;rw[hrun,hfo];rw[e2] at h;exact qsW hE n fields.toList xs ys r vxs vys h hxs hys hst.2 d (by omega) w
   ·rw[if_neg hok] at h;cases h
theorem qsW{E:Env}{P:Program}(hE:E.tok P){X:Ctx}:∀(n:Nat) (fs:List Field) (xs ys:List AV) (r:Bool) (vxs vys:List Value),
  qI7 E n (fs.map fun f=>(f.offset,f.type,P.cellsOf f.type)) xs ys=some r->RepL X xs vxs->RepL X ys vys->(∀f∈fs,f.name ≠ "_") ->
  ∀d,n<=d->∀w,(Op.eqFields d vxs.toArray vys.toArray fs).run P w=.ok r w
 | n,[],xs,ys,r,vxs,vys,h,hx,hy,hn,d,hd,w=>by
  cases n<;>simp[qI7] at h<;>subst h<;>rfl
 | 0,f::fs,xs,ys,r,vxs,vys,h,hx,hy,hn,d,hd,w=>by simp[qI7] at h
 | n+1,f::fs,xs,ys,r,vxs,vys,h,hx,hy,hn,d,hd,w=>by
  simp only[qMn,qI7] at h;cases h1:qg5 E f.type xs f.offset with
  | none=>rw[h1] at h;cases h
  | some a=>
   cases h2:qg5 E f.type ys f.offset with
   | none=>rw[h1,h2] at h;cases h
   | some b=>
    rw[h1,h2] at h;simp only at h;cases h3:eqT E n f.type a b with
    | none=>rw[h3] at h;cases h
    | some r1=>
     cases h4:qI7 E n (fs.map fun f=>(f.offset,f.type,P.cellsOf f.type)) xs ys with
     | none=>rw[h3,h4] at h;cases h
     | some r2=>
      rw[h3,h4] at h;cases h;obtain⟨u1,q1,q2⟩:=q5I hE hx h1 w;obtain⟨u2,q3,q4⟩:=q5I hE hy h2 w;have q5:=qvG hE n f.type a b r1 u1 u2 h3 q2 q4 d (by omega) w;have q6:=qsW hE n fs xs ys r2 vxs vys h4 hx hy (fun g hg=>hn g (qLO _ hg)) d (by omega) w;have hn0:=hn f qLE;simp only[Op.eqFields,hn0,ne_eq,not_false_eq_true,if_true,qLv,q1,q3,q5,qLA];cases r1 with
      | true=>simp[qxG,q6]
      | false=>simp[qxG]
end
end Go.Eng

namespace Go.Eng
variable {B:Base}{E:Env}{P:Program}{X:Ctx}{t:TypeId}{v:Value}
theorem qu6 (hE:E.tok P){op:BinOp}{x y:Operand}{xs ys:List AV}{vx vy:Value}(hx:Rep X (.agg xs) vx)(hy:Rep X (.agg ys) vy){r:Res}(h:(qqX E X.h op t (.agg xs) (.agg ys)).run=some r):∃av u,r=(av,X.h,none)/\(do eqGuard op t x y vx vy;binOp op t vx vy:Sem Value).run P X.w=.ok u X.w/\Rep X av u:=by
 unfold qqX at h;cases he:eqT E 32 t (.agg xs) (.agg ys) with
 | none=>rw[he] at h;cases h
 | some b=>
  rw[he] at h;simp only at h;have heq:=qii (qvG hE 32 t _ _ b vx vy he hx hy (9999+1) (by omega) X.w);have hg:∀op w,(eqGuard op t x y vx vy).run P w=.ok () w:=by
   intro op w;simp only[eqT] at he;cases ht:(E.ty t).d<;>rw[ht] at he<;>try (simp only[asI,asB] at he;cases he)
   ·rename_i m e es;simp only at he;obtain⟨hta,rfl⟩:=q84 hE ht;cases hte:(E.ty e).d<;>rw[hte] at he<;>try (cases he)
    ·have hue:=qgD hE hte;cases hx;cases hy;have hgt:P.eqGuardType P.depth t=false:=by rw[show P.depth=(2*(P.types.size+Made.depth))+1+1 from rfl];simp[Program.eqGuardType,hta,hue]
     unfold eqGuard;cases op<;>simp[run_program,hgt]
   ·rename_i fs;simp only at he;by_cases hok:(E.ty t).eqok=true
    ·have hk:=q0y hE (t:=t) (by rw[ht];rfl);obtain⟨fields,e1,e2⟩:=q8J hE ht;rw[hk.1] at hok;unfold qw1 at hok;obtain⟨_,i,dd,h1,h2,_⟩:=hk;rw[h1] at hok;simp only[e1,qLN,qN9] at hok;cases hx;cases hy;unfold eqGuard;cases op<;>simp[run_program,hok.1.2]
    ·rw[if_neg hok] at he;cases he
  cases hx with
  | agg _ vxs hxs=>
   cases hy with
   | agg _ vys hys=>
    cases op<;>simp only[okb] at h<;>cases h
    ·refine⟨_,_,rfl,?_,.bool b⟩;rw[qLv,hg,qLA];simp[binOp,heq]
    ·refine⟨_,_,rfl,?_,.bool (!b)⟩;rw[qLv,hg,qLA];simp[binOp,heq]
theorem qwT {a:AV}(h:Rep X a v)(hc:a.isCell=true):v.cells=#[v]/\v.oneCell'=true:=by
 cases h with
 | imm sh l v h=>
  rcases h with⟨rfl,rfl⟩|⟨a,cap,rfl,h1,h2,h3⟩<;>exact⟨rfl,rfl⟩
 | undef=>simp[AV.isCell] at hc
 | skip=>simp[AV.isCell] at hc
 | agg=>simp[AV.isCell] at hc
 | tuple=>simp[AV.isCell] at hc
 | bagg=>simp[AV.isCell] at hc
 | _=>exact⟨rfl,rfl⟩
theorem qhL {a:AV}(h:Rep X a v)(hc:u7 a.cells=true):RepL X a.cells v.cells.toList:=by
 cases h with
 | agg cs vs h=>simpa[AV.cells,Value.cells] using h
 | undef=>simp[AV.cells,u7,AV.isCell] at hc
 | skip=>simp[AV.cells,u7,AV.isCell] at hc
 | tuple=>simp[AV.cells,u7,AV.isCell] at hc
 | bagg=>simp[AV.cells,u7,AV.isCell] at hc
 | yld=>exact .cons .yld .nil
 | blit=>exact .cons (.blit _) .nil
 | bool=>exact .cons (.bool _) .nil
 | ilit=>exact .cons (.ilit _ _) .nil
 | int=>exact .cons (.int _ _) .nil
 | str=>exact .cons (.str _) .nil
 | nilp=>exact .cons .nilp .nil
 | ptr b off n h1 h2=>exact .cons (.ptr b off n h1 h2) .nil
 | eptr sh l i off a h1 h2 h3 h4=>exact .cons (.eptr sh l i off a h1 h2 h3 h4) .nil
 | mnil sh l i off=>exact .cons (.mnil sh l i off) .nil
 | mptr sh l i off a h1 h2 h3 h4=>exact .cons (.mptr sh l i off a h1 h2 h3 h4) .nil
 | vptr b i off n k h1 h2 h3=>exact .cons (.vptr b i off n k h1 h2 h3) .nil
 | vsub b i n k m c h1 h2 h3=>exact .cons (.vsub b i n k m c h1 h2 h3) .nil
 | aptr b o i n h1 h2 h3=>exact .cons (.aptr b o i n h1 h2 h3) .nil
 | asub b o N i m n k c h1 h2 h3 h4 h5 h6=>exact .cons (.asub b o N i m n k c h1 h2 h3 h4 h5 h6) .nil
 | nils=>exact .cons .nils .nil
 | imm sh l v h=>
  rcases h with⟨rfl,rfl⟩|⟨a,cap,rfl,h1,h2,h3⟩
  ·exact .cons (.imm _ _ _ (.inl ⟨rfl,rfl⟩)) .nil
  ·exact .cons (.imm _ _ _ (.inr ⟨a,cap,rfl,h1,h2,h3⟩)) .nil
 | full sh l p n h=>exact .cons (.full sh l p n h) .nil
 | vec b p n c h1 h2=>exact .cons (.vec b p n c h1 h2) .nil
 | nilf=>exact .cons .nilf .nil
 | fn f first caps vf vc h1 h2=>exact .cons (.fn f first caps vf vc h1 h2) .nil
theorem qcL{X:Ctx}:∀{cs:List AV} {vs:List Value},RepL X cs vs->u7 cs=true->∀v∈vs,v.oneCell'=true
 | _,_,.nil,_,v,h=>by simp at h
 | _,_,.cons ha ht,hc,v,h=>by
  simp only[u7,qNv,qLN] at hc;rcases qLx.1 h with rfl|h
  ·exact(qwT ha hc.1).2
  ·exact qcL ht hc.2 v h
theorem qAN (hs:HSim B X){cs:List AV}{c:Array Value}{T:TypeId}(hr:RepL X cs c.toList) :HSim B (X.pushW (.cells cs) (some X.w.heap.size) (X.w.alloc (.cells c T))):=by have hw:=PushW.alloc X (.cells c T);refine hs.push hw ⟨X.w.heap.size,c,T,by simp[Ctx.pushW],wj _ _,hr.ext (Ctx.push_ext hs _ hw)⟩
theorem qA6 {k:Blk}{n:Nat}{w':World}:Rep (X.pushW k (some n) w') (.ptr X.h.length 0) (.pointer (some ⟨n,0,none⟩)):=.ptr _ _ _ (by simp[Ctx.pushW]) (by simp[Ctx.pushW])
theorem qr3 (hs:HSim B X){cs:List AV}(hr:RepL X cs v.cells.toList){m:Sem Value}(hm:m.run P X.w=.ok (.pointer (some ⟨X.w.heap.size,0,none⟩)) (X.w.alloc (.cells v.cells t))) :qW P B X (do pure (.value (<-m))) (.ptr X.h.length 0,X.h++[.cells cs],none):=
 ⟨.value (.pointer (some ⟨X.w.heap.size,0,none⟩)),_,X.pushW (.cells cs) (some X.w.heap.size) (X.w.alloc (.cells v.cells t)),by simp[hm];rfl,.inl rfl,qA6,qAN hs hr,rfl,
  Ctx.push_ext hs _ (PushW.alloc X _)⟩
theorem qau (P:Program)(w:World)(t:TypeId)(v:Value):(newVar t v).run P w=.ok ⟨w.heap.size,0,none⟩ (w.alloc (.cells v.cells t)):=rfl
theorem qFN (hs:HSim B X){a:AV}(hv:Rep X a v)(hc:u7 a.cells=true) :qW P B X (do pure (.value (<-Instr.box t v))) (.ptr X.h.length 0,X.h++[.cells a.cells],none):=qr3 (t:=t) hs (qhL hv hc) (by simp[Instr.box,qau])
theorem qfT (hE:E.tok P)(h:(E.ty t).zero.length≠0)(w:World):∃v,(zeroValue t).run P w=.ok v w/\v.cells.toList=(E.ty t).zero /\∃i,P.info? t=some i/\i.zero=some v:=by
 rcases qpk hE t with h1|h1
 ·rw[h1] at h;simp[qKp] at h
 ·rw[h1] at h ⊢;unfold qw1 at *;cases hi:P.info? t with
  | none=>rw[hi] at h;simp at h
  | some i=>
   cases hz:i.zero with
   | none=>simp[hi,hz] at h
   | some v=>exact⟨v,by simp[zeroValue,typeInfo,hi,hz],by simp[hz],i,rfl,hz⟩
theorem qB7 (hE:E.tok P)(hs:HSim B X)(hz:((E.ty t).zero.map jI).length≠0) :qW P B X (do pure (.value (<-Instr.alloc t true (.tuple #[])))) (.ptr X.h.length 0,X.h++[.cells ((E.ty t).zero.map jI)],none):=by obtain⟨v,h1,h2,_⟩:=qfT hE (t:=t) (by simpa using hz) X.w;refine qr3 (t:=t) (v:=v) hs (by rw[h2];exact yh X _) ?_;simp[Instr.alloc,h1,qau]
theorem qfK {cs vs:List AV}{us ws:List Value}(h1:RepL X cs us)(h2:RepL X vs ws)(off:Nat):RepL X (qo8 cs off vs) (us.take off++ws++us.drop (off+vs.length)):=((h1.take off).append h2).append (h1.drop _)
mutual
theorem Sh.beq_eq:∀a b:Sh,a.beq b=true->a=b
 | .int k,b,h=>by cases b<;>simp[Sh.beq] at h;rw[h]
 | .bool,b,h=>by cases b<;>simp[Sh.beq] at h;rfl
 | .str,b,h=>by cases b<;>simp[Sh.beq] at h;rfl
 | .sl r,b,h=>by
  cases b<;>simp[Sh.beq] at h;rw[Sh.beqL_eq _ _ h]
theorem Sh.beqL_eq:∀a b:List Sh,Sh.beqL a b=true->a=b
 | [],b,h=>by cases b<;>simp[Sh.beqL] at h;rfl
 | a::l,b,h=>by
  cases b<;>simp[Sh.beqL] at h;rw[Sh.beq_eq _ _ h.1,Sh.beqL_eq _ _ h.2]
end
theorem q8L {s:Sh}{a:AV}{u:U}(h:toU X.h s a=some u)(hm:a.men=[])(hr:Rep X a v):RepU X.w X.M s u v:=by
 cases hr with
 | ilit k n=>
  cases s<;>simp only[toU] at h<;>try (cases h)
  rename_i k';by_cases hk:k'=k
  ·subst hk;rw[if_pos rfl] at h;cases h;exact .int _ (.i n)
  ·rw[if_neg hk] at h;cases h
 | int k n=>
  cases s<;>simp only[toU] at h<;>try (cases h)
  rename_i k';by_cases hk:k'=k
  ·subst hk;rw[if_pos rfl] at h;cases h;exact .int _ (.i n)
  ·rw[if_neg hk] at h;cases h
 | blit b=>cases s<;>simp only[toU] at h<;>cases h;exact .bool (.b b)
 | bool b=>cases s<;>simp only[toU] at h<;>cases h;exact .bool (.b b)
 | str t=>cases s<;>simp only[toU] at h<;>cases h;exact .str (.s t)
 | nils=>cases s<;>simp only[toU] at h<;>cases h;exact .slnil _ _ rfl
 | imm sh l v himm=>
  cases s<;>simp only[toU] at h<;>try (cases h)
  rename_i row;by_cases hb:Sh.beqL row sh=true
  ·rw[if_pos hb] at h;cases h;obtain rfl:=Sh.beqL_eq _ _ hb;exact qag himm
  ·rw[if_neg hb] at h;cases h
 | vec b p n c h1 h2=>simp[AV.men] at hm
 | _=>cases s<;>simp only[toU] at h<;>cases h
theorem qsZ{X:Ctx}:∀{sh:List Sh} {azz:List AV} {us:List U} {vs:List Value},qpq X.h sh azz=some us->AV.menL azz=[]->RepL X azz vs ->
  us.length=sh.length/\azz.length=sh.length/\∀j (hj:j<sh.length),∃v,vs[j]?=some v/\RepU X.w X.M sh[j] (us.getD j (.i 0)) v
 | [],[],us,vs,h,_,hr=>by simp[qpq] at h;subst h;exact⟨rfl,rfl,fun j hj=>by simp at hj⟩
 | [],_::_,us,vs,h,_,_=>by simp[qpq] at h
 | _::_,[],us,vs,h,_,_=>by simp[qpq] at h
 | s::sh,a::azz,us,vs,h,hm,hr=>by
  simp only[qpq] at h;cases h1:toU X.h s a with
  | none=>rw[h1] at h;cases h
  | some u=>
   cases h2:qpq X.h sh azz with
   | none=>rw[h1,h2] at h;cases h
   | some us'=>
    rw[h1,h2] at h;cases h;simp only[AV.menL,List.append_eq_nil_iff] at hm;cases hr with
    | cons ha ht=>
     obtain⟨g1,g2,g3⟩:=qsZ h2 hm.2 ht;refine⟨by simp[g1],by simp[g2],fun j hj=>?_⟩;cases j with
     | zero=>exact⟨_,rfl,by simpa using q8L h1 hm.1 ha⟩
     | succ j=>
      obtain⟨v,q1,q2⟩:=g3 j (by simpa using hj);exact⟨v,by simpa using q1,by simpa using q2⟩
theorem q2O {n o:Nat}{c:Array Value}{T:TypeId}(hc:X.w.heap[n]?=some (.cells c T (0,0)))(hsz:(sizeOf t).run P X.w=.ok v.cells.size X.w) (hle:o+v.cells.size<=c.size) (h1:∀u∈v.cells.toList,u.oneCell'=true) :(storeVar t ⟨n,o,none⟩ v).run P X.w=.ok () (X.w.setRow n (c.toList.take o++v.cells.toList++c.toList.drop (o+v.cells.size)).toArray):=by have:=run_storeCells_at P n o T v.cells.toList 0 c X.w hc (by simpa using hle) h1;simp only[qM8,Array.length_toList] at this;simp[storeVar,hsz,this]
theorem qyJ (row:List U)(off:Nat)(us:List U)(j:Nat) :(qwk row off us).getD j (.i 0)=if off<=j/\j<off+us.length then us.getD (j-off) (.i 0) else row.getD j (.i 0):=by
 unfold qwk;by_cases hj:j<max row.length (off+us.length)
 ·simp[hj]
 ·have h1:¬(off<=j/\j<off+us.length):=by omega
  have h2:row.length<=j:=by omega
  rw[if_neg h1];simp[hj,h2]
theorem qhD {l:R}{i:Int}{off:Nat}{us:List U}(hi:i.toNat<l.length){j:Nat}:wD (qgZ l i off us) i j = if off<=j/\j<off+us.length then us.getD (j-off) (.i 0) else wD l i j:=by
 have:(qgZ l i off us).getD i.toNat []=qwk (l.getD i.toNat []) off us:=by simp[qgZ,hi]
 unfold wD;rw[this,qyJ]
theorem qgz {l:R}{i:Int}{off:Nat}{us:List U}{r:Nat}(hr:r≠i.toNat){j:Nat}:wD (qgZ l i off us) r j=wD l r j:=by unfold wD qgZ;simp[qLt (qLX hr)]
theorem q9X (hE:E.tok P){n:Nat}(h:n=(E.ty t).size)(h0:n≠0)(w:World):(sizeOf t).run P w=.ok n w:=by
 rcases qpk hE t with h1|h1
 ·rw[h1] at h;exact absurd h h0
 ·rw[h1] at h;unfold qw1 at h;cases hi:P.info? t with
  | none=>rw[hi] at h;exact absurd h h0
  | some i=>rw[hi] at h;simp[sizeOf,typeInfo,hi];exact h.symm
theorem qCX {r i es j:Nat}(hj:j<es)(h:r≠i):r*es+j<i*es\/i*es+es<=r*es+j:=by
 rcases Nat.lt_or_gt_of_ne h with h|h
 ·left;have:(r+1)*es<=i*es:=qLT _ h;rw[qLH] at this;omega
 ·right;have:(i+1)*es<=r*es:=qLT _ h;rw[qLH] at this;omega
theorem qe5 {c vs:List Value}{o k:Nat}(h:o+vs.length<=c.length):(c.take o++vs++c.drop (o+vs.length))[k]?=if o<=k/\k<o+vs.length then vs[k-o]? else c[k]?:=by
 by_cases h1:k<o
 ·rw[if_neg (by omega),qM4,qLB (by simp;omega),qMx,if_pos h1]
 ·by_cases h2:k<o+vs.length
  ·rw[if_pos (by omega),qM4,qLP (by simp;omega),qLB (by simp;omega)];congr 1;simp;omega
  ·rw[if_neg (by omega),qLP (by simp;omega),qMy];congr 1;simp;omega
theorem qox (hE:E.tok P)(hs:HSim B X){p a:AV}{vp v:Value}(hp:Rep X p vp)(hv:Rep X a v){r:Res}(h:(qfw E X.h t p a).run=some r):qW P B X (do Instr.storeAt t vp v;pure .skip) r:=by
 unfold qfw at h;by_cases hc:a.cells.length=(E.ty t).size/\u7 a.cells=true/\a.cells.length≠0
 ·rw[if_pos hc] at h;have hrl:=qhL hv hc.2.1;have hlen:v.cells.size=a.cells.length:=by have:=hrl.length;simpa using this.symm
  have hone:=qcL hrl hc.2.1;have hsz:(sizeOf t).run P X.w=.ok v.cells.size X.w:=by rw[hlen];exact q9X hE hc.1 hc.2.2 X.w
  cases hp with
  | ptr b off n hb hσ=>
   simp only at h;cases hh:X.h[b]? with
   | none=>rw[hh] at h;cases h
   | some k=>
    rw[hh] at h;cases k<;>try (cases h)
    rename_i cs;simp only at h;by_cases hle:off+a.cells.length<=cs.length
    ·rw[if_pos hle] at h;cases h;obtain⟨n',c,T,e1,e2,e3⟩:=hs.blk b _ hh;rw[hσ] at e1;cases e1;have hcl:=e3.length;simp only[Array.length_toList] at hcl;have hrun:=q2O (P:=P) (t:=t) (o:=off) (v:=v) e2 hsz (by omega) hone;have hup:=UpdW.setRow (X:=X) (c':=(c.toList.take off++v.cells.toList++c.toList.drop (off+v.cells.size)).toArray) e2 (by simp;omega);have hown:X.own b n:=⟨hσ,_,hh,rfl⟩;have hx:=Ctx.upd_ext hs hh hown hup (k':=.cells (qo8 cs off a.cells)) trivial;refine⟨.skip,Go.undef,X.upd b (.cells (qo8 cs off a.cells)) (X.w.setRow n _),?_,.inr ⟨rfl,rfl⟩,.skip,hs.upd hh hown hup trivial ?_,rfl,hx⟩
     ·simp[Instr.storeAt,Instr.sureAddr,hrun];rfl
     ·refine⟨n,_,T,hσ,hup.new,?_⟩;have:=(qfK e3 hrl off).ext hx;rw[<-hlen] at this;simpa using this
    ·rw[if_neg hle] at h;cases h
  | vptr b i off n k hb hσ hk=>
   simp only at h;cases hh:X.h[b]? with
   | none=>rw[hh] at h;cases h
   | some kk=>
    rw[hh] at h;cases kk<;>try (cases h)
    rename_i e sh l;simp only at h;by_cases hm:(AV.menL a.cells).isEmpty=true
    ·rw[if_pos hm] at h;cases hu:qpq X.h ((sh.drop off).take a.cells.length) a.cells with
     | none=>rw[hu] at h;cases h
     | some us=>
      rw[hu] at h;cases h;obtain⟨g1,g2,g3⟩:=qsZ hu (by simpa using hm) hrl;have g2':off+a.cells.length<=sh.length:=by have:=hc.2.2;simp only[qMw,qNu] at g2;omega
      have hul:us.length=a.cells.length:=by rw[g1,<-g2]
      obtain⟨q1,q2,q3⟩:=hk sh l.length ⟨e,l,.inl hh,rfl⟩;rcases hs.blk b _ hh with⟨e1,_⟩|⟨n',c,e1,e2,e3⟩
      ·rw[hσ] at e1;cases e1
      rw[hσ] at e1;cases e1;have hlast:i.toNat*sh.length+off+a.cells.length<=c.size:=by
       have hlt:off+a.cells.length-1<sh.length:=by have:=hc.2.2;omega
       obtain⟨v',w1,_⟩:=e3 i.toNat (off+a.cells.length-1) hlt q2;have:=(qLw.1 w1).1;omega
      subst q3;have hrun:=q2O (P:=P) (t:=t) (o:=i.toNat*sh.length+off) (v:=v) e2 hsz (by omega) hone;have hup:=UpdW.setRow (X:=X) (c':=(c.toList.take (i.toNat*sh.length+off)++v.cells.toList++c.toList.drop (i.toNat*sh.length+off+v.cells.size)).toArray) e2 (by simp;omega);have hown:X.own b n:=⟨hσ,_,hh,rfl⟩;have hkk:qgk (.vec e sh l) (.vec e sh (qgZ l i off us)):=⟨rfl,rfl,by simp[qgZ]⟩;have hx:=Ctx.upd_ext hs hh hown hup hkk;refine⟨.skip,Go.undef,X.upd b (.vec e sh (qgZ l i off us)) (X.w.setRow n _),?_,.inr ⟨rfl,rfl⟩,.skip,hs.upd hh hown hup hkk ?_,rfl,hx⟩
      ·simp[Instr.storeAt,Instr.sureAddr,hrun];rfl
      ·refine .inr ⟨n,_,hσ,hup.new,fun r j hj hr=>?_⟩;have hr':r<l.length:=by simpa[qgZ] using hr
       have hget:∀k,(c.toList.take (i.toNat*sh.length+off)++v.cells.toList++c.toList.drop (i.toNat*sh.length+off+v.cells.size)).toArray[k]? =
         if i.toNat*sh.length+off<=k/\k<i.toNat*sh.length+off+v.cells.size then v.cells.toList[k-(i.toNat*sh.length+off)]? else c[k]?:=by
        intro k;have:=qe5 (c:=c.toList) (vs:=v.cells.toList) (o:=i.toNat*sh.length+off) (k:=k) (by simp;omega);simpa using this
       rw[hget];by_cases hri:r=i.toNat
       ·subst hri;rw[qfD,qhD q2];by_cases hin:off<=j/\j<off+us.length
        ·rw[if_pos (by omega),if_pos hin];obtain⟨v',w1,w2⟩:=g3 (j-off) (by rw[<-g1];omega);refine⟨v',?_,?_⟩
         ·rw[show i.toNat*sh.length+j-(i.toNat*sh.length+off)=j-off by omega];exact w1
         ·have:((sh.drop off).take a.cells.length)[j-off]'(by rw[<-g1];omega)=sh[j]:=by simp only[List.getElem_take,List.getElem_drop];congr 1;omega
          rw[this] at w2;exact w2.mono hx.M hx.w
        ·rw[if_neg (by omega),if_neg hin];obtain⟨v',w1,w2⟩:=e3 i.toNat j hj q2;rw[qfD] at w2;exact⟨v',w1,w2.mono hx.M hx.w⟩
       ·rw[qgz hri];have:=qCX (i:=i.toNat) hj hri;rw[if_neg (by omega)];obtain⟨v',w1,w2⟩:=e3 r j hj hr';exact⟨v',w1,w2.mono hx.M hx.w⟩
    ·rw[if_neg hm] at h;cases h
  | _=>simp only at h;cases h
 ·rw[if_neg hc] at h;cases h
end Go.Eng

namespace Go.Eng
theorem qqh:∀(xs:List Value) (cs:Array Value) (off k:Nat),off+k+xs.length<=cs.size ->
  ((xs.zipIdx k).foldl (fun cs (x:Value×Nat)=>cs.setIfInBounds (off+x.2) x.1) cs).toList=cs.toList.take (off+k)++xs++cs.toList.drop (off+k+xs.length)
 | [],cs,off,k,_=>by simp
 | x::xs,cs,off,k,h=>by
  simp only[List.zipIdx_cons,qNl,qM5] at h ⊢;rw[qqh xs (cs.setIfInBounds (off+k) x) off (k+1) (by simp;omega)];rw[Array.toList_setIfInBounds];apply qMo;intro i;have hlen:(cs.toList.set (off+k) x).length=cs.size:=by simp
  rw[qe5 (by simp;omega)];have:=qe5 (c:=cs.toList) (vs:=x::xs) (o:=off+k) (k:=i) (by simp;omega);simp only[qM5] at this;rw[this];by_cases h1:i=off+k
  ·subst h1;rw[if_neg (by omega),if_pos (by omega),qLL (by simp;omega)];simp
  ·by_cases h2:off+k<=i/\i<off+k+(xs.length+1)
   ·rw[if_pos (by omega),if_pos h2,show i-(off+k)=(i-(off+(k+1)))+1 by omega];simp
   ·rw[if_neg (by omega),if_neg h2,qLt (by omega)]
theorem qtf(v cs:Array Value)(off:Nat)(h:off+v.size<=cs.size) :(v.zipIdx.foldl (fun cs (x:Value×Nat)=>cs.setIfInBounds (off+x.2) x.1) cs).toList=cs.toList.take off++v.toList++cs.toList.drop (off+v.size):=by rw[<-Array.foldl_toList,Array.toList_zipIdx];have:=qqh v.toList cs off 0 (by simpa using h);simpa using this
inductive RepP (X:Ctx):List (Nat×AV)->List (Nat×Value)->Prop
 | nil:RepP X [] []
 | cons {i:Nat} {a:AV} {v:Value} {l:List (Nat×AV)} {m:List (Nat×Value)} (h:Rep X a v) (t:RepP X l m):RepP X ((i,a)::l) ((i,v)::m)
theorem qiw{X:Ctx}{place:Nat->Option (Nat×Nat)}:∀{parts:List (Nat×AV)} {vparts:List (Nat×Value)} {cells cs:List AV} {vc:Array Value},
  qeA place cells parts=some cs->RepP X parts vparts->RepL X cells vc.toList->∃vc',Instr.fill place vc vparts=some vc'/\RepL X cs vc'.toList
 | [],_,cells,cs,vc,h,.nil,hr=>by simp[qeA] at h;subst h;exact⟨vc,rfl,hr⟩
 | (i,a)::parts,_,cells,cs,vc,h,.cons (v:=v) ha ht,hr=>by
  simp only[qeA] at h;cases hp:place i with
  | none=>rw[hp] at h;cases h
  | some q=>
   obtain⟨off,size⟩:=q;rw[hp] at h;simp only at h;by_cases hc:a.cells.length=size/\off+a.cells.length<=cells.length/\u7 a.cells=true
   ·rw[if_pos hc] at h;have hrl:=qhL ha hc.2.2;have hlen:v.cells.size=a.cells.length:=by have:=hrl.length;simpa using this.symm
    have hvc:cells.length=vc.size:=by have:=hr.length;simpa using this
    have hnot:¬(v.cells.size≠size\/off+v.cells.size>vc.size):=by omega
    have hf:=qtf v.cells vc off (by omega);obtain⟨vc',h1,h2⟩:=qiw (vc:=v.cells.zipIdx.foldl (fun cs (x:Value×Nat)=>cs.setIfInBounds (off+x.2) x.1) vc) h ht (by rw[hf,hlen];exact qfK hr hrl off);refine⟨vc',?_,h2⟩;simp only[Instr.fill,hp];rw[if_neg (by simpa using hnot)];exact h1
   ·rw[if_neg hc] at h;cases h
theorem qlG{α β:Type}{P:Program}{f:α->Sem β}{g:α->β}:∀(l:List α),(∀a∈l,∀w,(f a).run P w=.ok (g a) w)->∀w,(l.mapM f).run P w=.ok (l.map g) w
 | [],_,w=>rfl
 | a::l,h,w=>by
  rw[List.mapM_cons,qLv,h a qLE,qLA,qLv,qlG l (fun b hb=>h b (qLO _ hb)) w];rfl
theorem qzj{α β:Type}{P:Program}{f:α->Sem β}{g:α->β}(l:Array α)(h:∀a∈l.toList,∀w,(f a).run P w=.ok (g a) w)(w:World):(l.mapM f).run P w=.ok (l.map g) w:=by rw[Array.mapM_eq_mapM_toList,Sem.run_map,qlG _ h,qLA];congr 1;apply qMN;simp
theorem quR{E:Env}{P:Program}(hE:E.tok P){X:Ctx}{t:TypeId}{parts:List (Nat×AV)}{vparts:Array (Nat×Value)}(hp:RepP X parts vparts.toList){r:Res}(h:(qh3 E X.h t parts).run=some r):∃av u,r=(av,X.h,none)/\(Instr.build t vparts).run P X.w=.ok u X.w/\Rep X av u:=by
 unfold qh3 at h;by_cases hz:(E.ty t).zero.length=0
 ·rw[if_pos hz] at h;cases h
 rw[if_neg hz] at h;obtain⟨z,z1,z2,_⟩:=qfT hE hz X.w;cases hd:(E.ty t).d<;>rw[hd] at h<;>try (cases h)
 ·rename_i n e es;obtain⟨ht,rfl⟩:=q84 hE hd;simp only at h;by_cases h0:P.cellsOf e=0
  ·rw[if_pos h0] at h;cases h
  rw[if_neg h0] at h;cases hf:qeA (fun i=>some (i*P.cellsOf e,P.cellsOf e)) ((E.ty t).zero.map jI) parts with
  | none=>rw[hf] at h;cases h
  | some cs=>
   rw[hf] at h;cases h;obtain⟨vc,f1,f2⟩:=qiw (vc:=z.cells) hf hp (by rw[z2];exact yh X _);have:Rep X (.agg cs) (.agg vc.toList.toArray):=.agg _ _ f2;refine⟨_,.agg vc,rfl,?_,by simpa using this⟩;simp[Instr.build,z1,run_underlying ht,zM (show 0<P.cellsOf e by omega),f1]
 ·rename_i fs;obtain⟨fields,e1,e2⟩:=q8J hE hd;simp only at h;by_cases hok:(E.ty t).fok=true
  ·rw[if_pos hok] at h;have hinfo:∀f∈fields.toList,(P.info? f.type).isSome=true:=by have hk:=q0y hE (t:=t) (by rw[hd];rfl);rw[hk.1] at hok;unfold qw1 at hok;obtain⟨_,i,dd,h1,_⟩:=hk;rw[h1] at hok;simpa only [e1,qLZ] using hok
   cases hf:qeA (fun i=>(fs[i]?).map fun (f:Nat×TypeId×Nat)=>(f.1,f.2.2)) ((E.ty t).zero.map jI) parts with
   | none=>rw[hf] at h;cases h
   | some cs=>
    rw[hf] at h;cases h;have hpl:(fun i:Nat=>(fs[i]?).map fun (f:Nat×TypeId×Nat)=>(f.1,f.2.2))=fun i:Nat=>(fields.map fun f=>(f.offset,P.cellsOf f.type))[i]?:=by funext i;rw[e2];simp only[qLC,qNC,Array.getElem?_map,Option.map_map];rfl
    rw[hpl] at hf;obtain⟨vc,f1,f2⟩:=qiw (vc:=z.cells) hf hp (by rw[z2];exact yh X _);have:Rep X (.agg cs) (.agg vc.toList.toArray):=.agg _ _ f2;refine⟨_,.agg vc,rfl,?_,by simpa using this⟩;have hm:=qzj (P:=P) (f:=fun f:Field=>(do pure (f.offset,<-sizeOf f.type):Sem (Nat×Nat))) (g:=fun f=>(f.offset,P.cellsOf f.type)) fields (fun f hf w=>by
     have:=hinfo f hf;cases hi:P.info? f.type with
     | none=>rw[hi] at this;cases this
     | some i=>simp[sizeOf,typeInfo,hi,Program.cellsOf]) X.w
    simp only[Instr.build,qLv,z1,qLA,run_underlying e1];rw[hm];simp only[qLA,f1];rfl
  ·rw[if_neg hok] at h;cases h
variable {B:Base}{e:TypeId}{h:List Blk}{l:R}{sh:List Sh}
structure Frozen (B:Base) (X X':Ctx) (h':List Blk):Prop where
 h:X'.h=h'
 w:X'.w=X.w
 σ:X'.σ=X.σ
 hs:HSim B X'
 ext:Ext X X'
theorem Move.trans {X Y Z:Ctx}(h:Ext X Y)(k:Ext Y Z):Ext X Z:=by refine Move.of (fun n hn=>k.M n (h.M n hn)) (fun a ha=>(k.w a (h.M _ ha)).trans (h.w a ha)) (fun b b' hb hf=>?_) (k.y.trans h.y) (k.kept.trans h.kept);cases hf;have h1:=h.b b b hb rfl;have h2:=k.b b b h1.lt rfl;refine⟨h2.lt,h2.σ.trans h1.σ,fun sh m hv=>h1.vec sh m (h2.vec sh m hv),fun sh m hv n hn c T fr hc=>?_⟩;obtain⟨c1,T1,fr1,e1,e2⟩:=h1.size sh m (h2.vec sh m hv) n hn c T fr hc;obtain⟨c2,T2,fr2,e3,e4⟩:=h2.size sh m hv n (by rw[h1.σ];exact hn) c1 T1 fr1 e1;exact⟨c2,T2,fr2,e3,e4.trans e2⟩
theorem qid {X:Ctx}(hs:HSim B X)(b:Nat):∃X',Frozen B X X' (zU X.h b):=by
 unfold zU;cases hb:X.h[b]? with
 | none=>exact⟨X,rfl,rfl,rfl,hs,Ext.refl X⟩
 | some k=>
  cases k with
  | vec e sh l=>exact⟨X.frz b e sh l,rfl,rfl,rfl,hs.frz hb,Ctx.frz_ext hb⟩
  | cells=>exact⟨X,rfl,rfl,rfl,hs,Ext.refl X⟩
  | big=>exact⟨X,rfl,rfl,rfl,hs,Ext.refl X⟩
  | frz=>exact⟨X,rfl,rfl,rfl,hs,Ext.refl X⟩
  | dead=>exact⟨X,rfl,rfl,rfl,hs,Ext.refl X⟩
theorem qpQ {b b':Nat}(hb:h[b']?=some (.vec e sh l)\/h[b']?=some (.frz e sh l)) :(zU h b)[b']?=some (.vec e sh l)\/(zU h b)[b']?=some (.frz e sh l):=by
 unfold zU;split
 ·rename_i e1 sh1 l1 h1;by_cases hbb:b'=b
  ·subst hbb;rw[qLL (qv h1)];rcases hb with hb|hb<;>rw[h1] at hb<;>cases hb;exact .inr rfl
  ·rw[qLt (qLX hbb)];exact hb
 ·exact hb
theorem qhG {b:Nat}(hb:h[b]?=some (.vec e sh l)\/h[b]?=some (.frz e sh l)) :(zU h b)[b]?=some (.frz e sh l):=by
 unfold zU;rcases hb with hb|hb<;>rw[hb]
 ·simp only;rw[qLL (qv hb)]
 ·exact hb
theorem qxJ {b b':Nat}(hb:h[b']?=some (.frz e sh l)):(zU h b)[b']?=some (.frz e sh l):=by
 rcases qpQ (b:=b) (.inr hb) with h1|h1
 ·unfold zU at h1;split at h1
  ·rename_i e1 sh1 l1 h2;by_cases hbb:b'=b
   ·subst hbb;rw[h2] at hb;cases hb
   ·rw[qLt (qLX hbb),hb] at h1;cases h1
  ·rw[hb] at h1;cases h1
 ·exact h1
theorem q5Q{B:Base}:∀(l:List Nat) {X:Ctx} (_:HSim B X),∃X',Frozen B X X' (qS X.h l)
 | [],X,hs=>⟨X,rfl,rfl,rfl,hs,Ext.refl X⟩
 | b::l,X,hs=>by
  obtain⟨X1,f1⟩:=qid hs b;obtain⟨X2,f2⟩:=q5Q l f1.hs;refine⟨X2,?_,f2.w.trans f1.w,f2.σ.trans f1.σ,f2.hs,f1.ext.trans f2.ext⟩;rw[f2.h,f1.h];rfl
theorem qr2:∀(l:List Nat) {h:List Blk} {b:Nat} {e:TypeId} {sh:List Sh} {r:R},h[b]?=some (.frz e sh r)->(qS h l)[b]?=some (.frz e sh r)
 | [],_,_,_,_,_,h=>h
 | _::l,_,_,_,_,_,h=>qr2 l (qxJ h)
theorem qqI:∀(l:List Nat) {h:List Blk} {b:Nat} {e:TypeId} {sh:List Sh} {r:R},b∈l->(h[b]?=some (.vec e sh r)\/h[b]?=some (.frz e sh r))->(qS h l)[b]?=some (.frz e sh r)
 | a::l,h,b,e,sh,r,hm,hb=>by
  rcases qLx.1 hm with rfl|hm
  ·exact qr2 l (qhG hb)
  ·exact qqI l hm (qpQ hb)
def qCe(l:List AV):List Nat:=l.filterMap fun|.vec b=>some b|_=>none
theorem qoy:∀(l:List AV) (h:List Blk),qb9 h l=qS h (qCe l)
 | [],h=>rfl
 | a::l,h=>by
  cases a<;>first|(simp only[qb9,qCe,List.filterMap_cons];exact qoy l _)
theorem qiJ {X:Ctx}(hs:HSim B X){b:Nat}{v:Value}(hb:X.h[b]?=some (.frz e sh l))(hv:Rep X (.vec b) v):qfC X.w X.M sh l v:=by
 cases hv with
 | vec _ p n c hlt h=>
  have h1:=h sh l.length ⟨e,l,.inr hb,rfl⟩;unfold qvs at h1;rcases hs.blk b _ hb with⟨e1,rfl⟩|⟨n0,c0,e1,e2,e3,e4⟩
  ·rw[e1] at h1;obtain⟨p',h1⟩:=h1;cases p' with
   | none=>exact .inl ⟨h1,rfl⟩
   | some a=>exact .inr ⟨a,0,h1,fun h=>absurd h (Nat.lt_irrefl 0),qLs 0,fun r j hj hr=>absurd hr (qNw r)⟩
  ·rw[e1] at h1;obtain⟨cap,f1,f2,f3,c1,T1,fr1,f4,f5⟩:=h1;refine .inr ⟨⟨n0,0,none⟩,cap,f1,fun _=>rfl,f2,fun r j hj hr=>⟨e4,?_⟩⟩;obtain⟨v,q1,q2⟩:=e3 r j hj hr;exact⟨v,by rw[zZ e2];simpa using q1,q2⟩
theorem qBf {X X1:Ctx}{s:Sh}{a:AV}{u:U}{v:Value}(h:toU X.h s a=some u)(hs1:HSim B X1)(hx:Ext X X1)(hf:∀b e sh l,a=.vec b->(X.h[b]?=some (.vec e sh l)\/X.h[b]?=some (.frz e sh l))->X1.h[b]?=some (.frz e sh l)) (hr:Rep X a v):RepU X1.w X1.M s u v:=by
 by_cases hv:∃b,a=.vec b
 ·obtain⟨b,rfl⟩:=hv;cases s<;>simp only[toU] at h<;>try (cases h)
  rename_i row;have key:∀e row' l,(X.h[b]?=some (.vec e row' l)\/X.h[b]?=some (.frz e row' l))->(if Sh.beqL row row' then some (U.l l) else none)=some u->RepU X1.w X1.M (.sl row) u v:=by
   intro e row' l hb hh;by_cases hq:Sh.beqL row row'=true
   ·rw[if_pos hq] at hh;cases hh;obtain rfl:=Sh.beqL_eq _ _ hq;exact qag (qiJ hs1 (hf b e row l rfl hb) (hr.ext hx))
   ·rw[if_neg hq] at hh;cases hh
  split at h
  ·rename_i e row' l hb;exact key _ _ _ (.inl hb) h
  ·rename_i e row' l hb;exact key _ _ _ (.inr hb) h
  ·cases h
 ·
  have:RepU X.w X.M s u v:=by
   cases hr with
   | vec b=>exact absurd ⟨b,rfl⟩ hv
   | ilit k n=>exact q8L h rfl (.ilit k n)
   | int k n=>exact q8L h rfl (.int k n)
   | blit b=>exact q8L h rfl (.blit b)
   | bool b=>exact q8L h rfl (.bool b)
   | str t=>exact q8L h rfl (.str t)
   | nils=>exact q8L h rfl .nils
   | imm sh l v himm=>exact q8L h rfl (.imm sh l v himm)
   | _=>cases s<;>simp only[toU] at h<;>cases h
  exact this.mono hx.M hx.w
def qlv(w:World)(M:Nat->Prop)(sh:List Sh)(l:R)(xs:List Value):Prop:=xs.length=l.length*sh.length/\∀r j (hj:j<sh.length),r<l.length->∃v,xs[r*sh.length+j]?=some v/\RepU w M sh[j] (wD l r j) v
theorem qqx{B:Base}{X X1:Ctx}(hs1:HSim B X1)(hx:Ext X X1):∀{sh:List Sh} {azz:List AV} {us:List U} {vs:List Value},qpq X.h sh azz=some us ->
  (∀a∈azz,∀b e sh l,a=.vec b->(X.h[b]?=some (.vec e sh l)\/X.h[b]?=some (.frz e sh l))->X1.h[b]?=some (.frz e sh l))->RepL X azz vs ->
  us.length=sh.length/\azz.length=sh.length/\∀j (hj:j<sh.length),∃v,vs[j]?=some v/\RepU X1.w X1.M sh[j] (us.getD j (.i 0)) v
 | [],[],us,vs,h,_,hr=>by simp[qpq] at h;subst h;exact⟨rfl,rfl,fun j hj=>by simp at hj⟩
 | [],_::_,us,vs,h,_,_=>by simp[qpq] at h
 | _::_,[],us,vs,h,_,_=>by simp[qpq] at h
 | s::sh,a::azz,us,vs,h,hm,hr=>by
  simp only[qpq] at h;cases h1:toU X.h s a with
  | none=>rw[h1] at h;cases h
  | some u=>
   cases h2:qpq X.h sh azz with
   | none=>rw[h1,h2] at h;cases h
   | some us'=>
    rw[h1,h2] at h;cases h;cases hr with
    | cons ha ht=>
     obtain⟨g1,g2,g3⟩:=qqx hs1 hx h2 (fun a ha=>hm a (qLO _ ha)) ht;refine⟨by simp[g1],by simp[g2],fun j hj=>?_⟩;cases j with
     | zero=>exact⟨_,rfl,by simpa using qBf h1 hs1 hx (hm a qLE) ha⟩
     | succ j=>
      obtain⟨v,q1,q2⟩:=g3 j (by simpa using hj);exact⟨v,by simpa using q1,by simpa using q2⟩
theorem qqC (row:List U)(l:R)(j:Nat):wD (row::l) (0:Nat) j=row.getD j (.i 0):=by simp[wD]
theorem qrn (row:List U)(l:R)(r j:Nat):wD (row::l) ((r+1:Nat):Int) j=wD l r j:=by unfold wD;rw[qLD,qLD];simp
theorem qke{B:Base}{X X1:Ctx}(hs1:HSim B X1)(hx:Ext X X1){sh:List Sh}:∀(n:Nat) {azz:List AV} {l:R} {vs:List Value},qj7 X.h sh n azz=some l ->
  (∀a∈azz,∀b e sh l,a=.vec b->(X.h[b]?=some (.vec e sh l)\/X.h[b]?=some (.frz e sh l))->X1.h[b]?=some (.frz e sh l))->RepL X azz vs->l.length=n/\qlv X1.w X1.M sh l vs
 | 0,azz,l,vs,h,hm,hr=>by
  cases azz with
  | nil=>simp[qj7] at h;subst h;cases hr;exact⟨rfl,by simp,fun r j hj hr=>by simp at hr⟩
  | cons=>simp[qj7] at h
 | n+1,azz,l,vs,h,hm,hr=>by
  simp only[qj7] at h;cases h1:qpq X.h sh (azz.take sh.length) with
  | none=>rw[h1] at h;cases h
  | some us=>
   cases h2:qj7 X.h sh n (azz.drop sh.length) with
   | none=>rw[h1,h2] at h;cases h
   | some l'=>
    rw[h1,h2] at h;cases h;obtain⟨g1,g2,g3⟩:=qqx hs1 hx h1 (fun a ha=>hm a (qND ha)) (hr.take _);obtain⟨g4,g5,g6⟩:=qke hs1 hx n h2 (fun a ha=>hm a (qNE ha)) (hr.drop _);have hlen:=hr.length;have g2':sh.length<=azz.length:=by simp only[qMw] at g2;omega
    refine⟨by simp[g4],?_,fun r j hj hr'=>?_⟩
    ·simp only[qNu] at g5;rw[qM5,qLH,qNa];omega
    ·cases r with
     | zero=>
      obtain⟨v,q1,q2⟩:=g3 j hj;rw[qMx,if_pos hj] at q1;exact⟨v,by simpa using q1,by rw[qqC];exact q2⟩
     | succ r=>
      obtain⟨v,q1,q2⟩:=g6 r j hj (by simpa using hr');rw[qMy] at q1;refine⟨v,?_,by rw[qrn];exact q2⟩;rw[<-q1];congr 1;rw[qLH];omega
end Go.Eng

namespace Go.Eng
variable {P:Program}{X:Ctx}{l:R}{sh:List Sh}{t:TypeId}{w:World}
theorem qdA (h:List Blk)(b:Nat):(zU h b).length=h.length:=by unfold zU;split<;>simp
theorem qji:∀(l:List Nat) (h:List Blk),(qS h l).length=h.length
 | [],_=>rfl
 | b::l,h=>by simp[qS,qji l,qdA]
theorem qm0{α:Type}{l:List α}:∀{n i:Nat},i<n*l.length->(List.replicate n l).flatten[i]?=l[i%l.length]?
 | 0,i,h=>by simp at h
 | n+1,i,h=>by
  rw[qMU,qNF];by_cases hi:i<l.length
  ·rw[qLB hi,Nat.mod_eq_of_lt hi]
  ·rw[qLP (by omega),qm0 (by rw[qLH] at h;omega),Nat.mod_eq_sub_mod (by omega:l.length<=i)]
theorem qzS (z:Array Value)(n:Nat):((Array.range (n*z.size)).map (z[·%z.size]!)).toList=(List.replicate n z.toList).flatten:=by
 apply qMo;intro i;by_cases hi:i<n*z.size
 ·rw[qm0 (by simpa using hi)];have hz:0<z.size:=by
   rcases qMz z.size with h|h
   ·rw[h] at hi;omega
   ·exact h
  have hlt:=qMP i hz;simp[hi,hlt]
 ·have h1:((Array.range (n*z.size)).map (z[·%z.size]!)).toList.length<=i:=by simp;omega
  have h2:(List.replicate n z.toList).flatten.length<=i:=by simp;omega
  rw[qLS h1,qLS h2]
theorem qdj{X:Ctx}{azz:List AV}{vs:List Value}(h:RepL X azz vs):∀n,RepL X (List.replicate n azz).flatten (List.replicate n vs).flatten
 | 0=>.nil
 | n+1=>by simp only[qMU,qNF];exact h.append (qdj h n)
theorem qq2 {e:TypeId}{n cap:Nat}{w':World}{c:Array Value}{T:TypeId}{fr:Nat×Nat}(h1:l.length<=cap)(h2:cap<=maxLen)(h3:w'.heap[n]?=some (.cells c T fr)) (h4:c.size=cap*sh.length):Rep (X.pushW (.vec e sh l) (some n) w') (.vec X.h.length) (.slice (some ⟨n,0,none⟩) l.length cap):=by
 refine .vec _ _ _ _ (by simp[Ctx.pushW]) fun sh' m ⟨e',l',q1,q2⟩=>?_;have:(X.h++[Blk.vec e sh l])[X.h.length]?=some (.vec e sh l):=by simp
 simp only[Ctx.pushW,this] at q1;rcases q1 with q1|q1<;>cases q1;subst q2;unfold qvs;simp only[Ctx.pushW,if_true];exact⟨cap,rfl,h1,h2,c,T,fr,h3,h4⟩
theorem qmS {E:Env}(hE:E.tok P){B:Base}(hs:HSim B X){len:Nat}{parts:List (Nat×AV)}{vparts:Array (Nat×Value)}(hp:RepP X parts vparts.toList){r:Res}(h:(q8O E X.h t len parts).run=some r):qW P B X (do pure (.value (<-Instr.buildSlice t len vparts))) r:=by
 unfold q8O at h;cases hd:(E.ty t).d<;>rw[hd] at h<;>try (cases h)
 rename_i e es;obtain⟨ht,rfl⟩:=q1r hE hd;simp only at h;by_cases hc:len*P.cellsOf e<=16777216/\0<P.cellsOf e/\(E.ty e).zero.length=P.cellsOf e
 ·rw[if_pos hc] at h;obtain⟨hc1,hc2,hc3⟩:=hc;cases hf:qeA (fun i=>some (i*P.cellsOf e,P.cellsOf e)) (List.replicate len ((E.ty e).zero.map jI)).flatten parts with
  | none=>rw[hf] at h;cases h
  | some cs=>
   cases hsh:E.shape 16 e with
   | none=>rw[hf,hsh] at h;cases h
   | some sh=>
    rw[hf,hsh] at h;simp only at h;by_cases hl:sh.length=P.cellsOf e
    ·rw[if_pos hl] at h;cases hch:qj7 X.h sh len cs with
     | none=>rw[hch] at h;cases h
     | some l=>
      rw[hch] at h;cases h;obtain⟨z,z1,z2,_⟩:=qfT hE (t:=e) (by omega) X.w;have hzs:z.cells.size=P.cellsOf e:=by rw[<-hc3,<-z2];simp
      have hini:RepL X (List.replicate len ((E.ty e).zero.map jI)).flatten ((Array.range (len*P.cellsOf e)).map (z.cells[·%z.cells.size]!)).toList:=by rw[<-hzs,qzS,z2];exact qdj (yh X _) len
      obtain⟨vc,f1,f2⟩:=qiw (vc:=(Array.range (len*P.cellsOf e)).map (z.cells[·%z.cells.size]!)) hf hp hini;obtain⟨X1,fz⟩:=q5Q (qCe cs) hs;have hmem:∀a∈cs,∀b e sh l,a=.vec b->(X.h[b]?=some (.vec e sh l)\/X.h[b]?=some (.frz e sh l))->X1.h[b]?=some (.frz e sh l):=by intro a ha b e sh l hab hb;subst hab;rw[fz.h];exact qqI _ (List.mem_filterMap.2 ⟨_,ha,rfl⟩) hb
      obtain⟨g1,g2,g3⟩:=qke fz.hs fz.ext len hch hmem f2;have hpw:=PushW.alloc X1 (.cells vc e);have hlenv:vc.size=len*P.cellsOf e:=by rw[<-hl,<-g1];simpa using g2
      have hx2:=Ctx.push_ext fz.hs (.vec e sh l) hpw;have hlenh:X1.h.length=X.h.length:=by rw[fz.h,qji]
      have hvec:=qq2 (X:=X1) (e:=e) (sh:=sh) (l:=l) (n:=X1.w.heap.size) (cap:=len) (w':=X1.w.alloc (.cells vc e)) (by omega) (by have:len<=len*P.cellsOf e:=Nat.le_mul_of_pos_right _ hc2;unfold maxLen;omega) (wj _ _) (by rw[hl];exact hlenv);rw[g1,hlenh,fz.w] at hvec;refine⟨.value (.slice (some ⟨X.w.heap.size,0,none⟩) len len),_,X1.pushW (.vec e sh l) (some X1.w.heap.size) (X1.w.alloc (.cells vc e)),?_,.inl rfl,?_,fz.hs.push hpw ?_,?_,fz.ext.trans hx2⟩
      ·have hbig:¬(len*P.cellsOf e>2^24):=by omega
       simp only[Instr.buildSlice,qLv,run_underlying ht,qLA,zM hc2,Sem.run_ite,hbig,if_false,qM1,Result.andThen_ite,z1];by_cases h0:len*P.cellsOf e=0
       ·rw[if_pos h0,show Instr.fill (fun i=>some (i*P.cellsOf e,P.cellsOf e)) (Array.map (fun x=>(#[]:Array Value)[x%(#[]:Array Value).size]!) (Array.range (len*P.cellsOf e))) vparts.toList=some vc by
         have e0:∀f:Nat->Value,Array.map f (Array.range (len*P.cellsOf e))=#[]:=by intro f;rw[h0];simp
         rw[e0] at f1 ⊢;exact f1,fz.w]
        rfl
       ·rw[if_neg h0,f1,fz.w];rfl
      ·rw[fz.w];exact hvec
      ·refine .inr ⟨X1.w.heap.size,vc,by simp[Ctx.pushW],wj _ _,fun r j hj hr=>?_⟩;obtain⟨v,q1,q2⟩:=g3 r j hj hr;exact⟨v,by simpa using q1,q2.mono hx2.M hx2.w⟩
      ·show X1.h++[_]=_;rw[fz.h,qoy]
    ·rw[if_neg hl] at h;cases h
 ·rw[if_neg hc] at h;cases h
inductive RepO (X:Ctx):Option AV->Option Value->Prop
 | none:RepO X none none
 | some {a:AV} {v:Value} (h:Rep X a v):RepO X (some a) (some v)
theorem zF {k:IntKind}{i:Int}{y:Nat}{c:BoundsCode}(h0:0<=i)(h1:i<=y):(Instr.sliceBound (.int k i) y c).run P w=.ok i.toNat w:=by simp[Instr.sliceBound,asIntOf,h0,h1]
theorem ql8 {o:Option AV}{v:Option Value}(h:RepO X o v){d a:Int}(ha:qeJ o d=some a):(v=none/\a=d)\/∃k,v=some (.int k a):=by
 cases h with
 | none=>simp only[qeJ,qLq] at ha;exact .inl ⟨rfl,ha.symm⟩
 | some hv=>
  simp only[qeJ] at ha;rename_i a0 v0;cases h3:asI a0 with
  | none=>rw[h3] at ha;cases ha
  | some p=>
   obtain⟨k,n⟩:=p;rw[h3] at ha;simp only[qM6,qLq] at ha;subst ha;obtain rfl:=q48 hv h3;exact .inr ⟨k,rfl⟩
theorem q15 {isS:Bool}{len cap:Nat}{lo hi:Option AV}{vlo vhi:Option Value}(hlo:RepO X lo vlo)(hhi:RepO X hi vhi){a b d:Int}(h1:qeJ lo 0=some a) (h2:qeJ hi d=some b) (hd:d=len) (hb0:0<=b) (hb:b<=cap) (ha0:0<=a) (ha:a<=b) (w:World) :(Instr.sliceBounds isS len cap vlo vhi none).run P w=.ok (a.toNat,b.toNat,cap) w:=by
 have hba:a<=(b.toNat:Nat):=by omega
 rcases ql8 hlo h1 with⟨rfl,rfl⟩|⟨k,rfl⟩<;>rcases ql8 hhi h2 with⟨rfl,rfl⟩|⟨k',rfl⟩
 ·subst hd;simp[Instr.sliceBounds]
 ·simp[Instr.sliceBounds,zF hb0 hb]
 ·subst hd;have:a<=(len:Int):=ha;simp[Instr.sliceBounds,zF ha0 this]
 ·simp[Instr.sliceBounds,zF hb0 hb,zF ha0 hba]
theorem qtz {a b:Int}{r:Nat}(h:r<b.toNat-a.toNat){j:Nat}:wD (qy6 l a b) r j=wD l ((a.toNat+r:Nat):Int) j:=by
 unfold wD qy6;rw[qLD,qLD];have:((l.take b.toNat).drop a.toNat).getD r []=l.getD (a.toNat+r) []:=by simp only[qLr,qMy,qMx];rw[if_pos (by omega)]
 rw[this]
theorem q2P {a b:Int}(hb:b.toNat<=l.length):(qy6 l a b).length=b.toNat-a.toNat:=by simp[qy6];omega
theorem qqH {M:Nat->Prop}{p:Option Addr}{n c:Nat}{a b:Int}(h:qfC w M sh l (.slice p n c))(ha0:0<=a)(ha:a<=b)(hb:b<=qm l) :b.toNat<=c/\n=l.length/\qfC w M sh (qy6 l a b) (.slice (if c=a.toNat then p else p.map (·.add (a.toNat*sh.length))) (b.toNat-a.toNat) (c-a.toNat)):=by
 have hb':b.toNat<=l.length:=by simp only[qm] at hb;omega
 rcases h with⟨h1,h2⟩|⟨ad,cap,h1,h2,h3,h4⟩
 ·cases h1;subst h2;simp at hb';have e1:a.toNat=0:=by omega
  have e2:b.toNat=0:=by omega
  refine⟨by omega,rfl,.inl ⟨?_,by simp[qy6]⟩⟩;rw[e1,e2];simp
 ·cases h1;refine⟨by omega,rfl,.inr ⟨if c=a.toNat then ad else ad.add (a.toNat*sh.length),c-a.toNat,?_,?_,?_,?_⟩⟩
  ·rw[q2P hb'];split<;>rfl
  ·intro hl;rw[q2P hb'] at hl;have h2':=h2 (by omega);split
   ·exact h2'
   ·rw[Addr.add_of h2']
  ·rw[q2P hb'];omega
  ·intro r j hj hr;rw[q2P hb'] at hr;rw[if_neg (by omega),Addr.add_of (h2 (by omega))];obtain⟨g1,v,g2,g3⟩:=h4 (a.toNat+r) j hj (by omega);refine⟨g1,v,?_,by rw[qtz hr];exact g3⟩;rw[<-g2];show _=World.cell? w ⟨ad.block,ad.off+(a.toNat+r)*sh.length+j,none⟩;congr 2;rw[qLH];show ad.off+a.toNat*sh.length+r*sh.length+j=_;omega
theorem qtt {M:Nat->Prop}{p:Option Addr}{n c:Nat}{a b:Int}(h:qfC w M sh l (.slice p n c))(ha0:0<=a)(ha:a<=b)(hb:b<=qm l) :b.toNat<=c/\qfC w M sh (qy6 l a b) (.slice (if b.toNat=a.toNat then p else p.map (·.add (a.toNat*sh.length))) (b.toNat-a.toNat) (b.toNat-a.toNat)):=by
 have hb':b.toNat<=l.length:=by simp only[qm] at hb;omega
 rcases h with⟨h1,h2⟩|⟨ad,cap,h1,h2,h3,h4⟩
 ·cases h1;subst h2;simp at hb';have e1:a.toNat=0:=by omega
  have e2:b.toNat=0:=by omega
  refine⟨by omega,.inl ⟨?_,by simp[qy6]⟩⟩;rw[e1,e2];simp
 ·cases h1;refine⟨by omega,.inr ⟨if b.toNat=a.toNat then ad else ad.add (a.toNat*sh.length),b.toNat-a.toNat,?_,?_,?_,?_⟩⟩
  ·rw[q2P hb'];split<;>rfl
  ·intro hl;rw[q2P hb'] at hl;have h2':=h2 (by omega);split
   ·exact h2'
   ·rw[Addr.add_of h2']
  ·rw[q2P hb'];omega
  ·intro r j hj hr;rw[q2P hb'] at hr;rw[if_neg (by omega),Addr.add_of (h2 (by omega))];obtain⟨g1,v,g2,g3⟩:=h4 (a.toNat+r) j hj (by omega);refine⟨g1,v,?_,by rw[qtz hr];exact g3⟩;rw[<-g2];show _=World.cell? w ⟨ad.block,ad.off+(a.toNat+r)*sh.length+j,none⟩;congr 2;rw[qLH];show ad.off+a.toNat*sh.length+r*sh.length+j=_;omega
theorem qup {a:AV}{v:Value}(h:Rep X a v){q:IntKind×Int}(ha:asI a=some q):∃k,v=.int k q.2:=by
 rcases ql8 (.some h) (d:=0) (a:=q.2) (by simp[qeJ,ha]) with⟨h1,_⟩|⟨k,h1⟩
 ·cases h1
 ·cases h1;exact⟨k,rfl⟩
theorem qrP {len cap:Nat}{lo:Option AV}{vlo:Option Value}(hlo:RepO X lo vlo){k k':IntKind}{a b:Int}(h1:qeJ lo 0=some a) (hb:b<=cap) (ha0:0<=a) (ha:a<=b) (w:World) :(Instr.sliceBounds true len cap vlo (some (.int k b)) (some (.int k' b))).run P w=.ok (a.toNat,b.toNat,b.toNat) w:=by
 have hb0:0<=b:=by omega
 have hba:a<=(b.toNat:Nat):=by omega
 have hbb:b<=(b.toNat:Nat):=by omega
 rcases ql8 hlo h1 with⟨rfl,rfl⟩|⟨k,rfl⟩
 ·simp[Instr.sliceBounds,zF hb0 hb,zF hb0 hbb]
 ·simp[Instr.sliceBounds,zF hb0 hb,zF hb0 hbb,zF ha0 hba]
theorem qoT {t e:TypeId}{p:Option Addr}{n c:Nat}{vlo vhi vmx:Option Value}{a b:Nat}(ht:P.underlying t=some (.slice e))(hp:0<P.cellsOf e)(hb:(Instr.sliceBounds true n c vlo vhi vmx).run P w=.ok (a,b,b) w) :(Instr.sliceAt t (.slice p n c) vlo vhi vmx).run P w=.ok (.slice (if b=a then p else p.map (·.add (a*P.cellsOf e))) (b-a) (b-a)) w:=by simp only[Instr.sliceAt,qLv,run_underlying ht,qLA,Instr.slice,hb,zM hp];rfl
theorem q7z {t e:TypeId}{p:Option Addr}{n c:Nat}{vlo vhi:Option Value}{a b:Nat}(ht:P.underlying t=some (.slice e))(hp:0<P.cellsOf e)(hb:(Instr.sliceBounds true n c vlo vhi none).run P w=.ok (a,b,c) w) :(Instr.sliceAt t (.slice p n c) vlo vhi none).run P w=.ok (.slice (if c=a then p else p.map (·.add (a*P.cellsOf e))) (b-a) (c-a)) w:=by simp only[Instr.sliceAt,qLv,run_underlying ht,qLA,Instr.slice,hb,zM hp];rfl
theorem qlp {s:qLp}{vlo vhi:Option Value}{a b:Int}(ht:P.underlying t=some .string)(hb:(Instr.sliceBounds false s.length s.length vlo vhi none).run P w=.ok (a.toNat,b.toNat,s.length) w) :(Instr.sliceAt t (.string ⟨s.toArray⟩) vlo vhi none).run P w=.ok (.string ⟨(qcE s a b).toArray⟩) w:=by
 have h1:(ByteArray.mk s.toArray).size=s.length:=rfl;simp only[Instr.sliceAt,qLv,run_underlying ht,qLA,Instr.slice,h1,hb,Option.isSome_none,qLQ,if_false,qM1];congr 2;apply ByteArray.ext;have:(ByteArray.mk s.toArray).extract a.toNat b.toNat=⟨s.toArray.extract a.toNat b.toNat⟩:=by apply ByteArray.ext;simp
 rw[this];simp[qcE,List.extract,List.drop_take]
theorem qwF {E:Env}(hE:E.tok P){B:Base}(hs:HSim B X){a:AV}{v:Value}{lo hi mx:Option AV}{vlo vhi vmx:Option Value}(hv:Rep X a v)(hlo:RepO X lo vlo) (hhi:RepO X hi vhi) (hmx:RepO X mx vmx) {r:Res} (h:(qd7 E X.h t a lo hi mx).run=some r) :qW P B X (do pure (.value (<-Instr.sliceAt t v vlo vhi vmx))) r:=by
 unfold qd7 at h;cases hmx with
 | some hm=>
  rename_i m vm;simp only at h;cases hd:(E.ty t).d<;>rw[hd] at h<;>try (cases h)
  rename_i e es;obtain⟨ht,rfl⟩:=q1r hE hd;cases hhi with
  | none=>cases hv<;>cases h
  | some hy=>
   rename_i y vy;cases hv<;>simp only at h<;>try (cases h)
   rename_i sh l himm;cases h1:qeJ lo 0 with
   | none=>rw[h1] at h;cases h
   | some x=>
    cases h2:asI y with
    | none=>rw[h1,h2] at h;cases h
    | some q2=>
     cases h3:asI m with
     | none=>rw[h1,h2,h3] at h;cases h
     | some q3=>
      obtain⟨k2,b⟩:=q2;obtain⟨k3,c⟩:=q3;rw[h1,h2,h3] at h;simp only at h;by_cases hc:sh.length=P.cellsOf e/\0<P.cellsOf e
      ·rw[if_pos hc] at h;obtain⟨g1,g2⟩:=jt h;obtain⟨g3,g4⟩:=jt g2;obtain⟨g5,g6⟩:=jt g4;cases g6;obtain⟨q1,q2⟩:=q0o g1;obtain⟨q3,q4⟩:=q0o g3;obtain rfl:b=c:=of_decide_eq_true g5;obtain⟨k,rfl⟩:=qup hy h2;obtain⟨k',rfl⟩:=qup hm h3;obtain⟨p,n,cp,rfl⟩:∃p n c,v=.slice p n c:=by rcases himm with⟨rfl,_⟩|⟨ad,cap,rfl,_⟩<;>exact⟨_,_,_,rfl⟩
       obtain⟨w1,w3⟩:=qtt himm q3 q4 q2;rw[hc.1] at w3;exact qW.ofV hs (qoT ht hc.2 (qrP hlo h1 (by omega) q3 q4 _)) (.full _ _ _ _ w3)
      ·rw[if_neg hc] at h;cases h
 | none=>
  simp only at h;cases hd:(E.ty t).d<;>rw[hd] at h<;>try (cases h)
  ·
   have ht:=qgD hE hd;cases hv<;>simp only at h<;>try (cases h)
   rename_i s;cases h1:qeJ lo 0 with
   | none=>rw[h1] at h;cases h
   | some l=>
    cases h2:qeJ hi (qw s) with
    | none=>rw[h1,h2] at h;cases h
    | some b=>
     rw[h1,h2] at h;obtain⟨g1,g2⟩:=jt h;obtain⟨g3,g4⟩:=jt g2;cases g4;obtain⟨q1,q2⟩:=q0o g1;obtain⟨q3,q4⟩:=q0o g3;exact qW.ofV hs (qlp ht (q15 hlo hhi h1 h2 rfl q1 q2 q3 q4 _)) (.str _)
  ·rename_i e es;obtain⟨ht,rfl⟩:=q1r hE hd;cases hv<;>simp only at h<;>try (cases h)
   ·rename_i sh l himm;cases h1:qeJ lo 0 with
    | none=>rw[h1] at h;cases h
    | some x=>
     cases h2:qeJ hi (qm l) with
     | none=>rw[h1,h2] at h;cases h
     | some y=>
      rw[h1,h2] at h;simp only at h;by_cases hc:sh.length=P.cellsOf e/\0<P.cellsOf e
      ·rw[if_pos hc] at h;obtain⟨g1,g2⟩:=jt h;obtain⟨g3,g4⟩:=jt g2;cases g4;obtain⟨q1,q2⟩:=q0o g1;obtain⟨q3,q4⟩:=q0o g3;obtain⟨p,n,c,rfl⟩:∃p n c,v=.slice p n c:=by rcases himm with⟨rfl,_⟩|⟨ad,cap,rfl,_⟩<;>exact⟨_,_,_,rfl⟩
       obtain⟨w1,rfl,w3⟩:=qqH himm q3 q4 q2;rw[hc.1] at w3;exact qW.ofV hs (q7z ht hc.2 (q15 hlo hhi h1 h2 rfl q1 (by omega) q3 q4 _)) (.imm _ _ _ w3)
      ·rw[if_neg hc] at h;cases h
   ·rename_i b p n c hb hv;have hb':=hb;have key:∀e0 sh l (h':List Blk),(X.h[b]?=some (.vec e0 sh l)\/X.h[b]?=some (.frz e0 sh l))->h'=zU X.h b->(match qeJ lo 0,qeJ hi (qm l) with
     | some x,some y=>if sh.length=P.cellsOf e/\0<P.cellsOf e then Tree.br (q7e y (qm l)) (.br (q7e x y) (.leaf ((.imm sh (qy6 l x y),h',none):Res)) .fail) .fail else .fail
     | _,_=>.fail).run=some r->qW P B X (do pure (.value (<-Instr.sliceAt t (.slice p n c) vlo vhi none))) r:=by
     intro e0 sh l h' hh hh' hr;cases h1:qeJ lo 0 with
     | none=>rw[h1] at hr;cases hr
     | some x=>
      cases h2:qeJ hi (qm l) with
      | none=>rw[h1,h2] at hr;cases hr
      | some y=>
       rw[h1,h2] at hr;simp only at hr;by_cases hc:sh.length=P.cellsOf e/\0<P.cellsOf e
       ·rw[if_pos hc] at hr;obtain⟨g1,g2⟩:=jt hr;obtain⟨g3,g4⟩:=jt g2;cases g4;obtain⟨q1,q2⟩:=q0o g1;obtain⟨q3,q4⟩:=q0o g3;obtain⟨X1,fz⟩:=qid hs b;have hfr:X1.h[b]?=some (.frz e0 sh l):=by rw[fz.h];exact qhG hh
        have hrep:Rep X (.vec b) (.slice p n c):=.vec b p n c hb hv;have himm:=qiJ fz.hs hfr (hrep.ext fz.ext);obtain⟨w1,rfl,w3⟩:=qqH himm q3 q4 q2;rw[hc.1] at w3;refine⟨_,_,X1,?_,.inl rfl,.imm _ _ _ w3,fz.hs,by rw[fz.h,hh'],fz.ext⟩;rw[qLv,q7z ht hc.2 (q15 hlo hhi h1 h2 rfl q1 (by omega) q3 q4 _),fz.w];rfl
       ·rw[if_neg hc] at hr;cases hr
    cases hbk:X.h[b]? with
    | none=>rw[hbk] at h;cases h
    | some k=>
     rw[hbk] at h;cases k<;>try (cases h;done)
     ·rename_i e0 sh l;simp only at h;cases hbt:qv1 sh hi with
      | false=>rw[hbt] at h;exact key _ _ _ _ (.inl hbk) rfl h
      | true=>
       rw[hbt] at h;simp only at h;cases h1:qeJ lo 0 with
       | none=>rw[h1] at h;cases h
       | some x=>
        rw[h1] at h;simp only at h;by_cases hc:P.cellsOf e=1
        ·rw[if_pos hc] at h;obtain⟨g1,g2⟩:=jt h;obtain⟨g3,g4⟩:=jt g2;cases g4;have hpos:(0:Int)<qm l:=of_decide_eq_true g1;obtain⟨q1,q2⟩:=q0o g3;have hhin:hi=none/\qkA sh=true:=by
          unfold qv1 at hbt;cases hi with
          | none=>exact⟨rfl,hbt⟩
          | some y=>cases hbt
         obtain⟨rfl,hby⟩:=hhin;have hsh:sh.length=1:=by
          unfold qkA at hby
          split at hby
          ·rfl
          ·cases hby
         have hvv:=hv sh l.length ⟨e0,l,.inl hbk,rfl⟩;unfold qvs at hvv;rcases hs.blk b _ hbk with⟨e1,rfl⟩|⟨n0,c0,e1,e2,e3⟩
         ·simp[qm] at hpos
         ·rw[e1] at hvv;obtain⟨cap,q3,q4,q5,_⟩:=hvv;cases q3;have hb:=q15 (P:=P) (isS:=true) (len:=l.length) (cap:=c) hlo hhi h1 (b:=qm l) (d:=qm l) rfl rfl (by omega) (by unfold qm;omega) q1 q2 X.w;have hrun:=q7z (p:=some ⟨n0,0,none⟩) ht (by omega) hb;refine qW.ofV hs hrun ?_;have hnn:(qm l).toNat=l.length:=by unfold qm;omega
          rw[hnn,hc];by_cases hcx:c=x.toNat
          ·rw[if_pos hcx];refine .vsub b x n0 0 _ _ hb' e1 fun sh' m' hv'=>?_;obtain⟨e',l',w1,w2⟩:=hv';rw[hbk] at w1;rcases w1 with w1|w1<;>cases w1;unfold qm at q2;exact⟨q1,by omega,.inr ⟨by omega,rfl⟩,by omega⟩
          ·rw[if_neg hcx];have hadd:(some (⟨n0,0,none⟩:Addr)).map (·.add (x.toNat*1))=some ⟨n0,x.toNat,none⟩:=by simp only[qM6,Addr.add];congr 1;split<;>(try simp_all)<;>(try omega)
           rw[hadd];refine .vsub b x n0 x.toNat _ _ hb' e1 fun sh' m' hv'=>?_;obtain⟨e',l',w1,w2⟩:=hv';rw[hbk] at w1;rcases w1 with w1|w1<;>cases w1;unfold qm at q2;exact⟨q1,by omega,.inl (by rw[hsh];omega),by omega⟩
        ·rw[if_neg hc] at h;cases h
     ·exact key _ _ _ X.h (.inr hbk) (by simp only[zU,hbk]) h
end Go.Eng

namespace Go.Eng
variable {B:Base}{P:Program}{X:Ctx}{e:TypeId}{l:R}{sh:List Sh}{v:Value}{w:World}
theorem q8D {M:Nat->Prop}{m:R}{ad:Addr}(hp:0<sh.length)(hsp:0<m.length->ad.spot=none)(h:Rows w M sh m ad) :∃news:List Value,qlv w M sh m news/\(∀j u,news[j]?=some u->w.cell? (ad.add j)=some u)/\∀u∈news,u.oneCell'=true:=by
 have key:∀k,k<m.length*sh.length->∃v,w.cell? ⟨ad.block,ad.off+k,none⟩=some v/\v.oneCell'=true:=by
  intro k hk;have h1:k/sh.length<m.length:=(Nat.div_lt_iff_lt_mul hp).2 hk;have h2:k%sh.length<sh.length:=qMP _ hp;obtain⟨_,v,e1,e2⟩:=h (k/sh.length) (k%sh.length) h2 h1;refine⟨v,?_,?_⟩
  ·rw[<-e1];congr 2;have:=qNx k sh.length;rw[Nat.mul_comm] at this;omega
  ·generalize sh[k%sh.length]=s at e2;cases e2<;>rfl
 refine⟨(List.range (m.length*sh.length)).map fun k=>(w.cell? ⟨ad.block,ad.off+k,none⟩).getD undef,⟨by simp,fun r j hj hr=>?_⟩,fun j u hu=>?_,fun u hu=>?_⟩
 ·obtain⟨_,v,e1,e2⟩:=h r j hj hr;have hlt:r*sh.length+j<m.length*sh.length:=by have:(r+1)*sh.length<=m.length*sh.length:=qLT _ hr;rw[qLH] at this;omega
  refine⟨v,?_,e2⟩;rw[qLC,qMp hlt];simp only[qM6,<-qN8,e1,qMv]
 ·rw[qLC] at hu;by_cases hj:j<m.length*sh.length
  ·rw[qMp hj] at hu;obtain⟨v,e1,_⟩:=key j hj;simp only[qM6,e1,qMv,qLq] at hu;rw[Addr.add_of (hsp (Nat.pos_of_ne_zero fun h0=>by rw[h0] at hj;simp at hj)),e1,hu]
  ·rw[qLS (by simpa using hj)] at hu;cases hu
 ·obtain⟨k,hk,rfl⟩:=qMi.1 hu;obtain⟨v,e1,e2⟩:=key k (by simpa using hk);rw[e1];exact e2
theorem qsu {l m:R}{r j:Nat}(h:r<l.length):wD (kN l m) r j=wD l r j:=by unfold wD kN;rw[qLD];simp[qLB h]
theorem qpV {l m:R}{r j:Nat}(h:l.length<=r):wD (kN l m) r j=wD m ((r-l.length:Nat):Int) j:=by unfold wD kN;rw[qLD,qLD];simp[qLP h]
theorem qlv.app {M:Nat->Prop}{l m:R}{xs ys:List Value}(h1:qlv w M sh l xs)(h2:qlv w M sh m ys):qlv w M sh (kN l m) (xs++ys):=by
 refine⟨by simp[kN,h1.1,h2.1,qLH],fun r j hj hr=>?_⟩;by_cases hl:r<l.length
 ·obtain⟨v,e1,e2⟩:=h1.2 r j hj hl;exact⟨v,by rw[qLB (qv e1)];exact e1,by rw[qsu hl];exact e2⟩
 ·have hr':r-l.length<m.length:=by simp only[kN,qLR] at hr;omega
  obtain⟨v,e1,e2⟩:=h2.2 (r-l.length) j hj hr';refine⟨v,?_,by rw[qpV (by omega)];exact e2⟩;have h3:l.length*sh.length<=r*sh.length:=qLT _ (by omega);rw[qLP (by rw[h1.1];omega),h1.1,<-e1];congr 1;rw[Nat.sub_mul];omega
theorem qlv.rowsC {M:Nat->Prop}{xs:List Value}{c:Array Value}(h:qlv w M sh l xs)(hc:∃rest,c.toList=xs++rest):qx4 w M sh l c:=by obtain⟨rest,hc⟩:=hc;intro r j hj hr;obtain⟨v,e1,e2⟩:=h.2 r j hj hr;refine⟨v,?_,e2⟩;rw[<-qNC,hc,qLB (qv e1)];exact e1
theorem qtQ {M:Nat->Prop}{c:Array Value}{cap:Nat}(h:qx4 w M sh l c)(hsz:c.size=cap*sh.length)(hl:l.length<=cap) :qlv w M sh l (c.toList.take (l.length*sh.length)):=by
 have h3:l.length*sh.length<=cap*sh.length:=qLT _ hl;refine⟨by simp;omega,fun r j hj hr=>?_⟩;obtain⟨v,e1,e2⟩:=h r j hj hr;refine⟨v,?_,e2⟩;have hlt:r*sh.length+j<l.length*sh.length:=by have:(r+1)*sh.length<=l.length*sh.length:=qLT _ hr;rw[qLH] at this;omega
 rw[qMx,if_pos hlt];simpa using e1
structure Src (P:Program) (X:Ctx) (sh:List Sh) (m:R) (v:Value):Prop where
 nil:v=.slice none 0 0/\m=[]\/∃ad c,v=.slice (some ad) m.length c/\(0<m.length->ad.spot=none)/\Rows X.w X.M sh m ad
theorem qti {m:R}(h:qfC X.w X.M sh m v):Src P X sh m v:=by
 rcases h with h|⟨ad,c,h1,h2,_,h3⟩
 ·exact⟨.inl h⟩
 ·exact⟨.inr ⟨ad,c,h1,h2,h3⟩⟩
theorem qyI (h:0<P.cellsOf e):∃i,P.info? e=some i/\i.size=P.cellsOf e:=by
 unfold Program.cellsOf at *;cases hi:P.info? e with
 | none=>rw[hi] at h;simp at h
 | some i=>exact⟨i,rfl,by simp⟩
theorem kv {t e ty:TypeId}{p q:Option Addr}{n c d:Nat}(ht:P.underlying t=some (.slice e))(hp:0<P.cellsOf e)(hnc:n<=c) :(Builtin.append_ #[t,t] ty #[.slice p n c,.slice q 0 d]).run P w=.ok (.slice p n c) w:=by
 cases p with
 | none=>cases q<;>simp[Builtin.append_,run_underlying ht,zM hp,Builtin.lenOf,hnc,Builtin.firstCells,loadCells,loadCellsFrom]
 | some a=>cases q<;>simp[Builtin.append_,run_underlying ht,zM hp,Builtin.lenOf,hnc,Builtin.firstCells,storeCells,loadCells,loadCellsFrom]
structure ElemOk (rm:Int) (P:Program) (e:TypeId) (es:Nat) (i:TypeInfo) (z:Value):Prop where
 hi:P.info? e=some i
 hz:i.zero=some z
 size:i.size=es
 zs:z.cells.size=es
 by_:∀n:Nat,(n:Int)<=rm->n*i.bytes<=140737488355328/\n<=140737488355328
theorem qD2 {E:Env}(hE:E.tok P)(hp:0<P.cellsOf e)(hz:(E.ty e).zero.length=P.cellsOf e):∃i z,ElemOk (qs5 (E.ty e).bytes) P e (P.cellsOf e) i z:=by
 obtain⟨z,_,z2,i,hi,hz'⟩:=qfT hE (t:=e) (by omega) default;obtain⟨i',hi',hs⟩:=qyI hp;rw[hi] at hi';cases hi';refine⟨i,z,hi,hz',hs,by rw[<-hz,<-z2];simp,?_⟩;rcases qpk hE e with h1|h1
 ·rw[h1] at hz;simp[qKp] at hz;omega
 ·intro n hn;have hb:(E.ty e).bytes=i.bytes:=by rw[h1];unfold qw1;rw[hi]
  rw[hb] at hn;unfold qs5 at hn;have hn':n<=140737488355328/(if i.bytes=0 then 1 else i.bytes):=by omega
  by_cases h0:i.bytes=0
  ·rw[if_pos h0] at hn';rw[h0];omega
  ·rw[if_neg h0] at hn';have h2:n*i.bytes<=140737488355328:=qLu (qLT _ hn') (Nat.div_mul_le_self _ _);exact⟨h2,qLu (Nat.le_mul_of_pos_right n (by omega)) h2⟩
theorem qiD {es n cap:Nat}{xs ys:List Value}{z:Value}(h1:xs.length+ys.length=n*es)(h2:z.cells.size=es)(h3:n<=cap) :(xs.toArray++ys.toArray++Builtin.zeroCells z.cells (cap-n)).size=cap*es:=by simp only[Array.size_append,List.size_toArray,size_zeroCells,h2,h1];rw[<-qLH];congr 1;omega
theorem qhF (hs:HSim B X){t e ty:TypeId}{m:R}{i:TypeInfo}{z:Value}(ht:P.underlying t=some (.slice e))(hp:0<P.cellsOf e)(hsh:sh.length=P.cellsOf e) {rm:Int} (he:ElemOk rm P e (P.cellsOf e) i z) (hsrc:Src P X sh m v) (hm:qm m<=rm) :qW P B X (do pure (.value (<-Builtin.append_ #[t,t] ty #[.slice none 0 0,v]))) (.vec X.h.length,X.h++[.vec e sh m],none):=by
 by_cases h0:m=[]
 ·subst h0;have hv:∃q d,v=.slice q 0 d:=by rcases hsrc.nil with⟨rfl,_⟩|⟨ad,c,rfl,_⟩<;>exact⟨_,_,rfl⟩
  obtain⟨q,d,rfl⟩:=hv;have hpw:=PushW.same X;refine⟨.value (.slice none 0 0),_,X.pushW (.vec e sh []) none X.w,?_,.inl rfl,?_,hs.push hpw (.inl ⟨by simp[Ctx.pushW],rfl⟩),rfl,Ctx.push_ext hs _ hpw⟩
  ·rw[qLv,kv ht hp (qLs 0)];rfl
  ·exact .vec _ _ _ _ (by simp[Ctx.pushW]) fun sh' m' _=>by unfold qvs;simp[Ctx.pushW]
 ·rcases hsrc.nil with⟨_,h⟩|⟨ad,c,rfl,hsp,hr⟩
  ·exact absurd h h0
  obtain⟨news,f1,f2,f3⟩:=q8D (by omega) hsp hr;have hml:0<m.length:=qMQ.2 h0;have hby:=(he.by_ m.length (by simpa[qm] using hm)).1;have hroom:m.length<=140737488355328:=(he.by_ m.length (by simpa[qm] using hm)).2;have hrun:=run_append_nil (P:=P) X.w t ty e i z ht he.hi he.hz ad m.length c news (by rw[f1.1,he.size,hsh]) f2 hml (by omega) (by omega);have hge:=grownCap_ge X.w m.length 0 e;have hcm:=grownCap_le_maxLen X.w m.length 0 e (by unfold maxLen;omega);have hsz:(news.toArray++Builtin.zeroCells z.cells (grownCap X.w m.length 0 e-m.length)).size=grownCap X.w m.length 0 e*sh.length:=by have:=qiD (es:=P.cellsOf e) (n:=m.length) (cap:=grownCap X.w m.length 0 e) (xs:=[]) (ys:=news) (z:=z) (by rw[qMA,qMe,f1.1,hsh]) he.zs hge;rw[hsh,<-this];simp
  have hpw:PushW X (some X.w.heap.size) (X.w.drew.alloc (.cells (news.toArray++Builtin.zeroCells z.cells (grownCap X.w m.length 0 e-m.length)) e)):=
   ⟨fun _ h=>wd X.w.drew _ h,by simp,rfl,rfl,rfl,fun m h=>by cases h;exact qLs _⟩
  have hx:=Ctx.push_ext hs (.vec e sh m) hpw;have hnew:=wj X.w.drew (.cells (news.toArray++Builtin.zeroCells z.cells (grownCap X.w m.length 0 e-m.length)) e);refine⟨_,_,X.pushW (.vec e sh m) (some X.w.heap.size) _,?_,.inl rfl,qq2 (n:=X.w.heap.size) hge hcm hnew hsz,hs.push hpw (.inr ⟨X.w.heap.size,_,by simp[Ctx.pushW],hnew,?_⟩),rfl,hx⟩
  ·rw[qLv,hrun];rfl
  ·have:=qlv.rowsC (c:=news.toArray++Builtin.zeroCells z.cells (grownCap X.w m.length 0 e-m.length)) f1 ⟨_,by simp;rfl⟩;exact this.mono hx.M hx.w
theorem qpv {b n cap:Nat}{w':World}{c:Array Value}{T:TypeId}{fr:Nat×Nat}(hb:b<X.h.length)(h1:l.length<=cap)(h2:cap<=maxLen)(h3:w'.heap[n]?=some (.cells c T fr)) (h4:c.size=cap*sh.length):Rep (X.repl b (some n) (.vec e sh l) w') (.vec b) (.slice (some ⟨n,0,none⟩) l.length cap):=by
 refine .vec _ _ _ _ (by simpa[Ctx.repl] using hb) fun sh' m ⟨e',l',q1,q2⟩=>?_;have:(X.repl b (some n) (.vec e sh l) w').h[b]?=some (.vec e sh l):=by simp[Ctx.repl,hb,Blk.ren]
 rw[this] at q1;rcases q1 with q1|q1<;>cases q1;subst q2;unfold qvs;simp only[Ctx.repl,if_true];exact⟨cap,rfl,h1,h2,c,T,fr,h3,h4⟩
theorem qhS (hs:HSim B X){t e ty:TypeId}{l m:R}{b:Nat}{v vs:Value}{i:TypeInfo}{z:Value}(ht:P.underlying t=some (.slice e))(hp:0<P.cellsOf e)(hsh:sh.length=P.cellsOf e) {rm:Int} (he:ElemOk rm P e (P.cellsOf e) i z) (hb:X.h[b]?=some (.vec e sh l)) (hv:Rep X (.vec b) vs) (hsrc:Src P X sh m v) (hm:qm l+qm m<=rm) :qW P B X (do pure (.value (<-Builtin.append_ #[t,t] ty #[vs,v]))) (.vec b,X.h.set b (.vec e sh (kN l m)),some b):=by
 have hbl:=qv hb;have hroom:((l.length+m.length:Nat):Int)<=rm:=by simpa[qm] using hm
 have hroom':l.length+m.length<=140737488355328:=(he.by_ _ hroom).2;have hren:∀k:R,(Blk.vec e sh k).ren (qdm b)=.vec e sh k:=fun _=>rfl;have hvl:(kN l m).length=l.length+m.length:=by simp[kN]
 cases hv with
 | vec _ p n cap hlt hvv=>
  have hvv:=hvv sh l.length ⟨e,l,.inl hb,rfl⟩;unfold qvs at hvv;rcases hs.blk b _ hb with⟨e1,rfl⟩|⟨n0,c0,e1,e2,e3⟩
  ·
   rw[e1] at hvv;obtain⟨p',hvv⟩:=hvv;cases hvv;by_cases h0:m=[]
   ·subst h0;have hv:∃q d,v=.slice q 0 d:=by rcases hsrc.nil with⟨rfl,_⟩|⟨ad,c,rfl,_⟩<;>exact⟨_,_,rfl⟩
    obtain⟨q,d,rfl⟩:=hv;have hw:ReplW X b none X.w:=⟨fun _ _ _=>rfl,fun _ c T fr _ h=>⟨c,T,fr,h,rfl⟩,qLs _,rfl,rfl,rfl,.inl e1.symm⟩;refine⟨.value (.slice p 0 0),_,X.repl b none (.vec e sh (kN [] [])) X.w,?_,.inl rfl,?_,hs.repl hb hw (.inl ⟨by simp[Ctx.repl],rfl⟩),rfl,Ctx.repl_move hs hb hw⟩
    ·rw[qLv,kv ht hp (qLs 0)];rfl
    ·exact .vec _ _ _ _ (by simpa[Ctx.repl] using hbl) fun sh' m' _=>by unfold qvs;simp[Ctx.repl]
   ·rcases hsrc.nil with⟨_,h⟩|⟨ad,c,rfl,hsp,hr⟩
    ·exact absurd h h0
    obtain⟨news,f1,f2,f3⟩:=q8D (by omega) hsp hr;have hml:0<m.length:=qMQ.2 h0;simp only[qMA,qMe] at hroom hroom';have hby:=(he.by_ _ hroom).1;have hrun:(Builtin.append_ #[t,t] ty #[.slice p 0 0,.slice (some ad) m.length c]).run P X.w=.ok (.slice (some ⟨X.w.heap.size,0,none⟩) m.length (grownCap X.w m.length 0 e)) (X.w.drew.alloc (.cells (news.toArray++Builtin.zeroCells z.cells (grownCap X.w m.length 0 e-m.length)) e)):=by
     cases p with
     | none=>exact run_append_nil (P:=P) X.w t ty e i z ht he.hi he.hz ad m.length c news (by rw[f1.1,he.size,hsh]) f2 hml (by omega) (by omega)
     | some ad0=>
      have:=run_append_grow (P:=P) X.w t ty e i z ht he.hi he.hz ad0 0 0 [] (by simp) (fun j u hu=>by simp at hu) ad m.length c news (by rw[f1.1,he.size,hsh]) f2 (by omega) (by omega) (growslice_fits (by omega) (by simpa using hby));simpa using this
    have hge:=grownCap_ge X.w m.length 0 e;have hcm:=grownCap_le_maxLen X.w m.length 0 e (by unfold maxLen;omega);have hsz:(news.toArray++Builtin.zeroCells z.cells (grownCap X.w m.length 0 e-m.length)).size=grownCap X.w m.length 0 e*sh.length:=by have:=qiD (es:=P.cellsOf e) (n:=m.length) (cap:=grownCap X.w m.length 0 e) (xs:=[]) (ys:=news) (z:=z) (by rw[qMA,qMe,f1.1,hsh]) he.zs hge;rw[hsh,<-this];simp
    have hnew:=wj X.w.drew (.cells (news.toArray++Builtin.zeroCells z.cells (grownCap X.w m.length 0 e-m.length)) e);have hw:ReplW X b (some X.w.heap.size) (X.w.drew.alloc (.cells (news.toArray++Builtin.zeroCells z.cells (grownCap X.w m.length 0 e-m.length)) e)):=
     ⟨fun _ h _=>wd X.w.drew _ h,fun m0 _ _ _ h _=>(by rw[e1] at h;cases h),by simp,rfl,rfl,rfl,.inr fun m h=>by cases h;exact qLs _⟩
    have hx:=Ctx.repl_move hs hb (k':=.vec e sh (kN [] m)) hw;have hrl:kN [] m=m:=rfl;rw[hrl] at hx ⊢;refine⟨_,_,X.repl b (some X.w.heap.size) (.vec e sh m) _,?_,.inl rfl,qpv (n:=X.w.heap.size) hbl hge hcm hnew hsz,hs.repl hb hw (.inr ⟨X.w.heap.size,_,by simp[Ctx.repl],hnew,?_⟩),rfl,hx⟩
    ·rw[qLv,hrun];rfl
    ·have:=qlv.rowsC (c:=news.toArray++Builtin.zeroCells z.cells (grownCap X.w m.length 0 e-m.length)) f1 ⟨_,by simp;rfl⟩;exact this.mono hx.M hx.w
  ·rw[e1] at hvv;obtain⟨cap',q1,q2,q3,c1,T1,fr1,q4,q5⟩:=hvv;cases q1;rw[e2] at q4;cases q4;have hflat:=qtQ e3 q5 q2;by_cases h0:m=[]
   ·subst h0;have hv:∃q d,v=.slice q 0 d:=by rcases hsrc.nil with⟨rfl,_⟩|⟨ad,c,rfl,_⟩<;>exact⟨_,_,rfl⟩
    obtain⟨q,d,rfl⟩:=hv;have hrl:kN l []=l:=by simp[kN]
    have hw:ReplW X b (some n0) X.w:=⟨fun _ _ _=>rfl,fun _ c T fr _ h=>⟨c,T,fr,h,rfl⟩,qLs _,rfl,rfl,rfl,.inl e1.symm⟩;have hx:=Ctx.repl_move hs hb (k':=.vec e sh l) hw;rw[hrl];refine⟨.value (.slice (some ⟨n0,0,none⟩) l.length cap),_,X.repl b (some n0) (.vec e sh l) X.w,?_,.inl rfl,qpv hbl q2 q3 e2 q5,hs.repl hb hw (.inr ⟨n0,_,by simp[Ctx.repl],e2,e3.mono hx.M hx.w⟩),rfl,hx⟩;rw[qLv,kv ht hp q2];rfl
   ·rcases hsrc.nil with⟨_,h⟩|⟨ad,c,rfl,hsp,hr⟩
    ·exact absurd h h0
    obtain⟨news,f1,f2,f3⟩:=q8D (by omega) hsp hr;have hml:0<m.length:=qMQ.2 h0;have hby:=(he.by_ _ hroom).1;have happ:=hflat.app f1;by_cases hfit:l.length+m.length<=cap
    ·
     have hfitc:l.length*i.size+news.length<=c0.size:=by rw[he.size,f1.1,<-hsh,q5,<-qLH];exact qLT _ hfit
     have hrun:=run_append_room (P:=P) X.w t ty e i ht he.hi n0 l.length cap c0 e2 ad m.length c news (by rw[f1.1,he.size,hsh]) f2 f3 hfit hfitc;have hsz:((c0.toList.take (l.length*i.size)++news++c0.toList.drop (l.length*i.size+news.length)).toArray).size=c0.size:=by simp;omega
     have hup:=UpdW.setRow (X:=X) (c':=(c0.toList.take (l.length*i.size)++news++c0.toList.drop (l.length*i.size+news.length)).toArray) e2 hsz;have hw:ReplW X b (some n0) (X.w.setRow n0 (c0.toList.take (l.length*i.size)++news++c0.toList.drop (l.length*i.size+news.length)).toArray):=
      ⟨fun m' _ hne=>hup.other m' (fun e=>hne (by rw[e];exact e1)),fun m' c' T' fr' hm' hc'=>by rw[e1] at hm';cases hm';rw[e2] at hc';cases hc';exact⟨_,_,_,hup.new,hsz⟩,by simp,rfl,rfl,rfl,.inl e1.symm⟩
     have hx:=Ctx.repl_move hs hb (k':=.vec e sh (kN l m)) hw;have hrep:=qpv (X:=X) (e:=e) (l:=kN l m) (n:=n0) (cap:=cap) (w':=X.w.setRow n0 (c0.toList.take (l.length*i.size)++news++c0.toList.drop (l.length*i.size+news.length)).toArray) hbl (by rw[hvl];exact hfit) q3 hup.new (by rw[hsz];exact q5);rw[hvl] at hrep;refine⟨_,_,X.repl b (some n0) (.vec e sh (kN l m)) _,?_,.inl rfl,hrep,hs.repl hb hw (.inr ⟨n0,_,by simp[Ctx.repl],hup.new,?_⟩),rfl,hx⟩
     ·rw[qLv,hrun];rfl
     ·have:=qlv.rowsC (c:=(c0.toList.take (l.length*i.size)++news++c0.toList.drop (l.length*i.size+news.length)).toArray) happ ⟨c0.toList.drop (l.length*i.size+news.length),by rw[he.size,<-hsh]⟩;exact this.mono hx.M hx.w
    ·
     have holds:∀j u,(c0.toList.take (l.length*sh.length))[j]?=some u->X.w.cell? ((⟨n0,0,none⟩:Addr).add j)=some u:=by
      intro j u hu;rw[qMx] at hu;split at hu
      ·rw[qMh,zZ e2];simpa using hu
      ·cases hu
     have hrun:=run_append_grow (P:=P) X.w t ty e i z ht he.hi he.hz ⟨n0,0,none⟩ l.length cap (c0.toList.take (l.length*sh.length)) (by rw[hflat.1,he.size,hsh]) holds ad m.length c news (by rw[f1.1,he.size,hsh]) f2 (by omega) (by omega) (growslice_fits (by omega) hby);have hge:=grownCap_ge X.w (l.length+m.length) cap e;have hcm:=grownCap_le_maxLen X.w (l.length+m.length) cap e (by unfold maxLen;omega);have hsz:=qiD (es:=P.cellsOf e) (n:=l.length+m.length) (cap:=grownCap X.w (l.length+m.length) cap e) (xs:=c0.toList.take (l.length*sh.length)) (ys:=news) (z:=z) (by rw[hflat.1,f1.1,hsh,<-qLH]) he.zs hge;rw[<-hsh] at hsz;have hnew:=wj X.w.drew (.cells ((c0.toList.take (l.length*sh.length)).toArray++news.toArray++Builtin.zeroCells z.cells (grownCap X.w (l.length+m.length) cap e-(l.length+m.length))) e);have hw:ReplW X b (some X.w.heap.size) (X.w.drew.alloc (.cells ((c0.toList.take (l.length*sh.length)).toArray++news.toArray++Builtin.zeroCells z.cells (grownCap X.w (l.length+m.length) cap e-(l.length+m.length))) e)):=
      ⟨fun _ h _=>wd X.w.drew _ h,fun m0 c' T' fr' h hc'=>⟨c',T',fr',by rw[wd X.w.drew _ (qLw.1 hc').1];exact hc',rfl⟩,by simp,rfl,rfl,rfl,.inr fun m h=>by cases h;exact qLs _⟩
     have hx:=Ctx.repl_move hs hb (k':=.vec e sh (kN l m)) hw;have hrep:=qpv (X:=X) (e:=e) (l:=kN l m) hbl (by rw[hvl];exact hge) hcm hnew hsz;rw[hvl] at hrep;refine⟨_,_,X.repl b (some X.w.heap.size) (.vec e sh (kN l m)) _,?_,.inl rfl,hrep,hs.repl hb hw (.inr ⟨X.w.heap.size,_,by simp[Ctx.repl],hnew,?_⟩),rfl,hx⟩
     ·rw[qLv,hrun];rfl
     ·have:=qlv.rowsC (c:=(c0.toList.take (l.length*sh.length)).toArray++news.toArray++Builtin.zeroCells z.cells (grownCap X.w (l.length+m.length) cap e-(l.length+m.length))) happ ⟨_,by simp;rfl⟩;exact this.mono hx.M hx.w
theorem qpc (hs:HSim B X){t e ty:TypeId}{p:Option Addr}(ht:P.underlying t=some (.slice e))(hp:0<P.cellsOf e)(hsrc:Src P X sh [] v):qW P B X (do pure (.value (<-Builtin.append_ #[t,t] ty #[.slice p 0 0,v]))) (.vec X.h.length,X.h++[.vec e sh []],none):=by
 have hv:∃q d,v=.slice q 0 d:=by rcases hsrc.nil with⟨rfl,_⟩|⟨ad,c,rfl,_⟩<;>exact⟨_,_,rfl⟩
 obtain⟨q,d,rfl⟩:=hv;have hpw:=PushW.same X;refine⟨.value (.slice p 0 0),_,X.pushW (.vec e sh []) none X.w,?_,.inl rfl,?_,hs.push hpw (.inl ⟨by simp[Ctx.pushW],rfl⟩),rfl,Ctx.push_ext hs _ hpw⟩
 ·rw[qLv,kv ht hp (qLs 0)];rfl
 ·exact .vec _ _ _ _ (by simp[Ctx.pushW]) fun sh' m' _=>by unfold qvs;simp[Ctx.pushW]
theorem qp7 (hs:HSim B X){t e ty:TypeId}{l m:R}{p:Option Addr}{n:Nat}{i:TypeInfo}{z:Value}(ht:P.underlying t=some (.slice e))(hp:0<P.cellsOf e)(hsh:sh.length=P.cellsOf e) {rm:Int} (he:ElemOk rm P e (P.cellsOf e) i z) (hv:qfC X.w X.M sh l (.slice p n n)) (hsrc:Src P X sh m v) (h0:0<qm m) (hm:qm l+qm m<=rm) :qW P B X (do pure (.value (<-Builtin.append_ #[t,t] ty #[.slice p n n,v]))) (.vec X.h.length,X.h++[.vec e sh (kN l m)],none):=by
 rcases hv with⟨h1,rfl⟩|⟨ad0,cap,h1,hsp0,hcap,hr0⟩
 ·cases h1;exact qhF hs ht hp hsh he hsrc (m:=m) (by simpa[qm] using hm)
 ·cases h1;rcases hsrc.nil with⟨_,h⟩|⟨ad,c,rfl,hsp,hr⟩
  ·subst h;simp[qm] at h0
  obtain⟨olds,k1,k2,k3⟩:=q8D (by omega) hsp0 hr0;obtain⟨news,f1,f2,f3⟩:=q8D (by omega) hsp hr;have hml:0<m.length:=by simp only[qm] at h0;omega
  have hroom:((l.length+m.length:Nat):Int)<=rm:=by simpa[qm] using hm
  have hroom':l.length+m.length<=140737488355328:=(he.by_ _ hroom).2;have hby:=(he.by_ _ hroom).1;have happ:=k1.app f1;have hvl:(kN l m).length=l.length+m.length:=by simp[kN]
  have hrun:=run_append_grow (P:=P) X.w t ty e i z ht he.hi he.hz ad0 l.length l.length olds (by rw[k1.1,he.size,hsh]) k2 ad m.length c news (by rw[f1.1,he.size,hsh]) f2 (by omega) (by omega) (growslice_fits (by omega) hby);have hge:=grownCap_ge X.w (l.length+m.length) l.length e;have hcm:=grownCap_le_maxLen X.w (l.length+m.length) l.length e (by unfold maxLen;omega);have hsz:=qiD (es:=P.cellsOf e) (n:=l.length+m.length) (cap:=grownCap X.w (l.length+m.length) l.length e) (xs:=olds) (ys:=news) (z:=z) (by rw[k1.1,f1.1,hsh,<-qLH]) he.zs hge;rw[<-hsh] at hsz;have hpw:PushW X (some X.w.heap.size) (X.w.drew.alloc (.cells (olds.toArray++news.toArray++Builtin.zeroCells z.cells (grownCap X.w (l.length+m.length) l.length e-(l.length+m.length))) e)):=
   ⟨fun _ h=>wd X.w.drew _ h,by simp,rfl,rfl,rfl,fun m h=>by cases h;exact qLs _⟩
  have hx:=Ctx.push_ext hs (.vec e sh (kN l m)) hpw;have hnew:=wj X.w.drew (.cells (olds.toArray++news.toArray++Builtin.zeroCells z.cells (grownCap X.w (l.length+m.length) l.length e-(l.length+m.length))) e);have hrep:=qq2 (X:=X) (e:=e) (l:=kN l m) (n:=X.w.heap.size) (by rw[hvl];exact hge) hcm hnew hsz;rw[hvl] at hrep;refine⟨_,_,X.pushW (.vec e sh (kN l m)) (some X.w.heap.size) _,?_,.inl rfl,hrep,hs.push hpw (.inr ⟨X.w.heap.size,_,by simp[Ctx.pushW],hnew,?_⟩),rfl,hx⟩
  ·rw[qLv,hrun];rfl
  ·have:=qlv.rowsC (c:=olds.toArray++news.toArray++Builtin.zeroCells z.cells (grownCap X.w (l.length+m.length) l.length e-(l.length+m.length))) happ ⟨_,by simp;rfl⟩;exact this.mono hx.M hx.w
end Go.Eng

namespace Go.Eng
variable {B:Base}{E:Env}{P:Program}{X:Ctx}{r:Res}
theorem qBl (hs:HSim B X){x:AV}{vx:Value}(hx:Rep X x vx){sh:List Sh}{l:R}(h:vX X.h x=some (sh,l)) :(vx=.slice none 0 0/\l=[])\/∃a cap,vx=.slice (some a) l.length cap/\(0<l.length->a.spot=none) /\∀r j (hj:j<sh.length),r<l.length->∃v,X.w.cell? ⟨a.block,a.off+r*sh.length+j,none⟩=some v/\RepU X.w X.M sh[j] (wD l r j) v:=by
 cases hx with
 | imm sh' l' v himm=>
  simp only[vX,qLq,qM2] at h;obtain⟨rfl,rfl⟩:=h;rcases himm with h|⟨a,cap,h1,h2,_,h3⟩
  ·exact .inl h
  ·exact .inr ⟨a,cap,h1,h2,fun r j hj hr=>(h3 r j hj hr).2⟩
 | vec b p n c hb hv=>
  obtain⟨e,hh⟩:=qe1 h;have hvv:=hv sh l.length ⟨e,l,hh,rfl⟩;unfold qvs at hvv;rcases hs.rows hh with⟨e1,rfl⟩|⟨n0,c0,e1,e2,e3⟩
  ·rw[e1] at hvv;obtain⟨p',hvv⟩:=hvv;cases p' with
   | none=>exact .inl ⟨hvv,rfl⟩
   | some a=>exact .inr ⟨a,0,hvv,fun h=>absurd h (Nat.lt_irrefl 0),fun r j hj hr=>absurd hr (qNw r)⟩
  ·rw[e1] at hvv;obtain⟨cap,q1,_⟩:=hvv;refine .inr ⟨⟨n0,0,none⟩,cap,q1,fun _=>rfl,fun r j hj hr=>?_⟩;obtain⟨v,g1,g2⟩:=e3 r j hj hr;exact⟨v,by rw[zZ e2];simpa using g1,g2⟩
 | _=>simp[vX] at h
theorem qty {sh:List Sh}(h:qkA sh=true):sh=[.int .u8]:=by
 unfold qkA at h;split at h
 ·rfl
 ·cases h
theorem qqn:∀(ns:List Int) (r:ByteArray),ns.foldl (fun r n=>r.push (UInt8.ofNat n.toNat)) r=⟨r.data++(ns.map fun n=>UInt8.ofNat n.toNat).toArray⟩
 | [],r=>by simp
 | n::ns,r=>by
  simp only[qNl,qMn];rw[qqn ns];simp[ByteArray.push]
theorem qtX (hE:E.tok P)(hs:HSim B X){src dst e:TypeId}{es:Nat}(h1:(E.ty src).d=.slice e es)(h2:(E.ty dst).d=.str){a:AV}{v:Value}(hv:Rep X a v)(h:(qrw E X.h e a).run=some r):∃av u,r=(av,X.h,none)/\(convert src dst v).run P X.w=.ok u X.w/\Rep X av u:=by
 unfold qrw at h;cases hd:(E.ty e).d with
 | int k=>
  rw[hd] at h;cases k<;>first|(cases h;done)|skip
  simp only at h;cases hr:vX X.h a with
  | none=>rw[hr] at h;cases h
  | some q=>
   obtain⟨sh,l⟩:=q;rw[hr] at h;simp only at h;split at h
   ·rename_i hb;cases h;have hsh:=qty hb;subst hsh;have e1:=(q1r hE h1).1;have e2:=qgD hE h2;have e3:=qqU hE hd;refine⟨_,.string ⟨(qnA l).toArray⟩,rfl,?_,.str _⟩;rcases qBl hs hv hr with⟨rfl,rfl⟩|⟨ad,cap,rfl,hsp,hc⟩
    ·rw[run_convert_bytes_string X.w src dst e none 0 0 e1 e3 e2];simp[Conv.bytesToString,qnA];rfl
    ·rw[run_convert_bytes_string X.w src dst e (some ad) l.length cap e1 e3 e2];have hl:=run_loadCells_list (P:=P) X.w ad (((List.range l.length).map fun r:Nat=>(wD l r 0).toI).map (Value.int .u8)) (fun j v hj=>by
      have hj':j<l.length:=by have:=(qNb.1 hj).1;simpa using this
      obtain⟨u,g1,g2⟩:=hc j 0 (by simp) hj';simp only[List.map_map,qLC,qMp hj',qM6,qLq] at hj;have hs0:=hsp (by omega);have hadd:ad.add j=⟨ad.block,ad.off+j,none⟩:=by obtain⟨b,o,s⟩:=ad;simp only at hs0;subst hs0;unfold Addr.add;split<;>simp_all
      rw[hadd];simp only[qM5,qMA,qMe,qNc,qM8] at g1;rw[g1];cases g2;rw[<-hj];rfl)
     simp only[qLF,qMa] at hl;rw[run_bytesToString X.w ad l.length cap _ hl,qqn];congr 3;have he0:ByteArray.empty.data=#[]:=rfl;rw[he0];rw[Array.empty_append];congr 1;unfold qnA;apply qMo;intro i;by_cases hi:i<l.length
     ·simp[hi,wD]
     ·simp[hi]
   ·cases h
 | _=>rw[hd] at h;cases h
theorem qv0 (hE:E.tok P)(hs:HSim B X){src dst:TypeId}{a:AV}{v:Value}(hv:Rep X a v)(h:(qhA E X.h src dst a).run=some r) :∃av u,r=(av,X.h,none)/\(convert src dst v).run P X.w=.ok u X.w/\Rep X av u:=by
 unfold qhA at h;split at h
 ·rename_i e es h1;split at h
  ·rename_i h2;exact qtX hE hs h1 h2 hv h
  ·cases h
 ·exact qxa hE hv h
theorem qx0 (v:Value)(b:Nat):jI v≠.vec b:=by unfold jI;split<;>simp
theorem qhR{h:List Blk}{sh:List Sh}{zs:List AV}{us:List U}(hu:qpq h sh zs=some us)(hl:zs.length=sh.length):∀n,qj7 h sh n (List.replicate n zs).flatten=some (List.replicate n us)
 | 0=>by simp[qj7]
 | n+1=>by
  simp only[qMU,qNF,qj7];have h2:=qhR hu hl n;rw[<-hl,List.take_left,List.drop_left,hu];simp only[h2]
theorem qyQ (hE:E.tok P)(hs:HSim B X){t:TypeId}{x y:AV}{vx vy:Value}(hx:Rep X x vx)(hy:Rep X y vy)(h:(qCo E X.h t x y).run=some r) :qW P B X (do pure (.value (<-Instr.makeSlice t vx vy))) r:=by
 unfold qCo at h;cases hd:(E.ty t).d<;>rw[hd] at h<;>try (cases h;done)
 rename_i e es;obtain⟨ht,rfl⟩:=q1r hE hd;cases h1:asI x with
 | none=>rw[h1] at h;cases h
 | some p=>
  obtain⟨k,n⟩:=p;cases h2:asI y with
  | none=>rw[h1,h2] at h;cases h
  | some q=>
   obtain⟨k',m⟩:=q;rw[h1,h2] at h;simp only at h;obtain rfl:=q48 hx h1;obtain rfl:=q48 hy h2;cases hsh:E.shape 16 e with
   | none=>rw[hsh] at h;cases h
   | some sh=>
    rw[hsh] at h;simp only at h;by_cases hc:sh.length=P.cellsOf e/\0<P.cellsOf e/\(E.ty e).zero.length=P.cellsOf e
    ·rw[if_pos hc] at h;obtain⟨hc1,hc2,hc3⟩:=hc;cases hu:qpq X.h sh ((E.ty e).zero.map jI) with
     | none=>rw[hu] at h;cases h
     | some us=>
      rw[hu] at h;obtain⟨g1,g2⟩:=jt h;obtain⟨g3,g4⟩:=jt g2;cases g4;have hnm:n=m:=by simpa[ieq] using g1
      subst hnm;obtain⟨q1,q2⟩:=q0o g3;obtain⟨i,z,he⟩:=qD2 hE hc2 hc3;obtain⟨b1,b2⟩:=he.by_ n.toNat (by rw[qNm q1];exact q2);have hzz:(E.ty e).zero.map jI=z.cells.toList.map jI:=by obtain⟨z',z1,z2,i',hi',hz'⟩:=qfT hE (t:=e) (by omega) X.w;rw[he.hi] at hi';cases hi';rw[he.hz] at hz';cases hz';rw[z2]
      have hrun:=run_make (P:=P) X.w t e i z ht he.hi he.hz k k' n n q1 (qLG _) (by
       have:(i.bytes:Int)*n=((n.toNat*i.bytes:Nat):Int):=by rw[qMj,qNm q1,qMB]
       rw[this];omega) (by omega)
      have hmk:madeCells z.cells (n.toNat*i.size)=(Array.range (n.toNat*z.cells.size)).map (z.cells[·%z.cells.size]!):=by rw[he.size,<-he.zs];rfl
      have hini:RepL X (List.replicate n.toNat ((E.ty e).zero.map jI)).flatten (madeCells z.cells (n.toNat*i.size)).toList:=by rw[hmk,qzS,hzz];exact qdj (yh X _) _
      have hzl:((E.ty e).zero.map jI).length=sh.length:=by rw[qLF,hc3,hc1]
      obtain⟨f1,f2⟩:=qke hs (Ext.refl X) n.toNat (qhR hu hzl n.toNat) (fun a ha b e sh l hab _=>by exfalso;obtain⟨l',hl',ha'⟩:=List.mem_flatten.1 ha;rw[(qNG.1 hl').2] at ha';obtain⟨v,_,hv⟩:=qMi.1 ha';exact qx0 v b (hv.trans hab)) hini;have hpw:=PushW.alloc X (.cells (madeCells z.cells (n.toNat*i.size)) e);have hx2:=Ctx.push_ext hs (.vec e sh (q4f n us)) hpw;have hsz:(madeCells z.cells (n.toNat*i.size)).size=n.toNat*sh.length:=by rw[size_madeCells,he.size,hc1]
      have hvec:=qq2 (X:=X) (e:=e) (sh:=sh) (l:=q4f n us) (n:=X.w.heap.size) (cap:=n.toNat) (w':=X.w.alloc (.cells (madeCells z.cells (n.toNat*i.size)) e)) (Nat.le_of_eq f1) (by unfold maxLen;omega) (wj _ _) hsz;have hvl:(q4f n us).length=n.toNat:=f1;rw[hvl] at hvec;refine⟨.value (.slice (some ⟨X.w.heap.size,0,none⟩) n.toNat n.toNat),_,X.pushW (.vec e sh (q4f n us)) (some X.w.heap.size) _,?_,.inl rfl,hvec,hs.push hpw ?_,rfl,hx2⟩
      ·rw[qLv,hrun];rfl
      ·refine .inr ⟨X.w.heap.size,_,by simp[Ctx.pushW],wj _ _,fun r j hj hr=>?_⟩;obtain⟨v,w1,w2⟩:=f2.2 r j hj hr;exact⟨v,by simpa using w1,w2.mono hx2.M hx2.w⟩
    ·rw[if_neg hc] at h;cases h
theorem qyZ (hE:E.tok P)(hs:HSim B X){ts:List TypeId}{azz:List AV}{vs:List Value}(hv:RepL X azz vs)(h:(qxq E X.h ts azz).run=some r)(ty:TypeId) :qW P B X (do pure (.value (<-Builtin.copy_ ts.toArray ty vs.toArray))) r:=by
 unfold qxq at h;split at h
 ·rename_i t t' b i s;cases hd:(E.ty t).d<;>rw[hd] at h<;>try (cases h;done)
  rename_i e0 es;obtain⟨ht,rfl⟩:=q1r hE hd;cases hb:X.h[b]? with
  | none=>rw[hb] at h;cases h
  | some kb=>
   rw[hb] at h;cases kb with
   | vec e sh l=>
    simp only at h;split at h
    ·rename_i hc;obtain⟨hc1,hc2⟩:=hc;have hsh:=qty hc1;subst hsh;obtain⟨g1,g2⟩:=jt h;cases g2;have hle:(s.length:Int)<=(l.length:Int)-i:=of_decide_eq_true g1;cases hv with
     | cons hv1 hv=>cases hv with
      | cons hv2 hv=>cases hv with
       | nil=>
        obtain rfl:=qyz hv2;cases hv1 with
        | vsub _ _ n k m c hbl hσ hk=>
         obtain⟨q1,q2,q3,q4⟩:=hk _ _ ⟨e,l,.inl hb,rfl⟩;simp only[qM5,qMA,qMe,qNc] at q3;subst q4;rcases hs.blk b _ hb with⟨e1,_⟩|⟨n',cc,e1,e2,e3⟩
         ·rw[hσ] at e1;cases e1
         rw[hσ] at e1;cases e1;have hsl:i.toNat+s.length<=l.length:=by omega
         have hlast:l.length<=cc.size:=by
          rcases qMz l.length with h0|h0
          ·omega
          ·obtain⟨v',w1,_⟩:=e3 (l.length-1) 0 (by simp) (by omega);have:=(qLw.1 w1).1;simp at this;omega
         have hk2:k=i.toNat\/(s=[]/\k=0):=by
          rcases q3 with h1|⟨h1,h2⟩
          ·exact .inl h1
          ·exact .inr ⟨qNd (by omega),h2⟩
         let cs:List Value:=s.map fun c=>Value.int .u8 (c.toNat:Int)
         have hcl:cs.length=s.length:=by simp[cs]
         have hkl:k+s.length<=cc.size:=by
          rcases hk2 with h1|⟨h1,h2⟩
          ·omega
          ·rw[h1,h2];simp
         have hst:=run_storeCells_at P n k e cs 0 cc X.w e2 (by rw[hcl];omega) (fun v hv=>by obtain⟨c,_,hc⟩:=qMi.1 hv;rw[<-hc];rfl);rw[qM8,hcl] at hst;have hup:=UpdW.setRow (X:=X) (c':=(cc.toList.take k++cs++cc.toList.drop (k+s.length)).toArray) e2 (by simp[hcl];omega);have hown:X.own b n:=⟨hσ,_,hb,rfl⟩;have hrl:(qxg l i s).length=l.length:=by simp[qxg];omega
         have hkk:qgk (.vec e [.int .u8] l) (.vec e [.int .u8] (qxg l i s)):=⟨rfl,rfl,hrl.symm⟩;have hx:=Ctx.upd_ext hs hb hown hup hkk;have hinfo:(P.info? e0).map (·.size)=some 1:=by obtain⟨ii,w1,w2⟩:=qyI (P:=P) (e:=e0) (by omega);rw[w1,qM6,w2,<-hc2]
         have hmin:Nat.min s.length (l.length-i.toNat)=s.length:=qMI (by omega);have hcsE:(((ByteArray.mk s.toArray).extract 0 s.length).data.map fun b=>Value.int .u8 (b.toNat:Int)).toList=cs:=by
          have:((ByteArray.mk s.toArray).extract 0 s.length).data=s.toArray:=by simp
          rw[this];simp[cs]
         refine⟨.value (goInt s.length),goInt s.length,X.upd b (.vec e [.int .u8] (qxg l i s)) (X.w.setRow n _),?_,.inl rfl,?_,hs.upd hb hown hup hkk ?_,rfl,hx⟩
         ·cases hq:P.info? e0 with
          | none=>rw[hq] at hinfo;cases hinfo
          | some ii=>
           have hsize:ii.size=1:=by rw[hq] at hinfo;simpa using hinfo
           have hsz:(ByteArray.mk s.toArray).size=s.length:=rfl;have hcopy:(Builtin.copy_ (List.toArray [t,t']) ty (List.toArray [.slice (some ⟨n,k,none⟩) (l.length-i.toNat) c,.string ⟨s.toArray⟩])).run P X.w =
             .ok (goInt s.length) (X.w.setRow n (cc.toList.take k++cs++cc.toList.drop (k+s.length)).toArray):=by
            have htk:List.take s.length (List.map (fun b:UInt8=>Value.int IntKind.u8 (b.toNat:Int)) s)=cs:=by rw[qNH (by simp)]
            simp[Builtin.copy_,run_underlying ht,Builtin.lenOf,Builtin.firstCells,sizeOf,typeInfo,hq,hsz,hmin];rw[htk,hst];simp[Result.andThen]
           rw[qLv,hcopy];rfl
         ·have:goInt s.length=.int .i64 (qw s):=rfl;rw[this];exact .int _ _
         ·refine .inr ⟨n,_,hσ,hup.new,fun r j hj hr=>?_⟩;rw[hrl] at hr;have hj0:j=0:=by simpa using hj
          subst hj0;obtain⟨v,w1,w2⟩:=e3 r 0 hj hr;simp only[qM5,qMA,qMe,qNc,qM8] at w1 ⊢;have hcu:∀(f:R) (k:Nat),wD f (k:Int) 0=(f[k]?.getD []).getD 0 (.i 0):=fun f k=>by unfold wD;rw[qLD,qLr (l:=f)]
          rw[List.getElem?_toArray];rcases hk2 with hki|⟨hs0,hk0⟩
          ·subst hki;have hcl2:(cc.toList.take i.toNat).length=i.toNat:=by simp;omega
           have hll:(l.take i.toNat).length=i.toNat:=by simp;omega
           rcases qLy r i.toNat with hlt|hge
           ·refine⟨v,?_,?_⟩
            ·rw[qM4,qLB (by omega),qMx,if_pos hlt];simpa using w1
            ·have:wD (qxg l i s) r 0=wD l r 0:=by rw[hcu,hcu];unfold qxg;rw[qM4,qLB (by omega),qMx,if_pos hlt]
             rw[this];exact w2.mono hx.M hx.w
           ·rcases qLy r (i.toNat+s.length) with hlt2|hge2
            ·have hrs:r-i.toNat<s.length:=by omega
             refine⟨.int .u8 (s[r-i.toNat].toNat:Int),?_,?_⟩
             ·rw[qM4,qLP (by omega),hcl2,qLB (by rw[hcl];omega)];simp[cs,hrs]
             ·have:wD (qxg l i s) r 0=.i (s[r-i.toNat].toNat:Int):=by rw[hcu];unfold qxg;rw[qM4,qLP (by omega),hll,qLB (by simp;omega)];simp[hrs]
              rw[this];exact .int .u8 (.i _)
            ·refine⟨v,?_,?_⟩
             ·rw[qLP (by simp[hcl2,hcl];omega)];simp only[qLR,hcl2,hcl,qMy];rw[show i.toNat+s.length+(r-(i.toNat+s.length))=r by omega];simpa using w1
             ·have:wD (qxg l i s) r 0=wD l r 0:=by rw[hcu,hcu];unfold qxg;rw[qLP (by simp;omega),qMy];simp only[qLR,hll,qLF];rw[show i.toNat+s.length+(r-(i.toNat+s.length))=r by omega]
              rw[this];exact w2.mono hx.M hx.w
          ·subst hs0 hk0;refine⟨v,by simpa[cs] using w1,?_⟩;have:qxg l i []=l:=by simp[qxg]
           rw[this];exact w2.mono hx.M hx.w
    ·cases h
   | _=>cases h
 ·cases h
end Go.Eng

namespace Go.Eng
variable {B:Base}{E:Env}{P:Program}{X:Ctx}{l:R}{n:Nat}{r:Res}{t:TypeId}{v:Value}{vs:List Value}{w:World}
theorem qJo {k:IntKind}(h:isZ k v=true):v=.int k 0:=by
 unfold isZ at h;split at h
 ·simp only[qLN,decide_eq_true_eq] at h;rw[h.1,h.2]
 ·cases h
theorem qiR {o n:Nat}{k:IntKind}(h:qAn E t=some (o,k,n)) :(E.ty t).zero.length=o+n/\(E.ty t).size=o+n/\32<=n/\(E.ty t).zero.drop o=List.replicate n (.int k 0)/\∃fs,(E.ty t).d=.struct fs:=by
 unfold qAn at h;split at h
 ·rename_i fs hd;split at h
  ·rename_i o' ty sz hl;split at h
   ·rename_i n' e es ha;split at h
    ·rename_i k' hk;split at h
     ·rename_i hc;cases h;simp only[qLN,Nat.ble_eq,Nat.beq_eq,qLZ] at hc;obtain⟨⟨⟨c1,c2⟩,c3⟩,c4⟩:=hc;refine⟨c2,c3,c1,?_,fs,hd⟩;apply List.eq_replicate_iff.2;exact⟨by simp[c2],fun v hv=>qJo (c4 v hv)⟩
     ·cases h
    ·cases h
   ·cases h
  ·cases h
 ·cases h
theorem qAy (k:IntKind)(n:Nat):q1p k (q4f n [.i 0])=List.replicate n (.int k 0):=by simp[q1p,q4f,U.toI]
theorem qrt (n:Nat)(r:List U):(q4f n r).length=n:=by simp[q4f]
theorem qnI {o n:Nat}{k:IntKind}(h:qAn E t=some (o,k,n)):(E.ty t).zero=(E.ty t).zero.take o++q1p k (q4f n [.i 0]):=by obtain⟨h1,h2,h3,h4,_⟩:=qiR h;rw[qAy,<-h4,qNy]
theorem qFL (hs:HSim B X){cs:List AV}{k:IntKind}{c:Array Value}{T:TypeId}(hr:RepL X cs vs)(hc:c.toList=vs++q1p k l)(hl:l.length=n) :HSim B (X.pushW (.big cs k n l) (some X.w.heap.size) (X.w.alloc (.cells c T))):=by have hw:=PushW.alloc X (.cells c T);exact hs.push hw ⟨X.w.heap.size,c,T,vs,by simp[Ctx.pushW],wj _ _,hr.ext (Ctx.push_ext hs _ hw),hc,hl⟩
theorem qpH (hs:HSim B X){cs:List AV}{k:IntKind}(hr:RepL X cs vs)(hc:v.cells.toList=vs++q1p k l)(hl:l.length=n){m:Sem Value}(hm:m.run P X.w=.ok (.pointer (some ⟨X.w.heap.size,0,none⟩)) (X.w.alloc (.cells v.cells t))) :qW P B X (do pure (.value (<-m))) (.ptr X.h.length 0,X.h++[.big cs k n l],none):=
 ⟨.value (.pointer (some ⟨X.w.heap.size,0,none⟩)),_,X.pushW (.big cs k n l) (some X.w.heap.size) (X.w.alloc (.cells v.cells t)),by simp[hm];rfl,.inl rfl,qA6,qFL hs hr hc hl,rfl,
  Ctx.push_ext hs _ (PushW.alloc X _)⟩
theorem qtk {h:List Blk}{k:Option Blk}(hr:(qCg h k).run=some r):∃z,k=some z/\r=(.ptr h.length 0,h++[z],none):=by
 cases k with
 | none=>cases hr
 | some z=>cases hr;exact⟨z,rfl,rfl⟩
theorem qDF (hs:HSim B X){a:AV}(hv:Rep X a v){z:Blk}(hz:qCK a=some z) :qW P B X (do pure (.value (<-Instr.box t v))) (.ptr X.h.length 0,X.h++[z],none):=by
 unfold qCK at hz;split at hz
 ·rename_i cs k n l;split at hz
  ·cases hz;cases hv with
   | bagg _ _ _ _ vs h hl=>exact qpH (t:=t) (v:=.agg (vs++q1p k l).toArray) hs h (by simp[Value.cells]) hl (by simp[Instr.box,qau])
  ·cases hz
 ·split at hz
  ·rename_i hc;cases hz;exact qFN hs hv hc
  ·cases hz
theorem qyL (hE:E.tok P)(hs:HSim B X){z:Blk}(hz:qfq E t=some z) :qW P B X (do pure (.value (<-Instr.alloc t true (.tuple #[])))) (.ptr X.h.length 0,X.h++[z],none):=by
 unfold qfq at hz;split at hz
 ·rename_i o k n hb;split at hz
  ·cases hz;obtain⟨b1,b2,b3,b4,_⟩:=qiR hb;obtain⟨v,h1,h2,_⟩:=qfT hE (t:=t) (by omega) X.w;refine qpH (t:=t) (v:=v) (vs:=(E.ty t).zero.take o) hs (yh X _) ?_ (qrt _ _) ?_
   ·rw[h2];exact qnI hb
   ·simp[Instr.alloc,h1,qau]
  ·cases hz
 ·split at hz
  ·rename_i hc;cases hz;exact qB7 hE hs hc.2
  ·cases hz
theorem qv7 {k:IntKind}{c:Array Value}(hc:c.toList=vs++q1p k l){j:Nat}(hj:j<l.length):c[vs.length+j]?=some (.int k (cI l j 0)):=by
 have:c.toList[vs.length+j]?=some (.int k (cI l j 0)):=by rw[hc,qLP (by omega),Nat.add_sub_cancel_left,qhf hj]
 simpa using this
theorem qFZ (l:R){i:Int}(h:0<=i)(j:Nat):cI l ((i.toNat:Nat):Int) j=cI l i j:=by rw[qNm h]
theorem qxn (hE:E.tok P)(hs:HSim B X){b off n0:Nat}(hσ:X.σ b=some n0){cs:List AV}{k:IntKind}(hh:X.h[b]?=some (.big cs k n l))(h:(qDj E X.h t off cs k n l).run=some r):∃av u,r=(av,X.h,none)/\(Instr.loadAt t (.pointer (some ⟨n0,off,none⟩))).run P X.w=.ok u X.w/\Rep X av u:=by
 obtain⟨n1,c,T,vs,e1,e2,e3,e4,e5⟩:=hs.blk b _ hh;rw[hσ] at e1;cases e1;have hlen:=e3.length;have hcl:c.size=vs.length+n:=by
  have:c.toList.length=(vs++q1p k l).length:=by rw[e4]
  simpa[uF,e5] using this
 unfold qDj at h;by_cases hk:(E.ty t).d.known=false
 ·rw[if_pos hk] at h;cases h
 rw[if_neg hk] at h;have hk':(E.ty t).d.known=true:=by simpa using hk
 simp only[Instr.loadAt,Instr.sureAddr,qLv,qM1,qLA];unfold loadVar;rw[qLv,qeh hE hk',qLA];cases ha:(E.ty t).d.isAgg with
 | true=>
  rw[ha] at h;simp only[if_true] at h ⊢;split at h
  ·rename_i hc;obtain⟨rfl,hc2⟩:=hc;cases h;refine⟨_,.agg (vs++q1p k l).toArray,rfl,?_,.bagg _ _ _ _ vs e3 e5⟩;have:=run_loadCells_list (P:=P) X.w ⟨n0,0,none⟩ (vs++q1p k l) (fun j v hj=>by rw[qMh,zZ e2,qMe];rw[<-e4] at hj;simpa using hj);have hl:(vs++q1p k l).length=(E.ty t).size:=by simp[uF];omega
   rw[hl] at this;simp[qiq hE hk',this]
  ·cases h
 | false=>
  rw[ha] at h;simp only[qLQ,if_false] at h ⊢;split at h
  ·rename_i v hv;cases h;obtain⟨u,g1,g2⟩:=e3.get off v hv;have h2:X.w.cell? ⟨n0,off,none⟩=some u:=by
    rw[zZ e2];have:c.toList[off]?=some u:=by rw[e4,qLB (qv g1)];exact g1
    simpa using this
   exact⟨_,u,rfl,by simp[h2],g2⟩
  ·rename_i hv;have hge:cs.length<=off:=by
    rcases qLy off cs.length with hlt|hge
    ·rw[qLz hlt] at hv;cases hv
    ·exact hge
   split at h
   ·rename_i hlt;cases h;have h2:X.w.cell? ⟨n0,off,none⟩=some (.int k (cI l ((off-cs.length:Nat):Int) 0)):=by
     rw[zZ e2];have:=qv7 e4 (j:=off-cs.length) (by omega)
     rwa [show vs.length+(off-cs.length)=off by omega] at this
    exact⟨_,_,rfl,by simp[h2],.int _ _⟩
   ·cases h
theorem qv4 (hE:E.tok P)(hs:HSim B X){p:AV}(hv:Rep X p v)(h:(qdG E X.h t p).run=some r):∃av u,r=(av,X.h,none)/\(Instr.loadAt t v).run P X.w=.ok u X.w/\Rep X av u:=by
 unfold qdG at h;split at h
 ·rename_i b off;split at h
  ·rename_i cs k n l hh;cases hv with
   | ptr _ _ n0 hb hσ=>exact qxn hE hs hσ hh h
  ·exact qil hE hs hv h
 ·rename_i b o i;split at h
  ·rename_i cs k n l hh;split at h
   ·rename_i hc;obtain⟨hc1,hc2,hc3⟩:=hc;obtain⟨g1,g2⟩:=jt h;cases g2;obtain⟨g3,g4⟩:=qkQ g1;cases hv with
    | aptr _ _ _ n0 hb hσ h0=>
     obtain⟨n1,c,T,vs,e1,e2,e3,e4,e5⟩:=hs.blk b _ hh;rw[hσ] at e1;cases e1;have hlen:=e3.length;have h2:X.w.cell? ⟨n0,o+i.toNat,none⟩=some (.int k (cI l i 0)):=by
      rw[zZ e2];have:=qv7 e4 (j:=i.toNat) (by omega);rw[qFZ l g3] at this
      rwa [show vs.length+i.toNat=o+i.toNat by omega] at this
     refine⟨_,_,rfl,?_,.int _ _⟩;simp only[Instr.loadAt,Instr.sureAddr,qLv,qM1,qLA];unfold loadVar;rw[qLv,qeh hE hc1,qLA,hc2];simp[h2]
   ·cases h
  ·cases h
 ·exact qil hE hs hv h
theorem qCk (k:IntKind)(l:R)(j:Nat)(x:Int):q1p k (qgZ l (j:Int) 0 [.i x])=(q1p k l).set j (.int k x):=by
 apply qMo;intro i;have hl:(qgZ l (j:Int) 0 [.i x]).length=l.length:=by simp[qgZ]
 by_cases hi:i<l.length
 ·rw[qhf (by omega)];by_cases hij:i=j
  ·subst hij;rw[qLL (by rw[uF];exact hi)];have:=qhD (l:=l) (i:=(i:Int)) (off:=0) (us:=[.i x]) (by simpa using hi) (j:=0);simp only[cI,this];rfl
  ·rw[qLt (qLX hij),qhf hi];have:=qgz (l:=l) (i:=(j:Int)) (off:=0) (us:=[.i x]) (r:=i) (by simpa using hij) (j:=0);simp only[cI,this]
 ·rw[qLS (by rw[uF];omega),qLS (by simp[uF];omega)]
theorem qAb (hE:E.tok P)(hs:HSim B X){b n0 j:Nat}(hσ:X.σ b=some n0){cs:List AV}{k:IntKind}(hh:X.h[b]?=some (.big cs k n l))(hj:j<n) (hsz:(E.ty t).size=1) (x:Int):qW P B X (do Instr.storeAt t (.pointer (some ⟨n0,cs.length+j,none⟩)) (.int k x);pure .skip) (.skip,X.h.set b (.big cs k n (qgZ l (j:Int) 0 [.i x])),none):=by
 obtain⟨n1,c,T,vs,e1,e2,e3,e4,e5⟩:=hs.blk b _ hh;rw[hσ] at e1;cases e1;have hlen:=e3.length;have hcl:c.size=vs.length+n:=by
  have:c.toList.length=(vs++q1p k l).length:=by rw[e4]
  simpa[uF,e5] using this
 have hsz':(sizeOf t).run P X.w=.ok (Value.int k x).cells.size X.w:=q9X hE (by rw[hsz];rfl) (by show 1≠0;omega) X.w;have hrun:=q2O (P:=P) (t:=t) (o:=cs.length+j) (v:=.int k x) e2 hsz' (by show cs.length+j+1<=_;omega) (fun u hu=>by
  have:u=.int k x:=by simpa[Value.cells] using hu
  rw[this];rfl)
 have hc':c.toList.take (cs.length+j)++(Value.int k x).cells.toList++c.toList.drop (cs.length+j+(Value.int k x).cells.size)=vs++q1p k (qgZ l (j:Int) 0 [.i x]):=by
  rw[qCk,e4];have h1:(Value.int k x).cells.toList=[.int k x]:=rfl;have h2:(Value.int k x).cells.size=1:=rfl;rw[h1,h2];apply qMo;intro i;have hsp:=qe5 (c:=vs++q1p k l) (vs:=[Value.int k x]) (o:=cs.length+j) (k:=i) (by simp[uF];omega);simp only[qM5,qMA,qMe] at hsp;rw[hsp];by_cases hi:i=cs.length+j
  ·subst hi;rw[if_pos (by omega),qLP (by omega),show cs.length+j-vs.length=j by omega,qLL (by rw[uF];omega)];simp
  ·rw[if_neg (by omega)];rcases qLy i vs.length with hlt|hge
   ·rw[qLB hlt,qLB hlt]
   ·rw[qLP hge,qLP hge,qLt (by omega)]
 have hup:=UpdW.setRow (X:=X) (c':=(c.toList.take (cs.length+j)++(Value.int k x).cells.toList++c.toList.drop (cs.length+j+(Value.int k x).cells.size)).toArray) e2 (by have h1:(Value.int k x).cells.toList=[.int k x]:=rfl;have h2:(Value.int k x).cells.size=1:=rfl;rw[h1,h2];simp;omega);have hown:X.own b n0:=⟨hσ,_,hh,rfl⟩;have hkk:qgk (.big cs k n l) (.big cs k n (qgZ l (j:Int) 0 [.i x])):=trivial;have hx:=Ctx.upd_ext hs hh hown hup hkk;refine⟨.skip,Go.undef,X.upd b (.big cs k n (qgZ l (j:Int) 0 [.i x])) (X.w.setRow n0 _),?_,.inr ⟨rfl,rfl⟩,.skip,hs.upd hh hown hup hkk ?_,rfl,hx⟩
 ·simp[Instr.storeAt,Instr.sureAddr,hrun];rfl
 ·exact⟨n0,_,T,vs,hσ,hup.new,e3.ext hx,by rw[<-hc'],by simp[qgZ,e5]⟩
theorem qB3 (hE:E.tok P)(hs:HSim B X){b off n0:Nat}(hσ:X.σ b=some n0){cs:List AV}{k:IntKind}(hh:X.h[b]?=some (.big cs k n l)){a:AV} {v:Value} (hv:Rep X a v) {r:Res} (h:(qtN E X.h t b off cs k n l a).run=some r):qW P B X (do Instr.storeAt t (.pointer (some ⟨n0,off,none⟩)) v;pure .skip) r:=by
 obtain⟨n1,c,T,vs,e1,e2,e3,e4,e5⟩:=hs.blk b _ hh;rw[hσ] at e1;cases e1;have hlen:=e3.length;have hcl:c.size=vs.length+n:=by
  have:c.toList.length=(vs++q1p k l).length:=by rw[e4]
  simpa[uF,e5] using this
 have hown:X.own b n0:=⟨hσ,_,hh,rfl⟩;unfold qtN at h;split at h
 ·rename_i cs' k' n' l';split at h
  ·rename_i hc;obtain⟨rfl,rfl,rfl,c1,c2,c3,c4⟩:=hc;cases h;cases hv with
   | bagg _ _ _ _ vs' h' hl'=>
    have hlen':=h'.length;have hcs:(Value.agg (vs'++q1p k l').toArray).cells.toList=vs'++q1p k l':=by simp[Value.cells]
    have hcz:(Value.agg (vs'++q1p k l').toArray).cells.size=c.size:=by simp[Value.cells,uF];omega
    have hsz':(sizeOf t).run P X.w=.ok (Value.agg (vs'++q1p k l').toArray).cells.size X.w:=q9X hE (by rw[hcz];omega) (by rw[hcz];omega) X.w;have hrun:=q2O (P:=P) (t:=t) (o:=0) (v:=.agg (vs'++q1p k l').toArray) e2 hsz' (by omega) (fun u hu=>by
     rw[hcs] at hu;rcases qLV.1 hu with hu|hu
     ·exact qcL h' c4 u hu
     ·unfold q1p at hu;obtain⟨row,_,hr⟩:=qMi.1 hu;rw[<-hr];rfl)
    have hup:=UpdW.setRow (X:=X) (c':=(c.toList.take 0++(Value.agg (vs'++q1p k l').toArray).cells.toList++c.toList.drop (0+(Value.agg (vs'++q1p k l').toArray).cells.size)).toArray) e2 (by rw[hcs];simp[hcz,uF];omega);have hkk:qgk (.big cs k n l) (.big cs' k n l'):=trivial;have hx:=Ctx.upd_ext hs hh hown hup hkk;refine⟨.skip,Go.undef,X.upd b (.big cs' k n l') (X.w.setRow n0 _),?_,.inr ⟨rfl,rfl⟩,.skip,hs.upd hh hown hup hkk ?_,rfl,hx⟩
    ·simp only[Instr.storeAt,Instr.sureAddr,qLv,qM1,qLA,hrun];rfl
    ·refine⟨n0,_,T,vs',hσ,hup.new,h'.ext hx,?_,hl'⟩;rw[hcs];simp[hcz]
  ·cases h
 ·rename_i hnb;split at h
  ·rename_i hc;obtain⟨c1,c2,c3⟩:=hc;split at h
   ·rename_i hle;have hle':off+a.cells.length<=cs.length:=Nat.le_of_ble_eq_true hle;cases h;have hrl:=qhL hv c2;have hlenv:v.cells.size=a.cells.length:=by have:=hrl.length;simpa using this.symm
    have hone:=qcL hrl c2;have hsz:(sizeOf t).run P X.w=.ok v.cells.size X.w:=by rw[hlenv];exact q9X hE c1 c3 X.w
    have hrun:=q2O (P:=P) (t:=t) (o:=off) (v:=v) e2 hsz (by omega) hone;have hup:=UpdW.setRow (X:=X) (c':=(c.toList.take off++v.cells.toList++c.toList.drop (off+v.cells.size)).toArray) e2 (by simp;omega);have hkk:qgk (.big cs k n l) (.big (qo8 cs off a.cells) k n l):=trivial;have hx:=Ctx.upd_ext hs hh hown hup hkk;refine⟨.skip,Go.undef,X.upd b (.big (qo8 cs off a.cells) k n l) (X.w.setRow n0 _),?_,.inr ⟨rfl,rfl⟩,.skip,hs.upd hh hown hup hkk ?_,rfl,hx⟩
    ·simp[Instr.storeAt,Instr.sureAddr,hrun];rfl
    ·refine⟨n0,_,T,vs.take off++v.cells.toList++vs.drop (off+a.cells.length),hσ,hup.new,(qfK e3 hrl off).ext hx,?_,e5⟩;show c.toList.take off++v.cells.toList++c.toList.drop (off+v.cells.size)=_;rw[e4,hlenv,List.take_append_of_le_length (by omega),List.drop_append_of_le_length (by omega)];simp
   ·split at h
    ·rename_i k' x hx;split at h
     ·rename_i hc2;obtain⟨rfl,d1,d2⟩:=hc2;cases h;obtain rfl:=q48 hv hx;have hone:a.cells.length=1:=by cases a<;>simp[asI] at hx<;>rfl
      have:=qAb (P:=P) hE hs hσ hh (j:=off-cs.length) (by omega) (t:=t) (by omega) x
      rwa [show cs.length+(off-cs.length)=off by omega] at this
     ·cases h
    ·cases h
  ·cases h
theorem quN (hE:E.tok P)(hs:HSim B X){p a:AV}{vp v:Value}(hp:Rep X p vp)(hv:Rep X a v)(h:(q0t E X.h t p a).run=some r):qW P B X (do Instr.storeAt t vp v;pure .skip) r:=by
 unfold q0t at h;split at h
 ·rename_i b off;split at h
  ·rename_i cs k n l hh;cases hp with
   | ptr _ _ n0 hb hσ=>exact qB3 hE hs hσ hh hv h
  ·exact qox hE hs hp hv h
 ·rename_i b o i;split at h
  ·rename_i cs k n l hh;split at h
   ·rename_i k' x hx;split at h
    ·rename_i hc;obtain⟨rfl,rfl,hc3⟩:=hc;obtain⟨g1,g2⟩:=jt h;cases g2;obtain⟨g3,g4⟩:=qkQ g1;obtain rfl:=q48 hv hx;cases hp with
     | aptr _ _ _ n0 hb hσ h0=>
      have:=qAb (P:=P) hE hs hσ hh (j:=i.toNat) (by omega) (t:=t) hc3 x
      rwa [qNm h0] at this
    ·cases h
   ·cases h
  ·cases h
 ·exact qox hE hs hp hv h
theorem qms (hE:E.tok P)(hs:HSim B X){a ai:AV}{v vi:Value}(hv:Rep X a v)(hi:Rep X ai vi)(h:(q1i E X.h t a ai).run=some r):∃av u,r=(av,X.h,none)/\(Instr.indexAt t v vi).run P X.w=.ok u X.w/\Rep X av u:=by
 unfold q1i at h;split at h
 ·rename_i n e es hd;split at h
  ·split at h
   ·rename_i b off;split at h
    ·rename_i k i;split at h
     ·rename_i hes;obtain⟨ht,hce⟩:=q84 hE hd;obtain⟨g1,g2⟩:=jt h;cases g2;obtain⟨g3,g4⟩:=qkQ g1;obtain rfl:=q48 hi rfl;cases hv with
      | ptr _ _ n0 hb hσ=>
       refine⟨_,_,rfl,q12 ht (by omega) g3 g4,?_⟩;rw[qMh,<-hce,hes,qNc];exact .aptr b off i n0 hb hσ g3
     ·cases h
    ·exact q3t hE hs hv hi h
   ·exact q3t hE hs hv hi h
  ·exact q3t hE hs hv hi h
 ·exact q3t hE hs hv hi h
theorem qjl{X:Ctx}{place:Nat->Option (Nat×Nat)}(tl:List Value):∀{parts:List (Nat×AV)} {vparts:List (Nat×Value)} {cells cs:List AV} {vc:Array Value} {vs:List Value},
  qeA place cells parts=some cs->RepP X parts vparts->RepL X cells vs->vc.toList=vs++tl->∃vc' vs',Instr.fill place vc vparts=some vc'/\RepL X cs vs'/\vc'.toList=vs'++tl
 | [],_,cells,cs,vc,vs,h,hp,hr,hv=>by
  cases hp;simp only[qeA,qLq] at h;subst h;exact⟨vc,vs,rfl,hr,hv⟩
 | (i,a)::rest,_,cells,cs,vc,vs,h,hp,hr,hv=>by
  cases hp with
  | cons ha ht=>
  rename_i v m;simp only[qeA] at h;cases hpl:place i with
  | none=>rw[hpl] at h;cases h
  | some q=>
   obtain⟨off,size⟩:=q;rw[hpl] at h;simp only at h;by_cases hc:a.cells.length=size/\off+a.cells.length<=cells.length/\u7 a.cells=true
   ·rw[if_pos hc] at h;have hrl:=qhL ha hc.2.2;have hlen:v.cells.size=a.cells.length:=by have:=hrl.length;simpa using this.symm
    have hvs:cells.length=vs.length:=hr.length;have hvc:vc.size=vs.length+tl.length:=by
     have:vc.toList.length=(vs++tl).length:=by rw[hv]
     simpa using this
    have hnot:¬(v.cells.size≠size\/off+v.cells.size>vc.size):=by omega
    have hf:=qtf v.cells vc off (by omega);obtain⟨vc',vs',h1,h2,h3⟩:=qjl tl (vc:=v.cells.zipIdx.foldl (fun cs (x:Value×Nat)=>cs.setIfInBounds (off+x.2) x.1) vc) (vs:=vs.take off++v.cells.toList++vs.drop (off+a.cells.length)) h ht (qfK hr hrl off) (by rw[hf,hlen,hv,List.take_append_of_le_length (by omega),List.drop_append_of_le_length (by omega)];simp);refine⟨vc',vs',?_,h2,h3⟩;simp only[Instr.fill,hpl];rw[if_neg (by simpa using hnot)];exact h1
   ·rw[if_neg hc] at h;cases h
theorem qrZ (hE:E.tok P){parts:List (Nat×AV)}{vparts:Array (Nat×Value)}(hp:RepP X parts vparts.toList)(h:(qcA E X.h t parts).run=some r):∃av u,r=(av,X.h,none)/\(Instr.build t vparts).run P X.w=.ok u X.w/\Rep X av u:=by
 unfold qcA at h;split at h
 ·rename_i o k n hb;obtain⟨b1,b2,b3,b4,_⟩:=qiR hb;split at h
  ·rename_i fs hd;split at h
   ·rename_i hok;obtain⟨z,z1,z2,_⟩:=qfT hE (t:=t) (by omega) X.w;obtain⟨fields,e1,e2⟩:=q8J hE hd;have hinfo:∀f∈fields.toList,(P.info? f.type).isSome=true:=by have hk:=q0y hE (t:=t) (by rw[hd];rfl);rw[hk.1] at hok;unfold qw1 at hok;obtain⟨_,i,dd,h1,_⟩:=hk;rw[h1] at hok;simpa only [e1,qLZ] using hok
    cases hf:qeA (fun i=>(fs[i]?).map fun (f:Nat×TypeId×Nat)=>(f.1,f.2.2)) (((E.ty t).zero.take o).map jI) parts with
    | none=>rw[hf] at h;cases h
    | some cs=>
     rw[hf] at h;cases h;have hpl:(fun i:Nat=>(fs[i]?).map fun (f:Nat×TypeId×Nat)=>(f.1,f.2.2))=fun i:Nat=>(fields.map fun f=>(f.offset,P.cellsOf f.type))[i]?:=by funext i;rw[e2];simp only[qLC,qNC,Array.getElem?_map,Option.map_map];rfl
     rw[hpl] at hf;obtain⟨vc,vs',f1,f2,f3⟩:=qjl (q1p k (q4f n [.i 0])) (vc:=z.cells) (vs:=(E.ty t).zero.take o) hf hp (yh X _) (by rw[z2];exact qnI hb);have:Rep X (.bagg cs k n (q4f n [.i 0])) (.agg (vs'++q1p k (q4f n [.i 0])).toArray):=.bagg _ _ _ _ _ f2 (qrt _ _);rw[<-f3] at this;refine⟨_,.agg vc,rfl,?_,by simpa using this⟩;have hm:=qzj (P:=P) (f:=fun f:Field=>(do pure (f.offset,<-sizeOf f.type):Sem (Nat×Nat))) (g:=fun f=>(f.offset,P.cellsOf f.type)) fields (fun f hf w=>by
      have:=hinfo f hf;cases hi:P.info? f.type with
      | none=>rw[hi] at this;cases this
      | some i=>simp[sizeOf,typeInfo,hi,Program.cellsOf]) X.w
     simp only[Instr.build,qLv,z1,qLA,run_underlying e1];rw[hm];simp only[qLA,f1];rfl
   ·cases h
  ·cases h
 ·exact quR hE hp h
theorem qeq {t e:TypeId}{ad:Addr}{vlo vhi:Option Value}{a b:Nat}(ht:P.underlying t=some (.array n e))(hp:0<P.cellsOf e)(hb:(Instr.sliceBounds false n n vlo vhi none).run P w=.ok (a,b,n) w) :(Instr.sliceAt t (.pointer (some ad)) vlo vhi none).run P w=.ok (.slice (some (if n=a then ad else ad.add (a*P.cellsOf e))) (b-a) (n-a)) w:=by simp[Instr.sliceAt,run_underlying ht,Instr.sureAddr,hb,zM hp]
theorem qmn {t e:TypeId}{ad:Addr}{vlo vhi vmx:Option Value}{a b:Nat}(ht:P.underlying t=some (.array n e))(hp:0<P.cellsOf e)(hb:(Instr.sliceBounds false n n vlo vhi vmx).run P w=.ok (a,b,b) w) :(Instr.sliceAt t (.pointer (some ad)) vlo vhi vmx).run P w=.ok (.slice (some (if b=a then ad else ad.add (a*P.cellsOf e))) (b-a) (b-a)) w:=by simp[Instr.sliceAt,run_underlying ht,Instr.sureAddr,hb,zM hp]
theorem Sh.beq_eq1 {s t:Sh}(h:Sh.beq s t=true):s=t:=by
 have:Sh.beqL [s] [t]=true:=by simp[Sh.beqL,h]
 have:=Sh.beqL_eq _ _ this;cases this;rfl
theorem qyP {M:Nat->Prop}{sh:List Sh}{i:Int}{off n:Nat}{s:Sh}{rows:R}(h:qxZ sh l i off n=some (s,rows)){a:Addr}(_:a.spot=none)(hr:Rows w M sh l a) :rows.length=n/\i=0/\qfC w M [s] rows (.slice (some ⟨a.block,a.off+i.toNat*sh.length+off,none⟩) n n):=by
 unfold qxZ at h;split at h
 ·rename_i s' row hs;split at h
  ·rename_i hc;obtain⟨⟨rfl,c1⟩,c2,c3⟩:=hc;cases h;have hl:(((row.drop off).take n).map fun u=>[u]).length=n:=by simp;omega
   refine⟨hl,rfl,.inr ⟨_,n,by rw[hl],fun _=>rfl,by rw[hl];exact qLs n,fun r j hj hrn=>?_⟩⟩;rw[hl] at hrn;have hj0:j=0:=by simpa using hj
   subst hj0;have hlt:off+r<sh.length:=by omega
   obtain⟨g1,v,g2,g3⟩:=hr 0 (off+r) hlt (by simp);refine⟨g1,v,?_,?_⟩
   ·rw[<-g2];show World.cell? w ⟨a.block,a.off+(0:Int).toNat*sh.length+off+r*1+0,none⟩=_;congr 2;simp;omega
   ·have e1:sh[off+r]=s:=by
     have hm:sh[off+r]∈(sh.drop off).take n:=by rw[List.mem_iff_getElem];refine⟨r,by simp;omega,by simp⟩
     exact(Sh.beq_eq1 (qLZ.1 c2 _ hm)).symm
    have e2:wD [row] ((0:Nat):Int) (off+r)=wD (((row.drop off).take n).map fun u=>[u]) (r:Int) 0:=by
     unfold wD;have h1:(((row.drop off).take n).map fun u=>[u]).getD ((r:Nat):Int).toNat []=[row.getD (off+r) (.i 0)]:=by rw[qLD,qLr,qLC,qMx,if_pos hrn,qMy,qLr,qLz (show off+r<row.length by omega)];rfl
     rw[h1];rfl
    rw[e1] at g3;rw[<-e2];exact g3
  ·cases h
 ·cases h
theorem qrl {lo:Option AV}{vlo:Option Value}(hlo:RepO X lo vlo){k k':IntKind}{a b:Int}(h1:qeJ lo 0=some a) (hb:b<=n) (ha0:0<=a) (ha:a<=b) (w:World) :(Instr.sliceBounds false n n vlo (some (.int k b)) (some (.int k' b))).run P w=.ok (a.toNat,b.toNat,b.toNat) w:=by
 have hb0:0<=b:=by omega
 have hba:a<=(b.toNat:Nat):=by omega
 have hbb:b<=(b.toNat:Nat):=by omega
 rcases ql8 hlo h1 with⟨rfl,rfl⟩|⟨k,rfl⟩
 ·simp[Instr.sliceBounds,zF hb0 hb,zF hb0 hbb]
 ·simp[Instr.sliceBounds,zF hb0 hb,zF hb0 hbb,zF ha0 hba]
theorem qxt (hs:HSim B X){t e:TypeId}(hta:P.underlying t=some (.array n e))(hce:P.cellsOf e=1){ad:Addr}{s:Sh}{rows:R}(hl:rows.length=n)(himm:qfC X.w X.M [s] rows (.slice (some ad) n n)) {lo hi mx:Option AV} {vlo vhi vmx:Option Value} (hlo:RepO X lo vlo) (hhi:RepO X hi vhi) (hmx:RepO X mx vmx) {r:Res}(h:(qwH X.h n s rows lo hi mx).run=some r):qW P B X (do pure (.value (<-Instr.sliceAt t (.pointer (some ad)) vlo vhi vmx))) r:=by
 have hrl:qm rows=(n:Int):=by unfold qm;rw[hl]
 unfold qwH at h;cases mx with
 | none=>
  cases hmx;simp only at h;cases h1:qeJ lo 0 with
  | none=>rw[h1] at h;cases h
  | some x=>
   cases h2:qeJ hi n with
   | none=>rw[h1,h2] at h;cases h
   | some y=>
    rw[h1,h2] at h;obtain⟨g1,g2⟩:=jt h;obtain⟨g3,g4⟩:=jt g2;cases g4;obtain⟨q1,q2⟩:=q0o g1;obtain⟨q3,q4⟩:=q0o g3;have hrun:=qeq (P:=P) (w:=X.w) (ad:=ad) hta (by omega) (q15 hlo hhi h1 h2 rfl q1 (by omega) q3 q4 _);refine qW.ofV hs hrun ?_;obtain⟨_,_,w3⟩:=qqH himm q3 q4 (by rw[hrl];exact q2);refine .imm _ _ _ ?_;rw[hce];have e0:(if n=x.toNat then some ad else (some ad).map (·.add (x.toNat*[s].length)))=some (if n=x.toNat then ad else ad.add (x.toNat*1)):=by split<;>rfl
    rw[e0] at w3;exact w3
 | some m=>
  simp only at h;cases h1:qeJ lo 0 with
  | none=>rw[h1] at h;cases h
  | some x=>
   cases hi with
   | none=>rw[h1] at h;cases h
   | some y=>
   rw[h1] at h;simp only[qLW] at h;cases h2:asI y with
   | none=>rw[h2] at h;cases h
   | some p=>
    obtain⟨k1,c⟩:=p;cases h3:asI m with
    | none=>rw[h2,h3] at h;cases h
    | some p'=>
     obtain⟨k2,d⟩:=p';rw[h2,h3] at h;obtain⟨g1,g2⟩:=jt h;obtain⟨g3,g4⟩:=jt g2;obtain⟨g5,g6⟩:=jt g4;cases g6;obtain⟨q1,q2⟩:=q0o g1;obtain⟨q3,q4⟩:=q0o g3;have hcd:c=d:=of_decide_eq_true g5;subst hcd;cases hhi with
     | some hy=>
      cases hmx with
      | some hm=>
       obtain⟨k3,rfl⟩:=qup hy h2;obtain⟨k4,rfl⟩:=qup hm h3;have hrun:=qmn (P:=P) (w:=X.w) (ad:=ad) hta (by omega) (qrl (k:=k3) (k':=k4) hlo h1 q2 q3 q4 _);refine qW.ofV hs hrun ?_;obtain⟨_,w3⟩:=qtt himm q3 q4 (by rw[hrl];exact q2);rw[hce];have e0:(if c.toNat=x.toNat then some ad else (some ad).map (·.add (x.toNat*[s].length)))=some (if c.toNat=x.toNat then ad else ad.add (x.toNat*1)):=by split<;>rfl
       rw[e0] at w3;exact .full _ _ _ _ w3
theorem qvn (hE:E.tok P)(hs:HSim B X){a:AV}{lo hi mx:Option AV}{vlo vhi vmx:Option Value}(hv:Rep X a v)(hlo:RepO X lo vlo) (hhi:RepO X hi vhi) (hmx:RepO X mx vmx) {r:Res} (h:(uO E X.h t a lo hi mx).run=some r) :qW P B X (do pure (.value (<-Instr.sliceAt t v vlo vhi vmx))) r:=by
 unfold uO at h;split at h
 ·rename_i n e es hd;obtain⟨hta,hce⟩:=q84 hE hd;split at h
  ·rename_i sh l i off;split at h
   ·rename_i hes;split at h
    ·rename_i s rows har;cases hv with
     | eptr _ _ _ _ a hsp h0 h1 hr=>
      obtain⟨hl,hi0,himm⟩:=qyP har hsp hr;exact qxt hs hta (by omega) hl himm hlo hhi hmx h
    ·cases h
   ·cases h
  ·rename_i b off;split at h
   ·cases hmx
    ·split at h
     ·rename_i hes;unfold qF4 at h;cases h1:qeJ lo 0 with
      | none=>rw[h1] at h;cases h
      | some x=>
       cases h2:qeJ hi n with
       | none=>rw[h1,h2] at h;cases h
       | some y=>
        rw[h1,h2] at h;obtain⟨g1,g2⟩:=jt h;obtain⟨g3,g4⟩:=jt g2;cases g4;obtain⟨q1,q2⟩:=q0o g1;obtain⟨q3,q4⟩:=q0o g3;cases hv with
        | ptr _ _ n0 hb hσ=>
         have hrun:=qeq (P:=P) (w:=X.w) (ad:=⟨n0,off,none⟩) hta (by omega) (q15 hlo hhi h1 h2 rfl q1 (by omega) q3 q4 _);refine qW.ofV hs hrun ?_;have he1:P.cellsOf e=1:=by omega
         have hk:(if n=x.toNat then (⟨n0,off,none⟩:Addr) else Addr.add ⟨n0,off,none⟩ (x.toNat*P.cellsOf e))=⟨n0,if n=x.toNat then off else off+x.toNat,none⟩:=by
          split
          ·rfl
          ·rw[qMh,he1,qNc]
         rw[hk];have hyx:qxQ y x=y-x:=rfl;have hn:y.toNat-x.toNat=(qxQ y x).toNat:=by rw[hyx];omega
         rw[hn];refine .asub b off n x (qxQ y x) n0 _ _ hb hσ q3 (by rw[hyx];omega) (by rw[hyx];omega) ?_;split
         ·right;rw[hyx];omega
         ·exact .inl rfl
     ·cases h
   ·cases h
  ·cases h
 ·exact qwF hE hs hv hlo hhi hmx h
theorem qC9 {l l':R}{i i' c:Int}(h0:0<=i)(h0':0<=i')(hc:0<=c)(h1:i+c<=l.length)(h2:i'+c<=l'.length):(qmf l i l' i' c).length=l.length:=by simp[qmf];omega
theorem qwo (hE:E.tok P)(hs:HSim B X){ts:List TypeId}{azz:List AV}(hv:RepL X azz vs)(h:(quJ E X.h ts azz).run=some r)(ty:TypeId) :qW P B X (do pure (.value (<-Builtin.copy_ ts.toArray ty vs.toArray))) r:=by
 unfold quJ at h;split at h
 ·rename_i t t' b o n i m b' o' n' i' m';split at h
  ·rename_i e es hd;obtain⟨ht,hce⟩:=q1r hE hd;split at h
   ·rename_i cs k N l hb;split at h
    ·rename_i cs' k' N' l' hb';split at h
     ·rename_i hc;obtain⟨hes,rfl,rfl,rfl,rfl,rfl⟩:=hc;cases h;cases hv with
      | cons hv1 hv=>cases hv with
       | cons hv2 hv=>cases hv with
        | nil=>
         cases hv1 with
         | asub _ _ _ _ _ n0 k0 c0 hbl hσ i0 m0 im hk=>
          cases hv2 with
          | asub _ _ _ _ _ n1 k1 c1 hbl' hσ' i0' m0' im' hk'=>
           obtain⟨q,c,T,us,e1,e2,e3,e4,e5⟩:=hs.blk b _ hb;rw[hσ] at e1;cases e1;obtain⟨q',c',T',us',f1,f2,f3,f4,f5⟩:=hs.blk b' _ hb';rw[hσ'] at f1;cases f1;have hlen:=e3.length;have hlen':=f3.length;have hcl:c.size=us.length+n:=by
            have:c.toList.length=(us++q1p k l).length:=by rw[e4]
            simpa[uF,e5] using this
           obtain⟨d,hd0,hd1⟩:∃d:Int,d=qkU m' m/\0<=d/\d<=m/\d<=m':=by refine⟨_,rfl,?_⟩;unfold qkU;split<;>omega
           rw[<-hd0];have hdn:d.toNat=Nat.min m'.toNat m.toNat:=by rw[hd0];unfold qkU;show _=min m'.toNat m.toNat;split<;>omega
           let ws:List Value:=(List.range d.toNat).map fun j:Nat=>Value.int k (cI l' ((i'.toNat+j:Nat):Int) 0)
           have hwl:ws.length=d.toNat:=by simp[ws]
           have hcell:∀j v,ws[j]?=some v->X.w.cell? (Addr.add ⟨n1,k1,none⟩ j)=some v:=by
            intro j v hj;have hjd:j<d.toNat:=by have:=qv hj;omega
            simp only[ws,qLC,qMp hjd,qM6,qLq] at hj;rw[qMh,zZ f2,<-hj];rcases hk' with hk'|hk'
            ·rw[hk',show cs'.length+i'.toNat+j=us'.length+(i'.toNat+j) by omega];exact qv7 f4 (by omega)
            ·omega
           have hone:∀v∈ws,v.oneCell'=true:=by intro v hv;obtain⟨j,_,hj⟩:=qMi.1 hv;rw[<-hj];rfl
           have hkd:k0=cs.length+i.toNat\/ws=[]:=by
            rcases hk with hk|hk
            ·exact .inl hk
            ·exact .inr (qNd (by omega))
           have hinfo:(P.info? e).map (·.size)=some 1:=by obtain⟨ii,w1,w2⟩:=qyI (P:=P) (e:=e) (by omega);rw[w1,qM6,w2,<-hce,hes]
           have hmin:ws.length=Nat.min m'.toNat m.toNat:=by omega
           have hown:X.own b n0:=⟨hσ,_,hb,rfl⟩;have hkk:qgk (.big cs k n l) (.big cs k n (qmf l i l' i' d)):=trivial;have hrl:(qmf l i l' i' d).length=l.length:=qC9 i0 i0' hd1.1 (by omega) (by omega);have hint:q1p k (qmf l i l' i' d)=(q1p k l).take i.toNat++ws++(q1p k l).drop (i.toNat+d.toNat):=by
            apply qMo;intro j;have hsp:=qe5 (c:=q1p k l) (vs:=ws) (o:=i.toNat) (k:=j) (by rw[hwl,uF];omega);rw[hwl] at hsp;rw[hsp];by_cases hj:j<l.length
            ·rw[qhf (by omega)];have hli:(l.take i.toNat).length=i.toNat:=by simp;omega
             have hld:((l'.drop i'.toNat).take d.toNat).length=d.toNat:=by simp;omega
             have hcu:∀(f:R) (k:Nat),cI f (k:Int) 0=((f[k]?.getD []).getD 0 (.i 0)).toI:=fun f k=>by unfold cI wD;rw[qLD,qLr (l:=f)]
             split
             ·rename_i hin;simp only[ws,qLC,qMp (show j-i.toNat<d.toNat by omega),qM6,qLq];congr 1;rw[hcu,hcu];unfold qmf;rw[qM4,qLP (by omega),hli,qLB (by omega),qMx,if_pos (by omega),qMy]
             ·rename_i hout;rw[qhf hj];congr 2;rw[hcu,hcu];unfold qmf;rcases qLy j i.toNat with hlt|hge
              ·rw[qM4,qLB (by omega),qMx,if_pos hlt]
              ·rw[qLP (by simp only[qLR];omega),qMy];simp only[qLR,hli,hld];rw[show i.toNat+d.toNat+(j-(i.toNat+d.toNat))=j by omega]
            ·rw[qLS (by rw[uF];omega)];rw[if_neg (by omega),qLS (by rw[uF];omega)]
           have hrow:c.toList.take k0++ws++c.toList.drop (k0+ws.length)=us++q1p k (qmf l i l' i' d):=by
            rw[hint];rcases hkd with hkd|hkd
            ·rw[e4,hkd,hwl,hlen,List.take_append,List.drop_append,qNH (by omega),qNe (show us.length<=us.length+i.toNat+d.toNat by omega)];rw[show us.length+i.toNat-us.length=i.toNat by omega,show us.length+i.toNat+d.toNat-us.length=i.toNat+d.toNat by omega];simp
            ·have hd00:d.toNat=0:=by rw[<-hwl,hkd];rfl
             rw[hkd,hd00];simp[e4]
           have hfit:k0+ws.length<=c.size\/ws=[]:=by
            rcases hkd with hkd|hkd
            ·left;omega
            ·exact .inr hkd
           rcases hfit with hfit|hfit
           ·have hrun:=run_copy_row (P:=P) X.w t t' ty e n0 k0 m.toNat c0 ⟨n1,k1,none⟩ m'.toNat c1 c T ws ht hinfo e2 hmin hcell hfit hone;have hup:=UpdW.setRow (X:=X) (c':=(c.toList.take k0++ws++c.toList.drop (k0+ws.length)).toArray) e2 (by simp;omega);have hx:=Ctx.upd_ext hs hb hown hup hkk;refine⟨.value (goInt ws.length),goInt ws.length,X.upd b (.big cs k n (qmf l i l' i' d)) (X.w.setRow n0 _),?_,.inl rfl,?_,hs.upd hb hown hup hkk ?_,rfl,hx⟩
            ·rw[qLv];have:(#[Value.slice (some ⟨n0,k0,none⟩) m.toNat c0,Value.slice (some ⟨n1,k1,none⟩) m'.toNat c1]:Array Value)=List.toArray [.slice (some ⟨n0,k0,none⟩) m.toNat c0,.slice (some ⟨n1,k1,none⟩) m'.toNat c1]:=rfl;rw[<-this];have h2:(#[t,t']:Array TypeId)=List.toArray [t,t']:=rfl;rw[<-h2,hrun];rfl
            ·have:goInt ws.length=.int .i64 d:=by show Value.int .i64 (ws.length:Int)=_;rw[hwl,qNm hd1.1]
             rw[this];exact .int _ _
            ·exact⟨n0,_,T,us,hσ,hup.new,e3.ext hx,by rw[<-hrow],by rw[hrl];exact e5⟩
           ·
            have hd00:d.toNat=0:=by rw[<-hwl,hfit];rfl
            have hrun:(Builtin.copy_ (List.toArray [t,t']) ty (List.toArray [.slice (some ⟨n0,k0,none⟩) m.toNat c0,.slice (some ⟨n1,k1,none⟩) m'.toNat c1])).run P X.w=.ok (goInt 0) X.w:=by
             have hl:=run_loadCells_list (P:=P) X.w ⟨n1,k1,none⟩ ws hcell;cases hq:P.info? e with
             | none=>rw[hq] at hinfo;cases hinfo
             | some ii=>
              have hsize:ii.size=1:=by rw[hq] at hinfo;simpa using hinfo
              have hmz:Nat.min m'.toNat m.toNat=0:=by omega
              rw[hfit] at hl;simp only[qMA] at hl;simp[Builtin.copy_,run_underlying ht,Builtin.lenOf,Builtin.firstCells,sizeOf,typeInfo,hq,hmz,hl,storeCells]
            have hw:X.w=X.w.setRow n0 c:=(setRow_self X.w n0 c T (0,0) e2).symm;have hup:UpdW X n0 c c T X.w:=⟨e2,e2,rfl,fun _ _=>rfl,rfl,rfl,rfl,rfl⟩;have hx:=Ctx.upd_ext hs hb hown hup hkk;refine⟨.value (goInt 0),goInt 0,X.upd b (.big cs k n (qmf l i l' i' d)) X.w,?_,.inl rfl,?_,hs.upd hb hown hup hkk ?_,rfl,hx⟩
            ·rw[qLv,hrun];rfl
            ·have:goInt 0=.int .i64 d:=by show Value.int .i64 (0:Int)=_;congr 1;omega
             rw[this];exact .int _ _
            ·refine⟨n0,c,T,us,hσ,e2,e3.ext hx,?_,by rw[hrl];exact e5⟩;rw[<-hrow,hfit];simp
     ·cases h
    ·cases h
   ·cases h
  ·cases h
 ·exact qyZ hE hs hv h ty
end Go.Eng

namespace Go.Eng
variable {B:Base}{E:Env}{P:Program}{X:Ctx}{a:Act}{r:Res}{st:St}
theorem Move.transl {X Y Z:Ctx}{f:Nat->Option Nat}(h:Ext X Y)(k:Move Y Z f):Move X Z f:=by refine Move.of (fun n hn=>k.M n (h.M n hn)) (fun a ha=>(k.w a (h.M _ ha)).trans (h.w a ha)) (fun b1 b2 hb1 hf=>?_) (k.y.trans h.y) (k.kept.trans h.kept);have k1:=h.b b1 b1 hb1 rfl;have k2:=k.b b1 b2 k1.lt hf;refine⟨k2.lt,k2.σ.trans k1.σ,fun sh m hv=>k1.vec sh m (k2.vec sh m hv),fun sh m hv n hn c T fr hc=>?_⟩;obtain⟨c1,T1,fr1,e1,e2⟩:=k1.size sh m (k2.vec sh m hv) n hn c T fr hc;obtain⟨c2,T2,fr2,e3,e4⟩:=k2.size sh m hv n (by rw[k1.σ];exact hn) c1 T1 fr1 e1;exact⟨c2,T2,fr2,e3,e4.trans e2⟩
theorem qW.frozen {X X1:Ctx}{h':List Blk}{m:Sem Next}(fz:Frozen B X X1 h')(h:qW P B X1 m r):qW P B X m r:=by
 obtain⟨nx,v,X',g1,g2,g3,g4,g5⟩:=h;refine⟨nx,v,X',by rw[<-fz.w];exact g1,g2,g3,g4,?_⟩;cases hn:r.2.2 with
 | none=>rw[hn] at g5;exact⟨g5.1,fz.ext.trans g5.2⟩
 | some b=>rw[hn] at g5;exact⟨g5.1,Move.transl fz.ext g5.2⟩
theorem qIr (hs:HSim B X){x:AV}{vx:Value}(h2:Rep X x vx){sh:List Sh}{m:R}(hm:vX X.h x=some (sh,m)) :∃X1,Frozen B X X1 (yU X.h x)/\Src P X1 sh m vx:=by
 cases h2 with
 | imm sh' l v himm=>
  simp only[vX,qLq,qM2] at hm;obtain⟨rfl,rfl⟩:=hm;exact⟨X,⟨rfl,rfl,rfl,hs,Ext.refl X⟩,qti himm⟩
 | vec b p n c hb hv=>
  obtain⟨e0,hh⟩:=qe1 hm;obtain⟨X1,fz⟩:=qid hs b;have hfr:X1.h[b]?=some (.frz e0 sh m):=by rw[fz.h];exact qhG hh
  exact⟨X1,fz,qti (qiJ fz.hs hfr ((Rep.vec b p n c hb hv).ext fz.ext))⟩
 | _=>simp[vX] at hm
theorem qf6 (hs:HSim B X){t e ty:TypeId}{sh:List Sh}{s x:AV}{vs vx:Value}{i:TypeInfo}{z:Value}(ht:P.underlying t=some (.slice e))(hc2:0<P.cellsOf e)(hc1:sh.length=P.cellsOf e) {rm:Int} (he:ElemOk rm P e (P.cellsOf e) i z) (h1:Rep X s vs) (h2:Rep X x vx) {r:Res} (hh:(qmv rm X.h e sh s x).run=some r) :qW P B X (do pure (.value (<-Builtin.append_ #[t,t] ty #[vs,vx]))) r:=by
 unfold qmv at hh;cases hr:vX X.h x with
 | none=>rw[hr] at hh;cases hh
 | some q=>
  obtain⟨sh',m⟩:=q;rw[hr] at hh;simp only at hh;by_cases hbq:Sh.beqL sh sh'=true
  ·rw[if_pos hbq] at hh;obtain rfl:=Sh.beqL_eq _ _ hbq;obtain⟨X1,fz,hsrc⟩:=qIr (P:=P) hs h2 hr;have hlen:X1.h.length=X.h.length:=by rw[fz.h];cases x<;>simp[yU,qdA]
   cases h1 with
   | nils=>
    simp only at hh;obtain⟨g1,g2⟩:=jt hh;cases g2;have:=qhF (ty:=ty) fz.hs ht hc2 hc1 he hsrc (of_decide_eq_true g1);rw[hlen,fz.h] at this;exact this.frozen fz
   | vec b p n c hb hv=>
    simp only at hh;cases hbk:X.h[b]? with
    | none=>rw[hbk] at hh;cases hh
    | some k=>
     rw[hbk] at hh;cases k<;>try (cases hh)
     rename_i e' sh'' l;simp only at hh;by_cases hq:Sh.beqL sh sh''=true/\e=e'
     ·rw[if_pos hq] at hh;obtain rfl:=Sh.beqL_eq _ _ hq.1;obtain rfl:=hq.2;have hrep:Rep X (.vec b) (.slice p n c):=.vec b p n c hb hv;by_cases hxv:∃b',x=AV.vec b'
      ·obtain⟨b',rfl⟩:=hxv;simp only[qCt] at hh;by_cases hbb:b=b'
       ·rw[if_pos hbb] at hh;cases hh
       rw[if_neg hbb] at hh;obtain⟨g1,g2⟩:=jt hh;cases g2;have hb1:X1.h[b]?=some (.vec e sh l):=by
        rw[fz.h];simp only[yU,zU];split
        ·rw[qLt (qLX hbb)];exact hbk
        ·exact hbk
       have:=qhS (ty:=ty) fz.hs ht hc2 hc1 he hb1 (hrep.ext fz.ext) hsrc (of_decide_eq_true g1);rw[fz.h] at this;exact this.frozen fz
      ·have hh':(Tree.br (ile (qm l+qm m) rm) (.leaf ((.vec b,X.h.set b (.vec e sh (kN l m)),some b):Res)) .fail).run=some r:=by cases x<;>first|exact hh|exact absurd ⟨_,rfl⟩ hxv
       obtain⟨g1,g2⟩:=jt hh';cases g2;have hx1:X1.h=X.h:=by rw[fz.h];cases x<;>first|rfl|exact absurd ⟨_,rfl⟩ hxv
       have:=qhS (ty:=ty) fz.hs ht hc2 hc1 he (by rw[hx1];exact hbk) (hrep.ext fz.ext) hsrc (of_decide_eq_true g1);rw[hx1] at this;exact this.frozen fz
     ·rw[if_neg hq] at hh;cases hh
   | full sh'' l p n himm=>
    simp only at hh;by_cases hq:Sh.beqL sh sh''=true
    ·rw[if_pos hq] at hh;obtain rfl:=Sh.beqL_eq _ _ hq;have hrep:=(Rep.full (X:=X) sh l p n himm).ext fz.ext;cases hrep with
     | full _ _ _ _ himm'=>
      cases hlt:ilt 0 (qm m) with
      | true=>
       rw[hlt] at hh;obtain⟨g3,g4⟩:=jt (show (Tree.br _ _ _).run=some r from hh);cases g4;have:=qp7 (ty:=ty) fz.hs ht hc2 hc1 he himm' hsrc (of_decide_eq_true hlt) (of_decide_eq_true g3);rw[hlen,fz.h] at this;exact this.frozen fz
      | false=>
       rw[hlt] at hh;obtain⟨g3,g4⟩:=jt (show (Tree.br _ _ _).run=some r from hh);cases g4;have hm0:m=[]:=by have:¬(0:Int)<qm m:=of_decide_eq_false hlt;unfold qm at this;exact qNd (by omega)
       subst hm0;have hn0:n=0:=by
        have hl0:qm l<=0:=of_decide_eq_true g3;unfold qm at hl0;rcases himm' with⟨q1,_⟩|⟨_,_,q1,_⟩
        ·cases q1;rfl
        ·cases q1;omega
       subst hn0;have:=qpc (ty:=ty) fz.hs ht hc2 hsrc (p:=p);rw[hlen,fz.h] at this;exact this.frozen fz
    ·rw[if_neg hq] at hh;cases hh
   | _=>simp only at hh;cases hh
  ·rw[if_neg hbq] at hh;cases hh
theorem quQ (hE:E.tok P)(hs:HSim B X){t ty:TypeId}{s x:AV}{vs vx:Value}(h1:Rep X s vs)(h2:Rep X x vx)(h:(qvj E X.h t s x).run=some r):qW P B X (do pure (.value (<-Builtin.append_ #[t,t] ty #[vs,vx]))) r:=by
 unfold qvj at h;cases hd:(E.ty t).d<;>rw[hd] at h<;>try (cases h)
 rename_i e es;obtain⟨ht,rfl⟩:=q1r hE hd;simp only at h;cases hsh:E.shape 16 e with
 | none=>rw[hsh] at h;cases h
 | some sh=>
  rw[hsh] at h;simp only at h;by_cases hc:sh.length=P.cellsOf e/\0<P.cellsOf e/\(E.ty e).zero.length=P.cellsOf e
  ·rw[if_pos hc] at h;obtain⟨hc1,hc2,hc4⟩:=hc;obtain⟨i,z,he⟩:=qD2 hE hc2 hc4;cases x with
   | nils=>
    simp only at h;cases h1<;>simp only[okv] at h<;>cases h;cases h2;exact qW.ofV hs (kv ht hc2 (qLs 0)) .nils
   | _=>exact qf6 hs ht hc2 hc1 he h1 h2 h
  ·rw[if_neg hc] at h;cases h
inductive RepLL (X:Ctx):List (List AV)->List (List Value)->Prop
 | nil:RepLL X [] []
 | cons {a:List AV} {v:List Value} {l:List (List AV)} {m:List (List Value)} (h:RepL X a v) (t:RepLL X l m):RepLL X (a::l) (v::m)
theorem RepLL.ren {X X':Ctx}{f:Nat->Option Nat}(hm:Move0 X X' f):∀{l:List (List AV)} {m:List (List Value)},RepLL X l m->RepLL X' (l.map (AV.renL f)) m
 | _,_,.nil=>.nil
 | _,_,.cons h t=>.cons (h.ren hm) (t.ren hm)
theorem RepLL.ext {X X':Ctx}(hm:Ext X X'):∀{l:List (List AV)} {m:List (List Value)},RepLL X l m->RepLL X' l m
 | _,_,.nil=>.nil
 | _,_,.cons h t=>.cons (h.ext hm) (t.ext hm)
theorem RepLL.ext0 {X X':Ctx}(hm:Move0 X X' some):∀{l:List (List AV)} {m:List (List Value)},RepLL X l m->RepLL X' l m
 | _,_,.nil=>.nil
 | _,_,.cons h t=>.cons (h.ext0 hm) (t.ext0 hm)
def qjB(D:Nat):Deferred:={ target:=.collected D,args:=#[] }
def qxM(kept pin:List (Nat×Obj))(ds:List Deferred):Prop:=∃Ds:List Nat,ds=Ds.map qjB/\Ds.Nodup/\∀D,D∈Ds->(D,.deferred (some []))∈kept/\∀p,p∈pin->p.1≠D
theorem qxM.nil {kept pin:List (Nat×Obj)}:qxM kept pin []:=⟨[],rfl,.nil,fun _ h=>by cases h⟩
def AV.span:AV->Nat
 | .eptr sh l _ _=>sh.length*l.length
 | _=>0
def qFS(X:Ctx)(x:Nat×AV):Prop:=Rep X x.2 (.pointer (some ⟨x.1,0,none⟩))/\X.M x.1/\X.w.cell? ⟨x.1,x.2.span,none⟩=none
theorem qFS.move {X X':Ctx}{x:Nat×AV}(h:qFS X x)(hM:∀n,X.M n->X'.M n)(hw:∀a:Addr,X.M a.block->X'.w.cell? a=X.w.cell? a)(hr:Rep X' x.2 (.pointer (some ⟨x.1,0,none⟩))):qFS X' x:=⟨hr,hM _ h.2.1,by rw[hw _ h.2.1];exact h.2.2⟩
def q5G(gl:List (Nat×AV))(X:Ctx):Prop:=∀x,x∈gl->(∃sh l i off,x.2=.eptr sh l i off)/\qFS X x
structure Sim (E:Env) (B:Base) (X:Ctx) (st:St) (a:Act):Prop where
 hs:HSim B X
 h:X.h=st.h
 t:RepL X st.t a.tmps.toList
 fs:RepLL X st.fs B.fs
 glob:∀x,x∈E.glob->(∃sh l i off,x.2=.eptr sh l i off)/\qFS X x
 df:qxM X.kept (B.pin st.pend) a.defers
 ni:B.imps.length<=E.nimp
 y:X.y=B.y
 pin:∀p,p∈B.pin st.pend->p∈X.kept
theorem q9g (hs:Sim E B X st a)(x:Operand):Rep X (E.opd st.t x) (a.eval x):=by
 cases x with
 | tmp i=>
  have:=hs.t.getD i;simpa[Env.opd,Act.eval,qMR,qLr] using this
 | const v=>exact qHp X v
 | global g=>
  simp only[Env.opd,Act.eval];cases hg:E.glob.find? fun x=>x.1==g with
  | none=>exact .undef _
  | some x=>
   have h1:=qMM hg;have h2:x.1=g:=by simpa using h1
   have:=(hs.glob x (qMm hg)).2.1;rw[h2] at this;exact this
 | func f=>exact .fn f [] [] [] [] .nil .nil
theorem q4J{E:Env}{B:Base}{X:Ctx}{st:St}{a:Act}(hs:Sim E B X st a):∀l:List Operand,RepL X (l.map (E.opd st.t)) (l.map a.eval)
 | []=>.nil
 | x::l=>.cons (q9g hs x) (q4J hs l)
theorem qrm{E:Env}{B:Base}{X:Ctx}{st:St}{a:Act}(hs:Sim E B X st a):∀l:List (Nat×Operand),RepP X (l.map fun p=>(p.1,E.opd st.t p.2)) (l.map fun p=>(p.1,a.eval p.2))
 | []=>.nil
 | (_,x)::l=>.cons (q9g hs x) (qrm hs l)
theorem qv9 (hs:Sim E B X st a)(x:Option Operand):RepO X (x.map (E.opd st.t)) (x.map a.eval):=by
 cases x with
 | none=>exact .none
 | some x=>exact .some (q9g hs x)
theorem qsL (hs:HSim B X){f:Int->Int->Int}{g:Value->Value->Sem Value}(hg:∀k k' x y w,(g (.int k x) (.int k' y)).run P w=.ok (.int k (f x y)) w){azz:List AV} {vs:List Value} (hv:RepL X azz vs) {r:Res} (h:(qva f X.h azz).run=some r) {m:Sem Value} (hm:∀x rest,vs=x::rest->m=rest.foldlM g x):qW P B X (do pure (.value (<-m))) r:=by
 cases hv with
 | nil=>cases h
 | cons hx ht=>
  rename_i a v azz vs;simp only[qva] at h;cases h1:asI a with
  | none=>rw[h1] at h;cases h
  | some p=>
   obtain⟨k,n⟩:=p;rw[h1] at h;simp only at h;cases h2:qxH f k n azz with
   | none=>rw[h2] at h;cases h
   | some q=>
    rw[h2] at h;simp only at h;obtain rfl:=q48 hx h1;have hr:=qqK (P:=P) hg k azz n q vs h2 ht;rw[hm _ _ rfl];split at h<;>cases h
    ·exact qW.ofV hs hr (.ilit _ _)
    ·exact qW.ofV hs hr (.int _ _)
theorem qsm (hE:E.tok P)(hs:HSim B X){b:Builtin}{ts:Array TypeId}{azz:List AV}{vs:List Value}(hv:RepL X azz vs)(h:(q8B E X.h b ts.toList azz).run=some r) (ty:TypeId) (cs:Array Bool):qW P B X (builtin b ts ty cs vs.toArray) r:=by
 obtain⟨ts⟩:=ts;cases b with
 | append=>
  simp only[q8B] at h;unfold qx2 at h;split at h
  ·rename_i t t' s x;by_cases htt:t=t'
   ·subst htt;rw[if_pos rfl] at h;cases hv with
    | cons h1 hv=>cases hv with
     | cons h2 hv=>cases hv;exact quQ hE hs h1 h2 h
   ·rw[if_neg htt] at h;cases h
  ·cases h
 | len=>
  simp only[q8B] at h;unfold qqf at h;split at h
  ·rename_i t rest x;cases hv with
   | cons h1 hv=>
    cases hv;obtain⟨av,u,rfl,g1,g2⟩:=qyG (P:=P) (t:=t) (ty:=ty) (ts:=(t::rest:List TypeId).toArray) hE hs (by simp) h1 h;exact qW.ofV hs g1 g2
  ·cases h
 | max=>
  simp only[q8B] at h;exact qsL hs (f:=qvr) (g:=Builtin.max2) (fun _ _ _ _ _=>qGn) hv h (m:=Builtin.max_ ts.toArray ty vs.toArray) (fun x rest e=>by subst e;rfl)
 | min=>
  simp only[q8B] at h;exact qsL hs (f:=qkU) (g:=Builtin.min2) (fun _ _ _ _ _=>qFv) hv h (m:=Builtin.min_ ts.toArray ty vs.toArray) (fun x rest e=>by subst e;rfl)
 | copy=>
  simp only[q8B] at h;exact qwo hE hs hv h ty
 | _=>simp only[q8B] at h;cases h
theorem qm2 (hE:E.tok P)(hs:Sim E B X st a){o:Oper}(h:(qpl E st.h (E.opd st.t) o.op).run=some r):qW P B X (execOp a.eval o) r:=by
 have ro:=q9g hs;rw[<-hs.h] at h;unfold qpl at h;unfold execOp;cases hop:o.op with
 | move x=>rw[hop] at h;cases h;exact qW.val hs.hs rfl (ro x)
 | assign x=>rw[hop] at h;cases h;exact qW.val hs.hs rfl (ro x)
 | pick c x y=>
  rw[hop] at h;simp only at h ⊢;have hc:=ro c;generalize E.opd st.t c=ac at *;generalize a.eval c=vc at *;cases hc<;>simp only at h<;>try (cases h)
  ·rename_i b;refine qW.val hs.hs (v:=if b then a.eval x else a.eval y) rfl ?_;cases b<;>exact ro _
  ·rename_i b;cases b
   ·cases h;exact qW.val hs.hs (v:=a.eval y) rfl (ro y)
   ·cases h;exact qW.val hs.hs (v:=a.eval x) rfl (ro x)
 | box t x=>
  rw[hop] at h;simp only at h ⊢;obtain⟨z,hz,rfl⟩:=qtk h;exact qDF hs.hs (ro x) hz
 | alloc t=>
  rw[hop] at h;simp only at h ⊢;obtain⟨z,hz,rfl⟩:=qtk h;exact qyL hE hs.hs hz
 | load t x=>
  rw[hop] at h;obtain⟨av,u,rfl,g1,g2⟩:=qv4 hE hs.hs (ro x) h;exact qW.ofV hs.hs g1 g2
 | store t x y=>rw[hop] at h;exact quN hE hs.hs (ro x) (ro y) h
 | build t parts=>
  rw[hop] at h;obtain⟨av,u,rfl,g1,g2⟩:=qrZ (vparts:=parts.map fun p=>(p.1,a.eval p.2)) hE (by simpa using qrm hs parts.toList) h;exact qW.ofV hs.hs g1 g2
 | buildSlice t len parts=>
  rw[hop] at h;have h:(q8O E X.h t len (parts.toList.map fun p=>(p.1,E.opd st.t p.2))).run=some r:=h;have hp:RepP X (parts.toList.map fun p=>(p.1,E.opd st.t p.2)) (parts.map fun p=>(p.1,a.eval p.2)).toList:=by rw[Array.toList_map];exact qrm hs parts.toList
  have hg:=qmS hE hs.hs hp h;exact hg
 | nilCheck x=>
  rw[hop] at h;simp only at h ⊢;have hx:=ro x;generalize E.opd st.t x=ax at *;generalize a.eval x=vx at *;cases hx<;>simp only at h<;>try (cases h)
  ·rename_i b off n hb hσ;split at h
   ·cases h;exact qW.val hs.hs rfl (.ptr b off n hb hσ)
   ·cases h;exact qW.val hs.hs rfl (.ptr b off n hb hσ)
   ·cases h
  ·rename_i sh l i off ad h1 h2 h3 h4;exact qW.val hs.hs rfl (.eptr sh l i off ad h1 h2 h3 h4)
  ·rename_i sh l i off ad h1 h2 h3 h4;exact qW.val hs.hs rfl (.eptr sh l i off ad h1 h2 h3 h4)
 | binOp op t x y ty=>
  rw[hop] at h;simp only at h ⊢;have hx:=ro x;have hy:=ro y;generalize E.opd st.t x=ax at *;generalize E.opd st.t y=ay at *;unfold qk6 at h;split at h
  ·obtain⟨av,u,rfl,g1,g2⟩:=qu6 (x:=x) (y:=y) hE hx hy h;exact qW.ofV hs.hs g1 g2
  ·obtain⟨av,u,rfl,g1,g2⟩:=qxR (x:=x) (y:=y) hE hs.hs hx hy h;exact qW.ofV hs.hs g1 g2
 | unOp op t x=>
  rw[hop] at h;obtain⟨av,u,rfl,g1,g2⟩:=qB8 (P:=P) (ro x) h;exact qW.ofV hs.hs g1 g2
 | convert s d x=>
  rw[hop] at h;obtain⟨av,u,rfl,g1,g2⟩:=qv0 hE hs.hs (ro x) h;exact qW.ofV hs.hs g1 g2
 | makeSlice t n m=>rw[hop] at h;exact qyQ hE hs.hs (ro n) (ro m) h
 | makeFunc fn first caps=>
  rw[hop] at h;simp only at h ⊢;cases fn<;>simp only at h<;>try (cases h)
  rename_i f;have:Rep X (.fn f (first.toList.map (E.opd st.t)) (caps.toList.map (E.opd st.t))) (.func (.func f) (first.toList.map a.eval).toArray (caps.toList.map a.eval).toArray):=
   .fn f _ _ _ _ (q4J hs _) (q4J hs _)
  refine qW.val hs.hs (v:=.func (.func f) (first.map a.eval) (caps.map a.eval)) rfl ?_;have e1:(first.toList.map a.eval).toArray=first.map a.eval:=by apply qMN;simp
  have e2:(caps.toList.map a.eval).toArray=caps.map a.eval:=by apply qMN;simp
  rwa [e1,e2] at this
 | slice t x lo hi mx=>
  rw[hop] at h;exact qvn hE hs.hs (ro x) (qv9 hs lo) (qv9 hs hi) (qv9 hs mx) h
 | fieldAddr s x f=>
  rw[hop] at h;obtain⟨av,u,rfl,g1,g2⟩:=qnG hE (ro x) h;exact qW.ofV hs.hs g1 g2
 | field s x f=>
  rw[hop] at h;obtain⟨av,u,rfl,g1,g2⟩:=qu4 hE (ro x) h;exact qW.ofV hs.hs g1 g2
 | indexAddr t x i=>
  rw[hop] at h;obtain⟨av,u,rfl,g1,g2⟩:=qms hE hs.hs (ro x) (ro i) h;exact qW.ofV hs.hs g1 g2
 | index t x i=>
  rw[hop] at h;obtain⟨av,u,rfl,g1,g2⟩:=qur hE (ro x) (ro i) h;exact qW.ofV hs.hs g1 g2
 | extract x i=>
  rw[hop] at h;simp only at h ⊢;have hx:=ro x;generalize E.opd st.t x=ax at *;generalize a.eval x=vx at *;cases hx<;>simp only at h<;>try (cases h)
  rename_i vs us hv;cases hi:vs[i]? with
  | none=>rw[hi] at h;cases h
  | some v=>
   rw[hi] at h;cases h;obtain⟨u,g1,g2⟩:=hv.get i v hi;refine qW.ofV hs.hs (v:=u) ?_ g2;simp[Instr.extract,g1]
 | call c=>
  rw[hop] at h;obtain⟨callee,args,argTypes⟩:=c;cases callee with
  | value x=>simp only at h;cases h
  | invoke x n=>simp only at h;cases h
  | builtin b=>
   simp only at h ⊢;have hargs:=q4J hs args.toList;have hrun:∀ty,(do let d <-resolve a.eval { callee:=.builtin b,args,argTypes } ty;invoke d.target d.args:Sem Next) =
     builtin b argTypes ty (args.map fun|.const _=>true|_=>false) (args.map a.eval):=by
    intro ty;rfl
   rw[hrun];have hA:args.map a.eval=(args.toList.map a.eval).toArray:=by apply qMN;simp
   rw[hA];generalize args.toList.map (E.opd st.t)=als at *;generalize args.toList.map a.eval=avs at *;exact qsm hE hs.hs hargs h _ _
 | _=>rw[hop] at h;simp only at h;cases h
end Go.Eng

namespace Go.Eng
variable {P:Program}{n:Nat}{w:World}
def q5e(ro:Option Nat):Fence:={ Fence.wide with round:=ro }
theorem qfF (ro:Option Nat):(q5e ro).depth.isSome=true->1<=n:=fun h=>by simp[q5e,Fence.wide] at h
theorem qEc {ro:Option Nat}{f:FuncId}{args:Array Value}{R:Ending->World->Prop}:CallsIn (q5e ro) n P f args w R↔Calls P f args w R:=(callsIn_wide (n:=n))
theorem qKN {ro:Option Nat}{row:String}{args:Array Value}{R:Value->World->Prop}(h:Go.Rows P row args w R):RowsIn (q5e ro) n P row args w R:=by intro c cs _;obtain⟨v,w',h1,h2⟩:=h c cs;exact⟨v,w',h1,stepsIn_wide.2 h2⟩
theorem qrv (ro:Option Nat)(n:Nat){o:Oper}{a:Act}{next:Act->World->Prop}{Q:Exit->Act->World->Prop}(h:o.wp P a w next Q)(hd:∀c,o.op≠.defer c) :o.wpIn (q5e ro) n P a w next Q:=by
 refine⟨fun _ _=>trivial,?_⟩;rw[show (q5e ro).round=ro from rfl,Oper.semAt_eq _ _ _ hd];unfold Oper.wp at h;generalize (execOp a.eval o).run P w=r at h;cases r with
 | ok x w'=>
  cases x with
  | value v=>exact h
  | skip=>exact h
  | defer d=>exact h
  | enter f args=>exact⟨qfF ro,qEc.2 h⟩
  | row row args=>exact⟨qfF ro,qKN h⟩
  | round l f tmps assign body=>exact h.elim
  | _=>exact h
 | halt x w'=>cases x<;>exact h
end Go.Eng

namespace Go.Eng
variable {B:Base}{E:Env}{X:Ctx}{a:Act}{o:Oper}{st:St}{v:Value}
structure CallOK (E:Env) (P:Program) (callH:q97) (B:Base):Prop where
 fn:∀(f:FuncId) (args:List AV) (st:St) (r:AV×St) (X:Ctx) (a:Act) (vargs:List Value),Sim E B X st a->RepL X args vargs->(callH (some f) args st).run=some r ->
  (∀w,(callFunc f vargs.toArray).run P w=.ok (.enter f vargs.toArray) w) /\
  Calls P f vargs.toArray X.w fun e w'=>∃v X',e=.returned v/\X'.w=w'/\Rep X' r.1 v/\Sim E B X' r.2 a
 yld:∀(args:List AV) (st:St) (r:AV×St) (X:Ctx) (a:Act) (vargs:List Value),Sim E B X st a->RepL X args vargs->(callH none args st).run=some r ->
  ∃(l:Nat) (f:FuncId) (tmps:Array Value) (assign body:Code),(Instr.yield X.y vargs.toArray).run P X.w=.ok (.round l f tmps assign body) X.w /\
  ∀n,RoundIn (q5e B.ro) n P l f tmps assign body X.w fun e w'=>∃v X',e=.returned v/\X'.w=w'/\Rep X' r.1 v/\Sim E B X' r.2 a
theorem qzT {t:List AV}(h:RepL X t a.tmps.toList){av:AV}(hv:Rep X av v)(dst:Option Tmp):RepL X (qjp t dst av) (a.put dst v).tmps.toList:=by
 cases dst with
 | none=>exact h
 | some d=>
  simp only[qjp,Act.put,Array.toList_setIfInBounds];exact RepL.set hv h d
theorem qts (a:Act)(dst:Option Tmp)(v:Value):(a.put dst v).defers=a.defers:=by cases dst<;>rfl
theorem Sim.put (hs:Sim E B X st a){av:AV}(hv:Rep X av v)(dst:Option Tmp) :Sim E B X { st with t:=qjp st.t dst av } (a.put dst v):=⟨hs.hs,hs.h,qzT hs.t hv dst,hs.fs,hs.glob,by rw[qts];exact hs.df,hs.ni,hs.y,hs.pin⟩
theorem Sim.ext {X X':Ctx}(hs:Sim E B X st a)(hx:Ext X X')(hs':HSim B X'):Sim E B X' { st with h:=X'.h } a:=⟨hs',rfl,hs.t.ext hx,hs.fs.ext hx,fun x hx'=>⟨(hs.glob x hx').1,(hs.glob x hx').2.move hx.M hx.w ((hs.glob x hx').2.1.ext hx)⟩,hx.kept▸hs.df,hs.ni,hx.y.trans hs.y,fun p hp=>hx.kept▸hs.pin p hp⟩
theorem Sim.apply {X X':Ctx}(hs:Sim E B X st a){r:Res}(hv:Rep X' r.1 v)(hs':HSim B X')(hm:match r.2.2 with|none=>X'.h=r.2.1/\Ext X X'|some b=>X'.h=r.2.1.map (Blk.ren (qdm b))/\Move X X' (qdm b)) (dst:Option Tmp) :Sim E B X' (st.apply dst r) (a.put dst v):=by
 unfold St.apply;cases hn:r.2.2 with
 | none=>
  rw[hn] at hm;obtain⟨h1,h2⟩:=hm;have:=(hs.ext h2 hs').put hv dst;rw[h1] at this;exact this
 | some b=>
  rw[hn] at hm;obtain⟨h1,h2⟩:=hm;refine⟨hs',h1,qzT (hs.t.ren h2.toMove0) hv dst,hs.fs.ren h2.toMove0,fun x hx=>?_,by rw[qts];exact h2.kept▸hs.df,hs.ni,h2.y.trans hs.y,fun p hp=>h2.kept▸hs.pin p hp⟩;obtain⟨⟨sh,l,i,off,he⟩,hr⟩:=hs.glob x hx;refine⟨⟨sh,l,i,off,he⟩,hr.move h2.M h2.w ?_⟩;have:=hr.1.ren h2.toMove0;rw[he] at this ⊢;exact this
theorem qsk {callH:q97}{st s:St}(h:(qpK E callH o st).run=some s):∀c,o.op≠.defer c:=by intro c hc;unfold qpK at h;rw[hc] at h;simp[qpl,Tree.bind,Tree.run] at h
theorem qol {P:Program}(hE:E.tok P){callH:q97}(hc:CallOK E P callH B){st st':St}(hs:Sim E B X st a)(h:(qpK E callH o st).run=some st') {next:Act->World->Prop} {Q:Exit->Act->World->Prop} (hq:∀X' a',Sim E B X' st' a'->next a' X'.w) {n:Nat}:o.wpIn (q5e B.ro) n P a X.w next Q:=by
 have hnd:=qsk h;have plain:∀(_:((qpl E st.h (E.opd st.t) o.op).bind fun r=>.leaf (st.apply o.dst r)).run=some st'),o.wp P a X.w next Q:=by
  intro hh;obtain⟨r,h1,h2⟩:=bind_some hh;cases h2;obtain⟨nx,v,X',g1,g2,g3,g4,g5⟩:=qm2 hE hs h1;unfold Oper.wp;rw[g1];rcases g2 with rfl|⟨rfl,rfl⟩
  ·exact hq X' _ (hs.apply g3 g4 g5 o.dst)
  ·exact hq X' _ (hs.apply g3 g4 g5 o.dst)
 unfold qpK at h;split at h
 ·rename_i x args tys hop;cases hx:E.opd st.t x with
  | fn f first caps=>
   rw[hx] at h;obtain⟨r,h1,h2⟩:=bind_some h;cases h2;have hv:=q9g hs x;rw[hx] at hv;generalize hev:a.eval x=vx at hv;cases hv with
   | fn _ _ _ vf vc q1 q2=>
    have hargs:=q4J hs args.toList;have hall:RepL X (first++args.toList.map (E.opd st.t)++caps) (vf++args.toList.map a.eval++vc):=(q1.append hargs).append q2;obtain⟨g1,g2⟩:=hc.fn f _ st r X a _ hs hall h1;refine qrv B.ro n ?_ hnd;unfold Oper.wp;have hrun:(execOp a.eval o).run P X.w=.ok (.enter f (vf++args.toList.map a.eval++vc).toArray) X.w:=by
     simp only[execOp,hop,resolve,hev,Deferred.ofValue,qLv,qM1,qLA,invoke];have:vf.toArray++args.map a.eval++vc.toArray=(vf++args.toList.map a.eval++vc).toArray:=by apply qMN;simp
     rw[this];exact g1 X.w
    rw[hrun];refine g2.mono fun e w' ⟨v,X',e1,e2,e3,e4⟩=>?_;subst e1 e2;exact hq X' _ (e4.put e3 o.dst)
  | yld=>
   rw[hx] at h;obtain⟨r,h1,h2⟩:=bind_some h;cases h2;have hv:=q9g hs x;rw[hx] at hv;generalize hev:a.eval x=vx at hv;cases hv;obtain⟨l,f,tmps,assign,body,g1,g2⟩:=hc.yld _ st r X a _ hs (q4J hs args.toList) h1;refine⟨fun _ _=>trivial,?_⟩;rw[Oper.semAt_eq _ _ _ hnd];have hrun:(execOp a.eval o).run P X.w=.ok (.round l f tmps assign body) X.w:=by
    simp only[execOp,hop,resolve,hev,Deferred.ofValue,qLv,qM1,qLA,invoke];have:#[]++args.map a.eval=(args.toList.map a.eval).toArray:=by apply qMN;simp
    rw[this];exact g1
   rw[hrun];refine⟨qfF B.ro,(g2 (n-1)).mono fun e w' ⟨v,X',e1,e2,e3,e4⟩=>?_⟩;subst e1 e2;exact hq X' _ (e4.put e3 o.dst)
  | _=>rw[hx] at h;cases h
 ·exact qrv B.ro n (plain h) hnd
theorem Sim.lit (hs:Sim E B X st a){d:Nat}{b:Bool}(hd:st.t[d]?=some (.bool b)):Sim E B X { st with t:=st.t.set d (.blit b) } a:=by
 refine⟨hs.hs,hs.h,?_,hs.fs,hs.glob,hs.df,hs.ni,hs.y,hs.pin⟩;obtain⟨v,h1,h2⟩:=hs.t.get d _ hd;have hv:v=.bool b:=by cases h2;rfl
 subst hv;have:=RepL.set (X:=X) (a:=.blit b) (v:=.bool b) (.blit b) hs.t d;have e:a.tmps.toList.set d (.bool b)=a.tmps.toList:=by
  apply qMo;intro i;by_cases hi:i=d
  ·subst hi;rw[qLL (qv h1),h1]
  ·rw[qLt (qLX hi)]
 rwa [e] at this
theorem qpz {st st':St}(hs:Sim E B X st a){all:Array Oper}{k:Nat}(h:(qrV all k o st).run=some st'):Sim E B X st' a:=by
 unfold qrV at h;split at h
 ·split at h
  ·rename_i d _;split at h
   ·rename_i b hd;cases b
    ·cases h;exact hs.lit hd
    ·cases h;exact hs.lit hd
   ·cases h;exact hs
  ·cases h;exact hs
 ·cases h;exact hs
theorem qa7 {t:List AV}(ht:RepL X t a.tmps.toList){all:Array Oper}{b:Bool}(h:q6Z all o t=some b):Region.wanted o (yielded all a.tmps)=b:=by
 unfold q6Z at h;unfold Region.wanted;cases hg:o.guard with
 | none=>rw[hg] at h;cases h;rfl
 | some p=>
  obtain⟨j,want⟩:=p;rw[hg] at h;simp only at h ⊢;cases hj:(all[j]?).bind (·.dst) with
  | none=>rw[hj] at h;cases h
  | some d=>
   rw[hj] at h;simp only at h;unfold yielded;rw[hj,qLW];split at h
   ·rename_i c hd;cases h;obtain⟨v,h1,h2⟩:=ht.get d _ hd;have h1':a.tmps[d]?=some v:=by simpa using h1
    cases h2;rw[h1'];cases c<;>cases want<;>rfl
   ·rename_i hd;cases h;obtain⟨v,h1,h2⟩:=ht.get d _ hd;have h1':a.tmps[d]?=some v:=by simpa using h1
    cases h2;rw[h1'];rfl
   ·cases h
theorem qkc{E:Env}{P:Program}(hE:E.tok P){callH:q97}{B:Base}(hc:CallOK E P callH B){all:Array Oper}{st':St}{Q:Exit->Act->World->Prop}{n:Nat}
  (hq:∀X' a',Sim E B X' st' a'->Q .normal a' X'.w):∀(l:List Oper) (k:Nat) {X:Ctx} {st:St} {a:Act},Sim E B X st a->(qkR E callH all k l st).run=some st'->wpListIn (q5e B.ro) n P all Q l a X.w
 | [],k,X,st,a,hs,h=>by
  simp only[qkR,Tree.run,qLq] at h;subst h;exact hq X a hs
 | o::rest,k,X,st,a,hs,h=>by
  simp only[qkR] at h;simp only[wpListIn];cases hw:q6Z all o st.t with
  | none=>rw[hw] at h;cases h
  | some b=>
   rw[hw] at h;rw[qa7 hs.t hw];cases b with
   | true=>
    simp only[if_true];obtain⟨s1,h1,h2⟩:=bind_some h;obtain⟨s2,h3,h4⟩:=bind_some h2;refine qol hE hc hs h1 fun X' a' hs'=>?_;exact qkc hE hc hq rest (k+1) (qpz hs' h3) h4
   | false=>
    simp only[qLQ,if_false];exact⟨fun _ _=>trivial,qkc hE hc hq rest (k+1) (hs.put (av:=.skip) .skip o.dst) h⟩
theorem qsl {P:Program}(hE:E.tok P){callH:q97}(hc:CallOK E P callH B){id:Nat}{ops:Array Oper}{st st':St}(hs:Sim E B X st a)(h:(qkR E callH ops 0 ops.toList st).run=some st') {Q:Exit->Act->World->Prop} {n:Nat} (hq:∀X' a',Sim E B X' st' a'->Q .normal a' X'.w):(Code.region id ops false).wpIn (q5e B.ro) n P Q a X.w:=wpIn_region_list (qkc hE hc hq ops.toList 0 hs h)
end Go.Eng

