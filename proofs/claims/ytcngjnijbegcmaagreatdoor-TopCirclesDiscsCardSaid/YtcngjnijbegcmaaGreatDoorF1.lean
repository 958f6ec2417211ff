/- Texts of the proof, merged: what the code computes, and plain laws. No statement stands here. -/
import Derived.Calls
import Derived.Orders
import Derived.Laws.AppendOwn
import Derived.Laws.Entries
import Derived.Laws.Cells
import Derived.Laws.Slices
import Derived.Laws.Build
import Derived.Laws.StructEq
import Derived.Laws.Rows
import Derived.Laws.CopyRow
import Derived.ChangeKeysEq
import Derived.Laws.MakeOwn
import Derived.Laws.BytesString
import Derived.Laws.IdiomStrings
import Derived.OrdersIn
import Derived.TacticsIn
import Derived.Tactics
import Derived.RangeFuncIn
import Derived.RangeFuncLeaves
namespace Go.Eng
theorem qJc:type_of%@Option.some.injEq:=@Option.some.injEq
theorem qJd:type_of%@List.getD_eq_getElem?_getD:=@List.getD_eq_getElem?_getD
theorem qJe:type_of%@Nat.le_refl:=@Nat.le_refl
theorem qJf:type_of%@List.getElem?_set_ne:=@List.getElem?_set_ne
theorem qJg:type_of%@Nat.le_trans:=@Nat.le_trans
theorem qJh:type_of%@Sem.run_bind:=@Sem.run_bind
theorem qJi:type_of%@List.mem_cons:=@List.mem_cons
theorem qJj:type_of%@Array.getElem?_eq_some_iff:=@Array.getElem?_eq_some_iff
theorem qJk:type_of%@List.getElem?_eq_getElem:=@List.getElem?_eq_getElem
theorem qJl:type_of%@Nat.lt_or_ge:=@Nat.lt_or_ge
theorem qJm:type_of%@List.length_map:=@List.length_map
theorem qJn:type_of%@Result.andThen_ok:=@Result.andThen_ok
theorem qJo:type_of%@List.getElem?_map:=@List.getElem?_map
theorem qJp:type_of%@List.getElem?_append_left:=@List.getElem?_append_left
theorem qJq:type_of%@Int.toNat_natCast:=@Int.toNat_natCast
theorem qJr:type_of%@Rat.mul_nonneg:=@Rat.mul_nonneg
theorem qJs:type_of%@List.mem_cons_self:=@List.mem_cons_self
theorem qJt:type_of%@Nat.add_mul:=@Nat.add_mul
theorem qJu:type_of%@List.set_cons_zero:=@List.set_cons_zero
theorem qJv:type_of%@List.getElem?_set_self:=@List.getElem?_set_self
theorem qJw:type_of%@List.set_cons_succ:=@List.set_cons_succ
theorem qJx:type_of%@Bool.and_eq_true:=@Bool.and_eq_true
theorem qJy:type_of%@List.mem_cons_of_mem:=@List.mem_cons_of_mem
theorem qJz:type_of%@List.getElem?_append_right:=@List.getElem?_append_right
theorem qJA:type_of%@Bool.false_eq_true:=@Bool.false_eq_true
theorem qJB:type_of%@List.length_append:=@List.length_append
theorem qJC:type_of%@List.getElem?_eq_none:=@List.getElem?_eq_none
theorem qJD:type_of%@Nat.mul_le_mul_right:=@Nat.mul_le_mul_right
theorem qJE:type_of%@Int.le_refl:=@Int.le_refl
theorem qJF:type_of%@Rat.mul_pos:=@Rat.mul_pos
theorem qJG:type_of%@List.mem_append:=@List.mem_append
theorem qJH:type_of%@Option.bind_some:=@Option.bind_some
theorem qJI:type_of%@Ne.symm:=@Ne.symm
theorem qJJ:type_of%@List.mem_singleton:=@List.mem_singleton
theorem qJK:type_of%@List.map_append:=@List.map_append
theorem qJL:type_of%@List.all_eq_true:=@List.all_eq_true
theorem qJM:type_of%@List.length_cons:=@List.length_cons
theorem qJN:type_of%@Sem.run_pure:=@Sem.run_pure
theorem qJO:type_of%@Prod.mk.injEq:=@Prod.mk.injEq
theorem qJP:type_of%@Int.one_mul:=@Int.one_mul
theorem qJQ:type_of%@List.append_assoc:=@List.append_assoc
theorem qJR:type_of%@Option.map_some:=@Option.map_some
theorem qJS:type_of%@Rat.intCast_mul:=@Rat.intCast_mul
theorem qJT:type_of%@List.getElem_mem:=@List.getElem_mem
theorem qJU:type_of%@Nat.add_zero:=@Nat.add_zero
theorem qJV:type_of%@List.length_range:=@List.length_range
theorem qJW:type_of%@Nat.lt_of_lt_of_le:=@Nat.lt_of_lt_of_le
theorem qJX:type_of%@Option.some.inj:=@Option.some.inj
theorem qJY:type_of%@List.mem_append_right:=@List.mem_append_right
theorem qJZ:type_of%@Classical.byContradiction:=@Classical.byContradiction
theorem qK0:type_of%@Addr.add_lit:=@Addr.add_lit
theorem qK1:type_of%@List.mem_map:=@List.mem_map
theorem qK2:type_of%@Int.natCast_mul:=@Int.natCast_mul
theorem qK3:type_of%@Nat.sub_self:=@Nat.sub_self
theorem qK4:type_of%@Nat.mul_le_mul:=@Nat.mul_le_mul
theorem qK5:type_of%@Nat.zero_add:=@Nat.zero_add
theorem qK6:type_of%@Rat.intCast_sub:=@Rat.intCast_sub
theorem qK7:type_of%@List.mem_of_find?_eq_some:=@List.mem_of_find?_eq_some
theorem qK8:type_of%@List.length_take:=@List.length_take
theorem qK9:type_of%@List.ext_getElem?:=@List.ext_getElem?
theorem qKa:type_of%@List.getElem?_range:=@List.getElem?_range
theorem qKb:type_of%@List.mem_append_left:=@List.mem_append_left
theorem qKc:type_of%@List.cons_append:=@List.cons_append
theorem qKd:type_of%@Nat.eq_of_beq_eq_true:=@Nat.eq_of_beq_eq_true
theorem qKe:type_of%@List.getElem?_cons_succ:=@List.getElem?_cons_succ
theorem qKf:type_of%@World.cell?_of_block:=@World.cell?_of_block
theorem qKg:type_of%@List.getElem?_take:=@List.getElem?_take
theorem qKh:type_of%@List.getElem?_drop:=@List.getElem?_drop
theorem qKi:type_of%@List.map_cons:=@List.map_cons
theorem qKj:type_of%@Nat.eq_zero_or_pos:=@Nat.eq_zero_or_pos
theorem qKk:type_of%@Int.mul_comm:=@Int.mul_comm
theorem qKl:type_of%@List.append_nil:=@List.append_nil
theorem qKm:type_of%@List.nil_append:=@List.nil_append
theorem qKn:type_of%@World.block_lt_of_cell?:=@World.block_lt_of_cell?
theorem qKo:type_of%@Int.natAbs_mul:=@Int.natAbs_mul
theorem qKp:type_of%@Int.mul_zero:=@Int.mul_zero
theorem qKq:type_of%@Option.getD_some:=@Option.getD_some
theorem qKr:type_of%@List.length_nil:=@List.length_nil
theorem qKs:type_of%@Nat.min_eq_left:=@Nat.min_eq_left
theorem qKt:type_of%@List.mem_of_getElem?:=@List.mem_of_getElem?
theorem qKu:type_of%@List.mem_range:=@List.mem_range
theorem qKv:type_of%@Rat.le_refl:=@Rat.le_refl
theorem qKw:type_of%@List.take_length:=@List.take_length
theorem qKx:type_of%@List.not_mem_nil:=@List.not_mem_nil
theorem qKy:type_of%@List.find?_some:=@List.find?_some
theorem qKz:type_of%@Array.ext':=@Array.ext'
theorem qKA:type_of%@List.getElem?_cons_zero:=@List.getElem?_cons_zero
theorem qKB:type_of%@Rat.mul_eq_zero:=@Rat.mul_eq_zero
theorem qKC:type_of%@Nat.mod_lt:=@Nat.mod_lt
theorem qKD:type_of%@Array.getD_eq_getD_getElem?:=@Array.getD_eq_getD_getElem?
theorem qKE:type_of%@List.length_set:=@List.length_set
theorem qKF:type_of%@Rat.intCast_add:=@Rat.intCast_add
theorem qKG:type_of%@List.replicate_succ:=@List.replicate_succ
theorem qKH:type_of%@List.length_pos_iff:=@List.length_pos_iff
theorem qKI:type_of%@List.map_congr_left:=@List.map_congr_left
theorem qKJ:type_of%@Bool.or_eq_true:=@Bool.or_eq_true
theorem qKK:type_of%@List.cons.injEq:=@List.cons.injEq
theorem qKL:type_of%@Nat.zero_le:=@Nat.zero_le
theorem qKM:type_of%@Option.bind_eq_some_iff:=@Option.bind_eq_some_iff
theorem qKN:type_of%@Nat.pow_succ:=@Nat.pow_succ
theorem qKO:type_of%@Nat.pow_le_pow_right:=@Nat.pow_le_pow_right
theorem qKP:type_of%@Nat.gcd_comm:=@Nat.gcd_comm
theorem qKQ:type_of%@Int.lt_trichotomy:=@Int.lt_trichotomy
theorem qKR:type_of%@Nat.eq_or_lt_of_le:=@Nat.eq_or_lt_of_le
theorem qKS:type_of%@List.range_succ:=@List.range_succ
theorem qKT:type_of%@Nat.add_assoc:=@Nat.add_assoc
theorem qKU:type_of%@Bool.not_eq_true':=@Bool.not_eq_true'
theorem qKV:type_of%@Nat.one_mul:=@Nat.one_mul
theorem qKW:type_of%@List.getElem?_eq_some_iff:=@List.getElem?_eq_some_iff
theorem qKX:type_of%@Nat.mul_one:=@Nat.mul_one
theorem qKY:type_of%@List.eq_nil_of_length_eq_zero:=@List.eq_nil_of_length_eq_zero
theorem qKZ:type_of%@List.drop_eq_nil_of_le:=@List.drop_eq_nil_of_le
theorem qL0:type_of%@Array.getElem?_eq_getElem:=@Array.getElem?_eq_getElem
theorem qL1:type_of%@Option.map_eq_some_iff:=@Option.map_eq_some_iff
theorem qL2:type_of%@Nat.div_le_self:=@Nat.div_le_self
theorem qL3:type_of%@Int.mul_ediv_cancel:=@Int.mul_ediv_cancel
theorem qL4:type_of%@Nat.lt_succ_self:=@Nat.lt_succ_self
theorem qL5:type_of%@List.foldl_cons:=@List.foldl_cons
theorem qL6:type_of%@Int.toNat_of_nonneg:=@Int.toNat_of_nonneg
theorem qL7:type_of%@Nat.lt_of_le_of_lt:=@Nat.lt_of_le_of_lt
theorem qL8:type_of%@Classical.not_imp:=@Classical.not_imp
theorem qL9:type_of%@Int.natCast_add:=@Int.natCast_add
theorem qLa:type_of%@Int.mul_nonneg:=@Int.mul_nonneg
theorem qLb:type_of%@Int.natAbs_ediv_le_natAbs:=@Int.natAbs_ediv_le_natAbs
theorem qLc:type_of%@Int.mul_le_mul_of_nonneg_right:=@Int.mul_le_mul_of_nonneg_right
theorem qLd:type_of%@List.length_drop:=@List.length_drop
theorem qLe:type_of%@List.all_cons:=@List.all_cons
theorem qLf:type_of%@Nat.not_lt_zero:=@Nat.not_lt_zero
theorem qLg:type_of%@Nat.div_add_mod:=@Nat.div_add_mod
theorem qLh:type_of%@List.take_append_drop:=@List.take_append_drop
theorem qLi:type_of%@Array.toList_append:=@Array.toList_append
theorem qLj:type_of%@List.mem_flatMap:=@List.mem_flatMap
theorem qLk:type_of%@Rat.mul_inv_cancel:=@Rat.mul_inv_cancel
theorem qLl:type_of%@UInt8.toNat_inj:=@UInt8.toNat_inj
theorem qLm:type_of%@Int.neg_mul_neg:=@Int.neg_mul_neg
theorem qLn:type_of%@Array.getElem?_toList:=@Array.getElem?_toList
theorem qLo:type_of%@List.mem_of_mem_take:=@List.mem_of_mem_take
theorem qLp:type_of%@List.mem_of_mem_drop:=@List.mem_of_mem_drop
theorem qLq:type_of%@List.flatten_cons:=@List.flatten_cons
theorem qLr:type_of%@List.mem_replicate:=@List.mem_replicate
theorem qLs:type_of%@List.getElem?_of_mem:=@List.getElem?_of_mem
theorem qLt:type_of%@Option.isSome_some:=@Option.isSome_some
theorem qLu:type_of%@Nat.add_sub_cancel:=@Nat.add_sub_cancel
theorem qLv:type_of%@List.getD_cons_zero:=@List.getD_cons_zero
theorem qLw:type_of%@List.mem_or_eq_of_mem_set:=@List.mem_or_eq_of_mem_set
theorem qLx:type_of%@Classical.not_forall:=@Classical.not_forall
theorem qLy:type_of%@Int.natAbs_sign_of_ne_zero:=@Int.natAbs_sign_of_ne_zero
theorem qLz:type_of%@Int.mul_neg_of_neg_of_pos:=@Int.mul_neg_of_neg_of_pos
theorem qLA:type_of%@Int.mul_le_mul_of_nonneg_left:=@Int.mul_le_mul_of_nonneg_left
abbrev qJb:=List UInt8
inductive Sh where
 | int (k:IntKind)|bool|str|sl (row:List Sh)
inductive U where
 | i (n:Int)|b (x:Bool)|s (l:List UInt8)|l (rows:List (List U))
abbrev R:=List (List U)
def U.toI:U->Int|.i n=>n|_=>0
def U.toB:U->Bool|.b x=>x|_=>false
def U.toS:U->List UInt8|.s x=>x|_=>[]
def U.toR:U->R|.l x=>x|_=>[]
def wy(l:R)(i:Int)(j:Nat):U:=(l.getD i.toNat []).getD j (.i 0)
def cI(l:R)(i:Int)(j:Nat):Int:=(wy l i j).toI
def cB(l:R)(i:Int)(j:Nat):Bool:=(wy l i j).toB
def cS(l:R)(i:Int)(j:Nat):List UInt8:=(wy l i j).toS
def cR(l:R)(i:Int)(j:Nat):R:=(wy l i j).toR
def qk(l:R):Int:=(l.length:Int)
def uV(l m:R):R:=l++m
def qtS(row:List U)(off:Nat)(us:List U):List U:=(List.range (max row.length (off+us.length))).map fun j=>if off<=j/\j<off+us.length then us.getD (j-off) (.i 0) else row.getD j (.i 0)
def qfD(l:R)(i:Int)(off:Nat)(us:List U):R:=l.set i.toNat (qtS (l.getD i.toNat []) off us)
def qwa(l:R)(lo hi:Int):R:=(l.take hi.toNat).drop lo.toNat
def qB(s:List UInt8):Int:=(s.length:Int)
def sat(s:List UInt8)(i:Int):Int:=((s.getD i.toNat 0).toNat:Int)
def qfy(s:List UInt8)(lo hi:Int):List UInt8:=(s.take hi.toNat).drop lo.toNat
def qdK(s t:List UInt8):List UInt8:=s++t
def seq(s t:List UInt8):Bool:=s==t
def slt(s t:List UInt8):Bool:=Op.bytesLess s t
def qz(k:IntKind)(x y:Int):Int:=k.wrap (x+y)
def yM(k:IntKind)(x y:Int):Int:=k.wrap (x-y)
def vn(k:IntKind)(x y:Int):Int:=k.wrap (x*y)
def qbR(k:IntKind)(x y:Int):Int:=k.wrap (x.tdiv y)
def qa8(x y:Int):Int:=x.tmod y
def q1F(k:IntKind)(x:Int):Int:=k.wrap x
def ieq(x y:Int):Bool:=x==y
def ine(x y:Int):Bool:=x != y
def ilt(x y:Int):Bool:=decide (x<y)
def ile(x y:Int):Bool:=decide (x<=y)
def qqF(x y:Int):Int:=if y>x then y else x
def qhs(x y:Int):Int:=if y<x then y else x
def inb(i n:Int):Bool:=decide (0<=i)&&decide (i<n)
def q7y(i n:Int):Bool:=decide (0<=i)&&decide (i<=n)
def beq(x y:Bool):Bool:=x==y
def qzr(l:List Int)(i:Int):Int:=l.getD i.toNat 0
def qD4(x y:Bool):Bool:=x&&y
inductive Ex where
 | normal|exit (id:Nat)|ret
inductive AV where
 | undef|skip|yld
 | blit (b:Bool)|bool (b:Bool)
 | ilit (k:IntKind) (n:Int)|int (k:IntKind) (n:Int)
 | str (s:List UInt8)
 | nilp|ptr (b off:Nat)
 | eptr (sh:List Sh) (l:R) (i:Int) (off:Nat)
 | mptr (c:Bool) (sh:List Sh) (l:R) (i:Int) (off:Nat)
 | vptr (b:Nat) (i:Int) (off:Nat)
 | vsub (b:Nat) (i:Int)
 | aptr (b o:Nat) (i:Int)
 | asub (b o n:Nat) (i m:Int)
 | nils|imm (sh:List Sh) (l:R)|full (sh:List Sh) (l:R)|vec (b:Nat)
 | nilf|fn (f:FuncId) (first caps:List AV)
 | agg (cs:List AV)|tuple (vs:List AV)
 | bagg (cs:List AV) (k:IntKind) (n:Nat) (l:R)
inductive Blk where
 | cells (cs:List AV)|big (cs:List AV) (k:IntKind) (n:Nat) (l:R)|vec (e:TypeId) (sh:List Sh) (l:R)|frz (e:TypeId) (sh:List Sh) (l:R)|dead
structure St where
 t:List AV
 fs:List (List AV)
 h:List Blk
 pend:Option Ex:=none
inductive Tree (α:Type) where
 | leaf (a:α)|br (b:Bool) (t e:Tree α)|fail
def Tree.bind{α β:Type}:Tree α->(α->Tree β)->Tree β
 | .leaf a,f=>f a
 | .br b t e,f=>.br b (t.bind f) (e.bind f)
 | .fail,_=>.fail
def Tree.run{α:Type}:Tree α->Option α
 | .leaf a=>some a
 | .br b t e=>match b with|true=>t.run|false=>e.run
 | .fail=>none
def Tree.holds{α:Type}:Tree α->(α->Prop)->Prop
 | .leaf a,Q=>Q a
 | .br b t e,Q=>(b=true->t.holds Q)/\(b=false->e.holds Q)
 | .fail,_=>False
inductive TD where
 | none|bool|int (k:IntKind)|str|slice (e:TypeId) (es:Nat)|array (n:Nat) (e:TypeId) (es:Nat)
 | struct (fs:List (Nat×TypeId×Nat))|ptr (e:TypeId)|func
structure TI where
 d:TD
 size:Nat
 zero:List Value
 bytes:Nat
 eqok:Bool
 fok:Bool
def qCv(P:Program):TypeDesc->TD
 | .bool=>.bool
 | .int k=>.int k
 | .string=>.str
 | .slice e=>.slice e (P.cellsOf e)
 | .array n e=>.array n e (P.cellsOf e)
 | .struct fs=>.struct (fs.toList.map fun f=>(f.offset,f.type,P.cellsOf f.type))
 | .pointer e=>.ptr e
 | .func _ _ _=>.func
 | _=>.none
def qtw(P:Program)(t:TypeId):TI :=
  match P.info? t with
  | some i => { d := match P.underlying t with | some d => qCv P d | none => .none, size := i.size, zero := match i.zero with | some v => v.cells.toList | none => [], bytes := i.bytes,
                eqok:=match P.underlying t with|some (.struct fs)=>!P.stoodInHeld t&&!P.eqGuardType P.depth t&&fs.toList.all (fun f=>f.name != "_")|_=>false,
                fok:=match P.underlying t with|some (.struct fs)=>fs.toList.all (fun f=>(P.info? f.type).isSome)|_=>false }
  | none=>{ d:=.none,size:=0,zero:=[],bytes:=0,eqok:=false,fok:=false }
structure Env where
 tt:List (TypeId×TI)
 glob:List (Nat×AV)
 spec:List (FuncId×(List AV->List Blk->Tree (AV×List Blk)))
 body:List (FuncId×Func)
 loops:List ((FuncId×Nat)×(St->Tree (Ex×St)))
 nimp:Nat
 iter:List (FuncId×FuncId×Nat):=[]
 raws:List FuncId:=[]
 dels:List (FuncId×TypeId):=[]
def qId:TI:={ d:=.none,size:=0,zero:=[],bytes:=0,eqok:=false,fok:=false }
def Env.ty(E:Env)(t:TypeId):TI:=((E.tt.find? fun x=>x.1==t).map (·.2)).getD qId
def TD.known:TD->Bool
 | .none=>false
 | _=>true
def TD.isAgg:TD->Bool
 | .struct _|.array _ _ _=>true
 | _=>false
def Env.shape(E:Env):Nat->TypeId->Option (List Sh)
 | 0,_=>none
 | n+1,t=>match (E.ty t).d with
  | .bool=>some [.bool]
  | .int k=>some [.int k]
  | .str=>some [.str]
  | .slice e _=>(E.shape n e).map fun r=>[.sl r]
  | .array m e _=>(E.shape n e).map fun r=>(List.replicate m r).flatten
  | .struct fs=>(fs.mapM fun f=>E.shape n f.2.1).map List.flatten
  | _=>none
mutual
def Sh.beq:Sh->Sh->Bool
 | .int k,.int k'=>decide (k=k')
 | .bool,.bool=>true
 | .str,.str=>true
 | .sl r,.sl r'=>Sh.beqL r r'
 | _,_=>false
def Sh.beqL:List Sh->List Sh->Bool
 | [],[]=>true
 | a::l,b::m=>a.beq b&&Sh.beqL l m
 | _,_=>false
end
def jx:Value->AV
 | .bool b=>.blit b
 | .int k n=>.ilit k n
 | .string s=>.str s.data.toList
 | .pointer none=>.nilp
 | .slice none 0 0=>.nils
 | .nilFunc=>.nilf
 | _=>.undef
def ofV:Value->AV
 | .agg cs=>.agg (cs.toList.map jx)
 | v=>jx v
def AV.cells:AV->List AV
 | .agg cs=>cs
 | v=>[v]
def AV.isCell:AV->Bool
 | .undef|.skip|.agg _|.tuple _|.bagg _ _ _ _=>false
 | _=>true
mutual
def AV.ren(f:Nat->Option Nat):AV->AV
 | .ptr b off=>match f b with|some b'=>.ptr b' off|none=>.undef
 | .vptr b i off=>match f b with|some b'=>.vptr b' i off|none=>.undef
 | .vec b=>match f b with|some b'=>.vec b'|none=>.undef
 | .vsub b i=>match f b with|some b'=>.vsub b' i|none=>.undef
 | .aptr b o i=>match f b with|some b'=>.aptr b' o i|none=>.undef
 | .asub b o n i m=>match f b with|some b'=>.asub b' o n i m|none=>.undef
 | .bagg cs k n l=>.bagg (AV.renL f cs) k n l
 | .fn g first caps=>.fn g (AV.renL f first) (AV.renL f caps)
 | .agg cs=>.agg (AV.renL f cs)
 | .tuple vs=>.tuple (AV.renL f vs)
 | v=>v
def AV.renL(f:Nat->Option Nat):List AV->List AV
 | []=>[]
 | a::l=>a.ren f::AV.renL f l
end
mutual
def AV.noY:AV->Bool
 | .yld=>false
 | .fn _ first caps=>AV.noYL first&&AV.noYL caps
 | .agg cs=>AV.noYL cs
 | .bagg cs _ _ _=>AV.noYL cs
 | .tuple vs=>AV.noYL vs
 | _=>true
def AV.noYL:List AV->Bool
 | []=>true
 | a::l=>a.noY&&AV.noYL l
end
def Blk.noY:Blk->Bool
 | .cells cs=>AV.noYL cs
 | .big cs _ _ _=>AV.noYL cs
 | _=>true
def Blk.ren(f:Nat->Option Nat):Blk->Blk
 | .cells cs=>.cells (AV.renL f cs)
 | .big cs k n l=>.big (AV.renL f cs) k n l
 | b=>b
mutual
def AV.men:AV->List Nat
 | .ptr b _=>[b]
 | .vptr b _ _=>[b]
 | .vsub b _=>[b]
 | .aptr b _ _=>[b]
 | .asub b _ _ _ _=>[b]
 | .bagg cs _ _ _=>AV.menL cs
 | .vec b=>[b]
 | .fn _ first caps=>AV.menL first++AV.menL caps
 | .agg cs=>AV.menL cs
 | .tuple vs=>AV.menL vs
 | _=>[]
def AV.menL:List AV->List Nat
 | []=>[]
 | a::l=>a.men++AV.menL l
end
def asI:AV->Option (IntKind×Int)
 | .ilit k n=>some (k,n)
 | .int k n=>some (k,n)
 | _=>none
def asB:AV->Option Bool
 | .blit b=>some b
 | .bool b=>some b
 | _=>none
def qeS(sh:List Sh)(l:R)(i:Int)(j:Nat):Option AV:=
 match sh[j]? with
 | some (.int k)=>some (.int k (cI l i j))
 | some .bool=>some (.bool (cB l i j))
 | some .str=>some (.str (cS l i j))
 | some (.sl row)=>some (.imm row (cR l i j))
 | none=>none
def qaq(sh:List Sh)(l:R)(i:Int):Nat->Nat->Option (List AV)
 | _,0=>some []
 | off,n+1=>match qeS sh l i off,qaq sh l i (off+1) n with
  | some a,some r=>some (a::r)
  | _,_=>none
def vT(h:List Blk):AV->Option (List Sh×R)
 | .imm sh l=>some (sh,l)
 | .vec b=>match h[b]? with
  | some (.vec _ sh l)=>some (sh,l)
  | some (.frz _ sh l)=>some (sh,l)
  | _=>none
 | _=>none
def toU(h:List Blk):Sh->AV->Option U
 | .int k,.ilit k' n=>if k=k' then some (.i n) else none
 | .int k,.int k' n=>if k=k' then some (.i n) else none
 | .bool,.blit b=>some (.b b)
 | .bool,.bool b=>some (.b b)
 | .str,.str s=>some (.s s)
 | .sl _,.nils=>some (.l [])
 | .sl row,.imm row' l=>if Sh.beqL row row' then some (.l l) else none
 | .sl row,.vec b=>match h[b]? with
  | some (.vec _ row' l)=>if Sh.beqL row row' then some (.l l) else none
  | some (.frz _ row' l)=>if Sh.beqL row row' then some (.l l) else none
  | _=>none
 | _,_=>none
def qnC(h:List Blk):List Sh->List AV->Option (List U)
 | [],[]=>some []
 | s::sh,a::azz=>match toU h s a,qnC h sh azz with
  | some u,some us=>some (u::us)
  | _,_=>none
 | _,_=>none
def zR(h:List Blk)(b:Nat):List Blk:=
 match h[b]? with
 | some (.vec e sh l)=>h.set b (.frz e sh l)
 | _=>h
def qab(h:List Blk):List AV->List Blk
 | []=>h
 | .vec b::l=>qab (zR h b) l
 | _::l=>qab h l
def qhB(h:List Blk)(sh:List Sh):Nat->List AV->Option R
 | 0,[]=>some []
 | 0,_=>none
 | n+1,cs=>match qnC h sh (cs.take sh.length),qhB h sh n (cs.drop sh.length) with
  | some u,some r=>some (u::r)
  | _,_=>none
abbrev Res:=AV×List Blk×Option Nat
def okv(h:List Blk)(v:AV):Tree Res:=.leaf (v,h,none)
def okb(h:List Blk)(b:Bool):Tree Res:=.leaf (.bool b,h,none)
def yJ(l:List AV):Bool:=l.all AV.isCell
def qmK(cs:List AV)(off:Nat)(vs:List AV):List AV:=cs.take off++vs++cs.drop (off+vs.length)
def qf5(E:Env)(h:List Blk)(t:TypeId)(p:AV):Tree Res:=
 let ti:=E.ty t
 if ti.d.known=false then .fail else
 match p with
 | .ptr b off=>match h[b]? with
  | some (.cells cs)=>
   if ti.d.isAgg then (if off+ti.size<=cs.length then okv h (.agg ((cs.drop off).take ti.size)) else .fail)
   else match cs[off]? with|some v=>okv h v|none=>.fail
  | _=>.fail
 | .eptr sh l i off=>
  if ti.d.isAgg then (match qaq sh l i off ti.size with|some cs=>okv h (.agg cs)|none=>.fail)
  else (match qeS sh l i off with|some v=>okv h v|none=>.fail)
 | .vptr b i off=>match vT h (.vec b) with
  | some (sh,l)=>
   if ti.d.isAgg then (match qaq sh l i off ti.size with|some cs=>okv h (.agg cs)|none=>.fail)
   else (match qeS sh l i off with|some v=>okv h v|none=>.fail)
  | none=>.fail
 | _=>.fail
def qe3(E:Env)(h:List Blk)(t:TypeId)(p v:AV):Tree Res:=
 let cs':=v.cells
 if cs'.length=(E.ty t).size/\yJ cs'=true/\cs'.length≠0 then
  match p with
  | .ptr b off=>match h[b]? with
   | some (.cells cs)=>if off+cs'.length<=cs.length then .leaf (.skip,h.set b (.cells (qmK cs off cs')),none) else .fail
   | _=>.fail
  | .vptr b i off=>match h[b]? with
   | some (.vec e sh l)=>if (AV.menL cs').isEmpty then (match qnC h ((sh.drop off).take cs'.length) cs' with
    | some us=>.leaf (.skip,h.set b (.vec e sh (qfD l i off us)),none)
    | none=>.fail) else .fail
   | _=>.fail
  | _=>.fail
 else .fail
def qdi(place:Nat->Option (Nat×Nat))(cells:List AV):List (Nat×AV)->Option (List AV)
 | []=>some cells
 | (i,v)::rest=>match place i with
  | none=>none
  | some (off,size)=>
   if v.cells.length=size/\off+v.cells.length<=cells.length/\yJ v.cells=true then qdi place (qmK cells off v.cells) rest else none
def qg2(E:Env)(h:List Blk)(t:TypeId)(parts:List (Nat×AV)):Tree Res:=
 if (E.ty t).zero.length=0 then .fail else
 match (E.ty t).d with
 | .struct fs=>if (E.ty t).fok then (match qdi (fun i=>(fs[i]?).map fun f=>(f.1,f.2.2)) ((E.ty t).zero.map jx) parts with
  | some cs=>okv h (.agg cs)
  | none=>.fail) else .fail
 | .array _ _ es=>if es=0 then .fail else match qdi (fun i=>some (i*es,es)) ((E.ty t).zero.map jx) parts with
  | some cs=>okv h (.agg cs)
  | none=>.fail
 | _=>.fail
def q7Z(E:Env)(h:List Blk)(t:TypeId)(len:Nat)(parts:List (Nat×AV)):Tree Res:=
 match (E.ty t).d with
 | .slice e es=>
  if len*es<=16777216/\0<es/\(E.ty e).zero.length=es then
   match qdi (fun i=>some (i*es,es)) ((List.replicate len ((E.ty e).zero.map jx)).flatten) parts,E.shape 16 e with
   | some cs,some sh=>if sh.length=es then (match qhB h sh len cs with
    | some l=>.leaf (.vec h.length,qab h cs++[.vec e sh l],none)
    | none=>.fail) else .fail
   | _,_=>.fail
  else .fail
 | _=>.fail
def q2M(E:Env)(h:List Blk)(s:TypeId)(x:AV)(f:Nat):Tree Res:=
 match (E.ty s).d with
 | .struct fs=>match fs[f]? with
  | some (o,_,sz)=>if sz=0 then .fail else
   match x with
   | .ptr b off=>okv h (.ptr b (off+o))
   | .eptr sh l i off=>okv h (.eptr sh l i (off+o))
   | .vptr b i off=>okv h (.vptr b i (off+o))
   | _=>.fail
  | none=>.fail
 | _=>.fail
def qf1(E:Env)(t:TypeId)(cs:List AV)(off:Nat):Option AV:=
 let ti:=E.ty t
 if ti.d.known=false then none else
 if ti.d.isAgg then (if off+ti.size<=cs.length then some (.agg ((cs.drop off).take ti.size)) else none)
 else cs[off]?
def qgH(E:Env)(h:List Blk)(t:TypeId)(cs:List AV)(off:Nat):Tree Res:=
 match qf1 E t cs off with
 | some v=>okv h v
 | none=>.fail
def qfG(E:Env)(h:List Blk)(s:TypeId)(x:AV)(f:Nat):Tree Res:=
 match (E.ty s).d,x with
 | .struct fs,.agg cs=>match fs[f]? with
  | some (o,t,_)=>qgH E h t cs o
  | none=>.fail
 | _,_=>.fail
def qgv(h:List Blk)(i:Int)(f:Nat->AV):Nat->Tree Res
 | 0=>.fail
 | m+1=>.br (ieq i m) (okv h (f m)) (qgv h i f m)
def uk(E:Env)(h:List Blk)(t:TypeId)(x ix:AV):Tree Res:=
 match (E.ty t).d,x,asI ix with
 | .slice _ es,.imm sh l,some (_,i)=>if sh.length=es/\0<es then .br (inb i (qk l)) (okv h (.eptr sh l i 0)) .fail else .fail
 | .slice _ es,.vec b,some (_,i)=>match vT h (.vec b) with
  | some (sh,l)=>if sh.length=es/\0<es then .br (inb i (qk l)) (okv h (.vptr b i 0)) .fail else .fail
  | none=>.fail
 | .array n _ es,.ptr b off,_=>match ix with
  | .ilit _ i=>if 0<=i/\i<n/\0<es then okv h (.ptr b (off+i.toNat*es)) else .fail
  | .int _ i=>if n<=16/\0<es then qgv h i (fun m=>.ptr b (off+m*es)) n else .fail
  | _=>.fail
 | .array n _ es,.eptr sh l i0 off,_=>match ix with
  | .ilit _ i=>if 0<=i/\i<n/\0<es then okv h (.eptr sh l i0 (off+i.toNat*es)) else .fail
  | .int _ i=>if n<=16/\0<es then qgv h i (fun m=>.eptr sh l i0 (off+m*es)) n else .fail
  | _=>.fail
 | _,_,_=>.fail
def qkj(k:IntKind):List AV->Option (List Int)
 | []=>some []
 | a::l=>match asI a,qkj k l with
  | some (k',n),some r=>if k=k' then some (n::r) else none
  | _,_=>none
def qmp(E:Env)(h:List Blk)(e:TypeId)(cs:List AV)(es:Nat)(i:Int):Nat->Nat->Tree Res
 | _,0=>.fail
 | j,m+1=>.br (ieq i (j:Int)) (qgH E h e cs (j*es)) (qmp E h e cs es i (j+1) m)
def qgg(E:Env)(h:List Blk)(t:TypeId)(x ix:AV):Tree Res:=
 match (E.ty t).d,x,asI ix with
 | .array n e es,.agg cs,some (_,i)=>match ix with
  | .ilit _ i=>if 0<=i/\i<n/\0<es then qgH E h e cs (i.toNat*es) else .fail
  | _=>match (E.ty e).d with
   | .int k=>if es=1/\cs.length=n then (match qkj k cs with
    | some l=>.br (inb i n) (okv h (.int k (qzr l i))) .fail
    | none=>.fail) else .fail
   | .slice _ _=>if 0<es then (match Nat.ble n 4 with|true=>qmp E h e cs es i 0 n|false=>.fail) else .fail
   | _=>.fail
 | .str,.str s,some (_,i)=>.br (inb i (qB s)) (okv h (.int .u8 (sat s i))) .fail
 | _,_,_=>.fail
def q6P(h:List Blk)(k:IntKind)(f:Int->Int->Int)(lit:Bool)(x y:Int):Tree Res:=if lit then okv h (.ilit k (f x y)) else okv h (.int k (f x y))
def qz9(h:List Blk)(f:Int->Int->Bool)(lit:Bool)(x y:Int):Tree Res:=if lit then okv h (.blit (f x y)) else okv h (.bool (f x y))
def qFi:AV->Bool
 | .ilit _ _=>true
 | _=>false
def quR(d:TD)(h:List Blk)(op:BinOp)(x y:AV):Tree Res:=
 match asI x,asI y with
 | some (k,a),some (k',b)=>
  if k=k' then
   let lit:=qFi x&&qFi y
   match op with
   | .add=>q6P h k (qz k) lit a b
   | .sub=>q6P h k (yM k) lit a b
   | .mul=>q6P h k (vn k) lit a b
   | .quo=>match y with
    | .ilit _ c=>if c=0 then .fail else q6P h k (qbR k) lit a b
    | _=>.br (ine b 0) (q6P h k (qbR k) lit a b) .fail
   | .rem=>match y with
    | .ilit _ c=>if c=0 then .fail else q6P h k qa8 lit a b
    | _=>.br (ine b 0) (q6P h k qa8 lit a b) .fail
   | .eql=>qz9 h ieq lit a b
   | .neq=>qz9 h ine lit a b
   | .lss=>qz9 h ilt lit a b
   | .leq=>qz9 h ile lit a b
   | .gtr=>qz9 h (fun u v=>ilt v u) lit a b
   | .geq=>qz9 h (fun u v=>ile v u) lit a b
   | _=>.fail
  else .fail
 | _,_=>
  match asB x,asB y with
  | some a,some b=>(match d with
   | .bool=>(match op with
    | .eql=>okb h (Eng.beq a b)
    | .neq=>okb h (!(Eng.beq a b))
    | _=>.fail)
   | _=>.fail)
  | _,_=>match x,y with
   | .str a,.str b=>match op with
    | .eql=>okb h (Eng.seq a b)
    | .neq=>okb h (!(Eng.seq a b))
    | .lss=>okb h (slt a b)
    | .leq=>okb h (slt a b||Eng.seq a b)
    | .gtr=>okb h (!(slt a b||Eng.seq a b))
    | .geq=>okb h (!(slt a b))
    | .add=>.br (ile (qB a+qB b) 140737488355328) (okv h (.str (qdK a b))) .fail
    | _=>.fail
   | .nilp,.nilp=>(match d with
    | .ptr _=>(match op with|.eql=>okv h (.blit true)|.neq=>okv h (.blit false)|_=>.fail)
    | _=>.fail)
   | .ptr b _,.nilp=>(match d,h[b]? with
    | .ptr _,some (.cells _)=>(match op with|.eql=>okv h (.blit false)|.neq=>okv h (.blit true)|_=>.fail)
    | _,_=>.fail)
   | .eptr _ _ _ _,.nilp=>(match d with
    | .ptr _=>(match op with|.eql=>okv h (.blit false)|.neq=>okv h (.blit true)|_=>.fail)
    | _=>.fail)
   | .imm _ l,.nils=>(match d with
    | .slice _ _=>(match op with|.eql=>.br (ilt 0 (qk l)) (okv h (.blit false)) .fail|.neq=>.br (ilt 0 (qk l)) (okv h (.blit true)) .fail|_=>.fail)
    | _=>.fail)
   | .mptr c _ _ _ _,.nilp=>(match d with
    | .ptr _=>(match op with|.eql=>okb h (!c)|.neq=>okb h c|_=>.fail)
    | _=>.fail)
   | _,_=>.fail
def qu7(E:Env)(e:TypeId)(c:Nat)(xs ys:List AV):List Nat->Option Bool
 | []=>some true
 | i::is=>match qf1 E e xs (i*c),qf1 E e ys (i*c),qu7 E e c xs ys is with
  | some (.str a),some (.str b),some r=>some (qD4 (Eng.seq a b) r)
  | _,_,_=>none
mutual
def eqT(E:Env):Nat->TypeId->AV->AV->Option Bool
 | 0,_,_,_=>none
 | n+1,t,x,y=>match (E.ty t).d with
  | .int _=>match asI x,asI y with
   | some (k,a),some (k',b)=>if k=k' then some (ieq a b) else none
   | _,_=>none
  | .bool=>match asB x,asB y with
   | some a,some b=>some (Eng.beq a b)
   | _,_=>none
  | .str=>match x,y with
   | .str a,.str b=>some (Eng.seq a b)
   | _,_=>none
  | .struct fs=>if (E.ty t).eqok then (match x,y with
   | .agg xs,.agg ys=>qGf E n fs xs ys
   | _,_=>none) else none
  | .array m e es=>(match n,(E.ty e).d,x,y with
   | _+1,.str,.agg xs,.agg ys=>qu7 E e es xs ys (List.range m)
   | _,_,_,_=>none)
  | _=>none
def qGf(E:Env):Nat->List (Nat×TypeId×Nat)->List AV->List AV->Option Bool
 | _,[],_,_=>some true
 | 0,_,_,_=>none
 | n+1,f::fs,xs,ys=>match qf1 E f.2.1 xs f.1,qf1 E f.2.1 ys f.1 with
  | some a,some b=>match eqT E n f.2.1 a b,qGf E n fs xs ys with
   | some r,some s=>some (qD4 r s)
   | _,_=>none
  | _,_=>none
end
def qnQ(E:Env)(h:List Blk)(op:BinOp)(t:TypeId)(x y:AV):Tree Res:=
 match eqT E 32 t x y with
 | some r=>(match op with|.eql=>okb h r|.neq=>okb h (!r)|_=>.fail)
 | none=>.fail
def qiJ(E:Env)(h:List Blk)(op:BinOp)(t:TypeId)(x y:AV):Tree Res:=
 match x,y with
 | .agg xs,.agg ys=>qnQ E h op t (.agg xs) (.agg ys)
 | a,b=>quR (E.ty t).d h op a b
def qFy(h:List Blk)(op:UnOp)(x:AV):Tree Res:=
 match op,x with
 | .not,.blit b=>okv h (.blit (!b))
 | .not,.bool b=>okv h (.bool (!b))
 | .neg,.ilit k n=>okv h (.ilit k (yM k 0 n))
 | .neg,.int k n=>okv h (.int k (yM k 0 n))
 | _,_=>.fail
def qmN(E:Env)(h:List Blk)(src dst:TypeId)(x:AV):Tree Res:=
 match (E.ty src).d,(E.ty dst).d,x with
 | .int _,.int k,.ilit _ n=>okv h (.ilit k (q1F k n))
 | .int _,.int k,.int _ n=>okv h (.int k (q1F k n))
 | .str,.str,.str s=>okv h (.str s)
 | _,_,_=>.fail
def qdJ:Option AV->Int->Option Int
 | none,d=>some d
 | some a,_=>(asI a).map (·.2)
def qj3:List Sh->Bool
 | [.int .u8]=>true
 | _=>false
def qrX(sh:List Sh)(hi:Option AV):Bool:=match hi with
 | none=>qj3 sh
 | some _=>false
def qlQ(l:R):List UInt8:=l.map fun row=>UInt8.ofNat (row.getD 0 (.i 0)).toI.toNat
def q3O(n:Int)(row:List U):R:=List.replicate n.toNat row
def qv7(l:R)(i:Int)(s:List UInt8):R:=l.take i.toNat++s.map (fun c=>[.i (c.toNat:Int)])++l.drop (i.toNat+s.length)
def qvG(x y:Int):Int:=x-y
def qpf(E:Env)(h:List Blk)(e:TypeId)(x:AV):Tree Res:=
 match (E.ty e).d with
 | .int .u8=>(match vT h x with
  | some (sh,l)=>if qj3 sh then okv h (.str (qlQ l)) else .fail
  | none=>.fail)
 | _=>.fail
def qgm(E:Env)(h:List Blk)(src dst:TypeId)(x:AV):Tree Res:=
 match (E.ty src).d with
 | .slice e _=>(match (E.ty dst).d with
  | .str=>qpf E h e x
  | _=>.fail)
 | _=>qmN E h src dst x
def qcl(E:Env)(h:List Blk)(t:TypeId)(x:AV)(lo hi mx:Option AV):Tree Res:=
 match mx with
 | some m=>(match (E.ty t).d,x,hi with
  | .slice _ es,.imm sh l,some y=>(match qdJ lo 0,asI y,asI m with
   | some a,some (_,b),some (_,c)=>if sh.length=es/\0<es then .br (q7y b (qk l)) (.br (q7y a b) (.br (ieq b c) (okv h (.full sh (qwa l a b))) .fail) .fail) .fail else .fail
   | _,_,_=>.fail)
  | _,_,_=>.fail)
 | none=>match (E.ty t).d,x with
  | .str,.str s=>match qdJ lo 0,qdJ hi (qB s) with
   | some l,some r=>.br (q7y r (qB s)) (.br (q7y l r) (okv h (.str (qfy s l r))) .fail) .fail
   | _,_=>.fail
  | .slice _ es,.imm sh l=>match qdJ lo 0,qdJ hi (qk l) with
   | some a,some b=>if sh.length=es/\0<es then .br (q7y b (qk l)) (.br (q7y a b) (okv h (.imm sh (qwa l a b))) .fail) .fail else .fail
   | _,_=>.fail
  | .slice _ es,.vec b=>match h[b]? with
   | some (.vec _ sh l)=>(match qrX sh hi with
    | true=>(match qdJ lo 0 with
     | some a=>if es=1 then .br (ilt 0 (qk l)) (.br (q7y a (qk l)) (okv h (.vsub b a)) .fail) .fail else .fail
     | none=>.fail)
    | false=>(match qdJ lo 0,qdJ hi (qk l) with
     | some a,some c=>if sh.length=es/\0<es then .br (q7y c (qk l)) (.br (q7y a c) (.leaf (.imm sh (qwa l a c),zR h b,none)) .fail) .fail else .fail
     | _,_=>.fail))
   | some (.frz _ sh l)=>(match qdJ lo 0,qdJ hi (qk l) with
    | some a,some c=>if sh.length=es/\0<es then .br (q7y c (qk l)) (.br (q7y a c) (okv h (.imm sh (qwa l a c))) .fail) .fail else .fail
    | _,_=>.fail)
   | _=>.fail
  | _,_=>.fail
def qpV(b:Nat):Int:=((140737488355328/(if b=0 then 1 else b):Nat):Int)
def yG(h:List Blk)(x:AV):List Blk:=
 match x with
 | .vec b=>zR h b
 | _=>h
def qC6(rm:Int)(h:List Blk)(e:TypeId)(sh:List Sh)(l m:R)(b:Nat)(x:AV):Tree Res:=
 match x with
 | .vec b'=>if b=b' then .fail else
   .br (ile (qk l+qk m) rm) (.leaf (.vec b,(zR h b').set b (.vec e sh (uV l m)),some b)) .fail
 | _=>.br (ile (qk l+qk m) rm) (.leaf (.vec b,h.set b (.vec e sh (uV l m)),some b)) .fail
def qkW(rm:Int)(h:List Blk)(e:TypeId)(sh:List Sh)(s x:AV):Tree Res:=
 match vT h x with
 | some (sh',m)=>if Sh.beqL sh sh' then
  (match s with
  | .nils=>.br (ile (qk m) rm) (.leaf (.vec h.length,yG h x++[.vec e sh m],none)) .fail
  | .vec b=>match h[b]? with
   | some (.vec e' sh'' l)=>if Sh.beqL sh sh''/\e=e' then qC6 rm h e sh l m b x else .fail
   | _=>.fail
  | .full sh'' l=>if Sh.beqL sh sh'' then .br (ilt 0 (qk m)) (.br (ile (qk l+qk m) rm) (.leaf (.vec h.length,yG h x++[.vec e sh (uV l m)],none)) .fail) (.br (ile (qk l) 0) (.leaf (.vec h.length,yG h x++[.vec e sh []],none)) .fail) else .fail
  | _=>.fail) else .fail
 | none=>.fail
def qrS(E:Env)(h:List Blk)(t:TypeId)(s x:AV):Tree Res:=
 match (E.ty t).d with
 | .slice e es=>match E.shape 16 e with
  | some sh=>if sh.length=es/\0<es/\(E.ty e).zero.length=es then
    (match x with
    | .nils=>(match s with
     | .nils=>okv h .nils
     | _=>.fail)
    | x=>qkW (qpV (E.ty e).bytes) h e sh s x) else .fail
  | none=>.fail
 | _=>.fail
def qCk(E:Env)(h:List Blk)(t:TypeId)(x:AV):Tree Res:=
 match (E.ty t).d,x with
 | .str,.str s=>okv h (.int .i64 (qB s))
 | .array n _ _,_=>okv h (.ilit .i64 n)
 | .slice _ _,.nils=>okv h (.ilit .i64 0)
 | .slice _ _,x=>match vT h x with
  | some (_,l)=>okv h (.int .i64 (qk l))
  | none=>.fail
 | _,_=>.fail
def qwk(f:Int->Int->Int)(k:IntKind):Int->List AV->Option Int
 | a,[]=>some a
 | a,x::l=>match asI x with
  | some (k',b)=>if k=k' then qwk f k (f a b) l else none
  | none=>none
def qBV(E:Env)(h:List Blk)(t:TypeId)(x y:AV):Tree Res:=
 match (E.ty t).d,asI x,asI y with
 | .slice e es,some (_,n),some (_,m)=>(match E.shape 16 e with
  | some sh=>if sh.length=es/\0<es/\(E.ty e).zero.length=es then
    (match qnC h sh ((E.ty e).zero.map jx) with
    | some us=>.br (ieq n m) (.br (q7y n (qpV (E.ty e).bytes)) (.leaf (.vec h.length,h++[.vec e sh (q3O n us)],none)) .fail) .fail
    | none=>.fail) else .fail
  | none=>.fail)
 | _,_,_=>.fail
def qwe(E:Env)(h:List Blk):List TypeId->List AV->Tree Res
 | [t,_],[.vsub b i,.str s]=>(match (E.ty t).d with
  | .slice _ es=>(match h[b]? with
   | some (.vec e' sh l)=>if qj3 sh/\es=1 then .br (ile (qB s) (qvG (qk l) i)) (.leaf (.int .i64 (qB s),h.set b (.vec e' sh (qv7 l i s)),none)) .fail else .fail
   | _=>.fail)
  | _=>.fail)
 | _,_=>.fail
def isZ(k:IntKind):Value->Bool
 | .int k' n=>decide (k=k')&&decide (n=0)
 | _=>false
def qyU(E:Env)(t:TypeId):Option (Nat×IntKind×Nat):=
 match (E.ty t).d with
 | .struct fs=>(match fs.getLast? with
  | some (o,ty,_)=>(match (E.ty ty).d with
   | .array n e _=>(match (E.ty e).d with
    | .int k=>if Nat.ble 32 n&&Nat.beq (E.ty t).zero.length (o+n)&&Nat.beq (E.ty t).size (o+n)&&((E.ty t).zero.drop o).all (isZ k) then some (o,k,n) else none
    | _=>none)
   | _=>none)
  | none=>none)
 | _=>none
def qeD(E:Env)(t:TypeId):Option Blk:=match qyU E t with
 | some (o,k,n)=>if yJ (((E.ty t).zero.take o).map jx)=true then some (.big (((E.ty t).zero.take o).map jx) k n (q3O n [.i 0])) else none
 | none=>if yJ ((E.ty t).zero.map jx)=true/\((E.ty t).zero.map jx).length≠0 then some (.cells ((E.ty t).zero.map jx)) else none
def qBJ(x:AV):Option Blk:=match x with
 | .bagg cs k n l=>if yJ cs=true then some (.big cs k n l) else none
 | x=>if yJ x.cells=true then some (.cells x.cells) else none
def qAP(h:List Blk)(k:Option Blk):Tree Res:=match k with
 | some k=>.leaf (.ptr h.length 0,h++[k],none)
 | none=>.fail
def qBn(E:Env)(h:List Blk)(t:TypeId)(off:Nat)(cs:List AV)(k:IntKind)(n:Nat)(l:R):Tree Res:=
 if (E.ty t).d.known=false then .fail else
 if (E.ty t).d.isAgg=true then (if off=0/\(E.ty t).size=cs.length+n then okv h (.bagg cs k n l) else .fail)
 else (match cs[off]? with
  | some v=>okv h v
  | none=>if off<cs.length+n then okv h (.int k (cI l ((off-cs.length:Nat):Int) 0)) else .fail)
def qc3(E:Env)(h:List Blk)(t:TypeId)(p:AV):Tree Res:=
 match p with
 | .ptr b off=>(match h[b]? with
  | some (.big cs k n l)=>qBn E h t off cs k n l
  | _=>qf5 E h t (.ptr b off))
 | .aptr b o i=>(match h[b]? with
  | some (.big cs k n l)=>if (E.ty t).d.known=true/\(E.ty t).d.isAgg=false/\o=cs.length then .br (inb i n) (okv h (.int k (cI l i 0))) .fail else .fail
  | _=>.fail)
 | p=>qf5 E h t p
def qsz(E:Env)(h:List Blk)(t:TypeId)(b off:Nat)(cs:List AV)(k:IntKind)(n:Nat)(l:R)(v:AV):Tree Res:=
 match v with
 | .bagg cs' k' n' l'=>if off=0/\k=k'/\n=n'/\cs.length=cs'.length/\(E.ty t).size=cs.length+n/\0<n/\yJ cs'=true then .leaf (.skip,h.set b (.big cs' k n l'),none) else .fail
 | v=>if v.cells.length=(E.ty t).size/\yJ v.cells=true/\v.cells.length≠0 then
   (match Nat.ble (off+v.cells.length) cs.length with
   | true=>.leaf (.skip,h.set b (.big (qmK cs off v.cells) k n l),none)
   | false=>(match asI v with
    | some (k',x)=>if k=k'/\cs.length<=off/\off<cs.length+n then .leaf (.skip,h.set b (.big cs k n (qfD l ((off-cs.length:Nat):Int) 0 [.i x])),none) else .fail
    | none=>.fail))
   else .fail
def q0h(E:Env)(h:List Blk)(t:TypeId)(p v:AV):Tree Res:=
 match p with
 | .ptr b off=>(match h[b]? with
  | some (.big cs k n l)=>qsz E h t b off cs k n l v
  | _=>qe3 E h t (.ptr b off) v)
 | .aptr b o i=>(match h[b]? with
  | some (.big cs k n l)=>(match asI v with
   | some (k',x)=>if k=k'/\o=cs.length/\(E.ty t).size=1 then .br (inb i n) (.leaf (.skip,h.set b (.big cs k n (qfD l i 0 [.i x])),none)) .fail else .fail
   | none=>.fail)
  | _=>.fail)
 | p=>qe3 E h t p v
def q14(E:Env)(h:List Blk)(t:TypeId)(x ix:AV):Tree Res:=
 match (E.ty t).d with
 | .array n _ es=>(match Nat.blt 16 n with
  | true=>(match x with
   | .ptr b off=>(match ix with
    | .int _ i=>if es=1 then .br (inb i n) (okv h (.aptr b off i)) .fail else .fail
    | _=>uk E h t x ix)
   | _=>uk E h t x ix)
  | false=>uk E h t x ix)
 | _=>uk E h t x ix
def qbD(E:Env)(h:List Blk)(t:TypeId)(parts:List (Nat×AV)):Tree Res:=
 match qyU E t with
 | some (o,k,n)=>(match (E.ty t).d with
  | .struct fs=>if (E.ty t).fok=true then (match qdi (fun i=>(fs[i]?).map fun f=>(f.1,f.2.2)) (((E.ty t).zero.take o).map jx) parts with
   | some cs=>okv h (.bagg cs k n (q3O n [.i 0]))
   | none=>.fail) else .fail
  | _=>.fail)
 | none=>qg2 E h t parts
def qDc(h:List Blk)(b off n:Nat)(lo hi:Option AV):Tree Res:=
 match qdJ lo 0,qdJ hi n with
 | some a,some c=>.br (q7y c n) (.br (q7y a c) (okv h (.asub b off n a (qvG c a))) .fail) .fail
 | _,_=>.fail
def qvj(sh:List Sh)(l:R)(i:Int)(off n:Nat):Option (Sh×R):=
 match sh[off]?,l with
 | some s,[row]=>if (i=0/\off+n<=sh.length)/\((sh.drop off).take n).all (Sh.beq s)=true/\off+n<=row.length then some (s,((row.drop off).take n).map fun u=>[u]) else none
 | _,_=>none
def qtV(h:List Blk)(n:Nat)(s:Sh)(l:R)(lo hi mx:Option AV):Tree Res:=
 match mx with
 | none=>(match qdJ lo 0,qdJ hi n with
  | some a,some c=>.br (q7y c n) (.br (q7y a c) (okv h (.imm [s] (qwa l a c))) .fail) .fail
  | _,_=>.fail)
 | some m=>(match qdJ lo 0,hi.bind asI,asI m with
  | some a,some (_,c),some (_,d)=>.br (q7y c n) (.br (q7y a c) (.br (ieq c d) (okv h (.full [s] (qwa l a c))) .fail) .fail) .fail
  | _,_,_=>.fail)
def uw(E:Env)(h:List Blk)(t:TypeId)(x:AV)(lo hi mx:Option AV):Tree Res:=
 match (E.ty t).d with
 | .array n _ es=>(match x with
  | .eptr sh l i off=>if es=1 then (match qvj sh l i off n with
   | some (s,rows)=>qtV h n s rows lo hi mx
   | none=>.fail) else .fail
  | .ptr b off=>(match mx with
   | none=>if es=1 then qDc h b off n lo hi else .fail
   | some _=>.fail)
  | _=>.fail)
 | _=>qcl E h t x lo hi mx
def qkP(l:R)(i:Int)(l':R)(i' c:Int):R:=l.take i.toNat++(l'.drop i'.toNat).take c.toNat++l.drop (i.toNat+c.toNat)
def qrC(E:Env)(h:List Blk):List TypeId->List AV->Tree Res
 | [t,_],[.asub b o n i m,.asub b' o' n' i' m']=>(match (E.ty t).d with
  | .slice _ es=>(match h[b]? with
   | some (.big cs k N l)=>(match h[b']? with
    | some (.big cs' k' N' l')=>if es=1/\o=cs.length/\n=N/\o'=cs'.length/\n'=N'/\k=k' then
      .leaf (.int .i64 (qhs m' m),h.set b (.big cs k N (qkP l i l' i' (qhs m' m))),none) else .fail
    | _=>.fail)
   | _=>.fail)
  | _=>.fail)
 | ts,azz=>qwe E h ts azz
def quK(E:Env)(h:List Blk):List TypeId->List AV->Tree Res
 | [t,t'],[s,x]=>if t=t' then qrS E h t s x else .fail
 | _,_=>.fail
def qnZ(E:Env)(h:List Blk):List TypeId->List AV->Tree Res
 | t::_,[x]=>qCk E h t x
 | _,_=>.fail
def qs3(f:Int->Int->Int)(h:List Blk):List AV->Tree Res
 | x::l=>match asI x with
  | some (k,n)=>(match qwk f k n l with
   | some m=>if (x::l).all qFi then okv h (.ilit k m) else okv h (.int k m)
   | none=>.fail)
  | none=>.fail
 | []=>.fail
def q7M(E:Env)(h:List Blk)(b:Builtin)(argTypes:List TypeId)(args:List AV):Tree Res:=
 match b with
 | .append=>quK E h argTypes args
 | .len=>qnZ E h argTypes args
 | .max=>qs3 qqF h args
 | .min=>qs3 qhs h args
 | .copy=>qrC E h argTypes args
 | _=>.fail
def qny(E:Env)(h:List Blk)(ev:Operand->AV)(op:Op):Tree Res:=
 match op with
 | .move x=>okv h (ev x)
 | .assign x=>okv h (ev x)
 | .pick c a b=>(match ev c with
  | .blit t=>okv h (if t then ev a else ev b)
  | .bool t=>.br t (okv h (ev a)) (okv h (ev b))
  | _=>.fail)
 | .box _ x=>qAP h (qBJ (ev x))
 | .alloc t=>qAP h (qeD E t)
 | .load t a=>qc3 E h t (ev a)
 | .store t a x=>q0h E h t (ev a) (ev x)
 | .build t parts=>qbD E h t (parts.toList.map fun p=>(p.1,ev p.2))
 | .buildSlice t len parts=>q7Z E h t len (parts.toList.map fun p=>(p.1,ev p.2))
 | .nilCheck x=>(match ev x with
  | .ptr b o=>(match h[b]? with
   | some (.cells _)=>okv h (.ptr b o)
   | some (.big _ _ _ _)=>okv h (.ptr b o)
   | _=>.fail)
  | .eptr sh l i o=>okv h (.eptr sh l i o)
  | .mptr c sh l i o=>.br c (okv h (.eptr sh l i o)) .fail
  | _=>.fail)
 | .binOp op t x y _=>qiJ E h op t (ev x) (ev y)
 | .unOp op _ x=>qFy h op (ev x)
 | .convert s d x=>qgm E h s d (ev x)
 | .makeSlice t n m=>qBV E h t (ev n) (ev m)
 | .makeFunc (.func f) first caps=>okv h (.fn f (first.toList.map ev) (caps.toList.map ev))
 | .slice t x lo hi mx=>uw E h t (ev x) (lo.map ev) (hi.map ev) (mx.map ev)
 | .fieldAddr s x f=>q2M E h s (ev x) f
 | .field s x f=>qfG E h s (ev x) f
 | .indexAddr t x i=>q14 E h t (ev x) (ev i)
 | .index t x i=>qgg E h t (ev x) (ev i)
 | .extract x i=>(match ev x with
  | .tuple vs=>(match vs[i]? with|some v=>okv h v|none=>.fail)
  | _=>.fail)
 | .call { callee:=.builtin b,args,argTypes }=>q7M E h b argTypes.toList (args.toList.map ev)
 | _=>.fail
def Env.opd(E:Env)(t:List AV):Operand->AV
 | .tmp i=>t.getD i .undef
 | .const v=>ofV v
 | .global g=>((E.glob.find? fun x=>x.1==g).map (·.2)).getD .undef
 | .func f=>.fn f [] []
def qhQ(t:List AV):Option Tmp->AV->List AV
 | some d,v=>t.set d v
 | none,_=>t
def St.renAll(st:St)(f:Nat->Option Nat):St:={ t:=AV.renL f st.t,fs:=st.fs.map (AV.renL f),h:=st.h.map (Blk.ren f),pend:=st.pend }
def qcb(b:Nat):Nat->Option Nat:=fun x=>if x=b then none else some x
def St.apply(st:St)(dst:Option Tmp)(r:Res):St:=
 match r.2.2 with
 | none=>{ st with t:=qhQ st.t dst r.1,h:=r.2.1 }
 | some b=>let s:=({ st with h:=r.2.1 }:St).renAll (qcb b)
  { s with t:=qhQ s.t dst r.1 }
abbrev q8G:=Option FuncId->List AV->St->Tree (AV×St)
abbrev qyD:=List AV->St->Tree (AV×St)
abbrev qdA:=FuncId->qyD->List AV->St->Tree (AV×St)
def qD6(y:qyD)(callH:q8G):q8G
 | none=>y
 | some f=>callH (some f)
def qp8(E:Env)(callH:q8G)(o:Oper)(st:St):Tree St:=
 match o.op with
 | .call { callee:=.value x,args,argTypes:=_ }=>(match E.opd st.t x with
  | .fn f first caps=>(callH (some f) (first++args.toList.map (E.opd st.t)++caps) st).bind fun r=>
    .leaf { r.2 with t:=qhQ r.2.t o.dst r.1 }
  | .yld=>(callH none (args.toList.map (E.opd st.t)) st).bind fun r=>
    .leaf { r.2 with t:=qhQ r.2.t o.dst r.1 }
  | _=>.fail)
 | op=>(qny E st.h (E.opd st.t) op).bind fun r=>.leaf (st.apply o.dst r)
def qBL(o:Oper)(st:St):St:={ st with t:=qhQ st.t o.dst .skip }
def qwc(all:Array Oper)(k:Nat):Bool:=all.toList.any fun o=>match o.guard with|some (j,_)=>j==k|none=>false
def qpY(all:Array Oper)(k:Nat)(o:Oper)(st:St):Tree St:=
 if qwc all k then (match o.dst with
  | some d=>match st.t[d]? with
   | some (.bool b)=>.br b (.leaf { st with t:=st.t.set d (.blit true) }) (.leaf { st with t:=st.t.set d (.blit false) })
   | _=>.leaf st
  | none=>.leaf st)
 else .leaf st
def q6b(all:Array Oper)(o:Oper)(t:List AV):Option Bool:=
 match o.guard with
 | none=>some true
 | some (j,want)=>match (all[j]?).bind (·.dst) with
  | none=>none
  | some d=>match t[d]? with
   | some (.blit b)=>some (decide (b=want))
   | some .skip=>some false
   | _=>none
def qjg(E:Env)(callH:q8G)(all:Array Oper):Nat->List Oper->St->Tree St
 | _,[],st=>.leaf st
 | k,o::rest,st=>match q6b all o st.t with
  | some true=>(qp8 E callH o st).bind fun s=>(qpY all k o s).bind (qjg E callH all (k+1) rest)
  | some false=>qjg E callH all (k+1) rest (qBL o st)
  | none=>.fail
def qiI:List Nat->List Nat
 | []=>[]
 | a::l=>if (qiI l).contains a then qiI l else a::qiI l
def qAK(l:List Nat)(b:Nat):Option Nat:=let i:=l.findIdx (·==b);if i<l.length then some i else none
mutual
def AV.lend(h:List Blk):AV->AV
 | .vec b=>match h[b]? with|some (.frz _ sh l)=>.imm sh l|_=>.undef
 | .agg cs=>.agg (AV.lendL h cs)
 | .tuple cs=>.tuple (AV.lendL h cs)
 | v=>v
def AV.lendL(h:List Blk):List AV->List AV
 | []=>[]
 | a::l=>a.lend h::AV.lendL h l
end
def we:AV->List Nat
 | .vec b=>[b]
 | .agg cs=>cs.filterMap fun|.vec b=>some b|_=>none
 | _=>[]
def Blk.plain:Blk->Bool
 | .cells cs=>(AV.menL cs).isEmpty
 | .big cs _ _ _=>(AV.menL cs).isEmpty
 | _=>false
def q64(h:List Blk):List Nat->Option (List Blk)
 | []=>some []
 | b::l=>match h[b]?,q64 h l with
  | some k,some r=>if k.plain=true then some (k::r) else none
  | _,_=>none
def q1g(h:List Blk):List Nat->List Blk->Option (List Blk)
 | [],_=>some h
 | b::l,k::r=>if k.plain=true then (q1g h l r).map fun h'=>h'.set b k else none
 | _::_,[]=>none
def qmJ(fp:List Nat)(n:Nat):Nat->Option Nat:=fun k=>if k<fp.length then fp[k]? else some (n+(k-fp.length))
abbrev zE:=List AV->List Blk->Tree (AV×List Blk)
def qO(h:List Blk):List Nat->List Blk
 | []=>h
 | b::l=>qO (zR h b) l
def qbI(h:List Blk):List Nat->List Blk
 | []=>h
 | b::l=>match h[b]? with
  | some (.cells cs)=>qbI (h.set b (.cells (AV.lendL h cs))) l
  | _=>qbI h l
def q7H(h:List Blk):List Nat->List Nat
 | []=>[]
 | b::l=>match h[b]? with
  | some (.cells cs)=>cs.flatMap we++q7H h l
  | _=>q7H h l
def vM(h:List Blk)(args:List AV):List Blk:=
 let h1:=qO h (args.flatMap we)
 let fp:=AV.menL (AV.lendL h1 args)
 qbI (qO h1 (q7H h1 fp)) fp
def q16(G:zE)(args:List AV)(st:St):Tree (AV×St):=
 let h1:=vM st.h args
 let args1:=AV.lendL h1 args
 let fp:=qiI (AV.menL args1)
 match q64 h1 fp with
 | none=>.fail
 | some hin=>(G (AV.renL (qAK fp) args1) hin).bind fun r=>
   match q1g h1 fp r.2 with
   | none=>.fail
   | some h2=>.leaf (r.1.ren (qmJ fp h1.length),{ st with h:=h2++(r.2.drop fp.length).map (Blk.ren (qmJ fp h1.length)) })
def qjf(h:List Blk)(b:Nat):Bool:=match h[b]? with|some (.frz _ _ _)=>true|_=>false
def qcp(E:Env):Op->Bool
 | .move _|.assign _|.pick _ _ _|.load _ _|.build _ _|.nilCheck _|.binOp _ _ _ _ _|.unOp _ _ _|.convert _ _ _
 | .fieldAddr _ _ _|.field _ _ _|.indexAddr _ _ _|.index _ _ _|.extract _ _=>true
 | .slice t _ _ _ mx=>match (E.ty t).d with|.str=>true|.array _ _ _=>true|.slice _ _=>mx.isSome|_=>false
 | .makeFunc _ _ _=>true
 | .call { callee:=.builtin .len,.. }=>true
 | .call { callee:=.builtin .max,.. }=>true
 | .call { callee:=.builtin .min,.. }=>true
 | _=>false
abbrev q75:=FuncId->List AV->Tree AV
def qC0:AV->Bool
 | .vec _=>false
 | _=>true
def qhP(E:Env)(h:List Blk)(ev:Operand->AV)(op:Op):Tree (AV×Blk):=
 match op with
 | .buildSlice t len parts=>(match (E.ty t).d with
  | .slice e es=>
   if len*es<=16777216/\0<es/\(E.ty e).zero.length=es then
    (match qdi (fun i=>some (i*es,es)) ((List.replicate len ((E.ty e).zero.map jx)).flatten) (parts.toList.map fun p=>(p.1,ev p.2)),E.shape 16 e with
    | some cs,some sh=>if sh.length=es/\cs.all qC0=true then (match qhB h sh len cs with
     | some l=>.leaf (.vec h.length,.vec e sh l)
     | none=>.fail) else .fail
    | _,_=>.fail)
   else .fail
  | _=>.fail)
 | _=>.fail
def qcG(E:Env)(callS:q75)(h:List Blk)(ev:Operand->AV)(op:Op):Tree AV:=
 match op with
 | .call { callee:=.value x,args,argTypes:=_ }=>(match ev x with
  | .fn f first caps=>callS f (first++args.toList.map ev++caps)
  | _=>.fail)
 | op=>if qcp E op then (qny E h ev op).bind fun r=>.leaf r.1 else .fail
def qfx(ops:List Oper):List Nat:=ops.foldl (fun acc o=>acc++[o.after.toList.foldl (fun s e=>if Region.binds .any e then s ||| 2^e.on ||| acc.getD e.on 0 else s) 0]) []
def qz1(all:Array Oper)(o:Oper):List Tmp :=
  (o.op.operands.toList.filterMap fun|.tmp t=>some t|_=>none) ++
  (match o.guard with
   | some (g,_)=>((all[g]?).bind (·.dst)).toList
   | none=>[])
def qAO(all:Array Oper):Bool:=
 let ops:=all.toList
 let anc:=qfx ops
 let n:=ops.length
 (List.range n).all fun i=>
  match ops[i]? with
  | none=>false
  | some oi=>
   (oi.after.toList.all fun e=>!Region.binds .any e||decide (e.on<i)) &&
   (List.range n).all fun j=>j==i ||
    match ops[j]? with
    | none=>false
    | some oj=>match oj.dst with
     | none=>true
     | some t=>oi.dst != some t&&(!(qz1 all oi).contains t||(anc.getD i 0).testBit j||(anc.getD j 0).testBit i)
def Blk.menB:Blk->List Nat
 | .cells cs=>AV.menL cs
 | .big cs _ _ _=>AV.menL cs
 | _=>[]
def qc7:List Blk->List Nat
 | []=>[]
 | k::h=>k.menB++qc7 h
def qkX:List (List AV)->List Nat
 | []=>[]
 | a::l=>AV.menL a++qkX l
def qlN:Op->Bool
 | .store _ _ _=>true
 | _=>false
def qga(E:Env)(f:FuncId):Option zE:=(E.spec.find? fun x=>x.1==f).map (·.2)
def jI(ev:Operand->AV)(op:Op):Option (FuncId×List AV):=
 match op with
 | .call { callee:=.value x,args,argTypes:=_ }=>(match ev x with
  | .fn f first caps=>some (f,first++args.toList.map ev++caps)
  | _=>none)
 | _=>none
def qgl(op:Op):Bool:=
 match op with
 | .call { callee:=.value _,args:=_,argTypes:=_ }=>true
 | _=>false
def qjH(E:Env)(h:List Blk)(ev:Operand->AV)(op:Op):Bool:=
 match qgl op with
 | true=>(match jI ev op with
  | some (f,args)=>(match qga E f with
   | some _=>E.raws.contains f||(!(args.flatMap we).all (qjf h)||!(AV.menL (AV.lendL h args)).isEmpty)
   | none=>false)
  | none=>false)
 | false=>qlN op
def qmC(h:List Blk)(args:List AV):List Nat:=
 let h1:=qO h (args.flatMap we)
 let fp:=AV.menL (AV.lendL h1 args)
 args.flatMap we++q7H h1 fp++fp
def qvX(h:List Blk)(ev:Operand->AV)(op:Op):List Nat:=
 match jI ev op with
 | some (_,args)=>qmC h args
 | none=>(match op with
  | .store _ x _=>(ev x).men
  | _=>[])
def qBF(op:Op):Bool:=
 match op with
 | .move _|.assign _|.extract _ _|.fieldAddr _ _ _|.makeFunc _ _ _|.pick _ _ _|.build _ _=>false
 | _=>true
def qGw(E:Env)(ev:Operand->AV)(op:Op):Option (List Nat):=
 match qgl op with
 | true=>(match jI ev op with
  | some (f,args)=>(match qga E f with
   | some _=>some (AV.menL args)
   | none=>none)
  | none=>none)
 | false=>(match qBF op with
  | true=>some (AV.menL (op.operands.toList.map ev))
  | false=>some [])
def qpQ(ev:Operand->AV)(op:Op):List Nat:=
 match jI ev op with
 | some (_,args)=>AV.menL args
 | none=>AV.menL (op.operands.toList.map ev)
def qwz(h:List Blk):List Nat->List Nat
 | []=>[]
 | b::l=>(match h[b]? with|some k=>k.menB|none=>[])++qwz h l
def qBP(h:List Blk)(ev:Operand->AV)(op:Op):List Nat:=
 match jI ev op with
 | some (_,args)=>
  let h1:=qO h (args.flatMap we)
  AV.menL args++qwz h1 (AV.menL (AV.lendL h1 args))
 | none=>AV.menL (op.operands.toList.map ev)
def qlJ(E:Env)(h:List Blk)(ev:Operand->AV)(op:Op):Tree (AV×List Blk):=
 match jI ev op with
 | some (f,args)=>(match qga E f with
  | some G=>(q16 G args { t:=[],fs:=[],h:=h,pend:=none }).bind fun r=>.leaf (r.1,r.2.h)
  | none=>.fail)
 | none=>(match qlN op with
  | true=>(qny E h ev op).bind fun r=>(match r.2.2 with
   | none=>.leaf (r.1,r.2.1)
   | some _=>.fail)
  | false=>.fail)
def qGT(anc:List Nat)(i j:Nat):Bool:=(anc.getD i 0).testBit j
def kT(all:Array Oper):Nat:=
 let ops:=all.toList
 let anc:=qfx ops
 ((List.range ops.length).find? fun m=>(List.range ops.length).all fun j=>decide (j<m)||(List.range j).all fun i=>(anc.getD j 0).testBit i).getD ops.length
structure LDesc where
 s:Option Nat
 r:Option (List Nat)
 w:List Nat
 v:List Nat
def qIM(op:Op):Bool:=
 match op with
 | .call { callee:=.builtin .append,args:=_,argTypes:=_ }=>true
 | _=>false
def qld(op:Op):Option (FuncId×List Operand):=
 match op with
 | .call { callee:=.value (.func f),args:=args,argTypes:=_ }=>some (f,args.toList)
 | _=>none
def qGs(E:Env)(f:FuncId):Option TypeId:=(E.dels.find? fun x=>x.1==f).map (·.2)
def qpU(E:Env)(op:Op):Bool:=
 match op with
 | .buildSlice _ _ _=>true
 | .alloc _=>true
 | op=>qIM op||(match qld op with
  | some (f,_)=>E.raws.contains f||(qGs E f).isSome
  | none=>false)
def qwX(b:Nat):AV->Bool
 | .vec b'=>!Nat.beq b' b
 | _=>true
def qrc(_:Env)(_:List Blk)(_:TypeId)(_:List AV)(_:Nat):Tree (AV×List Blk):=.fail
def qB9(E:Env)(h:List Blk)(f:FuncId)(args:List AV)(k:Nat):Tree (AV×List Blk):=
 match E.spec.find? fun x=>x.1==f with
 | some G=>(match (AV.menL (AV.lendL (qO h (args.flatMap we)) args)).isEmpty with
  | true=>(G.2 (AV.lendL (qO h (args.flatMap we)) args) []).bind fun r=>(match r with
   | (.vec 0,[.vec e sh l])=>.leaf (.vec k,(qO h (args.flatMap we)).set k (.vec e sh l))
   | _=>.fail)
  | false=>.fail)
 | none=>.fail
def qt5(E:Env)(h:List Blk)(t:TypeId)(k:Nat):Tree (AV×List Blk):=
 match qeD E t with
 | some z=>(match z.menB.isEmpty with
  | true=>.leaf (.ptr k 0,h.set k z)
  | false=>.fail)
 | none=>.fail
def quu(E:Env)(h:List Blk)(t:TypeId)(s x:AV)(k:Nat):Tree (AV×List Blk) :=
  match (E.ty t).d with
  | .slice e es=>(match E.shape 16 e,vT h x with
    | some sh,some (sh',m) =>
      if (sh.length = es /\ 0 < es /\ (E.ty e).zero.length = es) /\ Sh.beqL sh sh' = true then
        (match s with
        | .nils=>.br (ile (qk m) (qpV (E.ty e).bytes)) (.leaf (.vec k,(yG h x).set k (.vec e sh m))) .fail
        | .vec b=>(match h[b]? with
          | some (.vec e' sh'' l)=>if (Sh.beqL sh sh''=true/\e=e')/\qwX b x=true then
              .br (ile (qk l+qk m) (qpV (E.ty e).bytes)) (.leaf (.vec k,((yG h x).set b .dead).set k (.vec e sh (uV l m)))) .fail else .fail
          | _=>.fail)
        | .full sh'' l=>if Sh.beqL sh sh''=true then
            .br (ilt 0 (qk m)) (.br (ile (qk l+qk m) (qpV (E.ty e).bytes)) (.leaf (.vec k,(yG h x).set k (.vec e sh (uV l m)))) .fail) .fail else .fail
        | _=>.fail) else .fail
    | _,_=>.fail)
  | _=>.fail
def qrq:Option Blk->Bool
 | some .dead=>true
 | _=>false
def qwM(E:Env)(h:List Blk)(ts:List TypeId)(azz:List AV)(k:Nat):Tree (AV×List Blk):=
 match ts,azz with
 | [t,t'],[s,x]=>if t=t' then quu E h t s x k else .fail
 | _,_=>.fail
def qsK(E:Env)(h:List Blk)(ev:Operand->AV)(op:Op)(k:Nat):Tree (AV×List Blk):=
 match qld op with
 | some (f,xs)=>(match qGs E f with
  | some e=>qrc E h e (xs.map ev) k
  | none=>qB9 E h f (xs.map ev) k)
 | none=>.fail
def q5f(E:Env)(callS:List Blk->q75)(h:List Blk)(ev:Operand->AV)(op:Op)(k:Nat):Tree (AV×List Blk):=
 match qpU E op with
 | false=>(match qjH E h ev op with
  | true=>(qlJ E h ev op).bind fun r=>(match Nat.beq r.2.length h.length with
   | true=>.leaf r
   | false=>.fail)
  | false=>(qcG E (callS h) h ev op).bind fun v=>.leaf (v,h))
 | true=>(match qrq h[k]? with
  | true=>(match op with
   | .buildSlice _ _ _=>(qhP E h ev op).bind fun r=>.leaf (.vec k,h.set k r.2)
   | .alloc t=>qt5 E h t k
   | .call { callee:=.builtin .append,args:=args,argTypes:=tys }=>qwM E h tys.toList (args.toList.map ev) k
   | op=>qsK E h ev op k)
  | false=>.fail)
def vW(E:Env)(h:List Blk)(ev:Operand->AV)(op:Op)(k:Nat)(v:AV)(g:List Blk):LDesc:=
 match qpU E op with
 | true=>⟨some k,some (k::qpQ ev op),k::qpQ ev op,v.men++qwz g (k::qpQ ev op)⟩
 | false=>(match qjH E h ev op with
  | true=>⟨none,some (qBP h ev op++qvX h ev op),qvX h ev op,v.men++qwz g (qvX h ev op)⟩
  | false=>⟨none,qGw E ev op,[],v.men⟩)
def qEc(w:List Nat)(r:Option (List Nat)):Bool:=
 match w with
 | []=>true
 | w=>(match r with
  | some l=>w.all fun b=>!l.contains b
  | none=>false)
def qIb(s:Option Nat)(v:List Nat):Bool:=
 match s with
 | some k=>v.contains k
 | none=>false
def qgh(anc:List Nat)(x:Nat×LDesc)(k:Nat)(d:LDesc):Bool:=!qIb d.s x.2.v&&(qGT anc k x.1||(!qIb x.2.s d.v&&(qEc x.2.w d.r&&qEc d.w x.2.r)))
def qvn(E:Env)(callS:List Blk->q75)(all:Array Oper)(anc:List Nat):Nat->List Oper->Nat->List (Nat×LDesc)->St->Tree St
 | _,[],_,_,st=>.leaf st
 | k,o::rest,c,ds,st=>match q6b all o st.t with
  | some true=>(q5f E callS st.h (E.opd st.t) o.op c).bind fun r=>
    (match ((vW E st.h (E.opd st.t) o.op c r.1 r.2).v.all fun b=>Nat.blt b st.h.length)&&ds.all fun x=>qgh anc x k (vW E st.h (E.opd st.t) o.op c r.1 r.2) with
    | true=>(qpY all k o { st with t:=qhQ st.t o.dst r.1,h:=r.2 }).bind (qvn E callS all anc (k+1) rest (match qpU E o.op with|true=>c+1|false=>c) (ds++[(k,vW E st.h (E.opd st.t) o.op c r.1 r.2)]))
    | false=>.fail)
  | some false=>qvn E callS all anc (k+1) rest c ds (qBL o st)
  | none=>.fail
def qIJ(E:Env)(l:List Oper):Nat:=(l.filter fun o=>qpU E o.op).length
def qA5(E:Env)(callH:q8G)(callS:List Blk->q75)(all:Array Oper)(st:St):Tree St:=
 if qAO all=false then .fail else
 (qvn E callS all (qfx all.toList) 0 (all.toList.take (kT all)) st.h.length [] { st with h:=st.h++List.replicate (qIJ E (all.toList.take (kT all))) .dead }).bind fun r=>
  qjg E callH all (kT all) (all.toList.drop (kT all)) r
def zQ:Code->Nat
 | .seq a b=>1+zQ a+zQ b
 | .cond _ a b=>zQ a+zQ b
 | .block _ c=>zQ c
 | .scope c=>zQ c
 | .loop c=>1+zQ c
 | .rangeFunc _ _ a b=>1+zQ a+zQ b
 | _=>0
def q9d(l:List ((Nat×Nat)×(St->Tree (Ex×St))))(f k:Nat):Option (St->Tree (Ex×St)):=
 match l with
 | []=>none
 | x::l=>if Nat.beq x.1.1 f&&Nat.beq x.1.2 k then some x.2 else q9d l f k
def qhi(l:List (FuncId×FuncId×Nat))(g:Nat):Option (FuncId×Nat):=
 match l with
 | []=>none
 | x::l=>if Nat.beq x.1 g then some x.2 else qhi l g
def qrv(l:List (FuncId×FuncId×Nat))(g f k:Nat):Bool:=match qhi l g with
 | some y=>Nat.beq y.1 f&&Nat.beq y.2 k
 | none=>false
def q84(l:List (FuncId×FuncId×Nat))(f:Nat):Bool:=match qhi l f with
 | some _=>false
 | none=>true
def qoI(t:List AV):List Tmp->List AV->List AV
 | d::ds,v::vs=>qoI (t.set d v) ds vs
 | _,_=>t
def qtm(evA evB:St->Tree (Ex×St))(ps:List Tmp):qyD:=fun args st=>
 match st.pend,st.fs with
 | none,ct::fs=>(match Nat.beq args.length ps.length with
  | true=>(evA { t:=qoI ct ps args,fs:=st.t::ct::fs,h:=st.h,pend:=none }).bind fun r=>(match r.1 with
   | .normal=>(evB r.2).bind fun q=>(match q.2.fs with
    | it::fs'=>(match q.1 with
     | .normal=>.leaf (.blit true,{ t:=it,fs:=fs',h:=q.2.h,pend:=none })
     | .ret=>.leaf (.blit false,{ t:=it,fs:=fs',h:=q.2.h,pend:=some .ret })
     | .exit i=>.leaf (.blit false,{ t:=it,fs:=fs',h:=q.2.h,pend:=some (.exit i) }))
    | []=>.fail)
   | _=>.fail)
  | false=>.fail)
 | _,_=>.fail
def qww(st:St):Bool:=match st.fs,st.pend with
 | [[]],none=>AV.noYL st.t&&st.h.all Blk.noY
 | _,_=>false
def qBT(r:AV×St):Tree (Ex×St):=match qww { r.2 with pend:=none } with
 | true=>(match r.2.pend with
  | none=>.leaf (.normal,{ r.2 with pend:=none })
  | some .ret=>.leaf (.ret,{ r.2 with pend:=none })
  | some (.exit i)=>.leaf (.exit i,{ r.2 with pend:=none })
  | some .normal=>.fail)
 | false=>.fail
def uOf:AV->Option (Sh×U)
 | .str s=>some (.str,.s s)
 | .int k n=>some (.int k,.i n)
 | .ilit k n=>some (.int k,.i n)
 | .bool b=>some (.bool,.b b)
 | .blit b=>some (.bool,.b b)
 | .imm sh l=>some (.sl sh,.l l)
 | _=>none
def qHM:List AV->Option (List Sh×List U)
 | []=>some ([],[])
 | a::l=>match uOf a,qHM l with
  | some (s,u),some (ss,us)=>some (s::ss,u::us)
  | _,_=>none
def qHn(b:Nat)(sh:List Sh)(row:List U):AV->AV
 | .ptr b' off=>if Nat.beq b' b then .eptr sh [row] 0 off else .ptr b' off
 | a=>a
def qBm(ni b:Nat)(st:St):St:=
 match st.h[b]? with
 | some (.cells cs)=>(match qHM cs,Nat.ble ni b with
  | some (sh,row),true=>{ st with t:=st.t.map (qHn b sh row),h:=st.h.set b .dead }
  | _,_=>st)
 | _=>st
def qzu:AV->Option Nat
 | .ptr b _=>some b
 | _=>none
def qHq(o:Oper)(i:Nat):Bool:=match o.dst with
 | some j=>Nat.beq i j
 | none=>false
def qFF(E:Env)(ops:List Oper)(t:List AV):Option Nat:=
 ops.findSome? fun o=>match o.op with
  | .slice ty (.tmp i) _ _ _=>(match (E.ty ty).d with
   | .array n e _=>(match (E.ty e).d,Nat.ble n 16 with
    | .str,true=>(match ops.findSome? fun q=>if qHq q i then (match q.op with|.fieldAddr _ (.tmp j) _=>some j|_=>none) else none with
     | some j=>qzu (t.getD j .undef)
     | none=>qzu (t.getD i .undef))
    | _,_=>none)
   | _=>none)
  | .makeFunc (.func f) _ caps=>(match E.raws.contains (f+1000000) with
   | true=>caps.toList.findSome? fun x=>(match x with
    | .tmp i=>qzu (t.getD i .undef)
    | _=>none)
   | false=>none)
  | _=>none
def qr4(E:Env)(ops:List Oper)(st:St):St:=
 match qFF E ops st.t with
 | some b=>qBm E.nimp b st
 | none=>st
def yF(E:Env)(callH:q8G)(callS:List Blk->q75)(rangeH:qdA)(f:FuncId):Code->Nat->St->Tree (Ex×St)
 | .skip,_,st=>.leaf (.normal,st)
 | .label _,_,st=>.leaf (.normal,st)
 | .region _ ops draw,_,st=>((match draw with
   | true=>qA5 E callH callS ops (qr4 E ops.toList st)
   | false=>qjg E callH ops 0 ops.toList (qr4 E ops.toList st)):Tree St).bind fun s=>.leaf (.normal,s)
 | .seq a b,k,st=>match q9d E.loops f k with
  | some L=>L st
  | none=>(yF E callH callS rangeH f a (k+1) st).bind fun r=>match r.1 with
   | .normal=>yF E callH callS rangeH f b (k+1+zQ a) r.2
   | e=>.leaf (e,r.2)
 | .cond c a b,k,st=>match E.opd st.t c with
  | .blit true=>yF E callH callS rangeH f a k st
  | .blit false=>yF E callH callS rangeH f b (k+zQ a) st
  | .bool x=>match c with
   | .tmp d=>.br x (yF E callH callS rangeH f a k { st with t:=st.t.set d (.blit true) }) (yF E callH callS rangeH f b (k+zQ a) { st with t:=st.t.set d (.blit false) })
   | _=>.fail
  | _=>.fail
 | .block id c,k,st=>(yF E callH callS rangeH f c k st).bind fun r=>match r.1 with
  | .exit i=>if i=id then .leaf (.normal,r.2) else .leaf (.exit i,r.2)
  | e=>.leaf (e,r.2)
 | .loop _,k,st=>match q9d E.loops f k with
  | some L=>L st
  | none=>.fail
 | .exit id,_,st=>.leaf (.exit id,st)
 | .ret,_,st=>.leaf (.ret,st)
 | .rangeFunc x ps a b,k,st=>(match E.opd st.t x with
  | .fn g first caps=>(match qrv E.iter g f k&&q84 E.iter f&&qww st with
   | true=>(rangeH g (qtm (yF E callH callS rangeH f a (k+1)) (yF E callH callS rangeH f b (k+1+zQ a)) ps.toList) (first++[.yld]++caps) st).bind qBT
   | false=>.fail)
  | _=>.fail)
 | _,_,_=>.fail
def qmU(E:Env)(h:List Blk)(t:List AV):List ResultVar->Option (List AV)
 | []=>some []
 | .tmp i::l=>match qmU E h t l with|some r=>some (t.getD i .undef::r)|none=>none
 | .cell a ty::l=>match (qf5 E h ty (t.getD a .undef)),qmU E h t l with
  | .leaf (v,_,_),some r=>some (v::r)
  | _,_=>none
def qCg:List AV->AV
 | [v]=>v
 | l=>.tuple l
def qDZ(E:Env)(fn:Func)(r:Ex×St):Tree (AV×St):=
 match r.1 with
 | .exit _=>.fail
 | _=>match qmU E r.2.h r.2.t fn.results.toList,r.2.fs with
  | some vs,caller::fs=>.leaf (qCg vs,{ t:=caller,fs:=fs,h:=r.2.h,pend:=r.2.pend })
  | _,_=>.fail
def qyy(fn:Func)(args:List AV):List AV:=args++List.replicate (fn.ntmps-args.length) .skip
def q9L(E:Env)(h:List Blk):q75:=fun f args=>
 match E.spec.find? fun x=>x.1==f with
 | none=>.fail
 | some G=>if (args.flatMap we).all (qjf h)/\(AV.menL (AV.lendL h args)).isEmpty then
   (G.2 (AV.lendL h args) []).bind fun r=>match r.2 with|[]=>if (r.1.men).isEmpty then .leaf r.1 else .fail|_=>.fail
  else .fail
def qqY(E:Env)(h:List Blk)(all:Array Oper):Nat->List Oper->List AV->Tree (List AV)
 | _,[],t=>.leaf t
 | k,o::rest,t=>match q6b all o t with
  | some true=>(match qcp E o.op with
   | true=>(qny E h (E.opd t) o.op).bind fun r=>(qpY all k o { t:=qhQ t o.dst r.1,fs:=[],h:=h,pend:=none }).bind fun s=>qqY E h all (k+1) rest s.t
   | false=>.fail)
  | some false=>qqY E h all (k+1) rest (qhQ t o.dst .skip)
  | none=>.fail
def q29(E:Env)(h:List Blk)(f:FuncId):Code->Nat->List AV->Tree (Ex×List AV)
 | .skip,_,t=>.leaf (.normal,t)
 | .label _,_,t=>.leaf (.normal,t)
 | .region _ ops draw,_,t=>(match draw with
  | true=>.fail
  | false=>(match qFF E ops.toList t with
   | some _=>.fail
   | none=>(qqY E h ops 0 ops.toList t).bind fun t=>.leaf (.normal,t)))
 | .seq a b,k,t=>(match q9d E.loops f k with
  | some _=>.fail
  | none=>(q29 E h f a (k+1) t).bind fun r=>match r.1 with
   | .normal=>q29 E h f b (k+1+zQ a) r.2
   | e=>.leaf (e,r.2))
 | .cond c a b,k,t=>(match E.opd t c with
  | .blit true=>q29 E h f a k t
  | .blit false=>q29 E h f b (k+zQ a) t
  | .bool x=>(match c with
   | .tmp d=>.br x (q29 E h f a k (t.set d (.blit true))) (q29 E h f b (k+zQ a) (t.set d (.blit false)))
   | _=>.fail)
  | _=>.fail)
 | .block id c,k,t=>(q29 E h f c k t).bind fun r=>match r.1 with
  | .exit i=>if i=id then .leaf (.normal,r.2) else .leaf (.exit i,r.2)
  | e=>.leaf (e,r.2)
 | .exit id,_,t=>.leaf (.exit id,t)
 | .ret,_,t=>.leaf (.ret,t)
 | _,_,_=>.fail
def qwj(E:Env)(h:List Blk)(f:FuncId)(fn:Func)(args:List AV):Tree AV:=
 match fn.body with
 | none=>.fail
 | some c=>(q29 E h f c 0 (qyy fn args)).bind fun r=>match r.1 with
  | .exit _=>.fail
  | _=>(match qmU E h r.2 fn.results.toList with
   | some vs=>.leaf (qCg vs)
   | none=>.fail)
def q7W(E:Env)(h:List Blk):q75:=fun f args=>
 match E.spec.find? fun x=>x.1==f with
 | some _=>q9L E h f args
 | none=>(match E.body.find? fun x=>x.1==f with
  | some fn=>(match q84 E.iter f with
   | true=>qwj E h f fn.2 args
   | false=>.fail)
  | none=>.fail)
def qsY:List Blk->q75:=fun _ _ _=>.fail
def qs1(E:Env)(callS:List Blk->q75)(callH:q8G)(rangeH:qdA)(f:FuncId)(fn:Func)(args:List AV)(st:St):Tree (AV×St):=
 match fn.body with
 | none=>.fail
 | some c=>(yF E callH callS rangeH f c 0 { t:=qyy fn args,fs:=st.t::st.fs,h:=st.h,pend:=st.pend }).bind (qDZ E fn)
def qxX(E:Env)(callH:q8G)(rangeH:qdA)(f:FuncId)(fn:Func)(args:List AV)(st:St):Tree (AV×St):=
 match fn.body with
 | none=>.fail
 | some c=>(yF E callH (q7W E) rangeH f c 0 { t:=qyy fn args,fs:=st.t::st.fs,h:=st.h,pend:=st.pend }).bind (qDZ E fn)
def qry:qdA:=fun _ _ _ _=>.fail
def qiX(E:Env)(callH:q8G):qdA:=fun g y args st=>match E.body.find? fun x=>x.1==g with
 | some fn=>qxX E (qD6 y callH) qry g fn.2 args st
 | none=>.fail
def qAt(_:Env)(_:TypeId)(_:List AV)(_:St):Tree (AV×St):=.fail
def q8T(E:Env):Nat->q8G
  | 0=>fun _ _ _=>.fail
  | n+1=>fun o args st=>match o with
    | none=>.fail
    | some f=>match qGs E f with
     | some e=>qAt E e args st
     | none=>match E.spec.find? fun x=>x.1==f with
      | some G=>q16 G.2 args st
      | none=>match E.body.find? fun x=>x.1==f with
        | some fn=>(match q84 E.iter f with
          | true=>(qxX E (q8T E n) (qiX E (q8T E n)) f fn.2 args st).bind fun r=>.leaf (r.1,{ t:=r.2.t,fs:=r.2.fs,h:=r.2.h,pend:=st.pend })
          | false=>.fail)
        | none=>.fail
def qxp(E:Env)(n:Nat)(f:FuncId)(fn:Func):zE:=fun args h=>match q84 E.iter f with
 | true=>(qxX E (q8T E n) (qiX E (q8T E n)) f fn args { t:=[],fs:=[],h:=h,pend:=none }).bind fun r=>.leaf (r.1,r.2.h)
 | false=>.fail
variable {l:R}{sh:List Sh}{v:Value}{w:World}
theorem Tree.run_bind {α β:Type}(t:Tree α)(f:α->Tree β):(t.bind f).run=t.run.bind fun a=>(f a).run:=by
 induction t with
 | leaf a=>rfl
 | br b t e iht ihe=>cases b<;>simp[Tree.bind,Tree.run,iht,ihe]
 | fail=>rfl
theorem bind_some {α β:Type}{t:Tree α}{f:α->Tree β}{b:β}(h:(t.bind f).run=some b):∃a,t.run=some a/\(f a).run=some b:=by
 rw[Tree.run_bind] at h;cases ht:t.run with
 | none=>rw[ht] at h;cases h
 | some a=>rw[ht] at h;exact⟨a,rfl,h⟩
inductive RepU (w:World) (M:Nat->Prop):Sh->U->Value->Prop
 | int (k:IntKind) (u:U):RepU w M (.int k) u (.int k u.toI)
 | bool (u:U):RepU w M .bool u (.bool u.toB)
 | str (u:U):RepU w M .str u (.string ⟨u.toS.toArray⟩)
 | slnil (row:List Sh) (u:U) (h:u.toR=[]):RepU w M (.sl row) u (.slice none 0 0)
 | sl (row:List Sh) (u:U) (a:Addr) (cap:Nat) (vs:Nat->Nat->Value) (hsp:0<u.toR.length->a.spot=none) (hcap:u.toR.length<=cap)
   (hM:∀r j,r<u.toR.length->j<row.length->M a.block)
   (hc:∀r j,r<u.toR.length->j<row.length->w.cell? ⟨a.block,a.off+r*row.length+j,none⟩=some (vs r j))
   (hr:∀r j (hj:j<row.length),r<u.toR.length->RepU w M row[j] (wy u.toR r j) (vs r j)) :
   RepU w M (.sl row) u (.slice (some a) u.toR.length cap)
def Rows(w:World)(M:Nat->Prop)(sh:List Sh)(l:R)(a:Addr):Prop:=∀r j (hj:j<sh.length),r<l.length->M a.block/\∃v,w.cell? ⟨a.block,a.off+r*sh.length+j,none⟩=some v/\RepU w M sh[j] (wy l r j) v
def qdO(w:World)(M:Nat->Prop)(sh:List Sh)(l:R)(v:Value):Prop:=(v=.slice none 0 0/\l=[])\/∃a cap,v=.slice (some a) l.length cap/\(0<l.length->a.spot=none)/\l.length<=cap/\Rows w M sh l a
theorem qkF {M:Nat->Prop}{row:List Sh}{u:U}(h:RepU w M (.sl row) u v):qdO w M row u.toR v:=by
 cases h with
 | slnil _ _ h=>exact .inl ⟨rfl,h⟩
 | sl _ _ a cap vs hsp hcap hM hc hr=>exact .inr ⟨a,cap,rfl,hsp,hcap,fun r j hj hrr=>⟨hM r j hrr hj,vs r j,hc r j hrr hj,hr r j hj hrr⟩⟩
open Classical in
theorem q9H {M:Nat->Prop}{row:List Sh}(h:qdO w M row l v):RepU w M (.sl row) (.l l) v:=by
 rcases h with⟨rfl,rfl⟩|⟨a,cap,rfl,hsp,hcap,hr⟩
 ·exact .slnil _ _ rfl
 ·exact .sl row (.l l) a cap (fun r j=>if h:∃hj:j<row.length,r<l.length then Classical.choose (hr r j h.1 h.2).2 else undef) hsp hcap
   (fun r j h1 h2=>(hr r j h2 h1).1)
   (fun r j h1 h2=>by rw[dif_pos ⟨h2,h1⟩];exact(Classical.choose_spec (hr r j h2 h1).2).1)
   (fun r j h2 h1=>by rw[dif_pos ⟨h2,h1⟩];exact(Classical.choose_spec (hr r j h2 h1).2).2)
theorem RepU.mono {w w':World}{M M':Nat->Prop}{s:Sh}{u:U}(h:RepU w M s u v)(hM:∀n,M n->M' n) (hw:∀a:Addr,M a.block->w'.cell? a=w.cell? a):RepU w' M' s u v:=by
 induction h with
 | int=>exact .int _ _
 | bool=>exact .bool _
 | str=>exact .str _
 | slnil row u h=>exact .slnil _ _ h
 | sl row u a cap vs hsp hcap h1 hc hr ih=>
  exact .sl row u a cap vs hsp hcap (fun r j h2 h3=>hM _ (h1 r j h2 h3)) (fun r j h2 h3=>by rw[hw ⟨a.block,a.off+r*row.length+j,none⟩ (h1 r j h2 h3)];exact hc r j h2 h3) ih
theorem Rows.mono {w w':World}{M M':Nat->Prop}{a:Addr}(h:Rows w M sh l a)(hM:∀n,M n->M' n) (hw:∀a:Addr,M a.block->w'.cell? a=w.cell? a):Rows w' M' sh l a:=by intro r j hj hr;obtain⟨h1,v,h2,h3⟩:=h r j hj hr;exact⟨hM _ h1,v,by rw[hw ⟨a.block,_,none⟩ h1];exact h2,h3.mono hM hw⟩
theorem qdO.mono {w w':World}{M M':Nat->Prop}(h:qdO w M sh l v)(hM:∀n,M n->M' n) (hw:∀a:Addr,M a.block->w'.cell? a=w.cell? a):qdO w' M' sh l v:=by
 rcases h with h|⟨a,cap,h1,h2,hc,h3⟩
 ·exact .inl h
 ·exact .inr ⟨a,cap,h1,h2,hc,h3.mono hM hw⟩
structure Ctx where
 σ:Nat->Option Nat
 h:List Blk
 w:World
 M:Nat->Prop
 kept:List (Nat×Obj):=[]
 y:Nat:=0
def Ctx.isVec(X:Ctx)(b:Nat)(sh:List Sh)(n:Nat):Prop:=∃e l,(X.h[b]?=some (.vec e sh l)\/X.h[b]?=some (.frz e sh l))/\l.length=n
def qtd(X:Ctx)(b:Nat)(sh:List Sh)(m:Nat)(v:Value):Prop:=
 match X.σ b with
 | none=>∃p,v=.slice p 0 0
 | some n=>∃cap,v=.slice (some ⟨n,0,none⟩) m cap/\m<=cap/\cap<=maxLen/\∃c T fr,X.w.heap[n]?=some (.cells c T fr)/\c.size=cap*sh.length
def q1s(k:IntKind)(l:R):List Value:=l.map fun row=>.int k (row.getD 0 (.i 0)).toI
theorem uo (k:IntKind)(l:R):(q1s k l).length=l.length:=by simp[q1s]
theorem qfH {k:IntKind}{i:Nat}(h:i<l.length):(q1s k l)[i]?=some (.int k (cI l i 0)):=by simp[q1s,cI,wy,h]
mutual
inductive Rep (X:Ctx):AV->Value->Prop
 | undef (v:Value):Rep X .undef v
 | skip:Rep X .skip Go.undef
 | yld:Rep X .yld (.func (.yield X.y) #[] #[])
 | blit (b:Bool):Rep X (.blit b) (.bool b)
 | bool (b:Bool):Rep X (.bool b) (.bool b)
 | ilit (k:IntKind) (n:Int):Rep X (.ilit k n) (.int k n)
 | int (k:IntKind) (n:Int):Rep X (.int k n) (.int k n)
 | str (s:qJb):Rep X (.str s) (.string ⟨s.toArray⟩)
 | nilp:Rep X .nilp (.pointer none)
 | ptr (b off n:Nat) (hb:b<X.h.length) (hσ:X.σ b=some n):Rep X (.ptr b off) (.pointer (some ⟨n,off,none⟩))
 | eptr (sh:List Sh) (l:R) (i:Int) (off:Nat) (a:Addr) (hsp:a.spot=none) (h0:0<=i) (h1:i.toNat<l.length) (hr:Rows X.w X.M sh l a) :
   Rep X (.eptr sh l i off) (.pointer (some ⟨a.block,a.off+i.toNat*sh.length+off,none⟩))
 | mnil (sh:List Sh) (l:R) (i:Int) (off:Nat):Rep X (.mptr false sh l i off) (.pointer none)
 | mptr (sh:List Sh) (l:R) (i:Int) (off:Nat) (a:Addr) (hsp:a.spot=none) (h0:0<=i) (h1:i.toNat<l.length) (hr:Rows X.w X.M sh l a) :
   Rep X (.mptr true sh l i off) (.pointer (some ⟨a.block,a.off+i.toNat*sh.length+off,none⟩))
 | vptr (b:Nat) (i:Int) (off n k:Nat) (hb:b<X.h.length) (hσ:X.σ b=some n)
   (h:∀sh m,X.isVec b sh m->0<=i/\i.toNat<m/\k=i.toNat*sh.length):Rep X (.vptr b i off) (.pointer (some ⟨n,k+off,none⟩))
 | vsub (b:Nat) (i:Int) (n k m c:Nat) (hb:b<X.h.length) (hσ:X.σ b=some n)
   (h:∀sh m',X.isVec b sh m'->0<=i/\i.toNat<=m'/\(k=i.toNat*sh.length\/(m=0/\k=0))/\m=m'-i.toNat):Rep X (.vsub b i) (.slice (some ⟨n,k,none⟩) m c)
 | aptr (b o:Nat) (i:Int) (n:Nat) (hb:b<X.h.length) (hσ:X.σ b=some n) (h0:0<=i):Rep X (.aptr b o i) (.pointer (some ⟨n,o+i.toNat,none⟩))
 | asub (b o N:Nat) (i m:Int) (n k c:Nat) (hb:b<X.h.length) (hσ:X.σ b=some n) (h0:0<=i) (h1:0<=m) (h2:i+m<=N) (hk:k=o+i.toNat\/m=0):Rep X (.asub b o N i m) (.slice (some ⟨n,k,none⟩) m.toNat c)
 | nils:Rep X .nils (.slice none 0 0)
 | imm (sh:List Sh) (l:R) (v:Value) (h:qdO X.w X.M sh l v):Rep X (.imm sh l) v
 | full (sh:List Sh) (l:R) (p:Option Addr) (n:Nat) (h:qdO X.w X.M sh l (.slice p n n)):Rep X (.full sh l) (.slice p n n)
 | vec (b:Nat) (p:Option Addr) (n c:Nat) (hb:b<X.h.length) (h:∀sh m,X.isVec b sh m->qtd X b sh m (.slice p n c)):Rep X (.vec b) (.slice p n c)
 | nilf:Rep X .nilf .nilFunc
 | fn (f:FuncId) (first caps:List AV) (vf vc:List Value) (h1:RepL X first vf) (h2:RepL X caps vc):Rep X (.fn f first caps) (.func (.func f) vf.toArray vc.toArray)
 | agg (cs:List AV) (vs:List Value) (h:RepL X cs vs):Rep X (.agg cs) (.agg vs.toArray)
 | tuple (cs:List AV) (vs:List Value) (h:RepL X cs vs):Rep X (.tuple cs) (.tuple vs.toArray)
 | bagg (cs:List AV) (k:IntKind) (n:Nat) (l:R) (vs:List Value) (h:RepL X cs vs) (hl:l.length=n):Rep X (.bagg cs k n l) (.agg (vs++q1s k l).toArray)
inductive RepL (X:Ctx):List AV->List Value->Prop
 | nil:RepL X [] []
 | cons {a:AV} {v:Value} {azz:List AV} {vs:List Value} (h:Rep X a v) (t:RepL X azz vs):RepL X (a::azz) (v::vs)
end
structure MoveB (X X':Ctx) (b b':Nat):Prop where
 lt:b'<X'.h.length
 σ:X'.σ b'=X.σ b
 vec:∀sh m,X'.isVec b' sh m->X.isVec b sh m
 size:∀sh m,X'.isVec b' sh m->∀n,X.σ b=some n->∀c T fr,X.w.heap[n]?=some (.cells c T fr)->∃c' T' fr',X'.w.heap[n]?=some (.cells c' T' fr')/\c'.size=c.size
structure Move0 (X X':Ctx) (f:Nat->Option Nat):Prop where
 M:∀n,X.M n->X'.M n
 w:∀a:Addr,X.M a.block->X'.w.cell? a=X.w.cell? a
 b:∀b b',b<X.h.length->f b=some b'->MoveB X X' b b'
 y:X'.y=X.y
structure Move (X X':Ctx) (f:Nat->Option Nat):Prop extends Move0 X X' f where
 kept:X'.kept=X.kept
theorem Move.of {X X':Ctx}{f:Nat->Option Nat}(M:∀n,X.M n->X'.M n)(w:∀a:Addr,X.M a.block->X'.w.cell? a=X.w.cell? a)(b:∀b b',b<X.h.length->f b=some b'->MoveB X X' b b') (y:X'.y=X.y:=by rfl) (k:X'.kept=X.kept:=by rfl):Move X X' f:=⟨⟨M,w,b,y⟩,k⟩
mutual
theorem Rep.ren{X X':Ctx}{f:Nat->Option Nat}(hm:Move0 X X' f):∀{av:AV} {v:Value},Rep X av v->Rep X' (av.ren f) v
 | _,_,.undef v=>.undef v
 | _,_,.skip=>.skip
 | _,_,.yld=>by rw[<-hm.y];exact .yld
 | _,_,.blit b=>.blit b
 | _,_,.bool b=>.bool b
 | _,_,.ilit k n=>.ilit k n
 | _,_,.int k n=>.int k n
 | _,_,.str s=>.str s
 | _,_,.nilp=>.nilp
 | _,_,.ptr b off n hb hσ=>by
  unfold AV.ren;cases hf:f b with
  | none=>exact .undef _
  | some b'=>exact .ptr b' off n (hm.b b b' hb hf).lt (by rw[(hm.b b b' hb hf).σ];exact hσ)
 | _,_,.eptr sh l i off a hsp h0 h1 hr=>.eptr sh l i off a hsp h0 h1 (hr.mono hm.M hm.w)
 | _,_,.mnil sh l i off=>.mnil sh l i off
 | _,_,.mptr sh l i off a hsp h0 h1 hr=>.mptr sh l i off a hsp h0 h1 (hr.mono hm.M hm.w)
 | _,_,.vptr b i off n k hb hσ h=>by
  unfold AV.ren;cases hf:f b with
  | none=>exact .undef _
  | some b'=>exact .vptr b' i off n k (hm.b b b' hb hf).lt (by rw[(hm.b b b' hb hf).σ];exact hσ) fun sh m hv=>h sh m ((hm.b b b' hb hf).vec sh m hv)
 | _,_,.vsub b i n k m c hb hσ h=>by
  unfold AV.ren;cases hf:f b with
  | none=>exact .undef _
  | some b'=>exact .vsub b' i n k m c (hm.b b b' hb hf).lt (by rw[(hm.b b b' hb hf).σ];exact hσ) fun sh m' hv=>h sh m' ((hm.b b b' hb hf).vec sh m' hv)
 | _,_,.aptr b o i n hb hσ h0=>by
  unfold AV.ren;cases hf:f b with
  | none=>exact .undef _
  | some b'=>exact .aptr b' o i n (hm.b b b' hb hf).lt (by rw[(hm.b b b' hb hf).σ];exact hσ) h0
 | _,_,.asub b o N i m n k c hb hσ h0 h1 h2 hk=>by
  unfold AV.ren;cases hf:f b with
  | none=>exact .undef _
  | some b'=>exact .asub b' o N i m n k c (hm.b b b' hb hf).lt (by rw[(hm.b b b' hb hf).σ];exact hσ) h0 h1 h2 hk
 | _,_,.nils=>.nils
 | _,_,.imm sh l v h=>.imm sh l v (h.mono hm.M hm.w)
 | _,_,.full sh l p n h=>.full sh l p n (h.mono hm.M hm.w)
 | _,_,.vec b p nn cc hb h=>by
  unfold AV.ren;cases hf:f b with
  | none=>exact .undef _
  | some b'=>
   refine .vec b' p nn cc (hm.b b b' hb hf).lt fun sh m hv=>?_;have h1:=h sh m ((hm.b b b' hb hf).vec sh m hv);unfold qtd at *;rw[(hm.b b b' hb hf).σ];cases hs:X.σ b with
   | none=>rw[hs] at h1;exact h1
   | some n=>
    rw[hs] at h1;obtain⟨cap,e1,e2,e2',c,T,fr,e3,e4⟩:=h1;obtain⟨c',T',fr',e5,e6⟩:=(hm.b b b' hb hf).size sh m hv n hs c T fr e3;exact⟨cap,e1,e2,e2',c',T',fr',e5,e6.trans e4⟩
 | _,_,.nilf=>.nilf
 | _,_,.fn g first caps vf vc h1 h2=>.fn g _ _ vf vc (RepL.ren hm h1) (RepL.ren hm h2)
 | _,_,.agg cs vs h=>.agg _ vs (RepL.ren hm h)
 | _,_,.tuple cs vs h=>.tuple _ vs (RepL.ren hm h)
 | _,_,.bagg cs k n l vs h hl=>.bagg _ k n l vs (RepL.ren hm h) hl
theorem RepL.ren{X X':Ctx}{f:Nat->Option Nat}(hm:Move0 X X' f):∀{av:List AV} {v:List Value},RepL X av v->RepL X' (AV.renL f av) v
 | _,_,.nil=>.nil
 | _,_,.cons h t=>.cons (Rep.ren hm h) (RepL.ren hm t)
end
mutual
theorem AV.ren_some:∀av:AV,av.ren some=av
 | .undef|.skip|.yld|.blit _|.bool _|.ilit _ _|.int _ _|.str _|.nilp|.eptr _ _ _ _|.mptr _ _ _ _ _|.nils|.imm _ _|.full _ _|.nilf=>rfl
 | .ptr _ _=>rfl
 | .vptr _ _ _=>rfl
 | .vsub _ _=>rfl
 | .aptr _ _ _=>rfl
 | .asub _ _ _ _ _=>rfl
 | .vec _=>rfl
 | .fn g first caps=>by simp[AV.ren,AV.renL_some first,AV.renL_some caps]
 | .agg cs=>by simp[AV.ren,AV.renL_some cs]
 | .tuple cs=>by simp[AV.ren,AV.renL_some cs]
 | .bagg cs k n l=>by simp[AV.ren,AV.renL_some cs]
theorem AV.renL_some:∀l:List AV,AV.renL some l=l
 | []=>rfl
 | a::l=>by simp[AV.renL,AV.ren_some a,AV.renL_some l]
end
abbrev Ext(X X':Ctx):Prop:=Move X X' some
theorem Rep.ext {X X':Ctx}(hm:Ext X X'){av:AV}(h:Rep X av v):Rep X' av v:=by have:=h.ren hm.toMove0;rwa [AV.ren_some] at this
theorem RepL.ext {X X':Ctx}(hm:Ext X X'){av:List AV}{v:List Value}(h:RepL X av v):RepL X' av v:=by have:=h.ren hm.toMove0;rwa [AV.renL_some] at this
theorem RepL.length{X:Ctx}:∀{azz:List AV} {vs:List Value},RepL X azz vs->azz.length=vs.length
 | _,_,.nil=>rfl
 | _,_,.cons _ t=>by simp[RepL.length t]
theorem RepL.get{X:Ctx}:∀{azz:List AV} {vs:List Value} (_:RepL X azz vs) (i:Nat) (a:AV),azz[i]?=some a->∃v,vs[i]?=some v/\Rep X a v
 | _,_,.nil,i,a,h=>by simp at h
 | _,_,.cons h _,0,a,e=>by simp at e;subst e;exact⟨_,by simp,h⟩
 | _,_,.cons _ t,i+1,a,e=>by
  obtain⟨v,h1,h2⟩:=RepL.get t i a (by simpa using e);exact⟨v,by simpa using h1,h2⟩
theorem RepL.getD {X:Ctx}{azz:List AV}{vs:List Value}(h:RepL X azz vs)(i:Nat):Rep X (azz.getD i .undef) (vs.getD i Go.undef):=by
 cases e:azz[i]? with
 | none=>
  have:azz.getD i .undef=.undef:=by simp[e]
  rw[this];exact .undef _
 | some a=>
  obtain⟨v,h1,h2⟩:=h.get i a e;simp[e,h1];exact h2
theorem RepL.append{X:Ctx}:∀{azz:List AV} {vs:List Value} {bs:List AV} {us:List Value},RepL X azz vs->RepL X bs us->RepL X (azz++bs) (vs++us)
 | _,_,_,_,.nil,h=>h
 | _,_,_,_,.cons h t,h'=>.cons h (RepL.append t h')
theorem RepL.take{X:Ctx}:∀{azz:List AV} {vs:List Value},RepL X azz vs->∀n,RepL X (azz.take n) (vs.take n)
 | _,_,.nil,n=>by simp;exact .nil
 | _,_,.cons h t,0=>by simp;exact .nil
 | _,_,.cons h t,n+1=>by simp;exact .cons h (RepL.take t n)
theorem RepL.drop{X:Ctx}:∀{azz:List AV} {vs:List Value},RepL X azz vs->∀n,RepL X (azz.drop n) (vs.drop n)
 | _,_,.nil,n=>by simp;exact .nil
 | _,_,.cons h t,0=>by simp;exact .cons h t
 | _,_,.cons h t,n+1=>by simp;exact RepL.drop t n
theorem RepL.set{X:Ctx}{a:AV}{v:Value}(hv:Rep X a v):∀{azz:List AV} {vs:List Value},RepL X azz vs->∀n,RepL X (azz.set n a) (vs.set n v)
 | _,_,.nil,n=>by simp;exact .nil
 | _,_,.cons h t,0=>by simp;exact .cons hv t
 | _,_,.cons h t,n+1=>by simp;exact .cons h (RepL.set hv t n)
def qtW(w:World)(M:Nat->Prop)(sh:List Sh)(l:R)(c:Array Value):Prop:=∀r j (hj:j<sh.length),r<l.length->∃v,c[r*sh.length+j]?=some v/\RepU w M sh[j] (wy l r j) v
theorem qtW.mono {w w':World}{M M':Nat->Prop}{c:Array Value}(h:qtW w M sh l c)(hM:∀n,M n->M' n) (hw:∀a:Addr,M a.block->w'.cell? a=w.cell? a):qtW w' M' sh l c:=by intro r j hj hr;obtain⟨v,h2,h3⟩:=h r j hj hr;exact⟨v,h2,h3.mono hM hw⟩
def jw(X:Ctx)(b:Nat):Blk->Prop
 | .cells cs=>∃n c T,X.σ b=some n/\X.w.heap[n]?=some (.cells c T (0,0))/\RepL X cs c.toList
 | .big cs k N l=>∃n c T vs,X.σ b=some n/\X.w.heap[n]?=some (.cells c T (0,0))/\RepL X cs vs/\c.toList=vs++q1s k l/\l.length=N
 | .vec e sh l=>(X.σ b=none/\l=[])\/∃n c,X.σ b=some n/\X.w.heap[n]?=some (.cells c e (0,0))/\qtW X.w X.M sh l c
 | .frz e sh l=>(X.σ b=none/\l=[])\/∃n c,X.σ b=some n/\X.w.heap[n]?=some (.cells c e (0,0))/\qtW X.w X.M sh l c/\X.M n
 | .dead=>True
def Blk.mut:Blk->Bool
 | .cells _|.vec _ _ _|.big _ _ _ _=>true
 | _=>false
def Blk.solid:Blk->Bool
 | .cells _|.big _ _ _ _=>true
 | _=>false
def Ctx.own(X:Ctx)(b n:Nat):Prop:=X.σ b=some n/\∃k,X.h[b]?=some k/\k.mut=true
structure Base where
 w0:World
 imps:List (Option Nat)
 M0:Nat->Prop
 fs:List (List Value)
 ro:Option Nat:=none
 y:Nat:=0
 pin:Option Ex->List (Nat×Obj):=fun _=>[]
theorem Rep.ext0 {X X':Ctx}(hm:Move0 X X' some){av:AV}(h:Rep X av v):Rep X' av v:=by have:=h.ren hm;rwa [AV.ren_some] at this
theorem RepL.ext0 {X X':Ctx}(hm:Move0 X X' some){av:List AV}{v:List Value}(h:RepL X av v):RepL X' av v:=by have:=h.ren hm;rwa [AV.renL_some] at this
structure HSim (B:Base) (X:Ctx):Prop where
 blk:∀b k,X.h[b]?=some k->jw X b k
 inj:∀b b' n,X.own b n->X.own b' n->b=b'
 notM:∀b n,X.own b n->¬X.M n
 ltM:∀n,X.M n->n<X.w.heap.size
 M0:∀n,B.M0 n->X.M n
 newM:∀n,X.M n->B.M0 n\/B.w0.heap.size<=n
 os:X.w.os=B.w0.os
 tape:X.w.tape=B.w0.tape
 output:X.w.output=B.w0.output
 size:B.w0.heap.size<=X.w.heap.size
 frame:∀n,n<B.w0.heap.size->some n∉B.imps->X.w.heap[n]?=B.w0.heap[n]?
 imps:∀b,b<B.imps.length->X.σ b=(B.imps[b]?).join
 impc:∀b,b<B.imps.length->∃k,X.h[b]?=some k/\k.solid=true
 fresh:∀b n,X.own b n->B.imps.length<=b->B.w0.heap.size<=n
 kept:∀p,p∈X.kept->X.w.heap[p.1]?=some p.2/\(∀c T fr,p.2≠.cells c T fr)/\B.w0.heap.size<=p.1
theorem Ctx.own.lt {B:Base}{X:Ctx}(hs:HSim B X){b n:Nat}(h:X.own b n):n<X.w.heap.size:=by
 obtain⟨h1,k,h2,h3⟩:=h;have:=hs.blk b k h2;cases k with
 | cells cs=>
  obtain⟨n',c,T,e1,e2,_⟩:=this;rw[h1] at e1;cases e1;exact(qJj.1 e2).1
 | big cs k N l=>
  obtain⟨n',c,T,vs,e1,e2,_⟩:=this;rw[h1] at e1;cases e1;exact(qJj.1 e2).1
 | vec e sh l=>
  rcases this with⟨e1,_⟩|⟨n',c,e1,e2,_⟩
  ·rw[h1] at e1;cases e1
  ·rw[h1] at e1;cases e1;exact(qJj.1 e2).1
 | frz e sh l=>cases h3
 | dead=>cases h3
theorem Ctx.own.cells {B:Base}{X:Ctx}(hs:HSim B X){b n:Nat}(h:X.own b n):∃c T fr,X.w.heap[n]?=some (.cells c T fr):=by
 obtain⟨h1,k,h2,h3⟩:=h;have:=hs.blk b k h2;cases k with
 | cells cs=>
  obtain⟨n',c,T,e1,e2,_⟩:=this;rw[h1] at e1;cases e1;exact⟨_,_,_,e2⟩
 | big cs k N l=>
  obtain⟨n',c,T,vs,e1,e2,_⟩:=this;rw[h1] at e1;cases e1;exact⟨_,_,_,e2⟩
 | vec e sh l=>
  rcases this with⟨e1,_⟩|⟨n',c,e1,e2,_⟩
  ·rw[h1] at e1;cases e1
  ·rw[h1] at e1;cases e1;exact⟨_,_,_,e2⟩
 | frz e sh l=>cases h3
 | dead=>cases h3
theorem w8 {n:Nat}{c:Array Value}{T:TypeId}{fr:Nat×Nat}(h:w.heap[n]?=some (.cells c T fr))(off:Nat):w.cell? ⟨n,off,none⟩=c[off]?:=by simp[World.cell?,h]
end Go.Eng

namespace Go.Eng
variable {B:Base}{X:Ctx}{b:Nat}{e:TypeId}{l:R}{sh:List Sh}{w':World}
theorem Blk.mut_ren (f:Nat->Option Nat)(k:Blk):(k.ren f).mut=k.mut:=by cases k<;>rfl
theorem Blk.solid_ren (f:Nat->Option Nat)(k:Blk):(k.ren f).solid=k.solid:=by cases k<;>rfl
theorem Blk.ren_some (k:Blk):k.ren some=k:=by cases k<;>simp[Blk.ren,AV.renL_some]
theorem HSim.hlen (hs:HSim B X):B.imps.length<=X.h.length:=by
 rcases qJl X.h.length B.imps.length with h|h
 ·obtain⟨cs,e,_⟩:=hs.impc X.h.length h;rw[qJC (qJe _)] at e;cases e
 ·exact h
theorem jw.move {X X':Ctx}{f:Nat->Option Nat}(hm:Move0 X X' f){b b':Nat}{k:Blk}(hσ:X'.σ b'=X.σ b)(hw:∀n,X.σ b=some n->X'.w.heap[n]?=X.w.heap[n]?) (h:jw X b k):jw X' b' (k.ren f):=by
 cases k with
 | cells cs=>
  obtain⟨n,c,T,e1,e2,e3⟩:=h;exact⟨n,c,T,by rw[hσ];exact e1,by rw[hw n e1];exact e2,e3.ren hm⟩
 | big cs k N l=>
  obtain⟨n,c,T,vs,e1,e2,e3,e4,e5⟩:=h;exact⟨n,c,T,vs,by rw[hσ];exact e1,by rw[hw n e1];exact e2,e3.ren hm,e4,e5⟩
 | vec e sh l=>
  rcases h with⟨e1,e2⟩|⟨n,c,e1,e2,e3⟩
  ·exact .inl ⟨by rw[hσ];exact e1,e2⟩
  ·exact .inr ⟨n,c,by rw[hσ];exact e1,by rw[hw n e1];exact e2,e3.mono hm.M hm.w⟩
 | frz e sh l=>
  rcases h with⟨e1,e2⟩|⟨n,c,e1,e2,e3,e4⟩
  ·exact .inl ⟨by rw[hσ];exact e1,e2⟩
  ·exact .inr ⟨n,c,by rw[hσ];exact e1,by rw[hw n e1];exact e2,e3.mono hm.M hm.w,hm.M n e4⟩
 | dead=>trivial
theorem jw.ext {X X':Ctx}(hm:Ext X X'){k:Blk}(hσ:X'.σ b=X.σ b)(hw:∀n,X.σ b=some n->X'.w.heap[n]?=X.w.heap[n]?) (h:jw X b k):jw X' b k:=by
 have:=jw.move hm.toMove0 (b':=b) hσ hw h
 rwa [Blk.ren_some] at this
theorem HSim.lt (hs:HSim B X){b n:Nat}{k:Blk}(h:X.h[b]?=some k)(hd:k≠.dead)(hn:X.σ b=some n):n<X.w.heap.size:=by
 have:=hs.blk b k h;cases k with
 | cells cs=>
  obtain⟨n',c,T,e1,e2,_⟩:=this;rw[hn] at e1;cases e1;exact(qJj.1 e2).1
 | big cs k N l=>
  obtain⟨n',c,T,vs,e1,e2,_⟩:=this;rw[hn] at e1;cases e1;exact(qJj.1 e2).1
 | vec e sh l=>
  rcases this with⟨e1,_⟩|⟨n',c,e1,e2,_⟩<;>rw[hn] at e1<;>cases e1;exact(qJj.1 e2).1
 | frz e sh l=>
  rcases this with⟨e1,_⟩|⟨n',c,e1,e2,_⟩<;>rw[hn] at e1<;>cases e1;exact(qJj.1 e2).1
 | dead=>exact absurd rfl hd
def Ctx.pushW(X:Ctx)(k:Blk)(s':Option Nat)(w':World):Ctx:={ σ:=fun b=>if b=X.h.length then s' else X.σ b,h:=X.h++[k],w:=w',M:=X.M,kept:=X.kept,y:=X.y }
structure PushW (X:Ctx) (s':Option Nat) (w':World):Prop where
 old:∀m,m<X.w.heap.size->w'.heap[m]?=X.w.heap[m]?
 size:X.w.heap.size<=w'.heap.size
 os:w'.os=X.w.os
 tape:w'.tape=X.w.tape
 output:w'.output=X.w.output
 new:∀m,s'=some m->X.w.heap.size<=m
theorem wo (w:World)(o:Obj){n:Nat}(h:n<w.heap.size):(w.alloc o).heap[n]?=w.heap[n]?:=by show (w.heap.push o)[n]?=_;rw[Array.getElem?_push,if_neg (by omega)]
theorem wt (w:World)(o:Obj):(w.alloc o).heap[w.heap.size]?=some o:=by show (w.heap.push o)[w.heap.size]?=_;rw[Array.getElem?_push,if_pos rfl]
theorem PushW.alloc (X:Ctx)(o:Obj):PushW X (some X.w.heap.size) (X.w.alloc o):=⟨fun _ h=>wo _ _ h,by simp,rfl,rfl,rfl,fun m h=>by cases h;exact qJe _⟩
theorem PushW.same (X:Ctx):PushW X none X.w:=⟨fun _ _=>rfl,qJe _,rfl,rfl,rfl,fun m h=>by cases h⟩
theorem Ctx.push_ext (hs:HSim B X)(k:Blk){s':Option Nat}(hw:PushW X s' w'):Ext X (X.pushW k s' w'):=by
 refine Move.of (fun _ h=>h) (fun a ha=>qKf (hw.old _ (hs.ltM _ ha))) (fun b b' hb h=>?_);cases h;refine⟨by simp[Ctx.pushW];omega,by simp[Ctx.pushW];omega,fun sh m ⟨e,l,h1,h2⟩=>⟨e,l,?_,h2⟩,fun _ _ _ n hn c T fr hc=>⟨c,T,fr,?_,rfl⟩⟩
 ·simpa[Ctx.pushW,qJp hb] using h1
 ·rw[show (X.pushW k s' w').w=w' from rfl,hw.old _ (qJj.1 hc).1];exact hc
theorem HSim.push (hs:HSim B X){k:Blk}{s':Option Nat}(hw:PushW X s' w')(hk:jw (X.pushW k s' w') X.h.length k):HSim B (X.pushW k s' w'):=by
 have hx:=Ctx.push_ext hs k hw;have hget:∀b k',(X.pushW k s' w').h[b]?=some k'->b<X.h.length/\X.h[b]?=some k'\/b=X.h.length/\k'=k:=by
  intro b k' h;rcases qJl b X.h.length with hb|hb
  ·exact .inl ⟨hb,by simpa[Ctx.pushW,qJp hb] using h⟩
  ·have:(X.h++[k])[b]?=some k':=h;rw[qJz hb] at this;rcases qKR hb with hb'|hb'
   ·rw[<-hb'] at this;simp at this;exact .inr ⟨hb'.symm,this.symm⟩
   ·rw[qJC (by simp;omega)] at this;cases this
 have hσ:∀b,b<X.h.length->(X.pushW k s' w').σ b=X.σ b:=fun b hb=>by simp[Ctx.pushW];omega
 have hσn:(X.pushW k s' w').σ X.h.length=s':=by simp[Ctx.pushW]
 have hown:∀b n,(X.pushW k s' w').own b n->X.own b n\/b=X.h.length/\X.w.heap.size<=n:=by
  intro b n ⟨h1,k',h2,h3⟩;rcases hget b k' h2 with⟨hb,h4⟩|⟨rfl,rfl⟩
  ·exact .inl ⟨by rw[<-hσ b hb];exact h1,k',h4,h3⟩
  ·rw[hσn] at h1;exact .inr ⟨rfl,hw.new n h1⟩
 constructor
 ·intro b k' h;rcases hget b k' h with⟨hb,h4⟩|⟨rfl,rfl⟩
  ·by_cases hd:k'=.dead
   ·subst hd;trivial
   ·exact jw.ext hx (hσ b hb) (fun n hn=>hw.old n (hs.lt h4 hd hn)) (hs.blk b k' h4)
  ·exact hk
 ·intro b b' n h h';rcases hown b n h with h1|⟨g1,g2⟩
  ·rcases hown b' n h' with h2|⟨g3,g4⟩
   ·exact hs.inj b b' n h1 h2
   ·exact absurd (Ctx.own.lt hs h1) (by omega)
  ·rcases hown b' _ h' with h2|⟨g3,_⟩
   ·exact absurd (Ctx.own.lt hs h2) (by omega)
   ·rw[g1,g3]
 ·intro b n h hM;rcases hown b n h with h1|⟨g1,g2⟩
  ·exact hs.notM b n h1 hM
  ·exact absurd (hs.ltM _ hM) (by omega)
 ·intro n h;have:=hs.ltM n h;have:=hw.size;show n<w'.heap.size;omega
 ·exact hs.M0
 ·exact hs.newM
 ·exact hw.os.trans hs.os
 ·exact hw.tape.trans hs.tape
 ·exact hw.output.trans hs.output
 ·have:=hs.size;have:=hw.size;show _<=w'.heap.size;omega
 ·intro n hn hni;have:=hs.size;rw[show (X.pushW k s' w').w=w' from rfl,hw.old _ (by omega)];exact hs.frame n hn hni
 ·intro b hb;have:=hs.hlen;rw[hσ b (by omega)];exact hs.imps b hb
 ·intro b hb;obtain⟨cs,h,hc⟩:=hs.impc b hb;exact⟨cs,by have:=hs.hlen;simpa[Ctx.pushW,qJp (show b<X.h.length by omega)] using h,hc⟩
 ·intro b n h hb;rcases hown b n h with h1|⟨g1,g2⟩
  ·exact hs.fresh b n h1 hb
  ·have:=hs.size;omega
 ·intro p hp;obtain⟨q1,q2,q3⟩:=hs.kept p hp;exact⟨(hw.old _ (qJj.1 q1).1).trans q1,q2,q3⟩
def qfc:Blk->Blk->Prop
 | .cells _,.cells _=>True
 | .big _ _ _ _,.big _ _ _ _=>True
 | .vec e sh l,.vec e' sh' l'=>e=e'/\sh=sh'/\l.length=l'.length
 | _,_=>False
def Ctx.upd(X:Ctx)(b:Nat)(k':Blk)(w':World):Ctx:={ X with h:=X.h.set b k',w:=w' }
structure UpdW (X:Ctx) (n:Nat) (c c':Array Value) (T:TypeId) (w':World):Prop where
 old:X.w.heap[n]?=some (.cells c T (0,0))
 new:w'.heap[n]?=some (.cells c' T (0,0))
 sz:c'.size=c.size
 other:∀m,m≠n->w'.heap[m]?=X.w.heap[m]?
 size:w'.heap.size=X.w.heap.size
 os:w'.os=X.w.os
 tape:w'.tape=X.w.tape
 output:w'.output=X.w.output
theorem UpdW.setRow {n:Nat}{c c':Array Value}{T:TypeId}(h:X.w.heap[n]?=some (.cells c T (0,0)))(hs:c'.size=c.size):UpdW X n c c' T (X.w.setRow n c'):=⟨h,setRow_heap _ _ _ _ _ _ h,hs,fun m hm=>setRow_other _ _ _ _ hm,by simp,rfl,rfl,rfl⟩
theorem q7d {α:Type}{l:List α}{k:α}(hb:b<l.length){b':Nat}{x:α}(h:(l.set b k)[b']?=some x):b'=b/\x=k\/b'≠b/\l[b']?=some x:=by
 rcases Nat.decEq b' b with hne|rfl
 ·right;rw[qJf (qJI hne)] at h;exact⟨hne,h⟩
 ·left;rw[qJv hb] at h;cases h;exact⟨rfl,rfl⟩
theorem qu {α:Type}{l:List α}{x:α}(h:l[b]?=some x):b<l.length:=by
 rcases qJl b l.length with h'|h'
 ·exact h'
 ·rw[qJC h'] at h;cases h
theorem Ctx.upd_ext (hs:HSim B X){b n:Nat}{k k':Blk}{c c':Array Value}{T:TypeId}(hb:X.h[b]?=some k)(hn:X.own b n)(hw:UpdW X n c c' T w') (hk:qfc k k'):Ext X (X.upd b k' w'):=by
 refine Move.of (fun _ h=>h) (fun a ha=>qKf (hw.other _ fun e=>hs.notM b n hn (e▸ha))) (fun b1 b2 hb1 h=>?_);cases h;refine⟨by simpa[Ctx.upd] using hb1,rfl,fun sh m ⟨e,l,h1,h2⟩=>?_,fun _ _ _ m hm c1 T1 fr1 hc1=>?_⟩
 ·simp only[Ctx.upd] at h1;have hbl:=qu hb;rcases h1 with h1|h1
  ·rcases q7d hbl h1 with⟨rfl,rfl⟩|⟨hne,h1⟩
   ·cases k<;>simp[qfc] at hk;obtain⟨rfl,rfl,h3⟩:=hk;exact⟨_,_,.inl hb,by omega⟩
   ·exact⟨e,l,.inl h1,h2⟩
  ·rcases q7d hbl h1 with⟨rfl,rfl⟩|⟨hne,h1⟩
   ·cases k<;>simp[qfc] at hk
   ·exact⟨e,l,.inr h1,h2⟩
 ·by_cases hmn:m=n
  ·subst hmn;rw[hw.old] at hc1;cases hc1;exact⟨c',T,_,hw.new,hw.sz⟩
  ·exact⟨c1,T1,fr1,by rw[show (X.upd b k' w').w=w' from rfl,hw.other m hmn];exact hc1,rfl⟩
theorem HSim.upd (hs:HSim B X){b n:Nat}{k k':Blk}{c c':Array Value}{T:TypeId}(hb:X.h[b]?=some k)(hn:X.own b n)(hw:UpdW X n c c' T w') (hk:qfc k k') (hk':jw (X.upd b k' w') b k'):HSim B (X.upd b k' w'):=by
 have hx:=Ctx.upd_ext hs hb hn hw hk;have hbl:=qu hb;have hmut:k'.mut=true:=by cases k<;>cases k'<;>simp[qfc] at hk<;>rfl
 have hown:∀b1 n1,(X.upd b k' w').own b1 n1->X.own b1 n1:=by
  intro b1 n1 ⟨h1,k1,h2,h3⟩;rcases q7d hbl h2 with⟨rfl,rfl⟩|⟨hne,h2⟩
  ·have:n1=n:=by have:=hn.1;rw[show (X.upd b1 k1 w').σ=X.σ from rfl,this] at h1;exact(qJX h1).symm
   subst this;exact hn
  ·exact⟨h1,k1,h2,h3⟩
 constructor
 ·intro b1 k1 h;rcases q7d hbl h with⟨rfl,rfl⟩|⟨hne,h1⟩
  ·exact hk'
  ·by_cases hd:k1=.dead
   ·subst hd;trivial
   ·refine jw.ext hx rfl (fun m hm=>hw.other m fun e=>?_) (hs.blk b1 k1 h1);subst e;by_cases hm1:k1.mut=true
    ·exact hne (hs.inj b1 b m ⟨hm,k1,h1,hm1⟩ hn)
    ·cases k1 with
     | cells=>exact hm1 rfl
     | big=>exact hm1 rfl
     | vec=>exact hm1 rfl
     | dead=>exact hd rfl
     | frz e sh l=>
      rcases hs.blk b1 _ h1 with⟨e1,_⟩|⟨n1,c1,e1,_,_,e4⟩
      ·rw[hm] at e1;cases e1
      ·rw[hm] at e1;cases e1;exact hs.notM b m hn e4
 ·intro b1 b2 m h1 h2;exact hs.inj b1 b2 m (hown b1 m h1) (hown b2 m h2)
 ·intro b1 m h1 h2;exact hs.notM b1 m (hown b1 m h1) h2
 ·intro m h;have:=hs.ltM m h;simpa[Ctx.upd,hw.size] using this
 ·exact hs.M0
 ·exact hs.newM
 ·exact hw.os.trans hs.os
 ·exact hw.tape.trans hs.tape
 ·exact hw.output.trans hs.output
 ·have:=hs.size;simpa[Ctx.upd,hw.size] using this
 ·intro m hm hni;have:m≠n:=by
   intro e;subst e;rcases qJl b B.imps.length with hlt|hge
   ·have h1:=hs.imps b hlt;rw[hn.1] at h1;rw[qJk hlt] at h1;simp at h1;exact hni (h1▸qJT hlt)
   ·have:=hs.fresh b m hn hge;omega
  rw[show (X.upd b k' w').w=w' from rfl,hw.other m this];exact hs.frame m hm hni
 ·exact hs.imps
 ·intro b1 hb1;obtain⟨cs,h,hc⟩:=hs.impc b1 hb1;by_cases hbb:b1=b
  ·subst hbb;rw[hb] at h;cases h;refine⟨k',by simp[Ctx.upd,qJv hbl],?_⟩;cases k<;>cases k'<;>simp[qfc] at hk<;>simp[Blk.solid] at hc<;>rfl
  ·exact⟨cs,by simpa[Ctx.upd,qJf (qJI hbb)] using h,hc⟩
 ·intro b1 m h1 h2;exact hs.fresh b1 m (hown b1 m h1) h2
 ·intro p hp;obtain⟨q1,q2,q3⟩:=hs.kept p hp;refine⟨(hw.other _ fun e=>?_).trans q1,q2,q3⟩;rw[e,hw.old] at q1;exact q2 _ _ _ (qJX q1).symm
def Ctx.frz(X:Ctx)(b:Nat)(e:TypeId)(sh:List Sh)(l:R):Ctx:={ X with h:=X.h.set b (.frz e sh l),M:=fun m=>X.M m\/X.σ b=some m }
theorem qod (hs:HSim B X){k:Blk}(hb:X.h[b]?=some k)(hk:k.solid=false):B.imps.length<=b:=by
 rcases qJl b B.imps.length with h|h
 ·obtain⟨cs,e,hc⟩:=hs.impc b h;rw[hb] at e;cases e;rw[hk] at hc;cases hc
 ·exact h
theorem Ctx.frz_ext (hb:X.h[b]?=some (.vec e sh l)):Ext X (X.frz b e sh l):=by
 refine Move.of (fun _ h=>.inl h) (fun _ _=>rfl) (fun b1 b2 hb1 h=>?_);cases h;refine⟨by simpa[Ctx.frz] using hb1,rfl,fun sh1 m ⟨e1,l1,h1,h2⟩=>?_,fun _ _ _ m hm c T fr hc=>⟨c,T,fr,hc,rfl⟩⟩;have hbl:=qu hb;rcases h1 with h1|h1
 ·rcases q7d hbl h1 with⟨rfl,h3⟩|⟨hne,h1⟩
  ·cases h3
  ·exact⟨_,_,.inl h1,h2⟩
 ·rcases q7d hbl h1 with⟨rfl,h3⟩|⟨hne,h1⟩
  ·cases h3;exact⟨_,_,.inl hb,h2⟩
  ·exact⟨_,_,.inr h1,h2⟩
theorem HSim.frz (hs:HSim B X)(hb:X.h[b]?=some (.vec e sh l)):HSim B (X.frz b e sh l):=by
 have hx:=Ctx.frz_ext hb;have hbl:=qu hb;have hown:∀b1 n1,(X.frz b e sh l).own b1 n1->b1≠b/\X.own b1 n1:=by
  intro b1 n1 ⟨h1,k1,h2,h3⟩;rcases q7d hbl h2 with⟨rfl,rfl⟩|⟨hne,h2⟩
  ·cases h3
  ·exact⟨hne,h1,k1,h2,h3⟩
 have hob:∀m,X.σ b=some m->X.own b m:=fun m hm=>⟨hm,_,hb,rfl⟩;constructor
 ·intro b1 k1 h;rcases q7d hbl h with⟨rfl,rfl⟩|⟨hne,h1⟩
  ·rcases hs.blk b1 _ hb with h1|⟨n,c,h1,h2,h3⟩
   ·exact .inl h1
   ·exact .inr ⟨n,c,h1,h2,h3.mono hx.M hx.w,.inr h1⟩
  ·exact jw.ext hx rfl (fun _ _=>rfl) (hs.blk b1 k1 h1)
 ·intro b1 b2 m h1 h2;exact hs.inj b1 b2 m (hown b1 m h1).2 (hown b2 m h2).2
 ·intro b1 m h1 h2;rcases h2 with h2|h2
  ·exact hs.notM b1 m (hown b1 m h1).2 h2
  ·exact(hown b1 m h1).1 (hs.inj b1 b m (hown b1 m h1).2 (hob m h2))
 ·intro m h;rcases h with h|h
  ·exact hs.ltM m h
  ·exact Ctx.own.lt hs (hob m h)
 ·intro m h;exact .inl (hs.M0 m h)
 ·intro m h;rcases h with h|h
  ·exact hs.newM m h
  ·exact .inr (hs.fresh b m (hob m h) (qod hs hb rfl))
 ·exact hs.os
 ·exact hs.tape
 ·exact hs.output
 ·exact hs.size
 ·exact hs.frame
 ·exact hs.imps
 ·intro b1 hb1;obtain⟨cs,h,hc⟩:=hs.impc b1 hb1;by_cases hbb:b1=b
  ·subst hbb;rw[hb] at h;cases h;cases hc
  ·exact⟨cs,by simpa[Ctx.frz,qJf (qJI hbb)] using h,hc⟩
 ·intro b1 m h1 h2;exact hs.fresh b1 m (hown b1 m h1).2 h2
 ·exact hs.kept
def Ctx.repl(X:Ctx)(b:Nat)(s':Option Nat)(k':Blk)(w':World):Ctx:={ σ:=fun x=>if x=b then s' else X.σ x,h:=(X.h.set b k').map (Blk.ren (qcb b)),w:=w',M:=X.M,kept:=X.kept,y:=X.y }
structure ReplW (X:Ctx) (b:Nat) (s':Option Nat) (w':World):Prop where
 other:∀m,m<X.w.heap.size->X.σ b≠some m->w'.heap[m]?=X.w.heap[m]?
 same:∀m c T fr,X.σ b=some m->X.w.heap[m]?=some (.cells c T fr)->∃c' T' fr',w'.heap[m]?=some (.cells c' T' fr')/\c'.size=c.size
 size:X.w.heap.size<=w'.heap.size
 os:w'.os=X.w.os
 tape:w'.tape=X.w.tape
 output:w'.output=X.w.output
 at_:s'=X.σ b\/∀m,s'=some m->X.w.heap.size<=m
theorem qnl {k':Blk}{s':Option Nat}(hb:b<X.h.length){b1:Nat}{k1:Blk}(h:(X.repl b s' k' w').h[b1]?=some k1) :b1=b/\k1=k'.ren (qcb b)\/b1≠b/\∃k0,X.h[b1]?=some k0/\k1=k0.ren (qcb b):=by
 simp only[Ctx.repl,qJo] at h;cases h1:(X.h.set b k')[b1]? with
 | none=>rw[h1] at h;cases h
 | some k0=>
  rw[h1] at h;simp only[qJR,qJc] at h;rcases q7d hb h1 with⟨rfl,rfl⟩|⟨hne,h2⟩
  ·exact .inl ⟨rfl,h.symm⟩
  ·exact .inr ⟨hne,k0,h2,h.symm⟩
theorem ql8 {k:Blk}{f:Nat->Option Nat}(h:Blk.vec e sh l=k.ren f\/Blk.frz e sh l=k.ren f):k=.vec e sh l\/k=.frz e sh l:=by
 cases k<;>simp[Blk.ren] at h
 ·exact .inl (by simp[h])
 ·exact .inr (by simp[h])
theorem Ctx.repl_move (hs:HSim B X)(hb:X.h[b]?=some (.vec e sh l)){s':Option Nat}{k':Blk}(hw:ReplW X b s' w'):Move X (X.repl b s' k' w') (qcb b):=by
 have hbl:=qu hb;have hob:∀m,X.σ b=some m->X.own b m:=fun m hm=>⟨hm,_,hb,rfl⟩;refine Move.of (fun _ h=>h) (fun a ha=>qKf (hw.other _ (hs.ltM _ ha) fun hm=>hs.notM b _ (hob _ hm) ha)) (fun b1 b2 hb1 h=>?_);have hne:b1≠b:=by intro e;subst e;simp[qcb] at h
 have:b2=b1:=by simp[qcb,hne] at h;exact h.symm
 subst this;refine⟨by simpa[Ctx.repl] using hb1,by simp[Ctx.repl,hne],fun sh1 m ⟨e1,l1,h1,h2⟩=>?_,fun _ _ _ m hm c T fr hc=>?_⟩
 ·rcases h1 with h1|h1
  ·rcases qnl hbl h1 with⟨h3,_⟩|⟨_,k0,h3,h4⟩
   ·exact absurd h3 hne
   ·rcases ql8 (.inl h4) with rfl|rfl
    ·exact⟨_,_,.inl h3,h2⟩
    ·exact⟨_,_,.inr h3,h2⟩
  ·rcases qnl hbl h1 with⟨h3,_⟩|⟨_,k0,h3,h4⟩
   ·exact absurd h3 hne
   ·rcases ql8 (.inr h4) with rfl|rfl
    ·exact⟨_,_,.inl h3,h2⟩
    ·exact⟨_,_,.inr h3,h2⟩
 ·by_cases hbm:X.σ b=some m
  ·exact hw.same m c T fr hbm hc
  ·exact⟨c,T,fr,by rw[show (X.repl b s' k' w').w=w' from rfl,hw.other m (qJj.1 hc).1 hbm];exact hc,rfl⟩
theorem HSim.repl (hs:HSim B X)(hb:X.h[b]?=some (.vec e sh l)){s':Option Nat}{k':Blk}(hw:ReplW X b s' w') (hk':jw (X.repl b s' k' w') b (k'.ren (qcb b))):HSim B (X.repl b s' k' w'):=by
 have hx:=Ctx.repl_move hs hb (k':=k') hw;have hbl:=qu hb;have hni:=qod hs hb rfl;have hob:∀m,X.σ b=some m->X.own b m:=fun m hm=>⟨hm,_,hb,rfl⟩;have hown:∀b1 n1,(X.repl b s' k' w').own b1 n1->b1≠b/\X.own b1 n1\/b1=b/\s'=some n1:=by
  intro b1 n1 ⟨h1,k1,h2,h3⟩;rcases qnl hbl h2 with⟨rfl,_⟩|⟨hne,k0,h4,rfl⟩
  ·exact .inr ⟨rfl,by simpa[Ctx.repl] using h1⟩
  ·exact .inl ⟨hne,by simpa[Ctx.repl,hne] using h1,k0,h4,by rwa [Blk.mut_ren] at h3⟩
 have hnew:∀m,s'=some m->X.own b m\/X.w.heap.size<=m:=by
  intro m hm;rcases hw.at_ with h|h
  ·exact .inl (hob m (h▸hm))
  ·exact .inr (h m hm)
 constructor
 ·intro b1 k1 h;rcases qnl hbl h with⟨rfl,rfl⟩|⟨hne,k0,h1,rfl⟩
  ·exact hk'
  ·by_cases hd:k0=.dead
   ·subst hd;trivial
   ·refine jw.move hx.toMove0 (by simp[Ctx.repl,hne]) (fun m hm=>hw.other m (hs.lt h1 hd hm) fun hbm=>?_) (hs.blk b1 k0 h1);by_cases hm1:k0.mut=true
    ·exact hne (hs.inj b1 b m ⟨hm,k0,h1,hm1⟩ (hob m hbm))
    ·cases k0 with
     | cells=>exact hm1 rfl
     | big=>exact hm1 rfl
     | vec=>exact hm1 rfl
     | dead=>exact hd rfl
     | frz e sh l=>
      rcases hs.blk b1 _ h1 with⟨e1,_⟩|⟨n1,c1,e1,_,_,e4⟩
      ·rw[hm] at e1;cases e1
      ·rw[hm] at e1;cases e1;exact hs.notM b m (hob m hbm) e4
 ·intro b1 b2 m h1 h2;rcases hown b1 m h1 with⟨n1,g1⟩|⟨n1,g1⟩
  ·rcases hown b2 m h2 with⟨n2,g2⟩|⟨n2,g2⟩
   ·exact hs.inj b1 b2 m g1 g2
   ·rcases hnew m g2 with h3|h3
    ·rw[n2];exact hs.inj b1 _ m g1 h3
    ·exact absurd (Ctx.own.lt hs g1) (by omega)
  ·rcases hown b2 m h2 with⟨n2,g2⟩|⟨n2,g2⟩
   ·rcases hnew m g1 with h3|h3
    ·rw[n1];exact hs.inj _ b2 m h3 g2
    ·exact absurd (Ctx.own.lt hs g2) (by omega)
   ·rw[n1,n2]
 ·intro b1 m h1 h2;rcases hown b1 m h1 with⟨n1,g1⟩|⟨n1,g1⟩
  ·exact hs.notM b1 m g1 h2
  ·rcases hnew m g1 with h3|h3
   ·exact hs.notM _ m h3 h2
   ·exact absurd (hs.ltM m h2) (by omega)
 ·intro m h;have:=hs.ltM m h;have:=hw.size;show m<w'.heap.size;omega
 ·exact hs.M0
 ·exact hs.newM
 ·exact hw.os.trans hs.os
 ·exact hw.tape.trans hs.tape
 ·exact hw.output.trans hs.output
 ·have:=hs.size;have:=hw.size;show _<=w'.heap.size;omega
 ·intro m hm hnm;have h1:=hs.size;have:X.σ b≠some m:=fun e=>by have:=hs.fresh b m (hob m e) hni;omega
  rw[show (X.repl b s' k' w').w=w' from rfl,hw.other m (by omega) this];exact hs.frame m hm hnm
 ·intro b1 hb1;have:b1≠b:=by omega
  simp only[Ctx.repl,this,if_false];exact hs.imps b1 hb1
 ·intro b1 hb1;obtain⟨cs,h,hc⟩:=hs.impc b1 hb1;have hne:b1≠b:=by omega
  exact⟨cs.ren (qcb b),by simp[Ctx.repl,qJf (qJI hne),h],by rw[Blk.solid_ren];exact hc⟩
 ·intro b1 m h1 h2;rcases hown b1 m h1 with⟨n1,g1⟩|⟨n1,g1⟩
  ·exact hs.fresh b1 m g1 h2
  ·rcases hnew m g1 with h3|h3
   ·exact hs.fresh _ m h3 hni
   ·have:=hs.size;omega
 ·intro p hp;obtain⟨q1,q2,q3⟩:=hs.kept p hp;refine⟨(hw.other _ (qJj.1 q1).1 fun e=>?_).trans q1,q2,q3⟩;obtain⟨c,T,fr,hc⟩:=(hob _ e).cells hs;rw[hc] at q1;exact q2 _ _ _ (qJX q1).symm
end Go.Eng

namespace Go.Eng
variable {B:Base}{E:Env}{P:Program}{X:Ctx}{av:AV}{l:R}{sh:List Sh}{t:TypeId}{v:Value}
def Env.tok(E:Env)(P:Program):Prop:=∀x,x∈E.tt->qtw P x.1=x.2
theorem qnz (hE:E.tok P)(t:TypeId):E.ty t=qId\/E.ty t=qtw P t:=by
 unfold Env.ty;cases h:E.tt.find? fun x=>x.1==t with
 | none=>exact .inl rfl
 | some x=>
  have h1:=qKy h;have h2:=hE x (qK7 h);have h3:x.1=t:=by simpa using h1
  right;simp only[qJR,qKq];rw[<-h2,h3]
theorem q0f (hE:E.tok P)(h:(E.ty t).d.known=true) :E.ty t=qtw P t/\∃i d,P.info? t=some i/\P.underlying t=some d/\(E.ty t).d=qCv P d/\(E.ty t).size=i.size/\(E.ty t).bytes=i.bytes:=by
 rcases qnz hE t with h1|h1
 ·rw[h1] at h;cases h
 ·refine⟨h1,?_⟩;rw[h1] at h ⊢;unfold qtw at *;cases hi:P.info? t with
  | none=>rw[hi] at h;cases h
  | some i=>
   rw[hi] at h;cases hd:P.underlying t with
   | none=>rw[hd] at h;cases h
   | some d=>exact⟨i,d,rfl,rfl,by simp,rfl,rfl⟩
theorem q1p (hE:E.tok P){t e:TypeId}{es:Nat}(h:(E.ty t).d=.slice e es):P.underlying t=some (.slice e)/\es=P.cellsOf e:=by obtain⟨_,i,d,_,h2,h3,_⟩:=q0f hE (t:=t) (by rw[h];rfl);rw[h] at h3;cases d<;>simp[qCv] at h3;obtain⟨rfl,rfl⟩:=h3;exact⟨h2,rfl⟩
theorem q7K (hE:E.tok P){t e:TypeId}{n es:Nat}(h:(E.ty t).d=.array n e es):P.underlying t=some (.array n e)/\es=P.cellsOf e:=by obtain⟨_,i,d,_,h2,h3,_⟩:=q0f hE (t:=t) (by rw[h];rfl);rw[h] at h3;cases d<;>simp[qCv] at h3;obtain⟨rfl,rfl,rfl⟩:=h3;exact⟨h2,rfl⟩
theorem q82 (hE:E.tok P){fs:List (Nat×TypeId×Nat)}(h:(E.ty t).d=.struct fs) :∃fields,P.underlying t=some (.struct fields)/\fs=fields.toList.map fun f=>(f.offset,f.type,P.cellsOf f.type):=by obtain⟨_,i,d,_,h2,h3,_⟩:=q0f hE (t:=t) (by rw[h];rfl);rw[h] at h3;cases d<;>simp[qCv] at h3;exact⟨_,h2,h3⟩
theorem qnH (hE:E.tok P){k:IntKind}(h:(E.ty t).d=.int k):P.underlying t=some (.int k):=by obtain⟨_,i,d,_,h2,h3,_⟩:=q0f hE (t:=t) (by rw[h];rfl);rw[h] at h3;cases d<;>simp[qCv] at h3;rw[h2,h3]
theorem qeV (hE:E.tok P)(h:(E.ty t).d=.str):P.underlying t=some .string:=by obtain⟨_,i,d,_,h2,h3,_⟩:=q0f hE (t:=t) (by rw[h];rfl);rw[h] at h3;cases d<;>simp[qCv] at h3;exact h2
theorem qds (hE:E.tok P)(h:(E.ty t).d.known=true)(w:World):(isAgg t).run P w=.ok (E.ty t).d.isAgg w:=by obtain⟨_,i,d,_,h2,h3,_⟩:=q0f hE h;rw[h3];unfold isAgg;rw[qJh,run_underlying h2,qJn];rw[h3] at h;cases d<;>first|rfl|(simp[qCv,TD.known] at h)
theorem qhp (hE:E.tok P)(h:(E.ty t).d.known=true)(w:World):(sizeOf t).run P w=.ok (E.ty t).size w:=by obtain⟨_,i,d,h1,_,_,h4,_⟩:=q0f hE h;simp[sizeOf,typeInfo,h1,h4]
theorem zO (h:0<P.cellsOf t)(w:World):(sizeOf t).run P w=.ok (P.cellsOf t) w:=by
 unfold Program.cellsOf at *;cases h1:P.info? t with
 | none=>rw[h1] at h;simp at h
 | some i=>simp[sizeOf,typeInfo,h1]
def qR(P:Program)(B:Base)(X:Ctx)(m:Sem Next)(r:Res):Prop:=
 ∃nx v X',m.run P X.w=.ok nx X'.w/\(nx=.value v\/(nx=.skip/\v=Go.undef))/\Rep X' r.1 v/\HSim B X' /\
  match r.2.2 with
  | none=>X'.h=r.2.1/\Ext X X'
  | some b=>X'.h=r.2.1.map (Blk.ren (qcb b))/\Move X X' (qcb b)
theorem Ext.refl (X:Ctx):Ext X X:=Move.of (fun _ h=>h) (fun _ _=>rfl) (fun b b' hb h=>by cases h;exact⟨hb,rfl,fun _ _ h=>h,fun _ _ _ _ _ c T fr h=>⟨c,T,fr,h,rfl⟩⟩)
theorem qR.val {m:Sem Next}(hs:HSim B X)(h:m.run P X.w=.ok (.value v) X.w)(hr:Rep X av v):qR P B X m (av,X.h,none):=⟨_,v,X,h,.inl rfl,hr,hs,rfl,Ext.refl X⟩
theorem qeK (l:R)(i:Int)(j:Nat):wy l (i.toNat:Int) j=wy l i j:=by unfold wy;rw[qJq]
theorem qqM {i:Int}{j:Nat}(h:qeS sh l i j=some av)(hj:j<sh.length)(hr:RepU X.w X.M sh[j] (wy l i j) v):Rep X av v:=by
 unfold qeS at h;rw[qJk hj] at h;generalize sh[j]=s at *;cases s with
 | int k=>cases h;cases hr;exact .int _ _
 | bool=>cases h;cases hr;exact .bool _
 | str=>cases h;cases hr;exact .str _
 | sl row=>cases h;exact .imm _ _ _ (qkF hr)
theorem qkk {i:Int}{j:Nat}(h:qeS sh l i j=some av):j<sh.length:=by
 unfold qeS at h;rcases qJl j sh.length with h'|h'
 ·exact h'
 ·rw[qJC h'] at h;cases h
theorem qpD{X:Ctx}{sh:List Sh}{l:R}{i:Int}(g:Nat->Option Value)
  (hg:∀j (hj:j<sh.length),∃v,g j=some v/\RepU X.w X.M sh[j] (wy l i j) v) :
  ∀(n off:Nat) (cs:List AV),qaq sh l i off n=some cs->∃vs:List Value,vs.length=n/\RepL X cs vs/\∀j v,vs[j]?=some v->g (off+j)=some v
 | 0,off,cs,h=>by
  simp[qaq] at h;subst h;exact⟨[],rfl,.nil,fun j v h=>by simp at h⟩
 | n+1,off,cs,h=>by
  simp only[qaq] at h;cases h1:qeS sh l i off with
  | none=>rw[h1] at h;cases h
  | some a=>
   cases h2:qaq sh l i (off+1) n with
   | none=>rw[h1,h2] at h;cases h
   | some r=>
    rw[h1,h2] at h;cases h;obtain⟨vs,e1,e2,e3⟩:=qpD g hg n (off+1) r h2;obtain⟨v,e4,e5⟩:=hg off (qkk h1);refine⟨v::vs,by simp[e1],.cons (qqM h1 (qkk h1) e5) e2,fun j u hj=>?_⟩;cases j with
    | zero=>simp at hj;subst hj;exact e4
    | succ j=>rw[show off+(j+1)=off+1+j by omega];exact e3 j u (by simpa using hj)
theorem qin (hE:E.tok P)(hk:(E.ty t).d.known=true){blk o:Nat}{i:Int}{off:Nat}(hg:∀j (hj:j<sh.length),∃v,X.w.cell? ⟨blk,o+j,none⟩=some v/\RepU X.w X.M sh[j] (wy l i j) v) {r:Res}(h:((if (E.ty t).d.isAgg then (match qaq sh l i off (E.ty t).size with|some cs=>okv X.h (.agg cs)|none=>.fail) else (match qeS sh l i off with|some v=>okv X.h v|none=>.fail)):Tree Res).run=some r) :∃av u,r=(av,X.h,none)/\(loadVar t ⟨blk,o+off,none⟩).run P X.w=.ok u X.w/\Rep X av u:=by
 unfold loadVar;rw[qJh,qds hE hk,qJn];cases ha:(E.ty t).d.isAgg with
 | true=>
  rw[ha] at h;simp only[if_true] at h ⊢;cases hc:qaq sh l i off (E.ty t).size with
  | none=>rw[hc] at h;cases h
  | some cs=>
   rw[hc] at h;cases h;obtain⟨vs,e1,e2,e3⟩:=qpD (fun j=>X.w.cell? ⟨blk,o+j,none⟩) hg _ _ _ hc;refine⟨_,.agg vs.toArray,rfl,?_,.agg cs vs e2⟩;have:=run_loadCells_list (P:=P) X.w ⟨blk,o+off,none⟩ vs (fun j v hj=>by rw[qK0];have:=e3 j v hj;rwa [<-qKT] at this);rw[e1] at this;simp[qhp hE hk,this]
 | false=>
  rw[ha] at h;simp only[qJA,if_false] at h ⊢;cases hc:qeS sh l i off with
  | none=>rw[hc] at h;cases h
  | some v=>
   rw[hc] at h;cases h;obtain⟨u,e1,e2⟩:=hg off (qkk hc);exact⟨_,u,rfl,by simp[e1],qqM hc (qkk hc) e2⟩
theorem qde {h:List Blk}{b:Nat}(hr:vT h (.vec b)=some (sh,l)):∃e,h[b]?=some (.vec e sh l)\/h[b]?=some (.frz e sh l):=by simp only[vT] at hr;split at hr<;>first|(cases hr;rename_i hh;exact⟨_,.inl hh⟩)|(cases hr;rename_i hh;exact⟨_,.inr hh⟩)|cases hr
theorem HSim.rows (hs:HSim B X){b:Nat}{e:TypeId}(h:X.h[b]?=some (.vec e sh l)\/X.h[b]?=some (.frz e sh l)) :(X.σ b=none/\l=[])\/∃n c,X.σ b=some n/\X.w.heap[n]?=some (.cells c e (0,0))/\qtW X.w X.M sh l c:=by
 rcases h with h|h
 ·exact hs.blk b _ h
 ·rcases hs.blk b _ h with h1|⟨n,c,h1,h2,h3,_⟩
  ·exact .inl h1
  ·exact .inr ⟨n,c,h1,h2,h3⟩
theorem qgF (hE:E.tok P)(hs:HSim B X){p:AV}(hv:Rep X p v){r:Res}(h:(qf5 E X.h t p).run=some r):∃av u,r=(av,X.h,none)/\(Instr.loadAt t v).run P X.w=.ok u X.w/\Rep X av u:=by
 unfold qf5 at h;by_cases hk:(E.ty t).d.known=false
 ·simp only[hk,if_true] at h;cases h
 simp only[hk] at h;have hk':(E.ty t).d.known=true:=by simpa using hk
 cases hv with
 | ptr b off n0 hb hσ=>
  simp only at h;cases hh:X.h[b]? with
  | none=>rw[hh] at h;cases h
  | some blk=>
   rw[hh] at h;cases blk with
   | vec=>cases h
   | frz=>cases h
   | dead=>cases h
   | big=>cases h
   | cells cs=>
    simp only at h;obtain⟨n,c,T,e1,e2,e3⟩:=hs.blk b _ hh;rw[hσ] at e1;cases e1;simp only[Instr.loadAt,Instr.sureAddr,qJh,qJN,qJn];unfold loadVar;rw[qJh,qds hE hk',qJn];cases ha:(E.ty t).d.isAgg with
    | true=>
     rw[ha] at h;simp only[if_true] at h ⊢;by_cases hle:off+(E.ty t).size<=cs.length
     ·rw[if_pos hle] at h;cases h;have hlen:=e3.length;have h2:=(e3.drop off).take (E.ty t).size;refine⟨_,_,rfl,?_,.agg _ _ h2⟩;have hl:((c.toList.drop off).take (E.ty t).size).length=(E.ty t).size:=by simp only[qK8,qLd] at *;omega
      have:=run_loadCells_list (P:=P) X.w ⟨n0,off,none⟩ ((c.toList.drop off).take (E.ty t).size) (fun j v hj=>by
       rw[qK0,w8 e2];rw[qKg] at hj;split at hj
       ·rw[qKh] at hj;simpa using hj
       ·cases hj)
      rw[hl] at this;simp[qhp hE hk',this]
     ·rw[if_neg hle] at h;cases h
    | false=>
     rw[ha] at h;simp only[qJA,if_false] at h ⊢;cases hc:cs[off]? with
     | none=>rw[hc] at h;cases h
     | some u=>
      rw[hc] at h;cases h;obtain⟨u',e4,e5⟩:=e3.get off u hc;refine⟨_,u',rfl,?_,e5⟩;have:X.w.cell? ⟨n0,off,none⟩=some u':=by rw[w8 e2];simpa using e4
      simp[this]
 | eptr sh l i off a hsp h0 h1 hr=>
  simp only at h;simp only[Instr.loadAt,Instr.sureAddr,qJh,qJN,qJn];exact qin hE hk' (blk:=a.block) (o:=a.off+i.toNat*sh.length) (fun j hj=>by obtain⟨_,v,e1,e2⟩:=hr i.toNat j hj h1;exact⟨v,e1,by rwa [qeK] at e2⟩) h
 | vptr b i off n0 k0 hb hσ hv=>
  simp only at h;cases hr:vT X.h (.vec b) with
  | none=>rw[hr] at h;cases h
  | some x=>
   obtain⟨sh,l⟩:=x;rw[hr] at h;simp only at h;obtain⟨e,hh⟩:=qde hr;rcases hs.rows hh with⟨e1,rfl⟩|⟨n,c,e1,e2,e3⟩
   ·rw[hσ] at e1;cases e1
   ·rw[hσ] at e1;cases e1;obtain⟨f1,f2,rfl⟩:=hv sh l.length ⟨e,l,hh,rfl⟩;simp only[Instr.loadAt,Instr.sureAddr,qJh,qJN,qJn];exact qin hE hk' (blk:=n0) (o:=i.toNat*sh.length) (fun j hj=>by obtain⟨v,g1,g2⟩:=e3 i.toNat j hj f2;exact⟨v,by rw[w8 e2];exact g1,by rwa [qeK] at g2⟩) h
 | _=>simp only at h;cases h
end Go.Eng

namespace Go.Eng
variable {E:Env}{P:Program}{X:Ctx}{r:Res}{t:TypeId}{v:Value}{w:World}
theorem qR.ofV {B:Base}{m:Sem Value}{av:AV}(hs:HSim B X)(h:m.run P X.w=.ok v X.w)(hr:Rep X av v) :qR P B X (do pure (.value (<-m))) (av,X.h,none):=qR.val (v:=v) hs (by simp[h]) hr
theorem q3K {a:AV}{k:IntKind}{n:Int}(hr:Rep X a v)(h:asI a=some (k,n)):v=.int k n:=by
 cases hr<;>simp[asI] at h
 ·obtain⟨rfl,rfl⟩:=h;rfl
 ·obtain⟨rfl,rfl⟩:=h;rfl
theorem qsW {a:AV}{b:Bool}(hr:Rep X a v)(h:asB a=some b):v=.bool b:=by
 cases hr<;>simp[asB] at h
 ·subst h;rfl
 ·subst h;rfl
theorem qvc {s:qJb}(hr:Rep X (.str s) v):v=.string ⟨s.toArray⟩:=by cases hr;rfl
theorem qqU (X:Ctx)(v:Value):Rep X (jx v) v:=by
 unfold jx;split<;>first|exact .blit _|exact .ilit _ _|exact .nilp|exact .nils|exact .nilf|exact .undef _|skip
 rename_i s;have:Rep X (.str s.data.toList) (.string ⟨s.data.toList.toArray⟩):=.str _;simpa using this
theorem jL(X:Ctx):∀l:List Value,RepL X (l.map jx) l
 | []=>.nil
 | v::l=>.cons (qqU X v) (jL X l)
theorem qG4 (X:Ctx)(v:Value):Rep X (ofV v) v:=by
 unfold ofV;split
 ·rename_i cs;have:Rep X (.agg (cs.toList.map jx)) (.agg cs.toList.toArray):=.agg _ _ (jL X _);simpa using this
 ·exact qqU X v
theorem qd4 {h:List Blk}{k:IntKind}{f:Int->Int->Int}{lit:Bool}{x y:Int}(hr:(q6P h k f lit x y).run=some r)(X:Ctx) :∃av,r=(av,h,none)/\Rep X av (.int k (f x y)):=by
 unfold q6P at hr;split at hr<;>cases hr
 ·exact⟨_,rfl,.ilit _ _⟩
 ·exact⟨_,rfl,.int _ _⟩
theorem qhm {h:List Blk}{f:Int->Int->Bool}{lit:Bool}{x y:Int}(hr:(qz9 h f lit x y).run=some r)(X:Ctx) :∃av,r=(av,h,none)/\Rep X av (.bool (f x y)):=by
 unfold qz9 at hr;split at hr<;>cases hr
 ·exact⟨_,rfl,.blit _⟩
 ·exact⟨_,rfl,.bool _⟩
theorem jm {b:Bool}{t:Tree Res}(h:(Tree.br b t .fail).run=some r):b=true/\t.run=some r:=by
 cases b
 ·cases h
 ·exact⟨rfl,h⟩
theorem qpz (hE:E.tok P)(h:(E.ty t).d=.bool):P.underlying t=some .bool:=by obtain⟨_,i,d,_,h2,h3,_⟩:=q0f hE (t:=t) (by rw[h];rfl);rw[h] at h3;cases d<;>simp[qCv] at h3;exact h2
theorem qxE (hE:E.tok P){t e:TypeId}(h:(E.ty t).d=.ptr e):P.underlying t=some (.pointer e):=by obtain⟨_,i,d,_,h2,h3,_⟩:=q0f hE (t:=t) (by rw[h];rfl);rw[h] at h3;cases d<;>simp[qCv] at h3;rw[h2,h3]
theorem qsO (s t:qJb):(ByteArray.toList ⟨s.toArray⟩==ByteArray.toList ⟨t.toArray⟩)=seq s t:=by rw[ByteArray.toList_eq,ByteArray.toList_eq];rfl
theorem qCB (s t:qJb):Op.bytesLess (ByteArray.toList ⟨s.toArray⟩) (ByteArray.toList ⟨t.toArray⟩)=slt s t:=by rw[ByteArray.toList_eq,ByteArray.toList_eq];rfl
theorem qgA {vx vy:Value}{r:Bool}(h:(Op.equalIn (9999+1) t vx vy).run P w=.ok r w):(Op.equal t vx vy).run P w=.ok r w:=h
theorem qaW {x y:Operand}{vx vy:Value}{r:Bool}(h:(Op.equal t vx vy).run P w=.ok r w)(h1:∀op,eqGuard op t x y vx vy=pure ()) (h2:binOp .eql t vx vy=(do pure (.bool (<-Op.equal t vx vy)))) :(do eqGuard .eql t x y vx vy;binOp .eql t vx vy:Sem Value).run P w=.ok (.bool r) w:=by simp[h1,h2,h]
theorem q7r {x y:Operand}{vx vy:Value}{r:Bool}(h:(Op.equal t vx vy).run P w=.ok r w)(h1:∀op,eqGuard op t x y vx vy=pure ()) (h2:binOp .neq t vx vy=(do pure (.bool (!(<-Op.equal t vx vy))))) :(do eqGuard .neq t x y vx vy;binOp .neq t vx vy:Sem Value).run P w=.ok (.bool (!r)) w:=by simp[h1,h2,h]
theorem qi0 (ht:P.underlying t=some .bool)(a b:Bool)(w:World):(Op.equal t (.bool a) (.bool b)).run P w=.ok (a==b) w:=qgA (run_equalIn_bool' w 9999 t a b ht)
theorem q93 {t e:TypeId}(ht:P.underlying t=some (.pointer e))(w:World):(Op.equal t (.pointer none) (.pointer none)).run P w=.ok true w:=qgA (by rw[Op.equalIn,qJh,run_underlying ht];rfl)
theorem q3i {t e:TypeId}(ht:P.underlying t=some (.pointer e))(a:Addr)(w:World):(Op.equal t (.pointer (some a)) (.pointer none)).run P w=.ok false w:=qgA (by rw[Op.equalIn,qJh,run_underlying ht];rfl)
theorem qg9 {t e:TypeId}(ht:P.underlying t=some (.slice e))(a:Addr)(n c:Nat):(Op.equal t (.slice (some a) n c) (.slice none 0 0)).run P w=.ok false w:=qgA (by rw[Op.equalIn,qJh,run_underlying ht];rfl)
theorem qvg (hE:E.tok P){B:Base}(hs:HSim B X){op:BinOp}{x y:Operand}{ax ay:AV}{vx vy:Value}(hx:Rep X ax vx)(hy:Rep X ay vy)(h:(quR (E.ty t).d X.h op ax ay).run=some r):∃av u,r=(av,X.h,none)/\(do eqGuard op t x y vx vy;binOp op t vx vy:Sem Value).run P X.w=.ok u X.w/\Rep X av u:=by
 unfold quR at h;cases h1:asI ax with
 | some p=>
  obtain⟨k,a⟩:=p;cases h2:asI ay with
  | some q=>
   obtain⟨k',b⟩:=q;rw[h1,h2] at h;simp only at h;have e1:=q3K hx h1;have e2:=q3K hy h2;subst e1 e2;by_cases hk:k=k'
   ·subst hk;simp only[if_true] at h;have hz:∀(f:Int->Int->Int) (lit:Bool),(match ay with
     | .ilit _ c=>if c=0 then Tree.fail else q6P X.h k f lit a b
     | _=>.br (ine b 0) (q6P X.h k f lit a b) .fail).run=some r->b≠0/\(q6P X.h k f lit a b).run=some r:=by
     intro f lit hh;cases ay<;>simp only[asI] at h2<;>cases h2
     ·have hh2:(if b=0 then Tree.fail else q6P X.h k f lit a b).run=some r:=hh;by_cases h0:b=0
      ·rw[if_pos h0] at hh2;cases hh2
      ·rw[if_neg h0] at hh2;exact⟨h0,hh2⟩
     ·obtain⟨g1,g2⟩:=jm hh;exact⟨by simpa[ine] using g1,g2⟩
    cases op with
    | add=>obtain⟨av,e,f⟩:=qd4 h X;exact⟨av,_,e,by simp[eqGuard,binOp,Op.intArith];rfl,f⟩
    | sub=>obtain⟨av,e,f⟩:=qd4 h X;exact⟨av,_,e,by simp[eqGuard,binOp,Op.intArith];rfl,f⟩
    | mul=>obtain⟨av,e,f⟩:=qd4 h X;exact⟨av,_,e,by simp[eqGuard,binOp,Op.intArith];rfl,f⟩
    | quo=>obtain⟨h0,hh⟩:=hz _ _ h;obtain⟨av,e,f⟩:=qd4 hh X;exact⟨av,_,e,by simp[eqGuard,binOp,Op.intDiv,h0];rfl,f⟩
    | rem=>obtain⟨h0,hh⟩:=hz _ _ h;obtain⟨av,e,f⟩:=qd4 hh X;exact⟨av,_,e,by simp[eqGuard,binOp,Op.intDiv,h0];rfl,f⟩
    | eql=>obtain⟨av,e,f⟩:=qhm h X;exact⟨av,_,e,by simp[eqGuard,binOp,Op.intCmp];rfl,f⟩
    | neq=>obtain⟨av,e,f⟩:=qhm h X;exact⟨av,_,e,by simp[eqGuard,binOp,Op.intCmp];rfl,f⟩
    | lss=>obtain⟨av,e,f⟩:=qhm h X;exact⟨av,_,e,by simp[eqGuard,binOp,Op.intCmp];rfl,f⟩
    | leq=>obtain⟨av,e,f⟩:=qhm h X;exact⟨av,_,e,by simp[eqGuard,binOp,Op.intCmp];rfl,f⟩
    | gtr=>obtain⟨av,e,f⟩:=qhm h X;exact⟨av,_,e,by simp[eqGuard,binOp,Op.intCmp];rfl,f⟩
    | geq=>obtain⟨av,e,f⟩:=qhm h X;exact⟨av,_,e,by simp[eqGuard,binOp,Op.intCmp];rfl,f⟩
    | _=>cases h
   ·simp only[hk,if_false] at h;cases h
  | none=>
   rw[h1,h2] at h;cases ax<;>simp[asI] at h1<;>simp[asB] at h<;>cases h
 | none=>
  rw[h1] at h;simp only at h;cases h2:asB ax with
  | some a=>
   cases h3:asB ay with
   | some b=>
    rw[h2,h3] at h;simp only at h;have e1:=qsW hx h2;have e2:=qsW hy h3;subst e1 e2;cases hd:(E.ty t).d<;>rw[hd] at h<;>try (cases h)
    have ht:=qpz hE hd;cases op<;>simp only[okb] at h<;>cases h
    ·exact⟨_,_,rfl,qaW (qi0 ht _ _ _) (fun op=>by cases op<;>rfl) rfl,.bool _⟩
    ·exact⟨_,_,rfl,q7r (qi0 ht _ _ _) (fun op=>by cases op<;>rfl) rfl,.bool _⟩
   | none=>
    rw[h2,h3] at h;cases ax<;>simp[asB] at h2<;>simp only at h<;>cases h
  | none=>
   rw[h2] at h;simp only at h;cases ax with
   | str s=>
    cases ay<;>simp only at h<;>try (cases h)
    rename_i s';obtain rfl:=qvc hx;obtain rfl:=qvc hy;cases op<;>simp only[okb,okv] at h<;>try (cases h)
    ·obtain⟨g1,g2⟩:=jm h;cases g2;refine⟨_,.string ⟨(qdK s s').toArray⟩,rfl,?_,.str _⟩;have g3:(s.length:Int)+s'.length<=140737488355328:=of_decide_eq_true g1;have g4:¬(((ByteArray.mk s.toArray).size+(ByteArray.mk s'.toArray).size:Nat):Int)>IntKind.i64.max:=by
      have:IntKind.i64.max=9223372036854775807:=by decide
      have h1:(ByteArray.mk s.toArray).size=s.length:=rfl;have h2:(ByteArray.mk s'.toArray).size=s'.length:=rfl;omega
     have g5:(ByteArray.mk s.toArray++ByteArray.mk s'.toArray)=⟨(qdK s s').toArray⟩:=by apply ByteArray.ext;simp[qdK]
     simp only[eqGuard,binOp,Op.stringOp,qJh,qJN,qJn,Bool.not_false,if_true,g4,if_false,g5]
    all_goals exact⟨_,_,rfl,by simp only[eqGuard,binOp,Op.stringOp,qsO,qCB];rfl,.bool _⟩
   | nilp=>
    cases ay<;>simp only at h<;>try (cases h)
    cases hd:(E.ty t).d<;>rw[hd] at h<;>try (cases h)
    have ht:=qxE hE hd;cases hx;cases hy;cases op<;>simp only[okv] at h<;>cases h
    ·exact⟨_,_,rfl,qaW (q93 ht _) (fun op=>by cases op<;>rfl) rfl,.blit _⟩
    ·exact⟨_,_,rfl,q7r (q93 ht _) (fun op=>by cases op<;>rfl) rfl,.blit _⟩
   | ptr b o=>
    cases ay<;>simp only at h<;>try (cases h)
    cases hd:(E.ty t).d<;>rw[hd] at h<;>try (cases h)
    have ht:=qxE hE hd;cases hb:X.h[b]? with
    | none=>rw[hb] at h;cases h
    | some k=>
     rw[hb] at h;cases k<;>try (cases h)
     obtain⟨n,c,T,e1,_,_⟩:=hs.blk b _ hb;cases hy;cases hx with
     | ptr _ _ n0 hbl hσ=>
      cases op<;>simp only[okv] at h<;>cases h
      ·exact⟨_,_,rfl,qaW (q3i ht _ _) (fun op=>by cases op<;>rfl) rfl,.blit _⟩
      ·exact⟨_,_,rfl,q7r (q3i ht _ _) (fun op=>by cases op<;>rfl) rfl,.blit _⟩
   | eptr sh l i o=>
    cases ay<;>simp only at h<;>try (cases h)
    cases hd:(E.ty t).d<;>rw[hd] at h<;>try (cases h)
    have ht:=qxE hE hd;cases hy;cases hx;cases op<;>simp only[okv] at h<;>cases h
    ·exact⟨_,_,rfl,qaW (q3i ht _ _) (fun op=>by cases op<;>rfl) rfl,.blit _⟩
    ·exact⟨_,_,rfl,q7r (q3i ht _ _) (fun op=>by cases op<;>rfl) rfl,.blit _⟩
   | imm sh l=>
    cases ay<;>simp only at h<;>try (cases h)
    cases hd:(E.ty t).d<;>rw[hd] at h<;>try (cases h)
    have ht:=q1p hE hd;cases hy;cases hx with
    | imm _ _ _ himm=>
     have hne:ilt 0 (qk l)=true->∃a c,vx=.slice (some a) l.length c:=by
      intro hl;have hl':(0:Int)<qk l:=of_decide_eq_true hl;rcases himm with⟨rfl,rfl⟩|⟨a,cap,rfl,_⟩
      ·simp[qk] at hl'
      ·exact⟨a,cap,rfl⟩
     cases op<;>simp only[okv] at h<;>try (cases h)
     ·obtain⟨g1,g2⟩:=jm h;cases g2;obtain⟨a,c,rfl⟩:=hne g1;exact⟨_,_,rfl,qaW (qg9 ht.1 _ _ _) (fun op=>by cases op<;>rfl) rfl,.blit _⟩
     ·obtain⟨g1,g2⟩:=jm h;cases g2;obtain⟨a,c,rfl⟩:=hne g1;exact⟨_,_,rfl,q7r (qg9 ht.1 _ _ _) (fun op=>by cases op<;>rfl) rfl,.blit _⟩
   | mptr c sh l i o=>
    cases ay<;>simp only at h<;>try (cases h)
    cases hd:(E.ty t).d<;>rw[hd] at h<;>try (cases h)
    have ht:=qxE hE hd;cases hy;cases hx with
    | mnil=>
     cases op<;>simp only[okb] at h<;>cases h
     ·exact⟨_,_,rfl,qaW (q93 ht _) (fun op=>by cases op<;>rfl) rfl,.bool _⟩
     ·exact⟨_,_,rfl,q7r (q93 ht _) (fun op=>by cases op<;>rfl) rfl,.bool _⟩
    | mptr=>
     cases op<;>simp only[okb] at h<;>cases h
     ·exact⟨_,_,rfl,qaW (q3i ht _ _) (fun op=>by cases op<;>rfl) rfl,.bool _⟩
     ·exact⟨_,_,rfl,q7r (q3i ht _ _) (fun op=>by cases op<;>rfl) rfl,.bool _⟩
   | _=>simp only at h;cases h
end Go.Eng

namespace Go.Eng
variable {E:Env}{P:Program}{X:Ctx}{r:Res}{t:TypeId}{v:Value}{w:World}
theorem qyL {op:UnOp}{a:AV}(hv:Rep X a v)(h:(qFy X.h op a).run=some r) :∃av u,r=(av,X.h,none)/\(Op.unary op v).run P X.w=.ok u X.w/\Rep X av u:=by
 unfold qFy at h;cases op<;>cases hv<;>simp only[okv] at h<;>cases h
 ·exact⟨_,_,rfl,rfl,.ilit _ _⟩
 ·exact⟨_,_,rfl,rfl,.int _ _⟩
 ·exact⟨_,_,rfl,rfl,.blit _⟩
 ·exact⟨_,_,rfl,rfl,.bool _⟩
theorem quS (hE:E.tok P){src dst:TypeId}{a:AV}(hv:Rep X a v)(h:(qmN E X.h src dst a).run=some r) :∃av u,r=(av,X.h,none)/\(convert src dst v).run P X.w=.ok u X.w/\Rep X av u:=by
 unfold qmN at h;cases hs:(E.ty src).d<;>rw[hs] at h<;>try (cases h)
 ·rename_i k1;cases hd:(E.ty dst).d<;>rw[hd] at h<;>try (cases h)
  rename_i k2;have e1:=qnH hE hs;have e2:=qnH hE hd;cases hv<;>simp only[okv] at h<;>cases h
  ·refine⟨_,_,rfl,?_,.ilit _ _⟩;simp only[convert,qJh,run_underlying e1,run_underlying e2,qJn];rfl
  ·refine⟨_,_,rfl,?_,.int _ _⟩;simp only[convert,qJh,run_underlying e1,run_underlying e2,qJn];rfl
 ·cases hd:(E.ty dst).d<;>rw[hd] at h<;>try (cases h)
  have e1:=qeV hE hs;have e2:=qeV hE hd;cases hv<;>simp only[okv] at h<;>cases h;refine⟨_,_,rfl,?_,.str _⟩;simp only[convert,qJh,run_underlying e1,run_underlying e2,qJn];rfl
theorem qqm {a:Addr}{f:Field}(h:0<P.cellsOf f.type):(fieldPlace a f).run P w=.ok (a.add f.offset) w:=by
 have:P.cellsOf f.type≠0:=by omega
 simp[fieldPlace,zO h,this]
theorem qlc (hE:E.tok P){s:TypeId}{a:AV}(hv:Rep X a v){f:Nat}(h:(q2M E X.h s a f).run=some r) :∃av u,r=(av,X.h,none)/\(Instr.fieldAt s v f).run P X.w=.ok u X.w/\Rep X av u:=by
 unfold q2M at h;cases hs:(E.ty s).d<;>rw[hs] at h<;>try (cases h)
 rename_i fs;obtain⟨fields,e1,e2⟩:=q82 hE hs;simp only at h;cases hf:fs[f]? with
 | none=>rw[hf] at h;cases h
 | some x=>
  obtain⟨o,t,sz⟩:=x;rw[hf] at h;simp only at h;have hfield:∃fd,fields[f]?=some fd/\fd.offset=o/\P.cellsOf fd.type=sz:=by
   rw[e2,qJo] at hf;cases hg:fields.toList[f]? with
   | none=>rw[hg] at hf;cases hf
   | some fd=>
    rw[hg] at hf;simp only[qJR,qJc,qJO] at hf;exact⟨fd,by simpa using hg,hf.1,hf.2.2⟩
  obtain⟨fd,g1,rfl,g3⟩:=hfield;by_cases hz:sz=0
  ·rw[if_pos hz] at h;cases h
  rw[if_neg hz] at h;have hp:0<P.cellsOf fd.type:=by omega
  have hrun:∀a:Addr,(Instr.fieldAt s (.pointer (some a)) f).run P X.w=.ok (.pointer (some (a.add fd.offset))) X.w:=by intro a;simp[Instr.fieldAt,run_underlying e1,g1,Instr.sureAddr,qqm hp]
  cases hv with
  | ptr b off n hb hσ=>
   simp only[okv] at h;cases h;refine⟨_,_,rfl,hrun _,?_⟩;rw[qK0];exact .ptr _ _ _ hb hσ
  | eptr sh l i off a hsp h0 h1 hr=>
   simp only[okv] at h;cases h;refine⟨_,_,rfl,hrun _,?_⟩;rw[qK0,qKT];exact .eptr _ _ _ _ _ hsp h0 h1 hr
  | vptr b i off n k hb hσ hp=>
   simp only[okv] at h;cases h;refine⟨_,_,rfl,hrun _,?_⟩;rw[qK0,qKT];exact .vptr _ _ _ _ _ hb hσ hp
  | _=>simp only at h;cases h
theorem q5s (hE:E.tok P){cs:List AV}{vs:List Value}(hv:RepL X cs vs){off:Nat}{a:AV}(h:qf1 E t cs off=some a) (w:World):∃u,(part t vs.toArray off).run P w=.ok u w/\Rep X a u:=by
 unfold qf1 at h;by_cases hk:(E.ty t).d.known=false
 ·simp only[hk,if_true] at h;cases h
 simp only[hk] at h;have hk':(E.ty t).d.known=true:=by simpa using hk
 unfold part;rw[qJh,qds hE hk',qJn];cases ha:(E.ty t).d.isAgg with
 | true=>
  rw[ha] at h;simp only[if_true] at h ⊢;by_cases hle:off+(E.ty t).size<=cs.length
  ·have h':(some (AV.agg ((cs.drop off).take (E.ty t).size)):Option AV)=some a:=by simpa[hle] using h
   cases h';refine⟨.agg ((vs.drop off).take (E.ty t).size).toArray,?_,.agg _ _ ((hv.drop off).take _)⟩;rw[qJh,qhp hE hk',qJn,qJN];congr 2;apply qKz;simp[List.extract,Nat.add_sub_cancel_left]
  ·simp[hle] at h
 | false=>
  rw[ha] at h;simp only[qJA,if_false] at h ⊢;obtain⟨u,e1,e2⟩:=hv.get off a h;exact⟨u,by simp[e1],e2⟩
theorem qrp {h:List Blk}{cs:List AV}{off:Nat}(hr:(qgH E h t cs off).run=some r):∃a,qf1 E t cs off=some a/\r=(a,h,none):=by
 unfold qgH at hr;cases hp:qf1 E t cs off with
 | none=>rw[hp] at hr;cases hr
 | some a=>rw[hp] at hr;cases hr;exact⟨a,rfl,rfl⟩
theorem qt9 (hE:E.tok P){s:TypeId}{a:AV}(hv:Rep X a v){f:Nat}(h:(qfG E X.h s a f).run=some r) :∃av u,r=(av,X.h,none)/\(Instr.field s v f).run P X.w=.ok u X.w/\Rep X av u:=by
 unfold qfG at h;cases hs:(E.ty s).d<;>rw[hs] at h<;>try (cases h)
 rename_i fs;obtain⟨fields,e1,e2⟩:=q82 hE hs;cases hv<;>simp only at h<;>try (cases h)
 rename_i cs vs hv;cases hf:fs[f]? with
 | none=>rw[hf] at h;cases h
 | some x=>
  obtain⟨o,t,sz⟩:=x;rw[hf] at h;simp only at h;rw[e2,qJo] at hf;cases hg:fields.toList[f]? with
  | none=>rw[hg] at hf;cases hf
  | some fd=>
   rw[hg] at hf;simp only[qJR,qJc,qJO] at hf;obtain⟨rfl,rfl,_⟩:=hf;obtain⟨a,h1,rfl⟩:=qrp h;obtain⟨u,h2,h3⟩:=q5s hE hv h1 X.w;have hg':fields[f]?=some fd:=by simpa using hg
   exact⟨_,u,rfl,by simp[Instr.field,run_underlying e1,hg',asAgg,h2],h3⟩
theorem qjq {i n:Int}(h:inb i n=true):0<=i/\i<n:=by simpa[inb] using h
theorem q0g {i n:Int}(h:q7y i n=true):0<=i/\i<=n:=by simpa[q7y] using h
theorem qdG {t e:TypeId}{a:Addr}{n c:Nat}{k:IntKind}{i:Int}(ht:P.underlying t=some (.slice e))(hp:0<P.cellsOf e)(h0:0<=i)(h1:i<n) :(Instr.indexAt t (.slice (some a) n c) (.int k i)).run P w=.ok (.pointer (some (a.add (i.toNat*P.cellsOf e)))) w:=by simp[Instr.indexAt,asIntOf,run_underlying ht,h0,h1,zO hp]
theorem q0z {t e:TypeId}{a:Addr}{n:Nat}{k:IntKind}{i:Int}(ht:P.underlying t=some (.array n e))(hp:0<P.cellsOf e)(h0:0<=i)(h1:i<n) :(Instr.indexAt t (.pointer (some a)) (.int k i)).run P w=.ok (.pointer (some (a.add (i.toNat*P.cellsOf e)))) w:=by simp[Instr.indexAt,asIntOf,run_underlying ht,h0,h1,zO hp,Instr.sureAddr]
theorem Addr.add_of {a:Addr}(h:a.spot=none)(n:Nat):a.add n=⟨a.block,a.off+n,none⟩:=by obtain⟨b,o,s⟩:=a;subst h;exact qK0 b o n
theorem qj4{h:List Blk}{i:Int}{f:Nat->AV}{r:Res}:∀n,(qgv h i f n).run=some r->∃m:Nat,m<n/\i=m/\r=(f m,h,none)
 | 0,h=>by cases h
 | n+1,hr=>by
  simp only[qgv,Tree.run] at hr;cases hb:ieq i n with
  | true=>
   rw[hb] at hr;cases hr;exact⟨n,qL4 n,by simpa[ieq] using hb,rfl⟩
  | false=>
   rw[hb] at hr;obtain⟨m,h1,h2,h3⟩:=qj4 n hr;exact⟨m,by omega,h2,h3⟩
theorem q39 (hE:E.tok P){B:Base}(hs:HSim B X){a ai:AV}{v vi:Value}(hv:Rep X a v)(hi:Rep X ai vi)(h:(uk E X.h t a ai).run=some r):∃av u,r=(av,X.h,none)/\(Instr.indexAt t v vi).run P X.w=.ok u X.w/\Rep X av u:=by
 unfold uk at h;cases hd:(E.ty t).d<;>rw[hd] at h<;>try (cases h)
 ·rename_i e es;obtain⟨ht,rfl⟩:=q1p hE hd;cases hai:asI ai with
  | none=>rw[hai] at h;cases hv<;>simp only at h<;>cases h
  | some p=>
   obtain⟨k,i⟩:=p;rw[hai] at h;obtain rfl:=q3K hi hai;cases hv<;>simp only at h<;>try (cases h)
   ·rename_i sh l himm;by_cases hc:sh.length=P.cellsOf e/\0<P.cellsOf e
    ·rw[if_pos hc] at h;obtain⟨g1,g2⟩:=jm h;cases g2;obtain⟨g3,g4⟩:=qjq g1;rcases himm with⟨rfl,rfl⟩|⟨a,cap,rfl,hsp,hcap,hr⟩
     ·simp[qk] at g4;omega
     ·refine⟨_,_,rfl,qdG ht hc.2 g3 g4,?_⟩;have hsp:=hsp (by simp[qk] at g4;omega);rw[Addr.add_of hsp,<-hc.1];have:Rep X (.eptr sh l i 0) (.pointer (some ⟨a.block,a.off+i.toNat*sh.length+0,none⟩)):=.eptr _ _ _ _ _ hsp g3 (by simp[qk] at g4;omega) hr;simpa using this
    ·rw[if_neg hc] at h;cases h
   ·rename_i b p n c hb hv;cases hr:vT X.h (.vec b) with
    | none=>rw[hr] at h;cases h
    | some x=>
     obtain⟨sh,l⟩:=x;rw[hr] at h;simp only at h;by_cases hc:sh.length=P.cellsOf e/\0<P.cellsOf e
     ·rw[if_pos hc] at h;obtain⟨g1,g2⟩:=jm h;cases g2;obtain⟨g3,g4⟩:=qjq g1;obtain⟨e0,hh⟩:=qde hr;have hvv:=hv sh l.length ⟨e0,l,hh,rfl⟩;unfold qtd at hvv;rcases hs.rows hh with⟨e1,rfl⟩|⟨n0,c0,e1,e2,e3⟩
      ·simp[qk] at g4;omega
      ·rw[e1] at hvv;obtain⟨cap,f1,f2,f3,c1,T1,fr1,f4,f5⟩:=hvv;cases f1;refine⟨_,_,rfl,qdG ht hc.2 g3 g4,?_⟩;rw[qK0,<-hc.1];have:Rep X (.vptr b i 0) (.pointer (some ⟨n0,i.toNat*sh.length+0,none⟩)):=.vptr _ _ _ _ _ hb e1 fun sh' m ⟨e',l',q1,q2⟩=>by
        have:sh'=sh/\l'=l:=by rcases hh with hh|hh<;>rcases q1 with q1|q1<;>rw[hh] at q1<;>cases q1<;>exact⟨rfl,rfl⟩
        obtain⟨rfl,rfl⟩:=this;exact⟨g3,by simp[qk] at g4;omega,rfl⟩
       simpa using this
     ·rw[if_neg hc] at h;cases h
 ·rename_i n e es;obtain⟨ht,rfl⟩:=q7K hE hd;cases hv<;>simp only at h<;>try (cases h)
  ·rename_i b off n0 hb hσ;cases hi<;>simp only at h<;>try (cases h)
   ·rename_i k i;by_cases hc:0<=i/\i<n/\0<P.cellsOf e
    ·rw[if_pos hc] at h;cases h;refine⟨_,_,rfl,q0z ht hc.2.2 hc.1 hc.2.1,?_⟩;rw[qK0];exact .ptr _ _ _ hb hσ
    ·rw[if_neg hc] at h;cases h
   ·rename_i k i;by_cases hc:n<=16/\0<P.cellsOf e
    ·rw[if_pos hc] at h;obtain⟨m,g1,rfl,rfl⟩:=qj4 _ h;refine⟨_,_,rfl,q0z ht hc.2 (by omega) (by omega),?_⟩;rw[qK0];exact .ptr _ _ _ hb hσ
    ·rw[if_neg hc] at h;cases h
  ·rename_i sh l i0 off a hsp h0 h1 hr;cases hi<;>simp only at h<;>try (cases h)
   ·rename_i k i;by_cases hc:0<=i/\i<n/\0<P.cellsOf e
    ·rw[if_pos hc] at h;cases h;refine⟨_,_,rfl,q0z ht hc.2.2 hc.1 hc.2.1,?_⟩;rw[qK0,qKT];exact .eptr _ _ _ _ _ hsp h0 h1 hr
    ·rw[if_neg hc] at h;cases h
   ·rename_i k i;by_cases hc:n<=16/\0<P.cellsOf e
    ·rw[if_pos hc] at h;obtain⟨m,g1,rfl,rfl⟩:=qj4 _ h;refine⟨_,_,rfl,q0z ht hc.2 (by omega) (by omega),?_⟩;rw[qK0,qKT];exact .eptr _ _ _ _ _ hsp h0 h1 hr
    ·rw[if_neg hc] at h;cases h
end Go.Eng

namespace Go.Eng
variable {P:Program}
theorem qoM{X:Ctx}{k:IntKind}:∀{cs:List AV} {l:List Int} {vs:List Value},qkj k cs=some l->RepL X cs vs->vs=l.map (Value.int k)
 | [],l,vs,h,hr=>by cases hr;simp[qkj] at h;subst h;rfl
 | a::cs,l,vs,h,hr=>by
  cases hr with
  | cons ha ht=>
   simp only[qkj] at h;cases h1:asI a with
   | none=>rw[h1] at h;cases h
   | some p=>
    obtain⟨k',n⟩:=p;cases h2:qkj k cs with
    | none=>rw[h1,h2] at h;cases h
    | some r=>
     rw[h1,h2] at h;simp only at h;by_cases hk:k=k'
     ·subst hk;rw[if_pos rfl] at h;cases h;rw[q3K ha h1,qoM h2 ht];rfl
     ·rw[if_neg hk] at h;cases h
theorem qtb {E:Env}(hE:E.tok P){X:Ctx}{t:TypeId}{a ai:AV}{v vi:Value}(hv:Rep X a v)(hi:Rep X ai vi){r:Res}(h:(qgg E X.h t a ai).run=some r):∃av u,r=(av,X.h,none)/\(Instr.index t v vi).run P X.w=.ok u X.w/\Rep X av u:=by
 unfold qgg at h;cases hd:(E.ty t).d<;>rw[hd] at h<;>try (cases h)
 ·cases hai:asI ai with
  | none=>rw[hai] at h;cases hv<;>simp only at h<;>cases h
  | some p=>
   obtain⟨k,i⟩:=p;rw[hai] at h;obtain rfl:=q3K hi hai;have ht:=qeV hE hd;cases hv<;>simp only at h<;>try (cases h)
   rename_i s;obtain⟨g1,g2⟩:=jm h;cases g2;obtain⟨g3,g4⟩:=qjq g1;refine⟨_,.int .u8 (sat s i),rfl,?_,.int _ _⟩;have hlt:i.toNat<s.length:=by simp only[qB] at g4;omega
   have hsz:(ByteArray.mk s.toArray)[i.toNat]?=some s[i.toNat]:=by
    have:(ByteArray.mk s.toArray)[i.toNat]?=(s.toArray)[i.toNat]?:=by simp only[getElem?_def];rfl
    rw[this];simp[hlt]
   simp only[Instr.index,asIntOf,qJh,qJN,qJn,run_underlying ht,g3,if_true,hsz];simp[sat,hlt]
 ·rename_i n e es;obtain⟨ht,rfl⟩:=q7K hE hd;cases hai:asI ai with
  | none=>rw[hai] at h;cases hv<;>simp only at h<;>cases h
  | some p=>
   obtain⟨k,i⟩:=p;rw[hai] at h;obtain rfl:=q3K hi hai;cases hv<;>simp only at h<;>try (cases h)
   rename_i cs vs hv;have lit:∀(_:0<=i) (_:i<n) (_:0<P.cellsOf e) (_:(qgH E X.h e cs (i.toNat*P.cellsOf e)).run=some r),
     ∃av u,r=(av,X.h,none)/\(Instr.index t (.agg vs.toArray) (.int k i)).run P X.w=.ok u X.w/\Rep X av u:=by
    intro h0 h1 hp hh;obtain⟨a,q1,rfl⟩:=qrp hh;obtain⟨u,q2,q3⟩:=q5s hE hv q1 X.w;exact⟨_,u,rfl,by simp[Instr.index,asIntOf,run_underlying ht,h0,h1,zO hp,q2],q3⟩
   have sym:∀(_:(match (E.ty e).d with
     | .int k=>if P.cellsOf e=1/\cs.length=n then (match qkj k cs with
      | some l=>Tree.br (inb i n) (okv X.h (.int k (qzr l i))) .fail
      | none=>.fail) else .fail
     | .slice _ _=>if 0<P.cellsOf e then (match Nat.ble n 4 with|true=>qmp E X.h e cs (P.cellsOf e) i 0 n|false=>.fail) else .fail
     | _=>.fail).run=some r),
     ∃av u,r=(av,X.h,none)/\(Instr.index t (.agg vs.toArray) (.int k i)).run P X.w=.ok u X.w/\Rep X av u:=by
    intro hh;cases he:(E.ty e).d<;>rw[he] at hh<;>try (cases hh)
    case slice e' es'=>
     simp only at hh;split at hh
     case isFalse=>cases hh
     rename_i hp;split at hh
     case h_2=>cases hh
     have go:∀(m j:Nat),j+m=n->(qmp E X.h e cs (P.cellsOf e) i j m).run=some r->∃av u,r=(av,X.h,none)/\(Instr.index t (.agg vs.toArray) (.int k i)).run P X.w=.ok u X.w/\Rep X av u:=by
      intro m;induction m with
      | zero=>intro j _ hh;cases hh
      | succ m ih=>
       intro j hj hh;unfold qmp at hh;simp only[Tree.run] at hh;split at hh
       ·rename_i hi;have hij:i=(j:Int):=by simpa[ieq] using hi
        exact lit (by omega) (by omega) hp (by rw[hij,qJq];exact hh)
       ·exact ih (j+1) (by omega) hh
     exact go n 0 (by omega) hh
    rename_i k';simp only at hh;by_cases hc:P.cellsOf e=1/\cs.length=n
    ·rw[if_pos hc] at hh;cases hl:qkj k' cs with
     | none=>rw[hl] at hh;cases hh
     | some l=>
      rw[hl] at hh;obtain⟨g1,g2⟩:=jm hh;cases g2;obtain⟨g3,g4⟩:=qjq g1;have hvs:=qoM hl hv;have hlen:=hv.length;refine⟨_,.int k' (qzr l i),rfl,?_,.int _ _⟩;have hlt:i.toNat<l.length:=by rw[hvs] at hlen;simp at hlen;omega
      have hag:(isAgg e).run P X.w=.ok false X.w:=by rw[qds hE (by rw[he];rfl),he];rfl
      have hget:vs[i.toNat]?=some (.int k' (qzr l i)):=by rw[hvs];simp[hlt,qzr]
      simp[Instr.index,asIntOf,run_underlying ht,g3,g4,zO (show 0<P.cellsOf e by omega),part,hag,hc.1,hget]
    ·rw[if_neg hc] at hh;cases hh
   cases ai with
   | ilit k2 i2=>
    simp only[asI] at hai;cases hai;simp only at h;by_cases hc:0<=i/\i<n/\0<P.cellsOf e
    ·rw[if_pos hc] at h;exact lit hc.1 hc.2.1 hc.2.2 h
    ·rw[if_neg hc] at h;cases h
   | int k2 i2=>exact sym h
   | _=>simp[asI] at hai
theorem qwD {E:Env}(hE:E.tok P){B:Base}{X:Ctx}(hs:HSim B X){t ty:TypeId}{ts:Array TypeId}(h0:ts[0]?=some t){a:AV}{v:Value}(hv:Rep X a v){r:Res}(h:(qCk E X.h t a).run=some r):∃av u,r=(av,X.h,none)/\(Builtin.len_ ts ty #[v]).run P X.w=.ok u X.w/\Rep X av u:=by
 unfold qCk at h;cases hd:(E.ty t).d<;>rw[hd] at h<;>try (cases h)
 ·have ht:=qeV hE hd;cases hv<;>simp only at h<;>try (cases h)
  rename_i s;refine⟨_,.int .i64 (qB s),rfl,?_,.int _ _⟩;simp[Builtin.len_,h0,run_underlying ht,goInt,qB];rfl
 ·rename_i e es;obtain⟨ht,rfl⟩:=q1p hE hd;have run:∀p n c,(Builtin.len_ ts ty #[.slice p n c]).run P X.w=.ok (.int .i64 n) X.w:=by intro p n c;simp[Builtin.len_,h0,run_underlying ht,goInt]
  have gen:∀(_:(match vT X.h a with|some (_,l)=>okv X.h (.int .i64 (qk l))|none=>.fail).run=some r),
    ∃av u,r=(av,X.h,none)/\(Builtin.len_ ts ty #[v]).run P X.w=.ok u X.w/\Rep X av u:=by
   intro hh;cases hr:vT X.h a with
   | none=>rw[hr] at hh;cases hh
   | some x=>
    obtain⟨sh,l⟩:=x;rw[hr] at hh;cases hh;cases hv<;>simp only[vT] at hr<;>try (cases hr)
    ·rename_i himm;rcases himm with⟨rfl,rfl⟩|⟨a,cap,rfl,_⟩
     ·exact⟨_,_,rfl,run _ _ _,.int _ _⟩
     ·exact⟨_,_,rfl,run _ _ _,.int _ _⟩
    ·rename_i b p n c hb hv;obtain⟨e0,hh⟩:=qde (b:=b) (h:=X.h) (sh:=sh) (l:=l) (by simpa only [vT] using hr);have hvv:=hv sh l.length ⟨e0,l,hh,rfl⟩;unfold qtd at hvv;rcases hs.rows hh with⟨e1,rfl⟩|⟨n0,c0,e1,e2,e3⟩
     ·rw[e1] at hvv;obtain⟨p,hvv⟩:=hvv;cases hvv;exact⟨_,_,rfl,run _ _ _,.int _ _⟩
     ·rw[e1] at hvv;obtain⟨cap,f1,_⟩:=hvv;cases f1;exact⟨_,_,rfl,run _ _ _,.int _ _⟩
  cases hv with
  | nils=>simp only at h;cases h;exact⟨_,_,rfl,run _ _ _,.ilit _ _⟩
  | _=>exact gen h
 ·rename_i n e es;obtain⟨ht,rfl⟩:=q7K hE hd;refine⟨_,.int .i64 n,rfl,?_,.ilit _ _⟩;simp[Builtin.len_,h0,run_underlying ht,goInt]
theorem qE6 {k k':IntKind}{x y:Int}{w:World}:(Builtin.max2 (.int k x) (.int k' y)).run P w=.ok (.int k (qqF x y)) w:=rfl
theorem qDx {k k':IntKind}{x y:Int}{w:World}:(Builtin.min2 (.int k x) (.int k' y)).run P w=.ok (.int k (qhs x y)) w:=rfl
theorem qpb{P:Program}{X:Ctx}{f:Int->Int->Int}{g:Value->Value->Sem Value}(hg:∀k k' x y w,(g (.int k x) (.int k' y)).run P w=.ok (.int k (f x y)) w)(k:IntKind) :
  ∀(l:List AV) (a m:Int) (vs:List Value),qwk f k a l=some m->RepL X l vs->(vs.foldlM g (.int k a)).run P X.w=.ok (.int k m) X.w
 | [],a,m,vs,h,hr=>by cases hr;simp[qwk] at h;subst h;rfl
 | x::l,a,m,vs,h,hr=>by
  cases hr with
  | cons hx ht=>
   simp only[qwk] at h;cases h1:asI x with
   | none=>rw[h1] at h;cases h
   | some p=>
    obtain⟨k',b⟩:=p;rw[h1] at h;simp only at h;by_cases hk:k=k'
    ·rw[if_pos hk] at h;rw[q3K hx h1,List.foldlM_cons,qJh,hg,qJn];exact qpb hg k l _ m _ h ht
    ·rw[if_neg hk] at h;cases h
theorem qmB{E:Env}{P:Program}(hE:E.tok P){X:Ctx}{e:TypeId}{c:Nat}(he:P.underlying e=some .string){xs ys:List AV}{vxs vys:List Value}(hx:RepL X xs vxs)(hy:RepL X ys vys)(d:Nat)(w:World) :
  ∀(is:List Nat) (r:Bool),qu7 E e c xs ys is=some r->(Op.eqItems (d+1) e c vxs.toArray vys.toArray is).run P w=.ok r w
 | [],r,h=>by
  simp only[qu7] at h;cases h;rfl
 | i::is,r,h=>by
  simp only[qu7] at h;split at h
  ·rename_i a b r' h1 h2 h3;cases h;obtain⟨u1,q1,q2⟩:=q5s hE hx h1 w;obtain⟨u2,q3,q4⟩:=q5s hE hy h2 w;cases q2;cases q4;have q5:=run_equalIn_string w d e ⟨a.toArray⟩ ⟨b.toArray⟩ he;have q6:=qmB hE he hx hy d w is r' h3;rw[qsO] at q5;simp only[Op.eqItems,qJh,q1,q3,q5,qJn];cases hs:Eng.seq a b with
   | true=>simp[qD4,q6]
   | false=>simp[qD4]
  ·cases h
mutual
theorem qtT{E:Env}{P:Program}(hE:E.tok P){X:Ctx}:∀(n:Nat) (t:TypeId) (x y:AV) (r:Bool) (vx vy:Value),eqT E n t x y=some r->Rep X x vx->Rep X y vy ->
  ∀d,n<=d->∀w,(Op.equalIn d t vx vy).run P w=.ok r w
 | 0,_,_,_,_,_,_,h,_,_,_,_,_=>by simp[eqT] at h
 | n+1,t,x,y,r,vx,vy,h,hx,hy,d,hd,w=>by
  obtain⟨d,rfl⟩:∃d',d=d'+1:=⟨d-1,by omega⟩;simp only[eqT] at h;cases ht:(E.ty t).d<;>rw[ht] at h<;>try (cases h)
  ·have hu:=qpz hE ht;simp only at h;cases h1:asB x with
   | none=>rw[h1] at h;cases h
   | some a=>
    cases h2:asB y with
    | none=>rw[h1,h2] at h;cases h
    | some b=>
     rw[h1,h2] at h;cases h;rw[qsW hx h1,qsW hy h2];exact run_equalIn_bool' w d t a b hu
  ·have hu:=qnH hE ht;simp only at h;cases h1:asI x with
   | none=>rw[h1] at h;cases h
   | some a=>
    cases h2:asI y with
    | none=>rw[h1,h2] at h;cases h
    | some b=>
     obtain⟨k,a⟩:=a;obtain⟨k',b⟩:=b;rw[h1,h2] at h;simp only at h;by_cases hk:k=k'
     ·subst hk;rw[if_pos rfl] at h;cases h;rw[q3K hx h1,q3K hy h2];exact run_equalIn_int w d t k _ a b hu
     ·rw[if_neg hk] at h;cases h
  ·have hu:=qeV hE ht;simp only at h;cases hx<;>try (cases h)
   cases hy<;>try (cases h)
   rw[run_equalIn_string w d t _ _ hu,qsO]
  ·rename_i m e es;simp only at h;obtain⟨hta,rfl⟩:=q7K hE ht;split at h
   ·rename_i n' hte;have hue:=qeV hE hte;obtain⟨d',rfl⟩:∃d',d=d'+1:=⟨d-1,by omega⟩;obtain⟨_,i,dd,h1,_⟩:=q0f hE (t:=e) (by rw[hte];rfl);cases hx with
    | agg _ vxs hxs=>
     cases hy with
     | agg _ vys hys=>
      rw[run_equalIn_array w (d'+1) vxs.toArray vys.toArray hta h1];exact qmB hE hue hxs hys d' w _ r h
   ·cases h
  ·rename_i fs;simp only at h;by_cases hok:(E.ty t).eqok=true
   ·rw[if_pos hok] at h;cases hx<;>try (cases h)
    cases hy<;>try (cases h)
    rename_i xs vxs hxs ys vys hys;obtain⟨fields,e1,e2⟩:=q82 hE ht;have hk:=q0f hE (t:=t) (by rw[ht];rfl);have hst:P.stoodInHeld t=false/\∀f∈fields.toList,f.name ≠ "_" := by rw[hk.1] at hok;unfold qtw at hok;obtain⟨_,i,dd,h1,h2,_⟩:=hk;rw[h1] at hok;simp only[e1,qJx,qKU,qJL,bne_iff_ne] at hok;exact⟨hok.1.1,hok.2⟩
    have hfo:P.fieldsOf t=fields:=by simp[Program.fieldsOf,e1]
    have hrun:=run_equalIn_struct (P:=P) w d t vxs.toArray vys.toArray (by rw[hfo];exact e1) hst.1;rw[hrun,hfo];rw[e2] at h;exact qqX hE n fields.toList xs ys r vxs vys h hxs hys hst.2 d (by omega) w
   ·rw[if_neg hok] at h;cases h
theorem qqX{E:Env}{P:Program}(hE:E.tok P){X:Ctx}:∀(n:Nat) (fs:List Field) (xs ys:List AV) (r:Bool) (vxs vys:List Value),
  qGf E n (fs.map fun f=>(f.offset,f.type,P.cellsOf f.type)) xs ys=some r->RepL X xs vxs->RepL X ys vys->(∀f∈fs,f.name ≠ "_") ->
  ∀d,n<=d->∀w,(Op.eqFields d vxs.toArray vys.toArray fs).run P w=.ok r w
 | n,[],xs,ys,r,vxs,vys,h,hx,hy,hn,d,hd,w=>by
  cases n<;>simp[qGf] at h<;>subst h<;>rfl
 | 0,f::fs,xs,ys,r,vxs,vys,h,hx,hy,hn,d,hd,w=>by simp[qGf] at h
 | n+1,f::fs,xs,ys,r,vxs,vys,h,hx,hy,hn,d,hd,w=>by
  simp only[qKi,qGf] at h;cases h1:qf1 E f.type xs f.offset with
  | none=>rw[h1] at h;cases h
  | some a=>
   cases h2:qf1 E f.type ys f.offset with
   | none=>rw[h1,h2] at h;cases h
   | some b=>
    rw[h1,h2] at h;simp only at h;cases h3:eqT E n f.type a b with
    | none=>rw[h3] at h;cases h
    | some r1=>
     cases h4:qGf E n (fs.map fun f=>(f.offset,f.type,P.cellsOf f.type)) xs ys with
     | none=>rw[h3,h4] at h;cases h
     | some r2=>
      rw[h3,h4] at h;cases h;obtain⟨u1,q1,q2⟩:=q5s hE hx h1 w;obtain⟨u2,q3,q4⟩:=q5s hE hy h2 w;have q5:=qtT hE n f.type a b r1 u1 u2 h3 q2 q4 d (by omega) w;have q6:=qqX hE n fs xs ys r2 vxs vys h4 hx hy (fun g hg=>hn g (qJy _ hg)) d (by omega) w;have hn0:=hn f qJs;simp only[Op.eqFields,hn0,ne_eq,not_false_eq_true,if_true,qJh,q1,q3,q5,qJn];cases r1 with
      | true=>simp[qD4,q6]
      | false=>simp[qD4]
end
end Go.Eng

namespace Go.Eng
variable {B:Base}{E:Env}{P:Program}{X:Ctx}{t:TypeId}{v:Value}
theorem qsn (hE:E.tok P){op:BinOp}{x y:Operand}{xs ys:List AV}{vx vy:Value}(hx:Rep X (.agg xs) vx)(hy:Rep X (.agg ys) vy){r:Res}(h:(qnQ E X.h op t (.agg xs) (.agg ys)).run=some r):∃av u,r=(av,X.h,none)/\(do eqGuard op t x y vx vy;binOp op t vx vy:Sem Value).run P X.w=.ok u X.w/\Rep X av u:=by
 unfold qnQ at h;cases he:eqT E 32 t (.agg xs) (.agg ys) with
 | none=>rw[he] at h;cases h
 | some b=>
  rw[he] at h;simp only at h;have heq:=qgA (qtT hE 32 t _ _ b vx vy he hx hy (9999+1) (by omega) X.w);have hg:∀op w,(eqGuard op t x y vx vy).run P w=.ok () w:=by
   intro op w;simp only[eqT] at he;cases ht:(E.ty t).d<;>rw[ht] at he<;>try (simp only[asI,asB] at he;cases he)
   ·rename_i m e es;simp only at he;obtain⟨hta,rfl⟩:=q7K hE ht;cases hte:(E.ty e).d<;>rw[hte] at he<;>try (cases he)
    ·have hue:=qeV hE hte;cases hx;cases hy;have hgt:P.eqGuardType P.depth t=false:=by rw[show P.depth=(2*(P.types.size+Made.depth))+1+1 from rfl];simp[Program.eqGuardType,hta,hue]
     unfold eqGuard;cases op<;>simp[run_program,hgt]
   ·rename_i fs;simp only at he;by_cases hok:(E.ty t).eqok=true
    ·have hk:=q0f hE (t:=t) (by rw[ht];rfl);obtain⟨fields,e1,e2⟩:=q82 hE ht;rw[hk.1] at hok;unfold qtw at hok;obtain⟨_,i,dd,h1,h2,_⟩:=hk;rw[h1] at hok;simp only[e1,qJx,qKU] at hok;cases hx;cases hy;unfold eqGuard;cases op<;>simp[run_program,hok.1.2]
    ·rw[if_neg hok] at he;cases he
  cases hx with
  | agg _ vxs hxs=>
   cases hy with
   | agg _ vys hys=>
    cases op<;>simp only[okb] at h<;>cases h
    ·refine⟨_,_,rfl,?_,.bool b⟩;rw[qJh,hg,qJn];simp[binOp,heq]
    ·refine⟨_,_,rfl,?_,.bool (!b)⟩;rw[qJh,hg,qJn];simp[binOp,heq]
theorem qv2 {a:AV}(h:Rep X a v)(hc:a.isCell=true):v.cells=#[v]/\v.oneCell'=true:=by
 cases h with
 | imm sh l v h=>
  rcases h with⟨rfl,rfl⟩|⟨a,cap,rfl,h1,h2,h3⟩<;>exact⟨rfl,rfl⟩
 | undef=>simp[AV.isCell] at hc
 | skip=>simp[AV.isCell] at hc
 | agg=>simp[AV.isCell] at hc
 | tuple=>simp[AV.isCell] at hc
 | bagg=>simp[AV.isCell] at hc
 | _=>exact⟨rfl,rfl⟩
theorem qg5 {a:AV}(h:Rep X a v)(hc:yJ a.cells=true):RepL X a.cells v.cells.toList:=by
 cases h with
 | agg cs vs h=>simpa[AV.cells,Value.cells] using h
 | undef=>simp[AV.cells,yJ,AV.isCell] at hc
 | skip=>simp[AV.cells,yJ,AV.isCell] at hc
 | tuple=>simp[AV.cells,yJ,AV.isCell] at hc
 | bagg=>simp[AV.cells,yJ,AV.isCell] at hc
 | yld=>exact .cons .yld .nil
 | blit=>exact .cons (.blit _) .nil
 | bool=>exact .cons (.bool _) .nil
 | ilit=>exact .cons (.ilit _ _) .nil
 | int=>exact .cons (.int _ _) .nil
 | str=>exact .cons (.str _) .nil
 | nilp=>exact .cons .nilp .nil
 | ptr b off n h1 h2=>exact .cons (.ptr b off n h1 h2) .nil
 | eptr sh l i off a h1 h2 h3 h4=>exact .cons (.eptr sh l i off a h1 h2 h3 h4) .nil
 | mnil sh l i off=>exact .cons (.mnil sh l i off) .nil
 | mptr sh l i off a h1 h2 h3 h4=>exact .cons (.mptr sh l i off a h1 h2 h3 h4) .nil
 | vptr b i off n k h1 h2 h3=>exact .cons (.vptr b i off n k h1 h2 h3) .nil
 | vsub b i n k m c h1 h2 h3=>exact .cons (.vsub b i n k m c h1 h2 h3) .nil
 | aptr b o i n h1 h2 h3=>exact .cons (.aptr b o i n h1 h2 h3) .nil
 | asub b o N i m n k c h1 h2 h3 h4 h5 h6=>exact .cons (.asub b o N i m n k c h1 h2 h3 h4 h5 h6) .nil
 | nils=>exact .cons .nils .nil
 | imm sh l v h=>
  rcases h with⟨rfl,rfl⟩|⟨a,cap,rfl,h1,h2,h3⟩
  ·exact .cons (.imm _ _ _ (.inl ⟨rfl,rfl⟩)) .nil
  ·exact .cons (.imm _ _ _ (.inr ⟨a,cap,rfl,h1,h2,h3⟩)) .nil
 | full sh l p n h=>exact .cons (.full sh l p n h) .nil
 | vec b p n c h1 h2=>exact .cons (.vec b p n c h1 h2) .nil
 | nilf=>exact .cons .nilf .nil
 | fn f first caps vf vc h1 h2=>exact .cons (.fn f first caps vf vc h1 h2) .nil
theorem qbQ{X:Ctx}:∀{cs:List AV} {vs:List Value},RepL X cs vs->yJ cs=true->∀v∈vs,v.oneCell'=true
 | _,_,.nil,_,v,h=>by simp at h
 | _,_,.cons ha ht,hc,v,h=>by
  simp only[yJ,qLe,qJx] at hc;rcases qJi.1 h with rfl|h
  ·exact(qv2 ha hc.1).2
  ·exact qbQ ht hc.2 v h
theorem qy8 (hs:HSim B X){cs:List AV}{c:Array Value}{T:TypeId}(hr:RepL X cs c.toList) :HSim B (X.pushW (.cells cs) (some X.w.heap.size) (X.w.alloc (.cells c T))):=by have hw:=PushW.alloc X (.cells c T);refine hs.push hw ⟨X.w.heap.size,c,T,by simp[Ctx.pushW],wt _ _,hr.ext (Ctx.push_ext hs _ hw)⟩
theorem qxG {k:Blk}{n:Nat}{w':World}:Rep (X.pushW k (some n) w') (.ptr X.h.length 0) (.pointer (some ⟨n,0,none⟩)):=.ptr _ _ _ (by simp[Ctx.pushW]) (by simp[Ctx.pushW])
theorem qnS (hs:HSim B X){cs:List AV}(hr:RepL X cs v.cells.toList){m:Sem Value}(hm:m.run P X.w=.ok (.pointer (some ⟨X.w.heap.size,0,none⟩)) (X.w.alloc (.cells v.cells t))) :qR P B X (do pure (.value (<-m))) (.ptr X.h.length 0,X.h++[.cells cs],none):=
 ⟨.value (.pointer (some ⟨X.w.heap.size,0,none⟩)),_,X.pushW (.cells cs) (some X.w.heap.size) (X.w.alloc (.cells v.cells t)),by simp[hm];rfl,.inl rfl,qxG,qy8 hs hr,rfl,
  Ctx.push_ext hs _ (PushW.alloc X _)⟩
theorem q9O (P:Program)(w:World)(t:TypeId)(v:Value):(newVar t v).run P w=.ok ⟨w.heap.size,0,none⟩ (w.alloc (.cells v.cells t)):=rfl
theorem qCY (hs:HSim B X){a:AV}(hv:Rep X a v)(hc:yJ a.cells=true) :qR P B X (do pure (.value (<-Instr.box t v))) (.ptr X.h.length 0,X.h++[.cells a.cells],none):=qnS (t:=t) hs (qg5 hv hc) (by simp[Instr.box,q9O])
theorem qdT (hE:E.tok P)(h:(E.ty t).zero.length≠0)(w:World):∃v,(zeroValue t).run P w=.ok v w/\v.cells.toList=(E.ty t).zero /\∃i,P.info? t=some i/\i.zero=some v:=by
 rcases qnz hE t with h1|h1
 ·rw[h1] at h;simp[qId] at h
 ·rw[h1] at h ⊢;unfold qtw at *;cases hi:P.info? t with
  | none=>rw[hi] at h;simp at h
  | some i=>
   cases hz:i.zero with
   | none=>simp[hi,hz] at h
   | some v=>exact⟨v,by simp[zeroValue,typeInfo,hi,hz],by simp[hz],i,rfl,hz⟩
theorem qyw (hE:E.tok P)(hs:HSim B X)(hz:((E.ty t).zero.map jx).length≠0) :qR P B X (do pure (.value (<-Instr.alloc t true (.tuple #[])))) (.ptr X.h.length 0,X.h++[.cells ((E.ty t).zero.map jx)],none):=by obtain⟨v,h1,h2,_⟩:=qdT hE (t:=t) (by simpa using hz) X.w;refine qnS (t:=t) (v:=v) hs (by rw[h2];exact jL X _) ?_;simp[Instr.alloc,h1,q9O]
theorem qdL {cs vs:List AV}{us ws:List Value}(h1:RepL X cs us)(h2:RepL X vs ws)(off:Nat):RepL X (qmK cs off vs) (us.take off++ws++us.drop (off+vs.length)):=((h1.take off).append h2).append (h1.drop _)
mutual
theorem Sh.beq_eq:∀a b:Sh,a.beq b=true->a=b
 | .int k,b,h=>by cases b<;>simp[Sh.beq] at h;rw[h]
 | .bool,b,h=>by cases b<;>simp[Sh.beq] at h;rfl
 | .str,b,h=>by cases b<;>simp[Sh.beq] at h;rfl
 | .sl r,b,h=>by
  cases b<;>simp[Sh.beq] at h;rw[Sh.beqL_eq _ _ h]
theorem Sh.beqL_eq:∀a b:List Sh,Sh.beqL a b=true->a=b
 | [],b,h=>by cases b<;>simp[Sh.beqL] at h;rfl
 | a::l,b,h=>by
  cases b<;>simp[Sh.beqL] at h;rw[Sh.beq_eq _ _ h.1,Sh.beqL_eq _ _ h.2]
end
theorem q83 {s:Sh}{a:AV}{u:U}(h:toU X.h s a=some u)(hm:a.men=[])(hr:Rep X a v):RepU X.w X.M s u v:=by
 cases hr with
 | ilit k n=>
  cases s<;>simp only[toU] at h<;>try (cases h)
  rename_i k';by_cases hk:k'=k
  ·subst hk;rw[if_pos rfl] at h;cases h;exact .int _ (.i n)
  ·rw[if_neg hk] at h;cases h
 | int k n=>
  cases s<;>simp only[toU] at h<;>try (cases h)
  rename_i k';by_cases hk:k'=k
  ·subst hk;rw[if_pos rfl] at h;cases h;exact .int _ (.i n)
  ·rw[if_neg hk] at h;cases h
 | blit b=>cases s<;>simp only[toU] at h<;>cases h;exact .bool (.b b)
 | bool b=>cases s<;>simp only[toU] at h<;>cases h;exact .bool (.b b)
 | str t=>cases s<;>simp only[toU] at h<;>cases h;exact .str (.s t)
 | nils=>cases s<;>simp only[toU] at h<;>cases h;exact .slnil _ _ rfl
 | imm sh l v himm=>
  cases s<;>simp only[toU] at h<;>try (cases h)
  rename_i row;by_cases hb:Sh.beqL row sh=true
  ·rw[if_pos hb] at h;cases h;obtain rfl:=Sh.beqL_eq _ _ hb;exact q9H himm
  ·rw[if_neg hb] at h;cases h
 | vec b p n c h1 h2=>simp[AV.men] at hm
 | _=>cases s<;>simp only[toU] at h<;>cases h
theorem qr5{X:Ctx}:∀{sh:List Sh} {azz:List AV} {us:List U} {vs:List Value},qnC X.h sh azz=some us->AV.menL azz=[]->RepL X azz vs ->
  us.length=sh.length/\azz.length=sh.length/\∀j (hj:j<sh.length),∃v,vs[j]?=some v/\RepU X.w X.M sh[j] (us.getD j (.i 0)) v
 | [],[],us,vs,h,_,hr=>by simp[qnC] at h;subst h;exact⟨rfl,rfl,fun j hj=>by simp at hj⟩
 | [],_::_,us,vs,h,_,_=>by simp[qnC] at h
 | _::_,[],us,vs,h,_,_=>by simp[qnC] at h
 | s::sh,a::azz,us,vs,h,hm,hr=>by
  simp only[qnC] at h;cases h1:toU X.h s a with
  | none=>rw[h1] at h;cases h
  | some u=>
   cases h2:qnC X.h sh azz with
   | none=>rw[h1,h2] at h;cases h
   | some us'=>
    rw[h1,h2] at h;cases h;simp only[AV.menL,List.append_eq_nil_iff] at hm;cases hr with
    | cons ha ht=>
     obtain⟨g1,g2,g3⟩:=qr5 h2 hm.2 ht;refine⟨by simp[g1],by simp[g2],fun j hj=>?_⟩;cases j with
     | zero=>exact⟨_,rfl,by simpa using q83 h1 hm.1 ha⟩
     | succ j=>
      obtain⟨v,q1,q2⟩:=g3 j (by simpa using hj);exact⟨v,by simpa using q1,by simpa using q2⟩
theorem q2B {n o:Nat}{c:Array Value}{T:TypeId}(hc:X.w.heap[n]?=some (.cells c T (0,0)))(hsz:(sizeOf t).run P X.w=.ok v.cells.size X.w) (hle:o+v.cells.size<=c.size) (h1:∀u∈v.cells.toList,u.oneCell'=true) :(storeVar t ⟨n,o,none⟩ v).run P X.w=.ok () (X.w.setRow n (c.toList.take o++v.cells.toList++c.toList.drop (o+v.cells.size)).toArray):=by have:=run_storeCells_at P n o T v.cells.toList 0 c X.w hc (by simpa using hle) h1;simp only[qJU,Array.length_toList] at this;simp[storeVar,hsz,this]
theorem qwE (row:List U)(off:Nat)(us:List U)(j:Nat) :(qtS row off us).getD j (.i 0)=if off<=j/\j<off+us.length then us.getD (j-off) (.i 0) else row.getD j (.i 0):=by
 unfold qtS;by_cases hj:j<max row.length (off+us.length)
 ·simp[hj]
 ·have h1:¬(off<=j/\j<off+us.length):=by omega
  have h2:row.length<=j:=by omega
  rw[if_neg h1];simp[hj,h2]
theorem qgz {l:R}{i:Int}{off:Nat}{us:List U}(hi:i.toNat<l.length){j:Nat}:wy (qfD l i off us) i j = if off<=j/\j<off+us.length then us.getD (j-off) (.i 0) else wy l i j:=by
 have:(qfD l i off us).getD i.toNat []=qtS (l.getD i.toNat []) off us:=by simp[qfD,hi]
 unfold wy;rw[this,qwE]
theorem qf9 {l:R}{i:Int}{off:Nat}{us:List U}{r:Nat}(hr:r≠i.toNat){j:Nat}:wy (qfD l i off us) r j=wy l r j:=by unfold wy qfD;simp[qJf (qJI hr)]
theorem q9j (hE:E.tok P){n:Nat}(h:n=(E.ty t).size)(h0:n≠0)(w:World):(sizeOf t).run P w=.ok n w:=by
 rcases qnz hE t with h1|h1
 ·rw[h1] at h;exact absurd h h0
 ·rw[h1] at h;unfold qtw at h;cases hi:P.info? t with
  | none=>rw[hi] at h;exact absurd h h0
  | some i=>rw[hi] at h;simp[sizeOf,typeInfo,hi];exact h.symm
theorem qAT {r i es j:Nat}(hj:j<es)(h:r≠i):r*es+j<i*es\/i*es+es<=r*es+j:=by
 rcases Nat.lt_or_gt_of_ne h with h|h
 ·left;have:(r+1)*es<=i*es:=qJD _ h;rw[qJt] at this;omega
 ·right;have:(i+1)*es<=r*es:=qJD _ h;rw[qJt] at this;omega
theorem qd6 {c vs:List Value}{o k:Nat}(h:o+vs.length<=c.length):(c.take o++vs++c.drop (o+vs.length))[k]?=if o<=k/\k<o+vs.length then vs[k-o]? else c[k]?:=by
 by_cases h1:k<o
 ·rw[if_neg (by omega),qJQ,qJp (by simp;omega),qKg,if_pos h1]
 ·by_cases h2:k<o+vs.length
  ·rw[if_pos (by omega),qJQ,qJz (by simp;omega),qJp (by simp;omega)];congr 1;simp;omega
  ·rw[if_neg (by omega),qJz (by simp;omega),qKh];congr 1;simp;omega
theorem qmo (hE:E.tok P)(hs:HSim B X){p a:AV}{vp v:Value}(hp:Rep X p vp)(hv:Rep X a v){r:Res}(h:(qe3 E X.h t p a).run=some r):qR P B X (do Instr.storeAt t vp v;pure .skip) r:=by
 unfold qe3 at h;by_cases hc:a.cells.length=(E.ty t).size/\yJ a.cells=true/\a.cells.length≠0
 ·rw[if_pos hc] at h;have hrl:=qg5 hv hc.2.1;have hlen:v.cells.size=a.cells.length:=by have:=hrl.length;simpa using this.symm
  have hone:=qbQ hrl hc.2.1;have hsz:(sizeOf t).run P X.w=.ok v.cells.size X.w:=by rw[hlen];exact q9j hE hc.1 hc.2.2 X.w
  cases hp with
  | ptr b off n hb hσ=>
   simp only at h;cases hh:X.h[b]? with
   | none=>rw[hh] at h;cases h
   | some k=>
    rw[hh] at h;cases k<;>try (cases h)
    rename_i cs;simp only at h;by_cases hle:off+a.cells.length<=cs.length
    ·rw[if_pos hle] at h;cases h;obtain⟨n',c,T,e1,e2,e3⟩:=hs.blk b _ hh;rw[hσ] at e1;cases e1;have hcl:=e3.length;simp only[Array.length_toList] at hcl;have hrun:=q2B (P:=P) (t:=t) (o:=off) (v:=v) e2 hsz (by omega) hone;have hup:=UpdW.setRow (X:=X) (c':=(c.toList.take off++v.cells.toList++c.toList.drop (off+v.cells.size)).toArray) e2 (by simp;omega);have hown:X.own b n:=⟨hσ,_,hh,rfl⟩;have hx:=Ctx.upd_ext hs hh hown hup (k':=.cells (qmK cs off a.cells)) trivial;refine⟨.skip,Go.undef,X.upd b (.cells (qmK cs off a.cells)) (X.w.setRow n _),?_,.inr ⟨rfl,rfl⟩,.skip,hs.upd hh hown hup trivial ?_,rfl,hx⟩
     ·simp[Instr.storeAt,Instr.sureAddr,hrun];rfl
     ·refine⟨n,_,T,hσ,hup.new,?_⟩;have:=(qdL e3 hrl off).ext hx;rw[<-hlen] at this;simpa using this
    ·rw[if_neg hle] at h;cases h
  | vptr b i off n k hb hσ hk=>
   simp only at h;cases hh:X.h[b]? with
   | none=>rw[hh] at h;cases h
   | some kk=>
    rw[hh] at h;cases kk<;>try (cases h)
    rename_i e sh l;simp only at h;by_cases hm:(AV.menL a.cells).isEmpty=true
    ·rw[if_pos hm] at h;cases hu:qnC X.h ((sh.drop off).take a.cells.length) a.cells with
     | none=>rw[hu] at h;cases h
     | some us=>
      rw[hu] at h;cases h;obtain⟨g1,g2,g3⟩:=qr5 hu (by simpa using hm) hrl;have g2':off+a.cells.length<=sh.length:=by have:=hc.2.2;simp only[qK8,qLd] at g2;omega
      have hul:us.length=a.cells.length:=by rw[g1,<-g2]
      obtain⟨q1,q2,q3⟩:=hk sh l.length ⟨e,l,.inl hh,rfl⟩;rcases hs.blk b _ hh with⟨e1,_⟩|⟨n',c,e1,e2,e3⟩
      ·rw[hσ] at e1;cases e1
      rw[hσ] at e1;cases e1;have hlast:i.toNat*sh.length+off+a.cells.length<=c.size:=by
       have hlt:off+a.cells.length-1<sh.length:=by have:=hc.2.2;omega
       obtain⟨v',w1,_⟩:=e3 i.toNat (off+a.cells.length-1) hlt q2;have:=(qJj.1 w1).1;omega
      subst q3;have hrun:=q2B (P:=P) (t:=t) (o:=i.toNat*sh.length+off) (v:=v) e2 hsz (by omega) hone;have hup:=UpdW.setRow (X:=X) (c':=(c.toList.take (i.toNat*sh.length+off)++v.cells.toList++c.toList.drop (i.toNat*sh.length+off+v.cells.size)).toArray) e2 (by simp;omega);have hown:X.own b n:=⟨hσ,_,hh,rfl⟩;have hkk:qfc (.vec e sh l) (.vec e sh (qfD l i off us)):=⟨rfl,rfl,by simp[qfD]⟩;have hx:=Ctx.upd_ext hs hh hown hup hkk;refine⟨.skip,Go.undef,X.upd b (.vec e sh (qfD l i off us)) (X.w.setRow n _),?_,.inr ⟨rfl,rfl⟩,.skip,hs.upd hh hown hup hkk ?_,rfl,hx⟩
      ·simp[Instr.storeAt,Instr.sureAddr,hrun];rfl
      ·refine .inr ⟨n,_,hσ,hup.new,fun r j hj hr=>?_⟩;have hr':r<l.length:=by simpa[qfD] using hr
       have hget:∀k,(c.toList.take (i.toNat*sh.length+off)++v.cells.toList++c.toList.drop (i.toNat*sh.length+off+v.cells.size)).toArray[k]? =
         if i.toNat*sh.length+off<=k/\k<i.toNat*sh.length+off+v.cells.size then v.cells.toList[k-(i.toNat*sh.length+off)]? else c[k]?:=by
        intro k;have:=qd6 (c:=c.toList) (vs:=v.cells.toList) (o:=i.toNat*sh.length+off) (k:=k) (by simp;omega);simpa using this
       rw[hget];by_cases hri:r=i.toNat
       ·subst hri;rw[qeK,qgz q2];by_cases hin:off<=j/\j<off+us.length
        ·rw[if_pos (by omega),if_pos hin];obtain⟨v',w1,w2⟩:=g3 (j-off) (by rw[<-g1];omega);refine⟨v',?_,?_⟩
         ·rw[show i.toNat*sh.length+j-(i.toNat*sh.length+off)=j-off by omega];exact w1
         ·have:((sh.drop off).take a.cells.length)[j-off]'(by rw[<-g1];omega)=sh[j]:=by simp only[List.getElem_take,List.getElem_drop];congr 1;omega
          rw[this] at w2;exact w2.mono hx.M hx.w
        ·rw[if_neg (by omega),if_neg hin];obtain⟨v',w1,w2⟩:=e3 i.toNat j hj q2;rw[qeK] at w2;exact⟨v',w1,w2.mono hx.M hx.w⟩
       ·rw[qf9 hri];have:=qAT (i:=i.toNat) hj hri;rw[if_neg (by omega)];obtain⟨v',w1,w2⟩:=e3 r j hj hr';exact⟨v',w1,w2.mono hx.M hx.w⟩
    ·rw[if_neg hm] at h;cases h
  | _=>simp only at h;cases h
 ·rw[if_neg hc] at h;cases h
end Go.Eng

namespace Go.Eng
theorem qpo:∀(xs:List Value) (cs:Array Value) (off k:Nat),off+k+xs.length<=cs.size ->
  ((xs.zipIdx k).foldl (fun cs (x:Value×Nat)=>cs.setIfInBounds (off+x.2) x.1) cs).toList=cs.toList.take (off+k)++xs++cs.toList.drop (off+k+xs.length)
 | [],cs,off,k,_=>by simp
 | x::xs,cs,off,k,h=>by
  simp only[List.zipIdx_cons,qL5,qJM] at h ⊢;rw[qpo xs (cs.setIfInBounds (off+k) x) off (k+1) (by simp;omega)];rw[Array.toList_setIfInBounds];apply qK9;intro i;have hlen:(cs.toList.set (off+k) x).length=cs.size:=by simp
  rw[qd6 (by simp;omega)];have:=qd6 (c:=cs.toList) (vs:=x::xs) (o:=off+k) (k:=i) (by simp;omega);simp only[qJM] at this;rw[this];by_cases h1:i=off+k
  ·subst h1;rw[if_neg (by omega),if_pos (by omega),qJv (by simp;omega)];simp
  ·by_cases h2:off+k<=i/\i<off+k+(xs.length+1)
   ·rw[if_pos (by omega),if_pos h2,show i-(off+k)=(i-(off+(k+1)))+1 by omega];simp
   ·rw[if_neg (by omega),if_neg h2,qJf (by omega)]
theorem qro(v cs:Array Value)(off:Nat)(h:off+v.size<=cs.size) :(v.zipIdx.foldl (fun cs (x:Value×Nat)=>cs.setIfInBounds (off+x.2) x.1) cs).toList=cs.toList.take off++v.toList++cs.toList.drop (off+v.size):=by rw[<-Array.foldl_toList,Array.toList_zipIdx];have:=qpo v.toList cs off 0 (by simpa using h);simpa using this
inductive RepP (X:Ctx):List (Nat×AV)->List (Nat×Value)->Prop
 | nil:RepP X [] []
 | cons {i:Nat} {a:AV} {v:Value} {l:List (Nat×AV)} {m:List (Nat×Value)} (h:Rep X a v) (t:RepP X l m):RepP X ((i,a)::l) ((i,v)::m)
theorem qh7{X:Ctx}{place:Nat->Option (Nat×Nat)}:∀{parts:List (Nat×AV)} {vparts:List (Nat×Value)} {cells cs:List AV} {vc:Array Value},
  qdi place cells parts=some cs->RepP X parts vparts->RepL X cells vc.toList->∃vc',Instr.fill place vc vparts=some vc'/\RepL X cs vc'.toList
 | [],_,cells,cs,vc,h,.nil,hr=>by simp[qdi] at h;subst h;exact⟨vc,rfl,hr⟩
 | (i,a)::parts,_,cells,cs,vc,h,.cons (v:=v) ha ht,hr=>by
  simp only[qdi] at h;cases hp:place i with
  | none=>rw[hp] at h;cases h
  | some q=>
   obtain⟨off,size⟩:=q;rw[hp] at h;simp only at h;by_cases hc:a.cells.length=size/\off+a.cells.length<=cells.length/\yJ a.cells=true
   ·rw[if_pos hc] at h;have hrl:=qg5 ha hc.2.2;have hlen:v.cells.size=a.cells.length:=by have:=hrl.length;simpa using this.symm
    have hvc:cells.length=vc.size:=by have:=hr.length;simpa using this
    have hnot:¬(v.cells.size≠size\/off+v.cells.size>vc.size):=by omega
    have hf:=qro v.cells vc off (by omega);obtain⟨vc',h1,h2⟩:=qh7 (vc:=v.cells.zipIdx.foldl (fun cs (x:Value×Nat)=>cs.setIfInBounds (off+x.2) x.1) vc) h ht (by rw[hf,hlen];exact qdL hr hrl off);refine⟨vc',?_,h2⟩;simp only[Instr.fill,hp];rw[if_neg (by simpa using hnot)];exact h1
   ·rw[if_neg hc] at h;cases h
theorem qkG{α β:Type}{P:Program}{f:α->Sem β}{g:α->β}:∀(l:List α),(∀a∈l,∀w,(f a).run P w=.ok (g a) w)->∀w,(l.mapM f).run P w=.ok (l.map g) w
 | [],_,w=>rfl
 | a::l,h,w=>by
  rw[List.mapM_cons,qJh,h a qJs,qJn,qJh,qkG l (fun b hb=>h b (qJy _ hb)) w];rfl
theorem qxj{α β:Type}{P:Program}{f:α->Sem β}{g:α->β}(l:Array α)(h:∀a∈l.toList,∀w,(f a).run P w=.ok (g a) w)(w:World):(l.mapM f).run P w=.ok (l.map g) w:=by rw[Array.mapM_eq_mapM_toList,Sem.run_map,qkG _ h,qJn];congr 1;apply qKz;simp
theorem qsr{E:Env}{P:Program}(hE:E.tok P){X:Ctx}{t:TypeId}{parts:List (Nat×AV)}{vparts:Array (Nat×Value)}(hp:RepP X parts vparts.toList){r:Res}(h:(qg2 E X.h t parts).run=some r):∃av u,r=(av,X.h,none)/\(Instr.build t vparts).run P X.w=.ok u X.w/\Rep X av u:=by
 unfold qg2 at h;by_cases hz:(E.ty t).zero.length=0
 ·rw[if_pos hz] at h;cases h
 rw[if_neg hz] at h;obtain⟨z,z1,z2,_⟩:=qdT hE hz X.w;cases hd:(E.ty t).d<;>rw[hd] at h<;>try (cases h)
 ·rename_i n e es;obtain⟨ht,rfl⟩:=q7K hE hd;simp only at h;by_cases h0:P.cellsOf e=0
  ·rw[if_pos h0] at h;cases h
  rw[if_neg h0] at h;cases hf:qdi (fun i=>some (i*P.cellsOf e,P.cellsOf e)) ((E.ty t).zero.map jx) parts with
  | none=>rw[hf] at h;cases h
  | some cs=>
   rw[hf] at h;cases h;obtain⟨vc,f1,f2⟩:=qh7 (vc:=z.cells) hf hp (by rw[z2];exact jL X _);have:Rep X (.agg cs) (.agg vc.toList.toArray):=.agg _ _ f2;refine⟨_,.agg vc,rfl,?_,by simpa using this⟩;simp[Instr.build,z1,run_underlying ht,zO (show 0<P.cellsOf e by omega),f1]
 ·rename_i fs;obtain⟨fields,e1,e2⟩:=q82 hE hd;simp only at h;by_cases hok:(E.ty t).fok=true
  ·rw[if_pos hok] at h;have hinfo:∀f∈fields.toList,(P.info? f.type).isSome=true:=by have hk:=q0f hE (t:=t) (by rw[hd];rfl);rw[hk.1] at hok;unfold qtw at hok;obtain⟨_,i,dd,h1,_⟩:=hk;rw[h1] at hok;simpa only [e1,qJL] using hok
   cases hf:qdi (fun i=>(fs[i]?).map fun (f:Nat×TypeId×Nat)=>(f.1,f.2.2)) ((E.ty t).zero.map jx) parts with
   | none=>rw[hf] at h;cases h
   | some cs=>
    rw[hf] at h;cases h;have hpl:(fun i:Nat=>(fs[i]?).map fun (f:Nat×TypeId×Nat)=>(f.1,f.2.2))=fun i:Nat=>(fields.map fun f=>(f.offset,P.cellsOf f.type))[i]?:=by funext i;rw[e2];simp only[qJo,qLn,Array.getElem?_map,Option.map_map];rfl
    rw[hpl] at hf;obtain⟨vc,f1,f2⟩:=qh7 (vc:=z.cells) hf hp (by rw[z2];exact jL X _);have:Rep X (.agg cs) (.agg vc.toList.toArray):=.agg _ _ f2;refine⟨_,.agg vc,rfl,?_,by simpa using this⟩;have hm:=qxj (P:=P) (f:=fun f:Field=>(do pure (f.offset,<-sizeOf f.type):Sem (Nat×Nat))) (g:=fun f=>(f.offset,P.cellsOf f.type)) fields (fun f hf w=>by
     have:=hinfo f hf;cases hi:P.info? f.type with
     | none=>rw[hi] at this;cases this
     | some i=>simp[sizeOf,typeInfo,hi,Program.cellsOf]) X.w
    simp only[Instr.build,qJh,z1,qJn,run_underlying e1];rw[hm];simp only[qJn,f1];rfl
  ·rw[if_neg hok] at h;cases h
variable {B:Base}{e:TypeId}{h:List Blk}{l:R}{sh:List Sh}
structure Frozen (B:Base) (X X':Ctx) (h':List Blk):Prop where
 h:X'.h=h'
 w:X'.w=X.w
 σ:X'.σ=X.σ
 hs:HSim B X'
 ext:Ext X X'
theorem Move.trans {X Y Z:Ctx}(h:Ext X Y)(k:Ext Y Z):Ext X Z:=by refine Move.of (fun n hn=>k.M n (h.M n hn)) (fun a ha=>(k.w a (h.M _ ha)).trans (h.w a ha)) (fun b b' hb hf=>?_) (k.y.trans h.y) (k.kept.trans h.kept);cases hf;have h1:=h.b b b hb rfl;have h2:=k.b b b h1.lt rfl;refine⟨h2.lt,h2.σ.trans h1.σ,fun sh m hv=>h1.vec sh m (h2.vec sh m hv),fun sh m hv n hn c T fr hc=>?_⟩;obtain⟨c1,T1,fr1,e1,e2⟩:=h1.size sh m (h2.vec sh m hv) n hn c T fr hc;obtain⟨c2,T2,fr2,e3,e4⟩:=h2.size sh m hv n (by rw[h1.σ];exact hn) c1 T1 fr1 e1;exact⟨c2,T2,fr2,e3,e4.trans e2⟩
theorem qfK {X:Ctx}(hs:HSim B X)(b:Nat):∃X',Frozen B X X' (zR X.h b):=by
 unfold zR;cases hb:X.h[b]? with
 | none=>exact⟨X,rfl,rfl,rfl,hs,Ext.refl X⟩
 | some k=>
  cases k with
  | vec e sh l=>exact⟨X.frz b e sh l,rfl,rfl,rfl,hs.frz hb,Ctx.frz_ext hb⟩
  | cells=>exact⟨X,rfl,rfl,rfl,hs,Ext.refl X⟩
  | big=>exact⟨X,rfl,rfl,rfl,hs,Ext.refl X⟩
  | frz=>exact⟨X,rfl,rfl,rfl,hs,Ext.refl X⟩
  | dead=>exact⟨X,rfl,rfl,rfl,hs,Ext.refl X⟩
theorem qpE {b b':Nat}(hb:h[b']?=some (.vec e sh l)\/h[b']?=some (.frz e sh l)) :(zR h b)[b']?=some (.vec e sh l)\/(zR h b)[b']?=some (.frz e sh l):=by
 unfold zR;split
 ·rename_i e1 sh1 l1 h1;by_cases hbb:b'=b
  ·subst hbb;rw[qJv (qu h1)];rcases hb with hb|hb<;>rw[h1] at hb<;>cases hb;exact .inr rfl
  ·rw[qJf (qJI hbb)];exact hb
 ·exact hb
theorem qge {b:Nat}(hb:h[b]?=some (.vec e sh l)\/h[b]?=some (.frz e sh l)) :(zR h b)[b]?=some (.frz e sh l):=by
 unfold zR;rcases hb with hb|hb<;>rw[hb]
 ·simp only;rw[qJv (qu hb)]
 ·exact hb
theorem qvR {b b':Nat}(hb:h[b']?=some (.frz e sh l)):(zR h b)[b']?=some (.frz e sh l):=by
 rcases qpE (b:=b) (.inr hb) with h1|h1
 ·unfold zR at h1;split at h1
  ·rename_i e1 sh1 l1 h2;by_cases hbb:b'=b
   ·subst hbb;rw[h2] at hb;cases hb
   ·rw[qJf (qJI hbb),hb] at h1;cases h1
  ·rw[hb] at h1;cases h1
 ·exact h1
theorem q5p{B:Base}:∀(l:List Nat) {X:Ctx} (_:HSim B X),∃X',Frozen B X X' (qO X.h l)
 | [],X,hs=>⟨X,rfl,rfl,rfl,hs,Ext.refl X⟩
 | b::l,X,hs=>by
  obtain⟨X1,f1⟩:=qfK hs b;obtain⟨X2,f2⟩:=q5p l f1.hs;refine⟨X2,?_,f2.w.trans f1.w,f2.σ.trans f1.σ,f2.hs,f1.ext.trans f2.ext⟩;rw[f2.h,f1.h];rfl
theorem qo8:∀(l:List Nat) {h:List Blk} {b:Nat} {e:TypeId} {sh:List Sh} {r:R},h[b]?=some (.frz e sh r)->(qO h l)[b]?=some (.frz e sh r)
 | [],_,_,_,_,_,h=>h
 | _::l,_,_,_,_,_,h=>qo8 l (qvR h)
theorem qpn:∀(l:List Nat) {h:List Blk} {b:Nat} {e:TypeId} {sh:List Sh} {r:R},b∈l->(h[b]?=some (.vec e sh r)\/h[b]?=some (.frz e sh r))->(qO h l)[b]?=some (.frz e sh r)
 | a::l,h,b,e,sh,r,hm,hb=>by
  rcases qJi.1 hm with rfl|hm
  ·exact qo8 l (qge hb)
  ·exact qpn l hm (qpE hb)
def qAC(l:List AV):List Nat:=l.filterMap fun|.vec b=>some b|_=>none
theorem qmm:∀(l:List AV) (h:List Blk),qab h l=qO h (qAC l)
 | [],h=>rfl
 | a::l,h=>by
  cases a<;>first|(simp only[qab,qAC,List.filterMap_cons];exact qmm l _)
theorem qh1 {X:Ctx}(hs:HSim B X){b:Nat}{v:Value}(hb:X.h[b]?=some (.frz e sh l))(hv:Rep X (.vec b) v):qdO X.w X.M sh l v:=by
 cases hv with
 | vec _ p n c hlt h=>
  have h1:=h sh l.length ⟨e,l,.inr hb,rfl⟩;unfold qtd at h1;rcases hs.blk b _ hb with⟨e1,rfl⟩|⟨n0,c0,e1,e2,e3,e4⟩
  ·rw[e1] at h1;obtain⟨p',h1⟩:=h1;cases p' with
   | none=>exact .inl ⟨h1,rfl⟩
   | some a=>exact .inr ⟨a,0,h1,fun h=>absurd h (Nat.lt_irrefl 0),qJe 0,fun r j hj hr=>absurd hr (qLf r)⟩
  ·rw[e1] at h1;obtain⟨cap,f1,f2,f3,c1,T1,fr1,f4,f5⟩:=h1;refine .inr ⟨⟨n0,0,none⟩,cap,f1,fun _=>rfl,f2,fun r j hj hr=>⟨e4,?_⟩⟩;obtain⟨v,q1,q2⟩:=e3 r j hj hr;exact⟨v,by rw[w8 e2];simpa using q1,q2⟩
theorem qy9 {X X1:Ctx}{s:Sh}{a:AV}{u:U}{v:Value}(h:toU X.h s a=some u)(hs1:HSim B X1)(hx:Ext X X1)(hf:∀b e sh l,a=.vec b->(X.h[b]?=some (.vec e sh l)\/X.h[b]?=some (.frz e sh l))->X1.h[b]?=some (.frz e sh l)) (hr:Rep X a v):RepU X1.w X1.M s u v:=by
 by_cases hv:∃b,a=.vec b
 ·obtain⟨b,rfl⟩:=hv;cases s<;>simp only[toU] at h<;>try (cases h)
  rename_i row;have key:∀e row' l,(X.h[b]?=some (.vec e row' l)\/X.h[b]?=some (.frz e row' l))->(if Sh.beqL row row' then some (U.l l) else none)=some u->RepU X1.w X1.M (.sl row) u v:=by
   intro e row' l hb hh;by_cases hq:Sh.beqL row row'=true
   ·rw[if_pos hq] at hh;cases hh;obtain rfl:=Sh.beqL_eq _ _ hq;exact q9H (qh1 hs1 (hf b e row l rfl hb) (hr.ext hx))
   ·rw[if_neg hq] at hh;cases hh
  split at h
  ·rename_i e row' l hb;exact key _ _ _ (.inl hb) h
  ·rename_i e row' l hb;exact key _ _ _ (.inr hb) h
  ·cases h
 ·
  have:RepU X.w X.M s u v:=by
   cases hr with
   | vec b=>exact absurd ⟨b,rfl⟩ hv
   | ilit k n=>exact q83 h rfl (.ilit k n)
   | int k n=>exact q83 h rfl (.int k n)
   | blit b=>exact q83 h rfl (.blit b)
   | bool b=>exact q83 h rfl (.bool b)
   | str t=>exact q83 h rfl (.str t)
   | nils=>exact q83 h rfl .nils
   | imm sh l v himm=>exact q83 h rfl (.imm sh l v himm)
   | _=>cases s<;>simp only[toU] at h<;>cases h
  exact this.mono hx.M hx.w
def qki(w:World)(M:Nat->Prop)(sh:List Sh)(l:R)(xs:List Value):Prop:=xs.length=l.length*sh.length/\∀r j (hj:j<sh.length),r<l.length->∃v,xs[r*sh.length+j]?=some v/\RepU w M sh[j] (wy l r j) v
theorem qps{B:Base}{X X1:Ctx}(hs1:HSim B X1)(hx:Ext X X1):∀{sh:List Sh} {azz:List AV} {us:List U} {vs:List Value},qnC X.h sh azz=some us ->
  (∀a∈azz,∀b e sh l,a=.vec b->(X.h[b]?=some (.vec e sh l)\/X.h[b]?=some (.frz e sh l))->X1.h[b]?=some (.frz e sh l))->RepL X azz vs ->
  us.length=sh.length/\azz.length=sh.length/\∀j (hj:j<sh.length),∃v,vs[j]?=some v/\RepU X1.w X1.M sh[j] (us.getD j (.i 0)) v
 | [],[],us,vs,h,_,hr=>by simp[qnC] at h;subst h;exact⟨rfl,rfl,fun j hj=>by simp at hj⟩
 | [],_::_,us,vs,h,_,_=>by simp[qnC] at h
 | _::_,[],us,vs,h,_,_=>by simp[qnC] at h
 | s::sh,a::azz,us,vs,h,hm,hr=>by
  simp only[qnC] at h;cases h1:toU X.h s a with
  | none=>rw[h1] at h;cases h
  | some u=>
   cases h2:qnC X.h sh azz with
   | none=>rw[h1,h2] at h;cases h
   | some us'=>
    rw[h1,h2] at h;cases h;cases hr with
    | cons ha ht=>
     obtain⟨g1,g2,g3⟩:=qps hs1 hx h2 (fun a ha=>hm a (qJy _ ha)) ht;refine⟨by simp[g1],by simp[g2],fun j hj=>?_⟩;cases j with
     | zero=>exact⟨_,rfl,by simpa using qy9 h1 hs1 hx (hm a qJs) ha⟩
     | succ j=>
      obtain⟨v,q1,q2⟩:=g3 j (by simpa using hj);exact⟨v,by simpa using q1,by simpa using q2⟩
theorem qoF (row:List U)(l:R)(j:Nat):wy (row::l) (0:Nat) j=row.getD j (.i 0):=by simp[wy]
theorem qnO (row:List U)(l:R)(r j:Nat):wy (row::l) ((r+1:Nat):Int) j=wy l r j:=by unfold wy;rw[qJq,qJq];simp
theorem qjd{B:Base}{X X1:Ctx}(hs1:HSim B X1)(hx:Ext X X1){sh:List Sh}:∀(n:Nat) {azz:List AV} {l:R} {vs:List Value},qhB X.h sh n azz=some l ->
  (∀a∈azz,∀b e sh l,a=.vec b->(X.h[b]?=some (.vec e sh l)\/X.h[b]?=some (.frz e sh l))->X1.h[b]?=some (.frz e sh l))->RepL X azz vs->l.length=n/\qki X1.w X1.M sh l vs
 | 0,azz,l,vs,h,hm,hr=>by
  cases azz with
  | nil=>simp[qhB] at h;subst h;cases hr;exact⟨rfl,by simp,fun r j hj hr=>by simp at hr⟩
  | cons=>simp[qhB] at h
 | n+1,azz,l,vs,h,hm,hr=>by
  simp only[qhB] at h;cases h1:qnC X.h sh (azz.take sh.length) with
  | none=>rw[h1] at h;cases h
  | some us=>
   cases h2:qhB X.h sh n (azz.drop sh.length) with
   | none=>rw[h1,h2] at h;cases h
   | some l'=>
    rw[h1,h2] at h;cases h;obtain⟨g1,g2,g3⟩:=qps hs1 hx h1 (fun a ha=>hm a (qLo ha)) (hr.take _);obtain⟨g4,g5,g6⟩:=qjd hs1 hx n h2 (fun a ha=>hm a (qLp ha)) (hr.drop _);have hlen:=hr.length;have g2':sh.length<=azz.length:=by simp only[qK8] at g2;omega
    refine⟨by simp[g4],?_,fun r j hj hr'=>?_⟩
    ·simp only[qLd] at g5;rw[qJM,qJt,qKV];omega
    ·cases r with
     | zero=>
      obtain⟨v,q1,q2⟩:=g3 j hj;rw[qKg,if_pos hj] at q1;exact⟨v,by simpa using q1,by rw[qoF];exact q2⟩
     | succ r=>
      obtain⟨v,q1,q2⟩:=g6 r j hj (by simpa using hr');rw[qKh] at q1;refine⟨v,?_,by rw[qnO];exact q2⟩;rw[<-q1];congr 1;rw[qJt];omega
end Go.Eng

namespace Go.Eng
variable {P:Program}{X:Ctx}{l:R}{sh:List Sh}{t:TypeId}{w:World}
theorem qcS (h:List Blk)(b:Nat):(zR h b).length=h.length:=by unfold zR;split<;>simp
theorem qhU:∀(l:List Nat) (h:List Blk),(qO h l).length=h.length
 | [],_=>rfl
 | b::l,h=>by simp[qO,qhU l,qcS]
theorem qkt{α:Type}{l:List α}:∀{n i:Nat},i<n*l.length->(List.replicate n l).flatten[i]?=l[i%l.length]?
 | 0,i,h=>by simp at h
 | n+1,i,h=>by
  rw[qKG,qLq];by_cases hi:i<l.length
  ·rw[qJp hi,Nat.mod_eq_of_lt hi]
  ·rw[qJz (by omega),qkt (by rw[qJt] at h;omega),Nat.mod_eq_sub_mod (by omega:l.length<=i)]
theorem qwY (z:Array Value)(n:Nat):((Array.range (n*z.size)).map (z[·%z.size]!)).toList=(List.replicate n z.toList).flatten:=by
 apply qK9;intro i;by_cases hi:i<n*z.size
 ·rw[qkt (by simpa using hi)];have hz:0<z.size:=by
   rcases qKj z.size with h|h
   ·rw[h] at hi;omega
   ·exact h
  have hlt:=qKC i hz;simp[hi,hlt]
 ·have h1:((Array.range (n*z.size)).map (z[·%z.size]!)).toList.length<=i:=by simp;omega
  have h2:(List.replicate n z.toList).flatten.length<=i:=by simp;omega
  rw[qJC h1,qJC h2]
theorem qct{X:Ctx}{azz:List AV}{vs:List Value}(h:RepL X azz vs):∀n,RepL X (List.replicate n azz).flatten (List.replicate n vs).flatten
 | 0=>.nil
 | n+1=>by simp only[qKG,qLq];exact h.append (qct h n)
theorem qo9 {e:TypeId}{n cap:Nat}{w':World}{c:Array Value}{T:TypeId}{fr:Nat×Nat}(h1:l.length<=cap)(h2:cap<=maxLen)(h3:w'.heap[n]?=some (.cells c T fr)) (h4:c.size=cap*sh.length):Rep (X.pushW (.vec e sh l) (some n) w') (.vec X.h.length) (.slice (some ⟨n,0,none⟩) l.length cap):=by
 refine .vec _ _ _ _ (by simp[Ctx.pushW]) fun sh' m ⟨e',l',q1,q2⟩=>?_;have:(X.h++[Blk.vec e sh l])[X.h.length]?=some (.vec e sh l):=by simp
 simp only[Ctx.pushW,this] at q1;rcases q1 with q1|q1<;>cases q1;subst q2;unfold qtd;simp only[Ctx.pushW,if_true];exact⟨cap,rfl,h1,h2,c,T,fr,h3,h4⟩
theorem qlS {E:Env}(hE:E.tok P){B:Base}(hs:HSim B X){len:Nat}{parts:List (Nat×AV)}{vparts:Array (Nat×Value)}(hp:RepP X parts vparts.toList){r:Res}(h:(q7Z E X.h t len parts).run=some r):qR P B X (do pure (.value (<-Instr.buildSlice t len vparts))) r:=by
 unfold q7Z at h;cases hd:(E.ty t).d<;>rw[hd] at h<;>try (cases h)
 rename_i e es;obtain⟨ht,rfl⟩:=q1p hE hd;simp only at h;by_cases hc:len*P.cellsOf e<=16777216/\0<P.cellsOf e/\(E.ty e).zero.length=P.cellsOf e
 ·rw[if_pos hc] at h;obtain⟨hc1,hc2,hc3⟩:=hc;cases hf:qdi (fun i=>some (i*P.cellsOf e,P.cellsOf e)) (List.replicate len ((E.ty e).zero.map jx)).flatten parts with
  | none=>rw[hf] at h;cases h
  | some cs=>
   cases hsh:E.shape 16 e with
   | none=>rw[hf,hsh] at h;cases h
   | some sh=>
    rw[hf,hsh] at h;simp only at h;by_cases hl:sh.length=P.cellsOf e
    ·rw[if_pos hl] at h;cases hch:qhB X.h sh len cs with
     | none=>rw[hch] at h;cases h
     | some l=>
      rw[hch] at h;cases h;obtain⟨z,z1,z2,_⟩:=qdT hE (t:=e) (by omega) X.w;have hzs:z.cells.size=P.cellsOf e:=by rw[<-hc3,<-z2];simp
      have hini:RepL X (List.replicate len ((E.ty e).zero.map jx)).flatten ((Array.range (len*P.cellsOf e)).map (z.cells[·%z.cells.size]!)).toList:=by rw[<-hzs,qwY,z2];exact qct (jL X _) len
      obtain⟨vc,f1,f2⟩:=qh7 (vc:=(Array.range (len*P.cellsOf e)).map (z.cells[·%z.cells.size]!)) hf hp hini;obtain⟨X1,fz⟩:=q5p (qAC cs) hs;have hmem:∀a∈cs,∀b e sh l,a=.vec b->(X.h[b]?=some (.vec e sh l)\/X.h[b]?=some (.frz e sh l))->X1.h[b]?=some (.frz e sh l):=by intro a ha b e sh l hab hb;subst hab;rw[fz.h];exact qpn _ (List.mem_filterMap.2 ⟨_,ha,rfl⟩) hb
      obtain⟨g1,g2,g3⟩:=qjd fz.hs fz.ext len hch hmem f2;have hpw:=PushW.alloc X1 (.cells vc e);have hlenv:vc.size=len*P.cellsOf e:=by rw[<-hl,<-g1];simpa using g2
      have hx2:=Ctx.push_ext fz.hs (.vec e sh l) hpw;have hlenh:X1.h.length=X.h.length:=by rw[fz.h,qhU]
      have hvec:=qo9 (X:=X1) (e:=e) (sh:=sh) (l:=l) (n:=X1.w.heap.size) (cap:=len) (w':=X1.w.alloc (.cells vc e)) (by omega) (by have:len<=len*P.cellsOf e:=Nat.le_mul_of_pos_right _ hc2;unfold maxLen;omega) (wt _ _) (by rw[hl];exact hlenv);rw[g1,hlenh,fz.w] at hvec;refine⟨.value (.slice (some ⟨X.w.heap.size,0,none⟩) len len),_,X1.pushW (.vec e sh l) (some X1.w.heap.size) (X1.w.alloc (.cells vc e)),?_,.inl rfl,?_,fz.hs.push hpw ?_,?_,fz.ext.trans hx2⟩
      ·have hbig:¬(len*P.cellsOf e>2^24):=by omega
       simp only[Instr.buildSlice,qJh,run_underlying ht,qJn,zO hc2,Sem.run_ite,hbig,if_false,qJN,Result.andThen_ite,z1];by_cases h0:len*P.cellsOf e=0
       ·rw[if_pos h0,show Instr.fill (fun i=>some (i*P.cellsOf e,P.cellsOf e)) (Array.map (fun x=>(#[]:Array Value)[x%(#[]:Array Value).size]!) (Array.range (len*P.cellsOf e))) vparts.toList=some vc by
         have e0:∀f:Nat->Value,Array.map f (Array.range (len*P.cellsOf e))=#[]:=by intro f;rw[h0];simp
         rw[e0] at f1 ⊢;exact f1,fz.w]
        rfl
       ·rw[if_neg h0,f1,fz.w];rfl
      ·rw[fz.w];exact hvec
      ·refine .inr ⟨X1.w.heap.size,vc,by simp[Ctx.pushW],wt _ _,fun r j hj hr=>?_⟩;obtain⟨v,q1,q2⟩:=g3 r j hj hr;exact⟨v,by simpa using q1,q2.mono hx2.M hx2.w⟩
      ·show X1.h++[_]=_;rw[fz.h,qmm]
    ·rw[if_neg hl] at h;cases h
 ·rw[if_neg hc] at h;cases h
inductive RepO (X:Ctx):Option AV->Option Value->Prop
 | none:RepO X none none
 | some {a:AV} {v:Value} (h:Rep X a v):RepO X (some a) (some v)
theorem zB {k:IntKind}{i:Int}{y:Nat}{c:BoundsCode}(h0:0<=i)(h1:i<=y):(Instr.sliceBound (.int k i) y c).run P w=.ok i.toNat w:=by simp[Instr.sliceBound,asIntOf,h0,h1]
theorem qk7 {o:Option AV}{v:Option Value}(h:RepO X o v){d a:Int}(ha:qdJ o d=some a):(v=none/\a=d)\/∃k,v=some (.int k a):=by
 cases h with
 | none=>simp only[qdJ,qJc] at ha;exact .inl ⟨rfl,ha.symm⟩
 | some hv=>
  simp only[qdJ] at ha;rename_i a0 v0;cases h3:asI a0 with
  | none=>rw[h3] at ha;cases ha
  | some p=>
   obtain⟨k,n⟩:=p;rw[h3] at ha;simp only[qJR,qJc] at ha;subst ha;obtain rfl:=q3K hv h3;exact .inr ⟨k,rfl⟩
theorem q0q {isS:Bool}{len cap:Nat}{lo hi:Option AV}{vlo vhi:Option Value}(hlo:RepO X lo vlo)(hhi:RepO X hi vhi){a b d:Int}(h1:qdJ lo 0=some a) (h2:qdJ hi d=some b) (hd:d=len) (hb0:0<=b) (hb:b<=cap) (ha0:0<=a) (ha:a<=b) (w:World) :(Instr.sliceBounds isS len cap vlo vhi none).run P w=.ok (a.toNat,b.toNat,cap) w:=by
 have hba:a<=(b.toNat:Nat):=by omega
 rcases qk7 hlo h1 with⟨rfl,rfl⟩|⟨k,rfl⟩<;>rcases qk7 hhi h2 with⟨rfl,rfl⟩|⟨k',rfl⟩
 ·subst hd;simp[Instr.sliceBounds]
 ·simp[Instr.sliceBounds,zB hb0 hb]
 ·subst hd;have:a<=(len:Int):=ha;simp[Instr.sliceBounds,zB ha0 this]
 ·simp[Instr.sliceBounds,zB hb0 hb,zB ha0 hba]
theorem qqJ {a b:Int}{r:Nat}(h:r<b.toNat-a.toNat){j:Nat}:wy (qwa l a b) r j=wy l ((a.toNat+r:Nat):Int) j:=by
 unfold wy qwa;rw[qJq,qJq];have:((l.take b.toNat).drop a.toNat).getD r []=l.getD (a.toNat+r) []:=by simp only[qJd,qKh,qKg];rw[if_pos (by omega)]
 rw[this]
theorem q2C {a b:Int}(hb:b.toNat<=l.length):(qwa l a b).length=b.toNat-a.toNat:=by simp[qwa];omega
theorem qo5 {M:Nat->Prop}{p:Option Addr}{n c:Nat}{a b:Int}(h:qdO w M sh l (.slice p n c))(ha0:0<=a)(ha:a<=b)(hb:b<=qk l) :b.toNat<=c/\n=l.length/\qdO w M sh (qwa l a b) (.slice (if c=a.toNat then p else p.map (·.add (a.toNat*sh.length))) (b.toNat-a.toNat) (c-a.toNat)):=by
 have hb':b.toNat<=l.length:=by simp only[qk] at hb;omega
 rcases h with⟨h1,h2⟩|⟨ad,cap,h1,h2,h3,h4⟩
 ·cases h1;subst h2;simp at hb';have e1:a.toNat=0:=by omega
  have e2:b.toNat=0:=by omega
  refine⟨by omega,rfl,.inl ⟨?_,by simp[qwa]⟩⟩;rw[e1,e2];simp
 ·cases h1;refine⟨by omega,rfl,.inr ⟨if c=a.toNat then ad else ad.add (a.toNat*sh.length),c-a.toNat,?_,?_,?_,?_⟩⟩
  ·rw[q2C hb'];split<;>rfl
  ·intro hl;rw[q2C hb'] at hl;have h2':=h2 (by omega);split
   ·exact h2'
   ·rw[Addr.add_of h2']
  ·rw[q2C hb'];omega
  ·intro r j hj hr;rw[q2C hb'] at hr;rw[if_neg (by omega),Addr.add_of (h2 (by omega))];obtain⟨g1,v,g2,g3⟩:=h4 (a.toNat+r) j hj (by omega);refine⟨g1,v,?_,by rw[qqJ hr];exact g3⟩;rw[<-g2];show _=World.cell? w ⟨ad.block,ad.off+(a.toNat+r)*sh.length+j,none⟩;congr 2;rw[qJt];show ad.off+a.toNat*sh.length+r*sh.length+j=_;omega
theorem qrm {M:Nat->Prop}{p:Option Addr}{n c:Nat}{a b:Int}(h:qdO w M sh l (.slice p n c))(ha0:0<=a)(ha:a<=b)(hb:b<=qk l) :b.toNat<=c/\qdO w M sh (qwa l a b) (.slice (if b.toNat=a.toNat then p else p.map (·.add (a.toNat*sh.length))) (b.toNat-a.toNat) (b.toNat-a.toNat)):=by
 have hb':b.toNat<=l.length:=by simp only[qk] at hb;omega
 rcases h with⟨h1,h2⟩|⟨ad,cap,h1,h2,h3,h4⟩
 ·cases h1;subst h2;simp at hb';have e1:a.toNat=0:=by omega
  have e2:b.toNat=0:=by omega
  refine⟨by omega,.inl ⟨?_,by simp[qwa]⟩⟩;rw[e1,e2];simp
 ·cases h1;refine⟨by omega,.inr ⟨if b.toNat=a.toNat then ad else ad.add (a.toNat*sh.length),b.toNat-a.toNat,?_,?_,?_,?_⟩⟩
  ·rw[q2C hb'];split<;>rfl
  ·intro hl;rw[q2C hb'] at hl;have h2':=h2 (by omega);split
   ·exact h2'
   ·rw[Addr.add_of h2']
  ·rw[q2C hb'];omega
  ·intro r j hj hr;rw[q2C hb'] at hr;rw[if_neg (by omega),Addr.add_of (h2 (by omega))];obtain⟨g1,v,g2,g3⟩:=h4 (a.toNat+r) j hj (by omega);refine⟨g1,v,?_,by rw[qqJ hr];exact g3⟩;rw[<-g2];show _=World.cell? w ⟨ad.block,ad.off+(a.toNat+r)*sh.length+j,none⟩;congr 2;rw[qJt];show ad.off+a.toNat*sh.length+r*sh.length+j=_;omega
theorem qtc {a:AV}{v:Value}(h:Rep X a v){q:IntKind×Int}(ha:asI a=some q):∃k,v=.int k q.2:=by
 rcases qk7 (.some h) (d:=0) (a:=q.2) (by simp[qdJ,ha]) with⟨h1,_⟩|⟨k,h1⟩
 ·cases h1
 ·cases h1;exact⟨k,rfl⟩
theorem qqd {len cap:Nat}{lo:Option AV}{vlo:Option Value}(hlo:RepO X lo vlo){k k':IntKind}{a b:Int}(h1:qdJ lo 0=some a) (hb:b<=cap) (ha0:0<=a) (ha:a<=b) (w:World) :(Instr.sliceBounds true len cap vlo (some (.int k b)) (some (.int k' b))).run P w=.ok (a.toNat,b.toNat,b.toNat) w:=by
 have hb0:0<=b:=by omega
 have hba:a<=(b.toNat:Nat):=by omega
 have hbb:b<=(b.toNat:Nat):=by omega
 rcases qk7 hlo h1 with⟨rfl,rfl⟩|⟨k,rfl⟩
 ·simp[Instr.sliceBounds,zB hb0 hb,zB hb0 hbb]
 ·simp[Instr.sliceBounds,zB hb0 hb,zB hb0 hbb,zB ha0 hba]
theorem qn5 {t e:TypeId}{p:Option Addr}{n c:Nat}{vlo vhi vmx:Option Value}{a b:Nat}(ht:P.underlying t=some (.slice e))(hp:0<P.cellsOf e)(hb:(Instr.sliceBounds true n c vlo vhi vmx).run P w=.ok (a,b,b) w) :(Instr.sliceAt t (.slice p n c) vlo vhi vmx).run P w=.ok (.slice (if b=a then p else p.map (·.add (a*P.cellsOf e))) (b-a) (b-a)) w:=by simp only[Instr.sliceAt,qJh,run_underlying ht,qJn,Instr.slice,hb,zO hp];rfl
theorem q7i {t e:TypeId}{p:Option Addr}{n c:Nat}{vlo vhi:Option Value}{a b:Nat}(ht:P.underlying t=some (.slice e))(hp:0<P.cellsOf e)(hb:(Instr.sliceBounds true n c vlo vhi none).run P w=.ok (a,b,c) w) :(Instr.sliceAt t (.slice p n c) vlo vhi none).run P w=.ok (.slice (if c=a then p else p.map (·.add (a*P.cellsOf e))) (b-a) (c-a)) w:=by simp only[Instr.sliceAt,qJh,run_underlying ht,qJn,Instr.slice,hb,zO hp];rfl
theorem qjO {s:qJb}{vlo vhi:Option Value}{a b:Int}(ht:P.underlying t=some .string)(hb:(Instr.sliceBounds false s.length s.length vlo vhi none).run P w=.ok (a.toNat,b.toNat,s.length) w) :(Instr.sliceAt t (.string ⟨s.toArray⟩) vlo vhi none).run P w=.ok (.string ⟨(qfy s a b).toArray⟩) w:=by
 have h1:(ByteArray.mk s.toArray).size=s.length:=rfl;simp only[Instr.sliceAt,qJh,run_underlying ht,qJn,Instr.slice,h1,hb,Option.isSome_none,qJA,if_false,qJN];congr 2;apply ByteArray.ext;have:(ByteArray.mk s.toArray).extract a.toNat b.toNat=⟨s.toArray.extract a.toNat b.toNat⟩:=by apply ByteArray.ext;simp
 rw[this];simp[qfy,List.extract,List.drop_take]
theorem quB {E:Env}(hE:E.tok P){B:Base}(hs:HSim B X){a:AV}{v:Value}{lo hi mx:Option AV}{vlo vhi vmx:Option Value}(hv:Rep X a v)(hlo:RepO X lo vlo) (hhi:RepO X hi vhi) (hmx:RepO X mx vmx) {r:Res} (h:(qcl E X.h t a lo hi mx).run=some r) :qR P B X (do pure (.value (<-Instr.sliceAt t v vlo vhi vmx))) r:=by
 unfold qcl at h;cases hmx with
 | some hm=>
  rename_i m vm;simp only at h;cases hd:(E.ty t).d<;>rw[hd] at h<;>try (cases h)
  rename_i e es;obtain⟨ht,rfl⟩:=q1p hE hd;cases hhi with
  | none=>cases hv<;>cases h
  | some hy=>
   rename_i y vy;cases hv<;>simp only at h<;>try (cases h)
   rename_i sh l himm;cases h1:qdJ lo 0 with
   | none=>rw[h1] at h;cases h
   | some x=>
    cases h2:asI y with
    | none=>rw[h1,h2] at h;cases h
    | some q2=>
     cases h3:asI m with
     | none=>rw[h1,h2,h3] at h;cases h
     | some q3=>
      obtain⟨k2,b⟩:=q2;obtain⟨k3,c⟩:=q3;rw[h1,h2,h3] at h;simp only at h;by_cases hc:sh.length=P.cellsOf e/\0<P.cellsOf e
      ·rw[if_pos hc] at h;obtain⟨g1,g2⟩:=jm h;obtain⟨g3,g4⟩:=jm g2;obtain⟨g5,g6⟩:=jm g4;cases g6;obtain⟨q1,q2⟩:=q0g g1;obtain⟨q3,q4⟩:=q0g g3;obtain rfl:b=c:=of_decide_eq_true g5;obtain⟨k,rfl⟩:=qtc hy h2;obtain⟨k',rfl⟩:=qtc hm h3;obtain⟨p,n,cp,rfl⟩:∃p n c,v=.slice p n c:=by rcases himm with⟨rfl,_⟩|⟨ad,cap,rfl,_⟩<;>exact⟨_,_,_,rfl⟩
       obtain⟨w1,w3⟩:=qrm himm q3 q4 q2;rw[hc.1] at w3;exact qR.ofV hs (qn5 ht hc.2 (qqd hlo h1 (by omega) q3 q4 _)) (.full _ _ _ _ w3)
      ·rw[if_neg hc] at h;cases h
 | none=>
  simp only at h;cases hd:(E.ty t).d<;>rw[hd] at h<;>try (cases h)
  ·
   have ht:=qeV hE hd;cases hv<;>simp only at h<;>try (cases h)
   rename_i s;cases h1:qdJ lo 0 with
   | none=>rw[h1] at h;cases h
   | some l=>
    cases h2:qdJ hi (qB s) with
    | none=>rw[h1,h2] at h;cases h
    | some b=>
     rw[h1,h2] at h;obtain⟨g1,g2⟩:=jm h;obtain⟨g3,g4⟩:=jm g2;cases g4;obtain⟨q1,q2⟩:=q0g g1;obtain⟨q3,q4⟩:=q0g g3;exact qR.ofV hs (qjO ht (q0q hlo hhi h1 h2 rfl q1 q2 q3 q4 _)) (.str _)
  ·rename_i e es;obtain⟨ht,rfl⟩:=q1p hE hd;cases hv<;>simp only at h<;>try (cases h)
   ·rename_i sh l himm;cases h1:qdJ lo 0 with
    | none=>rw[h1] at h;cases h
    | some x=>
     cases h2:qdJ hi (qk l) with
     | none=>rw[h1,h2] at h;cases h
     | some y=>
      rw[h1,h2] at h;simp only at h;by_cases hc:sh.length=P.cellsOf e/\0<P.cellsOf e
      ·rw[if_pos hc] at h;obtain⟨g1,g2⟩:=jm h;obtain⟨g3,g4⟩:=jm g2;cases g4;obtain⟨q1,q2⟩:=q0g g1;obtain⟨q3,q4⟩:=q0g g3;obtain⟨p,n,c,rfl⟩:∃p n c,v=.slice p n c:=by rcases himm with⟨rfl,_⟩|⟨ad,cap,rfl,_⟩<;>exact⟨_,_,_,rfl⟩
       obtain⟨w1,rfl,w3⟩:=qo5 himm q3 q4 q2;rw[hc.1] at w3;exact qR.ofV hs (q7i ht hc.2 (q0q hlo hhi h1 h2 rfl q1 (by omega) q3 q4 _)) (.imm _ _ _ w3)
      ·rw[if_neg hc] at h;cases h
   ·rename_i b p n c hb hv;have hb':=hb;have key:∀e0 sh l (h':List Blk),(X.h[b]?=some (.vec e0 sh l)\/X.h[b]?=some (.frz e0 sh l))->h'=zR X.h b->(match qdJ lo 0,qdJ hi (qk l) with
     | some x,some y=>if sh.length=P.cellsOf e/\0<P.cellsOf e then Tree.br (q7y y (qk l)) (.br (q7y x y) (.leaf ((.imm sh (qwa l x y),h',none):Res)) .fail) .fail else .fail
     | _,_=>.fail).run=some r->qR P B X (do pure (.value (<-Instr.sliceAt t (.slice p n c) vlo vhi none))) r:=by
     intro e0 sh l h' hh hh' hr;cases h1:qdJ lo 0 with
     | none=>rw[h1] at hr;cases hr
     | some x=>
      cases h2:qdJ hi (qk l) with
      | none=>rw[h1,h2] at hr;cases hr
      | some y=>
       rw[h1,h2] at hr;simp only at hr;by_cases hc:sh.length=P.cellsOf e/\0<P.cellsOf e
       ·rw[if_pos hc] at hr;obtain⟨g1,g2⟩:=jm hr;obtain⟨g3,g4⟩:=jm g2;cases g4;obtain⟨q1,q2⟩:=q0g g1;obtain⟨q3,q4⟩:=q0g g3;obtain⟨X1,fz⟩:=qfK hs b;have hfr:X1.h[b]?=some (.frz e0 sh l):=by rw[fz.h];exact qge hh
        have hrep:Rep X (.vec b) (.slice p n c):=.vec b p n c hb hv;have himm:=qh1 fz.hs hfr (hrep.ext fz.ext);obtain⟨w1,rfl,w3⟩:=qo5 himm q3 q4 q2;rw[hc.1] at w3;refine⟨_,_,X1,?_,.inl rfl,.imm _ _ _ w3,fz.hs,by rw[fz.h,hh'],fz.ext⟩;rw[qJh,q7i ht hc.2 (q0q hlo hhi h1 h2 rfl q1 (by omega) q3 q4 _),fz.w];rfl
       ·rw[if_neg hc] at hr;cases hr
    cases hbk:X.h[b]? with
    | none=>rw[hbk] at h;cases h
    | some k=>
     rw[hbk] at h;cases k<;>try (cases h;done)
     ·rename_i e0 sh l;simp only at h;cases hbt:qrX sh hi with
      | false=>rw[hbt] at h;exact key _ _ _ _ (.inl hbk) rfl h
      | true=>
       rw[hbt] at h;simp only at h;cases h1:qdJ lo 0 with
       | none=>rw[h1] at h;cases h
       | some x=>
        rw[h1] at h;simp only at h;by_cases hc:P.cellsOf e=1
        ·rw[if_pos hc] at h;obtain⟨g1,g2⟩:=jm h;obtain⟨g3,g4⟩:=jm g2;cases g4;have hpos:(0:Int)<qk l:=of_decide_eq_true g1;obtain⟨q1,q2⟩:=q0g g3;have hhin:hi=none/\qj3 sh=true:=by
          unfold qrX at hbt;cases hi with
          | none=>exact⟨rfl,hbt⟩
          | some y=>cases hbt
         obtain⟨rfl,hby⟩:=hhin;have hsh:sh.length=1:=by
          unfold qj3 at hby
          split at hby
          ·rfl
          ·cases hby
         have hvv:=hv sh l.length ⟨e0,l,.inl hbk,rfl⟩;unfold qtd at hvv;rcases hs.blk b _ hbk with⟨e1,rfl⟩|⟨n0,c0,e1,e2,e3⟩
         ·simp[qk] at hpos
         ·rw[e1] at hvv;obtain⟨cap,q3,q4,q5,_⟩:=hvv;cases q3;have hb:=q0q (P:=P) (isS:=true) (len:=l.length) (cap:=c) hlo hhi h1 (b:=qk l) (d:=qk l) rfl rfl (by omega) (by unfold qk;omega) q1 q2 X.w;have hrun:=q7i (p:=some ⟨n0,0,none⟩) ht (by omega) hb;refine qR.ofV hs hrun ?_;have hnn:(qk l).toNat=l.length:=by unfold qk;omega
          rw[hnn,hc];by_cases hcx:c=x.toNat
          ·rw[if_pos hcx];refine .vsub b x n0 0 _ _ hb' e1 fun sh' m' hv'=>?_;obtain⟨e',l',w1,w2⟩:=hv';rw[hbk] at w1;rcases w1 with w1|w1<;>cases w1;unfold qk at q2;exact⟨q1,by omega,.inr ⟨by omega,rfl⟩,by omega⟩
          ·rw[if_neg hcx];have hadd:(some (⟨n0,0,none⟩:Addr)).map (·.add (x.toNat*1))=some ⟨n0,x.toNat,none⟩:=by simp only[qJR,Addr.add];congr 1;split<;>(try simp_all)<;>(try omega)
           rw[hadd];refine .vsub b x n0 x.toNat _ _ hb' e1 fun sh' m' hv'=>?_;obtain⟨e',l',w1,w2⟩:=hv';rw[hbk] at w1;rcases w1 with w1|w1<;>cases w1;unfold qk at q2;exact⟨q1,by omega,.inl (by rw[hsh];omega),by omega⟩
        ·rw[if_neg hc] at h;cases h
     ·exact key _ _ _ X.h (.inr hbk) (by simp only[zR,hbk]) h
end Go.Eng

namespace Go.Eng
variable {B:Base}{P:Program}{X:Ctx}{e:TypeId}{l:R}{sh:List Sh}{v:Value}{w:World}
theorem q7T {M:Nat->Prop}{m:R}{ad:Addr}(hp:0<sh.length)(hsp:0<m.length->ad.spot=none)(h:Rows w M sh m ad) :∃news:List Value,qki w M sh m news/\(∀j u,news[j]?=some u->w.cell? (ad.add j)=some u)/\∀u∈news,u.oneCell'=true:=by
 have key:∀k,k<m.length*sh.length->∃v,w.cell? ⟨ad.block,ad.off+k,none⟩=some v/\v.oneCell'=true:=by
  intro k hk;have h1:k/sh.length<m.length:=(Nat.div_lt_iff_lt_mul hp).2 hk;have h2:k%sh.length<sh.length:=qKC _ hp;obtain⟨_,v,e1,e2⟩:=h (k/sh.length) (k%sh.length) h2 h1;refine⟨v,?_,?_⟩
  ·rw[<-e1];congr 2;have:=qLg k sh.length;rw[Nat.mul_comm] at this;omega
  ·generalize sh[k%sh.length]=s at e2;cases e2<;>rfl
 refine⟨(List.range (m.length*sh.length)).map fun k=>(w.cell? ⟨ad.block,ad.off+k,none⟩).getD undef,⟨by simp,fun r j hj hr=>?_⟩,fun j u hu=>?_,fun u hu=>?_⟩
 ·obtain⟨_,v,e1,e2⟩:=h r j hj hr;have hlt:r*sh.length+j<m.length*sh.length:=by have:(r+1)*sh.length<=m.length*sh.length:=qJD _ hr;rw[qJt] at this;omega
  refine⟨v,?_,e2⟩;rw[qJo,qKa hlt];simp only[qJR,<-qKT,e1,qKq]
 ·rw[qJo] at hu;by_cases hj:j<m.length*sh.length
  ·rw[qKa hj] at hu;obtain⟨v,e1,_⟩:=key j hj;simp only[qJR,e1,qKq,qJc] at hu;rw[Addr.add_of (hsp (Nat.pos_of_ne_zero fun h0=>by rw[h0] at hj;simp at hj)),e1,hu]
  ·rw[qJC (by simpa using hj)] at hu;cases hu
 ·obtain⟨k,hk,rfl⟩:=qK1.1 hu;obtain⟨v,e1,e2⟩:=key k (by simpa using hk);rw[e1];exact e2
theorem qqu {l m:R}{r j:Nat}(h:r<l.length):wy (uV l m) r j=wy l r j:=by unfold wy uV;rw[qJq];simp[qJp h]
theorem qoo {l m:R}{r j:Nat}(h:l.length<=r):wy (uV l m) r j=wy m ((r-l.length:Nat):Int) j:=by unfold wy uV;rw[qJq,qJq];simp[qJz h]
theorem qki.app {M:Nat->Prop}{l m:R}{xs ys:List Value}(h1:qki w M sh l xs)(h2:qki w M sh m ys):qki w M sh (uV l m) (xs++ys):=by
 refine⟨by simp[uV,h1.1,h2.1,qJt],fun r j hj hr=>?_⟩;by_cases hl:r<l.length
 ·obtain⟨v,e1,e2⟩:=h1.2 r j hj hl;exact⟨v,by rw[qJp (qu e1)];exact e1,by rw[qqu hl];exact e2⟩
 ·have hr':r-l.length<m.length:=by simp only[uV,qJB] at hr;omega
  obtain⟨v,e1,e2⟩:=h2.2 (r-l.length) j hj hr';refine⟨v,?_,by rw[qoo (by omega)];exact e2⟩;have h3:l.length*sh.length<=r*sh.length:=qJD _ (by omega);rw[qJz (by rw[h1.1];omega),h1.1,<-e1];congr 1;rw[Nat.sub_mul];omega
theorem qki.rowsC {M:Nat->Prop}{xs:List Value}{c:Array Value}(h:qki w M sh l xs)(hc:∃rest,c.toList=xs++rest):qtW w M sh l c:=by obtain⟨rest,hc⟩:=hc;intro r j hj hr;obtain⟨v,e1,e2⟩:=h.2 r j hj hr;refine⟨v,?_,e2⟩;rw[<-qLn,hc,qJp (qu e1)];exact e1
theorem qrW {M:Nat->Prop}{c:Array Value}{cap:Nat}(h:qtW w M sh l c)(hsz:c.size=cap*sh.length)(hl:l.length<=cap) :qki w M sh l (c.toList.take (l.length*sh.length)):=by
 have h3:l.length*sh.length<=cap*sh.length:=qJD _ hl;refine⟨by simp;omega,fun r j hj hr=>?_⟩;obtain⟨v,e1,e2⟩:=h r j hj hr;refine⟨v,?_,e2⟩;have hlt:r*sh.length+j<l.length*sh.length:=by have:(r+1)*sh.length<=l.length*sh.length:=qJD _ hr;rw[qJt] at this;omega
 rw[qKg,if_pos hlt];simpa using e1
structure Src (P:Program) (X:Ctx) (sh:List Sh) (m:R) (v:Value):Prop where
 nil:v=.slice none 0 0/\m=[]\/∃ad c,v=.slice (some ad) m.length c/\(0<m.length->ad.spot=none)/\Rows X.w X.M sh m ad
theorem qrs {m:R}(h:qdO X.w X.M sh m v):Src P X sh m v:=by
 rcases h with h|⟨ad,c,h1,h2,_,h3⟩
 ·exact⟨.inl h⟩
 ·exact⟨.inr ⟨ad,c,h1,h2,h3⟩⟩
theorem qvo (h:0<P.cellsOf e):∃i,P.info? e=some i/\i.size=P.cellsOf e:=by
 unfold Program.cellsOf at *;cases hi:P.info? e with
 | none=>rw[hi] at h;simp at h
 | some i=>exact⟨i,rfl,by simp⟩
theorem kp {t e ty:TypeId}{p q:Option Addr}{n c d:Nat}(ht:P.underlying t=some (.slice e))(hp:0<P.cellsOf e)(hnc:n<=c) :(Builtin.append_ #[t,t] ty #[.slice p n c,.slice q 0 d]).run P w=.ok (.slice p n c) w:=by
 cases p with
 | none=>cases q<;>simp[Builtin.append_,run_underlying ht,zO hp,Builtin.lenOf,hnc,Builtin.firstCells,loadCells,loadCellsFrom]
 | some a=>cases q<;>simp[Builtin.append_,run_underlying ht,zO hp,Builtin.lenOf,hnc,Builtin.firstCells,storeCells,loadCells,loadCellsFrom]
structure ElemOk (rm:Int) (P:Program) (e:TypeId) (es:Nat) (i:TypeInfo) (z:Value):Prop where
 hi:P.info? e=some i
 hz:i.zero=some z
 size:i.size=es
 zs:z.cells.size=es
 by_:∀n:Nat,(n:Int)<=rm->n*i.bytes<=140737488355328/\n<=140737488355328
theorem qB6 {E:Env}(hE:E.tok P)(hp:0<P.cellsOf e)(hz:(E.ty e).zero.length=P.cellsOf e):∃i z,ElemOk (qpV (E.ty e).bytes) P e (P.cellsOf e) i z:=by
 obtain⟨z,_,z2,i,hi,hz'⟩:=qdT hE (t:=e) (by omega) default;obtain⟨i',hi',hs⟩:=qvo hp;rw[hi] at hi';cases hi';refine⟨i,z,hi,hz',hs,by rw[<-hz,<-z2];simp,?_⟩;rcases qnz hE e with h1|h1
 ·rw[h1] at hz;simp[qId] at hz;omega
 ·intro n hn;have hb:(E.ty e).bytes=i.bytes:=by rw[h1];unfold qtw;rw[hi]
  rw[hb] at hn;unfold qpV at hn;have hn':n<=140737488355328/(if i.bytes=0 then 1 else i.bytes):=by omega
  by_cases h0:i.bytes=0
  ·rw[if_pos h0] at hn';rw[h0];omega
  ·rw[if_neg h0] at hn';have h2:n*i.bytes<=140737488355328:=qJg (qJD _ hn') (Nat.div_mul_le_self _ _);exact⟨h2,qJg (Nat.le_mul_of_pos_right n (by omega)) h2⟩
theorem qhh {es n cap:Nat}{xs ys:List Value}{z:Value}(h1:xs.length+ys.length=n*es)(h2:z.cells.size=es)(h3:n<=cap) :(xs.toArray++ys.toArray++Builtin.zeroCells z.cells (cap-n)).size=cap*es:=by simp only[Array.size_append,List.size_toArray,size_zeroCells,h2,h1];rw[<-qJt];congr 1;omega
theorem qgr (hs:HSim B X){t e ty:TypeId}{m:R}{i:TypeInfo}{z:Value}(ht:P.underlying t=some (.slice e))(hp:0<P.cellsOf e)(hsh:sh.length=P.cellsOf e) {rm:Int} (he:ElemOk rm P e (P.cellsOf e) i z) (hsrc:Src P X sh m v) (hm:qk m<=rm) :qR P B X (do pure (.value (<-Builtin.append_ #[t,t] ty #[.slice none 0 0,v]))) (.vec X.h.length,X.h++[.vec e sh m],none):=by
 by_cases h0:m=[]
 ·subst h0;have hv:∃q d,v=.slice q 0 d:=by rcases hsrc.nil with⟨rfl,_⟩|⟨ad,c,rfl,_⟩<;>exact⟨_,_,rfl⟩
  obtain⟨q,d,rfl⟩:=hv;have hpw:=PushW.same X;refine⟨.value (.slice none 0 0),_,X.pushW (.vec e sh []) none X.w,?_,.inl rfl,?_,hs.push hpw (.inl ⟨by simp[Ctx.pushW],rfl⟩),rfl,Ctx.push_ext hs _ hpw⟩
  ·rw[qJh,kp ht hp (qJe 0)];rfl
  ·exact .vec _ _ _ _ (by simp[Ctx.pushW]) fun sh' m' _=>by unfold qtd;simp[Ctx.pushW]
 ·rcases hsrc.nil with⟨_,h⟩|⟨ad,c,rfl,hsp,hr⟩
  ·exact absurd h h0
  obtain⟨news,f1,f2,f3⟩:=q7T (by omega) hsp hr;have hml:0<m.length:=qKH.2 h0;have hby:=(he.by_ m.length (by simpa[qk] using hm)).1;have hroom:m.length<=140737488355328:=(he.by_ m.length (by simpa[qk] using hm)).2;have hrun:=run_append_nil (P:=P) X.w t ty e i z ht he.hi he.hz ad m.length c news (by rw[f1.1,he.size,hsh]) f2 hml (by omega) (by omega);have hge:=grownCap_ge X.w m.length 0 e;have hcm:=grownCap_le_maxLen X.w m.length 0 e (by unfold maxLen;omega);have hsz:(news.toArray++Builtin.zeroCells z.cells (grownCap X.w m.length 0 e-m.length)).size=grownCap X.w m.length 0 e*sh.length:=by have:=qhh (es:=P.cellsOf e) (n:=m.length) (cap:=grownCap X.w m.length 0 e) (xs:=[]) (ys:=news) (z:=z) (by rw[qKr,qK5,f1.1,hsh]) he.zs hge;rw[hsh,<-this];simp
  have hpw:PushW X (some X.w.heap.size) (X.w.drew.alloc (.cells (news.toArray++Builtin.zeroCells z.cells (grownCap X.w m.length 0 e-m.length)) e)):=
   ⟨fun _ h=>wo X.w.drew _ h,by simp,rfl,rfl,rfl,fun m h=>by cases h;exact qJe _⟩
  have hx:=Ctx.push_ext hs (.vec e sh m) hpw;have hnew:=wt X.w.drew (.cells (news.toArray++Builtin.zeroCells z.cells (grownCap X.w m.length 0 e-m.length)) e);refine⟨_,_,X.pushW (.vec e sh m) (some X.w.heap.size) _,?_,.inl rfl,qo9 (n:=X.w.heap.size) hge hcm hnew hsz,hs.push hpw (.inr ⟨X.w.heap.size,_,by simp[Ctx.pushW],hnew,?_⟩),rfl,hx⟩
  ·rw[qJh,hrun];rfl
  ·have:=qki.rowsC (c:=news.toArray++Builtin.zeroCells z.cells (grownCap X.w m.length 0 e-m.length)) f1 ⟨_,by simp;rfl⟩;exact this.mono hx.M hx.w
theorem qnw {b n cap:Nat}{w':World}{c:Array Value}{T:TypeId}{fr:Nat×Nat}(hb:b<X.h.length)(h1:l.length<=cap)(h2:cap<=maxLen)(h3:w'.heap[n]?=some (.cells c T fr)) (h4:c.size=cap*sh.length):Rep (X.repl b (some n) (.vec e sh l) w') (.vec b) (.slice (some ⟨n,0,none⟩) l.length cap):=by
 refine .vec _ _ _ _ (by simpa[Ctx.repl] using hb) fun sh' m ⟨e',l',q1,q2⟩=>?_;have:(X.repl b (some n) (.vec e sh l) w').h[b]?=some (.vec e sh l):=by simp[Ctx.repl,hb,Blk.ren]
 rw[this] at q1;rcases q1 with q1|q1<;>cases q1;subst q2;unfold qtd;simp only[Ctx.repl,if_true];exact⟨cap,rfl,h1,h2,c,T,fr,h3,h4⟩
theorem qfR (hs:HSim B X){t e ty:TypeId}{l m:R}{b:Nat}{v vs:Value}{i:TypeInfo}{z:Value}(ht:P.underlying t=some (.slice e))(hp:0<P.cellsOf e)(hsh:sh.length=P.cellsOf e) {rm:Int} (he:ElemOk rm P e (P.cellsOf e) i z) (hb:X.h[b]?=some (.vec e sh l)) (hv:Rep X (.vec b) vs) (hsrc:Src P X sh m v) (hm:qk l+qk m<=rm) :qR P B X (do pure (.value (<-Builtin.append_ #[t,t] ty #[vs,v]))) (.vec b,X.h.set b (.vec e sh (uV l m)),some b):=by
 have hbl:=qu hb;have hroom:((l.length+m.length:Nat):Int)<=rm:=by simpa[qk] using hm
 have hroom':l.length+m.length<=140737488355328:=(he.by_ _ hroom).2;have hren:∀k:R,(Blk.vec e sh k).ren (qcb b)=.vec e sh k:=fun _=>rfl;have hvl:(uV l m).length=l.length+m.length:=by simp[uV]
 cases hv with
 | vec _ p n cap hlt hvv=>
  have hvv:=hvv sh l.length ⟨e,l,.inl hb,rfl⟩;unfold qtd at hvv;rcases hs.blk b _ hb with⟨e1,rfl⟩|⟨n0,c0,e1,e2,e3⟩
  ·
   rw[e1] at hvv;obtain⟨p',hvv⟩:=hvv;cases hvv;by_cases h0:m=[]
   ·subst h0;have hv:∃q d,v=.slice q 0 d:=by rcases hsrc.nil with⟨rfl,_⟩|⟨ad,c,rfl,_⟩<;>exact⟨_,_,rfl⟩
    obtain⟨q,d,rfl⟩:=hv;have hw:ReplW X b none X.w:=⟨fun _ _ _=>rfl,fun _ c T fr _ h=>⟨c,T,fr,h,rfl⟩,qJe _,rfl,rfl,rfl,.inl e1.symm⟩;refine⟨.value (.slice p 0 0),_,X.repl b none (.vec e sh (uV [] [])) X.w,?_,.inl rfl,?_,hs.repl hb hw (.inl ⟨by simp[Ctx.repl],rfl⟩),rfl,Ctx.repl_move hs hb hw⟩
    ·rw[qJh,kp ht hp (qJe 0)];rfl
    ·exact .vec _ _ _ _ (by simpa[Ctx.repl] using hbl) fun sh' m' _=>by unfold qtd;simp[Ctx.repl]
   ·rcases hsrc.nil with⟨_,h⟩|⟨ad,c,rfl,hsp,hr⟩
    ·exact absurd h h0
    obtain⟨news,f1,f2,f3⟩:=q7T (by omega) hsp hr;have hml:0<m.length:=qKH.2 h0;simp only[qKr,qK5] at hroom hroom';have hby:=(he.by_ _ hroom).1;have hrun:(Builtin.append_ #[t,t] ty #[.slice p 0 0,.slice (some ad) m.length c]).run P X.w=.ok (.slice (some ⟨X.w.heap.size,0,none⟩) m.length (grownCap X.w m.length 0 e)) (X.w.drew.alloc (.cells (news.toArray++Builtin.zeroCells z.cells (grownCap X.w m.length 0 e-m.length)) e)):=by
     cases p with
     | none=>exact run_append_nil (P:=P) X.w t ty e i z ht he.hi he.hz ad m.length c news (by rw[f1.1,he.size,hsh]) f2 hml (by omega) (by omega)
     | some ad0=>
      have:=run_append_grow (P:=P) X.w t ty e i z ht he.hi he.hz ad0 0 0 [] (by simp) (fun j u hu=>by simp at hu) ad m.length c news (by rw[f1.1,he.size,hsh]) f2 (by omega) (by omega) (growslice_fits (by omega) (by simpa using hby));simpa using this
    have hge:=grownCap_ge X.w m.length 0 e;have hcm:=grownCap_le_maxLen X.w m.length 0 e (by unfold maxLen;omega);have hsz:(news.toArray++Builtin.zeroCells z.cells (grownCap X.w m.length 0 e-m.length)).size=grownCap X.w m.length 0 e*sh.length:=by have:=qhh (es:=P.cellsOf e) (n:=m.length) (cap:=grownCap X.w m.length 0 e) (xs:=[]) (ys:=news) (z:=z) (by rw[qKr,qK5,f1.1,hsh]) he.zs hge;rw[hsh,<-this];simp
    have hnew:=wt X.w.drew (.cells (news.toArray++Builtin.zeroCells z.cells (grownCap X.w m.length 0 e-m.length)) e);have hw:ReplW X b (some X.w.heap.size) (X.w.drew.alloc (.cells (news.toArray++Builtin.zeroCells z.cells (grownCap X.w m.length 0 e-m.length)) e)):=
     ⟨fun _ h _=>wo X.w.drew _ h,fun m0 _ _ _ h _=>(by rw[e1] at h;cases h),by simp,rfl,rfl,rfl,.inr fun m h=>by cases h;exact qJe _⟩
    have hx:=Ctx.repl_move hs hb (k':=.vec e sh (uV [] m)) hw;have hrl:uV [] m=m:=rfl;rw[hrl] at hx ⊢;refine⟨_,_,X.repl b (some X.w.heap.size) (.vec e sh m) _,?_,.inl rfl,qnw (n:=X.w.heap.size) hbl hge hcm hnew hsz,hs.repl hb hw (.inr ⟨X.w.heap.size,_,by simp[Ctx.repl],hnew,?_⟩),rfl,hx⟩
    ·rw[qJh,hrun];rfl
    ·have:=qki.rowsC (c:=news.toArray++Builtin.zeroCells z.cells (grownCap X.w m.length 0 e-m.length)) f1 ⟨_,by simp;rfl⟩;exact this.mono hx.M hx.w
  ·rw[e1] at hvv;obtain⟨cap',q1,q2,q3,c1,T1,fr1,q4,q5⟩:=hvv;cases q1;rw[e2] at q4;cases q4;have hflat:=qrW e3 q5 q2;by_cases h0:m=[]
   ·subst h0;have hv:∃q d,v=.slice q 0 d:=by rcases hsrc.nil with⟨rfl,_⟩|⟨ad,c,rfl,_⟩<;>exact⟨_,_,rfl⟩
    obtain⟨q,d,rfl⟩:=hv;have hrl:uV l []=l:=by simp[uV]
    have hw:ReplW X b (some n0) X.w:=⟨fun _ _ _=>rfl,fun _ c T fr _ h=>⟨c,T,fr,h,rfl⟩,qJe _,rfl,rfl,rfl,.inl e1.symm⟩;have hx:=Ctx.repl_move hs hb (k':=.vec e sh l) hw;rw[hrl];refine⟨.value (.slice (some ⟨n0,0,none⟩) l.length cap),_,X.repl b (some n0) (.vec e sh l) X.w,?_,.inl rfl,qnw hbl q2 q3 e2 q5,hs.repl hb hw (.inr ⟨n0,_,by simp[Ctx.repl],e2,e3.mono hx.M hx.w⟩),rfl,hx⟩;rw[qJh,kp ht hp q2];rfl
   ·rcases hsrc.nil with⟨_,h⟩|⟨ad,c,rfl,hsp,hr⟩
    ·exact absurd h h0
    obtain⟨news,f1,f2,f3⟩:=q7T (by omega) hsp hr;have hml:0<m.length:=qKH.2 h0;have hby:=(he.by_ _ hroom).1;have happ:=hflat.app f1;by_cases hfit:l.length+m.length<=cap
    ·
     have hfitc:l.length*i.size+news.length<=c0.size:=by rw[he.size,f1.1,<-hsh,q5,<-qJt];exact qJD _ hfit
     have hrun:=run_append_room (P:=P) X.w t ty e i ht he.hi n0 l.length cap c0 e2 ad m.length c news (by rw[f1.1,he.size,hsh]) f2 f3 hfit hfitc;have hsz:((c0.toList.take (l.length*i.size)++news++c0.toList.drop (l.length*i.size+news.length)).toArray).size=c0.size:=by simp;omega
     have hup:=UpdW.setRow (X:=X) (c':=(c0.toList.take (l.length*i.size)++news++c0.toList.drop (l.length*i.size+news.length)).toArray) e2 hsz;have hw:ReplW X b (some n0) (X.w.setRow n0 (c0.toList.take (l.length*i.size)++news++c0.toList.drop (l.length*i.size+news.length)).toArray):=
      ⟨fun m' _ hne=>hup.other m' (fun e=>hne (by rw[e];exact e1)),fun m' c' T' fr' hm' hc'=>by rw[e1] at hm';cases hm';rw[e2] at hc';cases hc';exact⟨_,_,_,hup.new,hsz⟩,by simp,rfl,rfl,rfl,.inl e1.symm⟩
     have hx:=Ctx.repl_move hs hb (k':=.vec e sh (uV l m)) hw;have hrep:=qnw (X:=X) (e:=e) (l:=uV l m) (n:=n0) (cap:=cap) (w':=X.w.setRow n0 (c0.toList.take (l.length*i.size)++news++c0.toList.drop (l.length*i.size+news.length)).toArray) hbl (by rw[hvl];exact hfit) q3 hup.new (by rw[hsz];exact q5);rw[hvl] at hrep;refine⟨_,_,X.repl b (some n0) (.vec e sh (uV l m)) _,?_,.inl rfl,hrep,hs.repl hb hw (.inr ⟨n0,_,by simp[Ctx.repl],hup.new,?_⟩),rfl,hx⟩
     ·rw[qJh,hrun];rfl
     ·have:=qki.rowsC (c:=(c0.toList.take (l.length*i.size)++news++c0.toList.drop (l.length*i.size+news.length)).toArray) happ ⟨c0.toList.drop (l.length*i.size+news.length),by rw[he.size,<-hsh]⟩;exact this.mono hx.M hx.w
    ·
     have holds:∀j u,(c0.toList.take (l.length*sh.length))[j]?=some u->X.w.cell? ((⟨n0,0,none⟩:Addr).add j)=some u:=by
      intro j u hu;rw[qKg] at hu;split at hu
      ·rw[qK0,w8 e2];simpa using hu
      ·cases hu
     have hrun:=run_append_grow (P:=P) X.w t ty e i z ht he.hi he.hz ⟨n0,0,none⟩ l.length cap (c0.toList.take (l.length*sh.length)) (by rw[hflat.1,he.size,hsh]) holds ad m.length c news (by rw[f1.1,he.size,hsh]) f2 (by omega) (by omega) (growslice_fits (by omega) hby);have hge:=grownCap_ge X.w (l.length+m.length) cap e;have hcm:=grownCap_le_maxLen X.w (l.length+m.length) cap e (by unfold maxLen;omega);have hsz:=qhh (es:=P.cellsOf e) (n:=l.length+m.length) (cap:=grownCap X.w (l.length+m.length) cap e) (xs:=c0.toList.take (l.length*sh.length)) (ys:=news) (z:=z) (by rw[hflat.1,f1.1,hsh,<-qJt]) he.zs hge;rw[<-hsh] at hsz;have hnew:=wt X.w.drew (.cells ((c0.toList.take (l.length*sh.length)).toArray++news.toArray++Builtin.zeroCells z.cells (grownCap X.w (l.length+m.length) cap e-(l.length+m.length))) e);have hw:ReplW X b (some X.w.heap.size) (X.w.drew.alloc (.cells ((c0.toList.take (l.length*sh.length)).toArray++news.toArray++Builtin.zeroCells z.cells (grownCap X.w (l.length+m.length) cap e-(l.length+m.length))) e)):=
      ⟨fun _ h _=>wo X.w.drew _ h,fun m0 c' T' fr' h hc'=>⟨c',T',fr',by rw[wo X.w.drew _ (qJj.1 hc').1];exact hc',rfl⟩,by simp,rfl,rfl,rfl,.inr fun m h=>by cases h;exact qJe _⟩
     have hx:=Ctx.repl_move hs hb (k':=.vec e sh (uV l m)) hw;have hrep:=qnw (X:=X) (e:=e) (l:=uV l m) hbl (by rw[hvl];exact hge) hcm hnew hsz;rw[hvl] at hrep;refine⟨_,_,X.repl b (some X.w.heap.size) (.vec e sh (uV l m)) _,?_,.inl rfl,hrep,hs.repl hb hw (.inr ⟨X.w.heap.size,_,by simp[Ctx.repl],hnew,?_⟩),rfl,hx⟩
     ·rw[qJh,hrun];rfl
     ·have:=qki.rowsC (c:=(c0.toList.take (l.length*sh.length)).toArray++news.toArray++Builtin.zeroCells z.cells (grownCap X.w (l.length+m.length) cap e-(l.length+m.length))) happ ⟨_,by simp;rfl⟩;exact this.mono hx.M hx.w
theorem qng (hs:HSim B X){t e ty:TypeId}{p:Option Addr}(ht:P.underlying t=some (.slice e))(hp:0<P.cellsOf e)(hsrc:Src P X sh [] v):qR P B X (do pure (.value (<-Builtin.append_ #[t,t] ty #[.slice p 0 0,v]))) (.vec X.h.length,X.h++[.vec e sh []],none):=by
 have hv:∃q d,v=.slice q 0 d:=by rcases hsrc.nil with⟨rfl,_⟩|⟨ad,c,rfl,_⟩<;>exact⟨_,_,rfl⟩
 obtain⟨q,d,rfl⟩:=hv;have hpw:=PushW.same X;refine⟨.value (.slice p 0 0),_,X.pushW (.vec e sh []) none X.w,?_,.inl rfl,?_,hs.push hpw (.inl ⟨by simp[Ctx.pushW],rfl⟩),rfl,Ctx.push_ext hs _ hpw⟩
 ·rw[qJh,kp ht hp (qJe 0)];rfl
 ·exact .vec _ _ _ _ (by simp[Ctx.pushW]) fun sh' m' _=>by unfold qtd;simp[Ctx.pushW]
theorem qn2 (hs:HSim B X){t e ty:TypeId}{l m:R}{p:Option Addr}{n:Nat}{i:TypeInfo}{z:Value}(ht:P.underlying t=some (.slice e))(hp:0<P.cellsOf e)(hsh:sh.length=P.cellsOf e) {rm:Int} (he:ElemOk rm P e (P.cellsOf e) i z) (hv:qdO X.w X.M sh l (.slice p n n)) (hsrc:Src P X sh m v) (h0:0<qk m) (hm:qk l+qk m<=rm) :qR P B X (do pure (.value (<-Builtin.append_ #[t,t] ty #[.slice p n n,v]))) (.vec X.h.length,X.h++[.vec e sh (uV l m)],none):=by
 rcases hv with⟨h1,rfl⟩|⟨ad0,cap,h1,hsp0,hcap,hr0⟩
 ·cases h1;exact qgr hs ht hp hsh he hsrc (m:=m) (by simpa[qk] using hm)
 ·cases h1;rcases hsrc.nil with⟨_,h⟩|⟨ad,c,rfl,hsp,hr⟩
  ·subst h;simp[qk] at h0
  obtain⟨olds,k1,k2,k3⟩:=q7T (by omega) hsp0 hr0;obtain⟨news,f1,f2,f3⟩:=q7T (by omega) hsp hr;have hml:0<m.length:=by simp only[qk] at h0;omega
  have hroom:((l.length+m.length:Nat):Int)<=rm:=by simpa[qk] using hm
  have hroom':l.length+m.length<=140737488355328:=(he.by_ _ hroom).2;have hby:=(he.by_ _ hroom).1;have happ:=k1.app f1;have hvl:(uV l m).length=l.length+m.length:=by simp[uV]
  have hrun:=run_append_grow (P:=P) X.w t ty e i z ht he.hi he.hz ad0 l.length l.length olds (by rw[k1.1,he.size,hsh]) k2 ad m.length c news (by rw[f1.1,he.size,hsh]) f2 (by omega) (by omega) (growslice_fits (by omega) hby);have hge:=grownCap_ge X.w (l.length+m.length) l.length e;have hcm:=grownCap_le_maxLen X.w (l.length+m.length) l.length e (by unfold maxLen;omega);have hsz:=qhh (es:=P.cellsOf e) (n:=l.length+m.length) (cap:=grownCap X.w (l.length+m.length) l.length e) (xs:=olds) (ys:=news) (z:=z) (by rw[k1.1,f1.1,hsh,<-qJt]) he.zs hge;rw[<-hsh] at hsz;have hpw:PushW X (some X.w.heap.size) (X.w.drew.alloc (.cells (olds.toArray++news.toArray++Builtin.zeroCells z.cells (grownCap X.w (l.length+m.length) l.length e-(l.length+m.length))) e)):=
   ⟨fun _ h=>wo X.w.drew _ h,by simp,rfl,rfl,rfl,fun m h=>by cases h;exact qJe _⟩
  have hx:=Ctx.push_ext hs (.vec e sh (uV l m)) hpw;have hnew:=wt X.w.drew (.cells (olds.toArray++news.toArray++Builtin.zeroCells z.cells (grownCap X.w (l.length+m.length) l.length e-(l.length+m.length))) e);have hrep:=qo9 (X:=X) (e:=e) (l:=uV l m) (n:=X.w.heap.size) (by rw[hvl];exact hge) hcm hnew hsz;rw[hvl] at hrep;refine⟨_,_,X.pushW (.vec e sh (uV l m)) (some X.w.heap.size) _,?_,.inl rfl,hrep,hs.push hpw (.inr ⟨X.w.heap.size,_,by simp[Ctx.pushW],hnew,?_⟩),rfl,hx⟩
  ·rw[qJh,hrun];rfl
  ·have:=qki.rowsC (c:=olds.toArray++news.toArray++Builtin.zeroCells z.cells (grownCap X.w (l.length+m.length) l.length e-(l.length+m.length))) happ ⟨_,by simp;rfl⟩;exact this.mono hx.M hx.w
end Go.Eng

namespace Go.Eng
variable {B:Base}{E:Env}{P:Program}{X:Ctx}{r:Res}
theorem qyc (hs:HSim B X){x:AV}{vx:Value}(hx:Rep X x vx){sh:List Sh}{l:R}(h:vT X.h x=some (sh,l)) :(vx=.slice none 0 0/\l=[])\/∃a cap,vx=.slice (some a) l.length cap/\(0<l.length->a.spot=none) /\∀r j (hj:j<sh.length),r<l.length->∃v,X.w.cell? ⟨a.block,a.off+r*sh.length+j,none⟩=some v/\RepU X.w X.M sh[j] (wy l r j) v:=by
 cases hx with
 | imm sh' l' v himm=>
  simp only[vT,qJc,qJO] at h;obtain⟨rfl,rfl⟩:=h;rcases himm with h|⟨a,cap,h1,h2,_,h3⟩
  ·exact .inl h
  ·exact .inr ⟨a,cap,h1,h2,fun r j hj hr=>(h3 r j hj hr).2⟩
 | vec b p n c hb hv=>
  obtain⟨e,hh⟩:=qde h;have hvv:=hv sh l.length ⟨e,l,hh,rfl⟩;unfold qtd at hvv;rcases hs.rows hh with⟨e1,rfl⟩|⟨n0,c0,e1,e2,e3⟩
  ·rw[e1] at hvv;obtain⟨p',hvv⟩:=hvv;cases p' with
   | none=>exact .inl ⟨hvv,rfl⟩
   | some a=>exact .inr ⟨a,0,hvv,fun h=>absurd h (Nat.lt_irrefl 0),fun r j hj hr=>absurd hr (qLf r)⟩
  ·rw[e1] at hvv;obtain⟨cap,q1,_⟩:=hvv;refine .inr ⟨⟨n0,0,none⟩,cap,q1,fun _=>rfl,fun r j hj hr=>?_⟩;obtain⟨v,g1,g2⟩:=e3 r j hj hr;exact⟨v,by rw[w8 e2];simpa using g1,g2⟩
 | _=>simp[vT] at h
theorem qr7 {sh:List Sh}(h:qj3 sh=true):sh=[.int .u8]:=by
 unfold qj3 at h;split at h
 ·rfl
 ·cases h
theorem qoP:∀(ns:List Int) (r:ByteArray),ns.foldl (fun r n=>r.push (UInt8.ofNat n.toNat)) r=⟨r.data++(ns.map fun n=>UInt8.ofNat n.toNat).toArray⟩
 | [],r=>by simp
 | n::ns,r=>by
  simp only[qL5,qKi];rw[qoP ns];simp[ByteArray.push]
theorem qso (hE:E.tok P)(hs:HSim B X){src dst e:TypeId}{es:Nat}(h1:(E.ty src).d=.slice e es)(h2:(E.ty dst).d=.str){a:AV}{v:Value}(hv:Rep X a v)(h:(qpf E X.h e a).run=some r):∃av u,r=(av,X.h,none)/\(convert src dst v).run P X.w=.ok u X.w/\Rep X av u:=by
 unfold qpf at h;cases hd:(E.ty e).d with
 | int k=>
  rw[hd] at h;cases k<;>first|(cases h;done)|skip
  simp only at h;cases hr:vT X.h a with
  | none=>rw[hr] at h;cases h
  | some q=>
   obtain⟨sh,l⟩:=q;rw[hr] at h;simp only at h;split at h
   ·rename_i hb;cases h;have hsh:=qr7 hb;subst hsh;have e1:=(q1p hE h1).1;have e2:=qeV hE h2;have e3:=qnH hE hd;refine⟨_,.string ⟨(qlQ l).toArray⟩,rfl,?_,.str _⟩;rcases qyc hs hv hr with⟨rfl,rfl⟩|⟨ad,cap,rfl,hsp,hc⟩
    ·rw[run_convert_bytes_string X.w src dst e none 0 0 e1 e3 e2];simp[Conv.bytesToString,qlQ];rfl
    ·rw[run_convert_bytes_string X.w src dst e (some ad) l.length cap e1 e3 e2];have hl:=run_loadCells_list (P:=P) X.w ad (((List.range l.length).map fun r:Nat=>(wy l r 0).toI).map (Value.int .u8)) (fun j v hj=>by
      have hj':j<l.length:=by have:=(qKW.1 hj).1;simpa using this
      obtain⟨u,g1,g2⟩:=hc j 0 (by simp) hj';simp only[List.map_map,qJo,qKa hj',qJR,qJc] at hj;have hs0:=hsp (by omega);have hadd:ad.add j=⟨ad.block,ad.off+j,none⟩:=by obtain⟨b,o,s⟩:=ad;simp only at hs0;subst hs0;unfold Addr.add;split<;>simp_all
      rw[hadd];simp only[qJM,qKr,qK5,qKX,qJU] at g1;rw[g1];cases g2;rw[<-hj];rfl)
     simp only[qJm,qJV] at hl;rw[run_bytesToString X.w ad l.length cap _ hl,qoP];congr 3;have he0:ByteArray.empty.data=#[]:=rfl;rw[he0];rw[Array.empty_append];congr 1;unfold qlQ;apply qK9;intro i;by_cases hi:i<l.length
     ·simp[hi,wy]
     ·simp[hi]
   ·cases h
 | _=>rw[hd] at h;cases h
theorem qsT (hE:E.tok P)(hs:HSim B X){src dst:TypeId}{a:AV}{v:Value}(hv:Rep X a v)(h:(qgm E X.h src dst a).run=some r) :∃av u,r=(av,X.h,none)/\(convert src dst v).run P X.w=.ok u X.w/\Rep X av u:=by
 unfold qgm at h;split at h
 ·rename_i e es h1;split at h
  ·rename_i h2;exact qso hE hs h1 h2 hv h
  ·cases h
 ·exact quS hE hv h
theorem qu9 (v:Value)(b:Nat):jx v≠.vec b:=by unfold jx;split<;>simp
theorem qgX{h:List Blk}{sh:List Sh}{zs:List AV}{us:List U}(hu:qnC h sh zs=some us)(hl:zs.length=sh.length):∀n,qhB h sh n (List.replicate n zs).flatten=some (List.replicate n us)
 | 0=>by simp[qhB]
 | n+1=>by
  simp only[qKG,qLq,qhB];have h2:=qgX hu hl n;rw[<-hl,List.take_left,List.drop_left,hu];simp only[h2]
theorem qwo (hE:E.tok P)(hs:HSim B X){t:TypeId}{x y:AV}{vx vy:Value}(hx:Rep X x vx)(hy:Rep X y vy)(h:(qBV E X.h t x y).run=some r) :qR P B X (do pure (.value (<-Instr.makeSlice t vx vy))) r:=by
 unfold qBV at h;cases hd:(E.ty t).d<;>rw[hd] at h<;>try (cases h;done)
 rename_i e es;obtain⟨ht,rfl⟩:=q1p hE hd;cases h1:asI x with
 | none=>rw[h1] at h;cases h
 | some p=>
  obtain⟨k,n⟩:=p;cases h2:asI y with
  | none=>rw[h1,h2] at h;cases h
  | some q=>
   obtain⟨k',m⟩:=q;rw[h1,h2] at h;simp only at h;obtain rfl:=q3K hx h1;obtain rfl:=q3K hy h2;cases hsh:E.shape 16 e with
   | none=>rw[hsh] at h;cases h
   | some sh=>
    rw[hsh] at h;simp only at h;by_cases hc:sh.length=P.cellsOf e/\0<P.cellsOf e/\(E.ty e).zero.length=P.cellsOf e
    ·rw[if_pos hc] at h;obtain⟨hc1,hc2,hc3⟩:=hc;cases hu:qnC X.h sh ((E.ty e).zero.map jx) with
     | none=>rw[hu] at h;cases h
     | some us=>
      rw[hu] at h;obtain⟨g1,g2⟩:=jm h;obtain⟨g3,g4⟩:=jm g2;cases g4;have hnm:n=m:=by simpa[ieq] using g1
      subst hnm;obtain⟨q1,q2⟩:=q0g g3;obtain⟨i,z,he⟩:=qB6 hE hc2 hc3;obtain⟨b1,b2⟩:=he.by_ n.toNat (by rw[qL6 q1];exact q2);have hzz:(E.ty e).zero.map jx=z.cells.toList.map jx:=by obtain⟨z',z1,z2,i',hi',hz'⟩:=qdT hE (t:=e) (by omega) X.w;rw[he.hi] at hi';cases hi';rw[he.hz] at hz';cases hz';rw[z2]
      have hrun:=run_make (P:=P) X.w t e i z ht he.hi he.hz k k' n n q1 (qJE _) (by
       have:(i.bytes:Int)*n=((n.toNat*i.bytes:Nat):Int):=by rw[qK2,qL6 q1,qKk]
       rw[this];omega) (by omega)
      have hmk:madeCells z.cells (n.toNat*i.size)=(Array.range (n.toNat*z.cells.size)).map (z.cells[·%z.cells.size]!):=by rw[he.size,<-he.zs];rfl
      have hini:RepL X (List.replicate n.toNat ((E.ty e).zero.map jx)).flatten (madeCells z.cells (n.toNat*i.size)).toList:=by rw[hmk,qwY,hzz];exact qct (jL X _) _
      have hzl:((E.ty e).zero.map jx).length=sh.length:=by rw[qJm,hc3,hc1]
      obtain⟨f1,f2⟩:=qjd hs (Ext.refl X) n.toNat (qgX hu hzl n.toNat) (fun a ha b e sh l hab _=>by exfalso;obtain⟨l',hl',ha'⟩:=List.mem_flatten.1 ha;rw[(qLr.1 hl').2] at ha';obtain⟨v,_,hv⟩:=qK1.1 ha';exact qu9 v b (hv.trans hab)) hini;have hpw:=PushW.alloc X (.cells (madeCells z.cells (n.toNat*i.size)) e);have hx2:=Ctx.push_ext hs (.vec e sh (q3O n us)) hpw;have hsz:(madeCells z.cells (n.toNat*i.size)).size=n.toNat*sh.length:=by rw[size_madeCells,he.size,hc1]
      have hvec:=qo9 (X:=X) (e:=e) (sh:=sh) (l:=q3O n us) (n:=X.w.heap.size) (cap:=n.toNat) (w':=X.w.alloc (.cells (madeCells z.cells (n.toNat*i.size)) e)) (Nat.le_of_eq f1) (by unfold maxLen;omega) (wt _ _) hsz;have hvl:(q3O n us).length=n.toNat:=f1;rw[hvl] at hvec;refine⟨.value (.slice (some ⟨X.w.heap.size,0,none⟩) n.toNat n.toNat),_,X.pushW (.vec e sh (q3O n us)) (some X.w.heap.size) _,?_,.inl rfl,hvec,hs.push hpw ?_,rfl,hx2⟩
      ·rw[qJh,hrun];rfl
      ·refine .inr ⟨X.w.heap.size,_,by simp[Ctx.pushW],wt _ _,fun r j hj hr=>?_⟩;obtain⟨v,w1,w2⟩:=f2.2 r j hj hr;exact⟨v,by simpa using w1,w2.mono hx2.M hx2.w⟩
    ·rw[if_neg hc] at h;cases h
theorem qvY (hE:E.tok P)(hs:HSim B X){ts:List TypeId}{azz:List AV}{vs:List Value}(hv:RepL X azz vs)(h:(qwe E X.h ts azz).run=some r)(ty:TypeId) :qR P B X (do pure (.value (<-Builtin.copy_ ts.toArray ty vs.toArray))) r:=by
 unfold qwe at h;split at h
 ·rename_i t t' b i s;cases hd:(E.ty t).d<;>rw[hd] at h<;>try (cases h;done)
  rename_i e0 es;obtain⟨ht,rfl⟩:=q1p hE hd;cases hb:X.h[b]? with
  | none=>rw[hb] at h;cases h
  | some kb=>
   rw[hb] at h;cases kb with
   | vec e sh l=>
    simp only at h;split at h
    ·rename_i hc;obtain⟨hc1,hc2⟩:=hc;have hsh:=qr7 hc1;subst hsh;obtain⟨g1,g2⟩:=jm h;cases g2;have hle:(s.length:Int)<=(l.length:Int)-i:=of_decide_eq_true g1;cases hv with
     | cons hv1 hv=>cases hv with
      | cons hv2 hv=>cases hv with
       | nil=>
        obtain rfl:=qvc hv2;cases hv1 with
        | vsub _ _ n k m c hbl hσ hk=>
         obtain⟨q1,q2,q3,q4⟩:=hk _ _ ⟨e,l,.inl hb,rfl⟩;simp only[qJM,qKr,qK5,qKX] at q3;subst q4;rcases hs.blk b _ hb with⟨e1,_⟩|⟨n',cc,e1,e2,e3⟩
         ·rw[hσ] at e1;cases e1
         rw[hσ] at e1;cases e1;have hsl:i.toNat+s.length<=l.length:=by omega
         have hlast:l.length<=cc.size:=by
          rcases qKj l.length with h0|h0
          ·omega
          ·obtain⟨v',w1,_⟩:=e3 (l.length-1) 0 (by simp) (by omega);have:=(qJj.1 w1).1;simp at this;omega
         have hk2:k=i.toNat\/(s=[]/\k=0):=by
          rcases q3 with h1|⟨h1,h2⟩
          ·exact .inl h1
          ·exact .inr ⟨qKY (by omega),h2⟩
         let cs:List Value:=s.map fun c=>Value.int .u8 (c.toNat:Int)
         have hcl:cs.length=s.length:=by simp[cs]
         have hkl:k+s.length<=cc.size:=by
          rcases hk2 with h1|⟨h1,h2⟩
          ·omega
          ·rw[h1,h2];simp
         have hst:=run_storeCells_at P n k e cs 0 cc X.w e2 (by rw[hcl];omega) (fun v hv=>by obtain⟨c,_,hc⟩:=qK1.1 hv;rw[<-hc];rfl);rw[qJU,hcl] at hst;have hup:=UpdW.setRow (X:=X) (c':=(cc.toList.take k++cs++cc.toList.drop (k+s.length)).toArray) e2 (by simp[hcl];omega);have hown:X.own b n:=⟨hσ,_,hb,rfl⟩;have hrl:(qv7 l i s).length=l.length:=by simp[qv7];omega
         have hkk:qfc (.vec e [.int .u8] l) (.vec e [.int .u8] (qv7 l i s)):=⟨rfl,rfl,hrl.symm⟩;have hx:=Ctx.upd_ext hs hb hown hup hkk;have hinfo:(P.info? e0).map (·.size)=some 1:=by obtain⟨ii,w1,w2⟩:=qvo (P:=P) (e:=e0) (by omega);rw[w1,qJR,w2,<-hc2]
         have hmin:Nat.min s.length (l.length-i.toNat)=s.length:=qKs (by omega);have hcsE:(((ByteArray.mk s.toArray).extract 0 s.length).data.map fun b=>Value.int .u8 (b.toNat:Int)).toList=cs:=by
          have:((ByteArray.mk s.toArray).extract 0 s.length).data=s.toArray:=by simp
          rw[this];simp[cs]
         refine⟨.value (goInt s.length),goInt s.length,X.upd b (.vec e [.int .u8] (qv7 l i s)) (X.w.setRow n _),?_,.inl rfl,?_,hs.upd hb hown hup hkk ?_,rfl,hx⟩
         ·cases hq:P.info? e0 with
          | none=>rw[hq] at hinfo;cases hinfo
          | some ii=>
           have hsize:ii.size=1:=by rw[hq] at hinfo;simpa using hinfo
           have hsz:(ByteArray.mk s.toArray).size=s.length:=rfl;have hcopy:(Builtin.copy_ (List.toArray [t,t']) ty (List.toArray [.slice (some ⟨n,k,none⟩) (l.length-i.toNat) c,.string ⟨s.toArray⟩])).run P X.w =
             .ok (goInt s.length) (X.w.setRow n (cc.toList.take k++cs++cc.toList.drop (k+s.length)).toArray):=by
            have htk:List.take s.length (List.map (fun b:UInt8=>Value.int IntKind.u8 (b.toNat:Int)) s)=cs:=by rw[List.take_of_length_le (by simp)]
            simp[Builtin.copy_,run_underlying ht,Builtin.lenOf,Builtin.firstCells,sizeOf,typeInfo,hq,hsz,hmin];rw[htk,hst];simp[Result.andThen]
           rw[qJh,hcopy];rfl
         ·have:goInt s.length=.int .i64 (qB s):=rfl;rw[this];exact .int _ _
         ·refine .inr ⟨n,_,hσ,hup.new,fun r j hj hr=>?_⟩;rw[hrl] at hr;have hj0:j=0:=by simpa using hj
          subst hj0;obtain⟨v,w1,w2⟩:=e3 r 0 hj hr;simp only[qJM,qKr,qK5,qKX,qJU] at w1 ⊢;have hcu:∀(f:R) (k:Nat),wy f (k:Int) 0=(f[k]?.getD []).getD 0 (.i 0):=fun f k=>by unfold wy;rw[qJq,qJd (l:=f)]
          rw[List.getElem?_toArray];rcases hk2 with hki|⟨hs0,hk0⟩
          ·subst hki;have hcl2:(cc.toList.take i.toNat).length=i.toNat:=by simp;omega
           have hll:(l.take i.toNat).length=i.toNat:=by simp;omega
           rcases qJl r i.toNat with hlt|hge
           ·refine⟨v,?_,?_⟩
            ·rw[qJQ,qJp (by omega),qKg,if_pos hlt];simpa using w1
            ·have:wy (qv7 l i s) r 0=wy l r 0:=by rw[hcu,hcu];unfold qv7;rw[qJQ,qJp (by omega),qKg,if_pos hlt]
             rw[this];exact w2.mono hx.M hx.w
           ·rcases qJl r (i.toNat+s.length) with hlt2|hge2
            ·have hrs:r-i.toNat<s.length:=by omega
             refine⟨.int .u8 (s[r-i.toNat].toNat:Int),?_,?_⟩
             ·rw[qJQ,qJz (by omega),hcl2,qJp (by rw[hcl];omega)];simp[cs,hrs]
             ·have:wy (qv7 l i s) r 0=.i (s[r-i.toNat].toNat:Int):=by rw[hcu];unfold qv7;rw[qJQ,qJz (by omega),hll,qJp (by simp;omega)];simp[hrs]
              rw[this];exact .int .u8 (.i _)
            ·refine⟨v,?_,?_⟩
             ·rw[qJz (by simp[hcl2,hcl];omega)];simp only[qJB,hcl2,hcl,qKh];rw[show i.toNat+s.length+(r-(i.toNat+s.length))=r by omega];simpa using w1
             ·have:wy (qv7 l i s) r 0=wy l r 0:=by rw[hcu,hcu];unfold qv7;rw[qJz (by simp;omega),qKh];simp only[qJB,hll,qJm];rw[show i.toNat+s.length+(r-(i.toNat+s.length))=r by omega]
              rw[this];exact w2.mono hx.M hx.w
          ·subst hs0 hk0;refine⟨v,by simpa[cs] using w1,?_⟩;have:qv7 l i []=l:=by simp[qv7]
           rw[this];exact w2.mono hx.M hx.w
    ·cases h
   | _=>cases h
 ·cases h
end Go.Eng

namespace Go.Eng
variable {B:Base}{E:Env}{P:Program}{X:Ctx}{l:R}{n:Nat}{r:Res}{t:TypeId}{v:Value}{vs:List Value}{w:World}
theorem qI3 {k:IntKind}(h:isZ k v=true):v=.int k 0:=by
 unfold isZ at h;split at h
 ·simp only[qJx,decide_eq_true_eq] at h;rw[h.1,h.2]
 ·cases h
theorem qhg {o n:Nat}{k:IntKind}(h:qyU E t=some (o,k,n)) :(E.ty t).zero.length=o+n/\(E.ty t).size=o+n/\32<=n/\(E.ty t).zero.drop o=List.replicate n (.int k 0)/\∃fs,(E.ty t).d=.struct fs:=by
 unfold qyU at h;split at h
 ·rename_i fs hd;split at h
  ·rename_i o' ty sz hl;split at h
   ·rename_i n' e es ha;split at h
    ·rename_i k' hk;split at h
     ·rename_i hc;cases h;simp only[qJx,Nat.ble_eq,Nat.beq_eq,qJL] at hc;obtain⟨⟨⟨c1,c2⟩,c3⟩,c4⟩:=hc;refine⟨c2,c3,c1,?_,fs,hd⟩;apply List.eq_replicate_iff.2;exact⟨by simp[c2],fun v hv=>qI3 (c4 v hv)⟩
     ·cases h
    ·cases h
   ·cases h
  ·cases h
 ·cases h
theorem qy3 (k:IntKind)(n:Nat):q1s k (q3O n [.i 0])=List.replicate n (.int k 0):=by simp[q1s,q3O,U.toI]
theorem qo4 (n:Nat)(r:List U):(q3O n r).length=n:=by simp[q3O]
theorem qm8 {o n:Nat}{k:IntKind}(h:qyU E t=some (o,k,n)):(E.ty t).zero=(E.ty t).zero.take o++q1s k (q3O n [.i 0]):=by obtain⟨h1,h2,h3,h4,_⟩:=qhg h;rw[qy3,<-h4,qLh]
theorem qDO (hs:HSim B X){cs:List AV}{k:IntKind}{c:Array Value}{T:TypeId}(hr:RepL X cs vs)(hc:c.toList=vs++q1s k l)(hl:l.length=n) :HSim B (X.pushW (.big cs k n l) (some X.w.heap.size) (X.w.alloc (.cells c T))):=by have hw:=PushW.alloc X (.cells c T);exact hs.push hw ⟨X.w.heap.size,c,T,vs,by simp[Ctx.pushW],wt _ _,hr.ext (Ctx.push_ext hs _ hw),hc,hl⟩
theorem qnN (hs:HSim B X){cs:List AV}{k:IntKind}(hr:RepL X cs vs)(hc:v.cells.toList=vs++q1s k l)(hl:l.length=n){m:Sem Value}(hm:m.run P X.w=.ok (.pointer (some ⟨X.w.heap.size,0,none⟩)) (X.w.alloc (.cells v.cells t))) :qR P B X (do pure (.value (<-m))) (.ptr X.h.length 0,X.h++[.big cs k n l],none):=
 ⟨.value (.pointer (some ⟨X.w.heap.size,0,none⟩)),_,X.pushW (.big cs k n l) (some X.w.heap.size) (X.w.alloc (.cells v.cells t)),by simp[hm];rfl,.inl rfl,qxG,qDO hs hr hc hl,rfl,
  Ctx.push_ext hs _ (PushW.alloc X _)⟩
theorem qra {h:List Blk}{k:Option Blk}(hr:(qAP h k).run=some r):∃z,k=some z/\r=(.ptr h.length 0,h++[z],none):=by
 cases k with
 | none=>cases hr
 | some z=>cases hr;exact⟨z,rfl,rfl⟩
theorem qAF (hs:HSim B X){a:AV}(hv:Rep X a v){z:Blk}(hz:qBJ a=some z) :qR P B X (do pure (.value (<-Instr.box t v))) (.ptr X.h.length 0,X.h++[z],none):=by
 unfold qBJ at hz;split at hz
 ·rename_i cs k n l;split at hz
  ·cases hz;cases hv with
   | bagg _ _ _ _ vs h hl=>exact qnN (t:=t) (v:=.agg (vs++q1s k l).toArray) hs h (by simp[Value.cells]) hl (by simp[Instr.box,q9O])
  ·cases hz
 ·split at hz
  ·rename_i hc;cases hz;exact qCY hs hv hc
  ·cases hz
theorem qwb (hE:E.tok P)(hs:HSim B X){z:Blk}(hz:qeD E t=some z) :qR P B X (do pure (.value (<-Instr.alloc t true (.tuple #[])))) (.ptr X.h.length 0,X.h++[z],none):=by
 unfold qeD at hz;split at hz
 ·rename_i o k n hb;split at hz
  ·cases hz;obtain⟨b1,b2,b3,b4,_⟩:=qhg hb;obtain⟨v,h1,h2,_⟩:=qdT hE (t:=t) (by omega) X.w;refine qnN (t:=t) (v:=v) (vs:=(E.ty t).zero.take o) hs (jL X _) ?_ (qo4 _ _) ?_
   ·rw[h2];exact qm8 hb
   ·simp[Instr.alloc,h1,q9O]
  ·cases hz
 ·split at hz
  ·rename_i hc;cases hz;exact qyw hE hs hc.2
  ·cases hz
theorem qrJ {k:IntKind}{c:Array Value}(hc:c.toList=vs++q1s k l){j:Nat}(hj:j<l.length):c[vs.length+j]?=some (.int k (cI l j 0)):=by
 have:c.toList[vs.length+j]?=some (.int k (cI l j 0)):=by rw[hc,qJz (by omega),Nat.add_sub_cancel_left,qfH hj]
 simpa using this
theorem qD8 (l:R){i:Int}(h:0<=i)(j:Nat):cI l ((i.toNat:Nat):Int) j=cI l i j:=by rw[qL6 h]
theorem qw3 (hE:E.tok P)(hs:HSim B X){b off n0:Nat}(hσ:X.σ b=some n0){cs:List AV}{k:IntKind}(hh:X.h[b]?=some (.big cs k n l))(h:(qBn E X.h t off cs k n l).run=some r):∃av u,r=(av,X.h,none)/\(Instr.loadAt t (.pointer (some ⟨n0,off,none⟩))).run P X.w=.ok u X.w/\Rep X av u:=by
 obtain⟨n1,c,T,vs,e1,e2,e3,e4,e5⟩:=hs.blk b _ hh;rw[hσ] at e1;cases e1;have hlen:=e3.length;have hcl:c.size=vs.length+n:=by
  have:c.toList.length=(vs++q1s k l).length:=by rw[e4]
  simpa[uo,e5] using this
 unfold qBn at h;by_cases hk:(E.ty t).d.known=false
 ·rw[if_pos hk] at h;cases h
 rw[if_neg hk] at h;have hk':(E.ty t).d.known=true:=by simpa using hk
 simp only[Instr.loadAt,Instr.sureAddr,qJh,qJN,qJn];unfold loadVar;rw[qJh,qds hE hk',qJn];cases ha:(E.ty t).d.isAgg with
 | true=>
  rw[ha] at h;simp only[if_true] at h ⊢;split at h
  ·rename_i hc;obtain⟨rfl,hc2⟩:=hc;cases h;refine⟨_,.agg (vs++q1s k l).toArray,rfl,?_,.bagg _ _ _ _ vs e3 e5⟩;have:=run_loadCells_list (P:=P) X.w ⟨n0,0,none⟩ (vs++q1s k l) (fun j v hj=>by rw[qK0,w8 e2,qK5];rw[<-e4] at hj;simpa using hj);have hl:(vs++q1s k l).length=(E.ty t).size:=by simp[uo];omega
   rw[hl] at this;simp[qhp hE hk',this]
  ·cases h
 | false=>
  rw[ha] at h;simp only[qJA,if_false] at h ⊢;split at h
  ·rename_i v hv;cases h;obtain⟨u,g1,g2⟩:=e3.get off v hv;have h2:X.w.cell? ⟨n0,off,none⟩=some u:=by
    rw[w8 e2];have:c.toList[off]?=some u:=by rw[e4,qJp (qu g1)];exact g1
    simpa using this
   exact⟨_,u,rfl,by simp[h2],g2⟩
  ·rename_i hv;have hge:cs.length<=off:=by
    rcases qJl off cs.length with hlt|hge
    ·rw[qJk hlt] at hv;cases hv
    ·exact hge
   split at h
   ·rename_i hlt;cases h;have h2:X.w.cell? ⟨n0,off,none⟩=some (.int k (cI l ((off-cs.length:Nat):Int) 0)):=by
     rw[w8 e2];have:=qrJ e4 (j:=off-cs.length) (by omega)
     rwa [show vs.length+(off-cs.length)=off by omega] at this
    exact⟨_,_,rfl,by simp[h2],.int _ _⟩
   ·cases h
theorem qsi (hE:E.tok P)(hs:HSim B X){p:AV}(hv:Rep X p v)(h:(qc3 E X.h t p).run=some r):∃av u,r=(av,X.h,none)/\(Instr.loadAt t v).run P X.w=.ok u X.w/\Rep X av u:=by
 unfold qc3 at h;split at h
 ·rename_i b off;split at h
  ·rename_i cs k n l hh;cases hv with
   | ptr _ _ n0 hb hσ=>exact qw3 hE hs hσ hh h
  ·exact qgF hE hs hv h
 ·rename_i b o i;split at h
  ·rename_i cs k n l hh;split at h
   ·rename_i hc;obtain⟨hc1,hc2,hc3⟩:=hc;obtain⟨g1,g2⟩:=jm h;cases g2;obtain⟨g3,g4⟩:=qjq g1;cases hv with
    | aptr _ _ _ n0 hb hσ h0=>
     obtain⟨n1,c,T,vs,e1,e2,e3,e4,e5⟩:=hs.blk b _ hh;rw[hσ] at e1;cases e1;have hlen:=e3.length;have h2:X.w.cell? ⟨n0,o+i.toNat,none⟩=some (.int k (cI l i 0)):=by
      rw[w8 e2];have:=qrJ e4 (j:=i.toNat) (by omega);rw[qD8 l g3] at this
      rwa [show vs.length+i.toNat=o+i.toNat by omega] at this
     refine⟨_,_,rfl,?_,.int _ _⟩;simp only[Instr.loadAt,Instr.sureAddr,qJh,qJN,qJn];unfold loadVar;rw[qJh,qds hE hc1,qJn,hc2];simp[h2]
   ·cases h
  ·cases h
 ·exact qgF hE hs hv h
theorem qCi (k:IntKind)(l:R)(j:Nat)(x:Int):q1s k (qfD l (j:Int) 0 [.i x])=(q1s k l).set j (.int k x):=by
 apply qK9;intro i;have hl:(qfD l (j:Int) 0 [.i x]).length=l.length:=by simp[qfD]
 by_cases hi:i<l.length
 ·rw[qfH (by omega)];by_cases hij:i=j
  ·subst hij;rw[qJv (by rw[uo];exact hi)];have:=qgz (l:=l) (i:=(i:Int)) (off:=0) (us:=[.i x]) (by simpa using hi) (j:=0);simp only[cI,this];rfl
  ·rw[qJf (qJI hij),qfH hi];have:=qf9 (l:=l) (i:=(j:Int)) (off:=0) (us:=[.i x]) (r:=i) (by simpa using hij) (j:=0);simp only[cI,this]
 ·rw[qJC (by rw[uo];omega),qJC (by simp[uo];omega)]
theorem qxf (hE:E.tok P)(hs:HSim B X){b n0 j:Nat}(hσ:X.σ b=some n0){cs:List AV}{k:IntKind}(hh:X.h[b]?=some (.big cs k n l))(hj:j<n) (hsz:(E.ty t).size=1) (x:Int):qR P B X (do Instr.storeAt t (.pointer (some ⟨n0,cs.length+j,none⟩)) (.int k x);pure .skip) (.skip,X.h.set b (.big cs k n (qfD l (j:Int) 0 [.i x])),none):=by
 obtain⟨n1,c,T,vs,e1,e2,e3,e4,e5⟩:=hs.blk b _ hh;rw[hσ] at e1;cases e1;have hlen:=e3.length;have hcl:c.size=vs.length+n:=by
  have:c.toList.length=(vs++q1s k l).length:=by rw[e4]
  simpa[uo,e5] using this
 have hsz':(sizeOf t).run P X.w=.ok (Value.int k x).cells.size X.w:=q9j hE (by rw[hsz];rfl) (by show 1≠0;omega) X.w;have hrun:=q2B (P:=P) (t:=t) (o:=cs.length+j) (v:=.int k x) e2 hsz' (by show cs.length+j+1<=_;omega) (fun u hu=>by
  have:u=.int k x:=by simpa[Value.cells] using hu
  rw[this];rfl)
 have hc':c.toList.take (cs.length+j)++(Value.int k x).cells.toList++c.toList.drop (cs.length+j+(Value.int k x).cells.size)=vs++q1s k (qfD l (j:Int) 0 [.i x]):=by
  rw[qCi,e4];have h1:(Value.int k x).cells.toList=[.int k x]:=rfl;have h2:(Value.int k x).cells.size=1:=rfl;rw[h1,h2];apply qK9;intro i;have hsp:=qd6 (c:=vs++q1s k l) (vs:=[Value.int k x]) (o:=cs.length+j) (k:=i) (by simp[uo];omega);simp only[qJM,qKr,qK5] at hsp;rw[hsp];by_cases hi:i=cs.length+j
  ·subst hi;rw[if_pos (by omega),qJz (by omega),show cs.length+j-vs.length=j by omega,qJv (by rw[uo];omega)];simp
  ·rw[if_neg (by omega)];rcases qJl i vs.length with hlt|hge
   ·rw[qJp hlt,qJp hlt]
   ·rw[qJz hge,qJz hge,qJf (by omega)]
 have hup:=UpdW.setRow (X:=X) (c':=(c.toList.take (cs.length+j)++(Value.int k x).cells.toList++c.toList.drop (cs.length+j+(Value.int k x).cells.size)).toArray) e2 (by have h1:(Value.int k x).cells.toList=[.int k x]:=rfl;have h2:(Value.int k x).cells.size=1:=rfl;rw[h1,h2];simp;omega);have hown:X.own b n0:=⟨hσ,_,hh,rfl⟩;have hkk:qfc (.big cs k n l) (.big cs k n (qfD l (j:Int) 0 [.i x])):=trivial;have hx:=Ctx.upd_ext hs hh hown hup hkk;refine⟨.skip,Go.undef,X.upd b (.big cs k n (qfD l (j:Int) 0 [.i x])) (X.w.setRow n0 _),?_,.inr ⟨rfl,rfl⟩,.skip,hs.upd hh hown hup hkk ?_,rfl,hx⟩
 ·simp[Instr.storeAt,Instr.sureAddr,hrun];rfl
 ·exact⟨n0,_,T,vs,hσ,hup.new,e3.ext hx,by rw[<-hc'],by simp[qfD,e5]⟩
theorem qzj (hE:E.tok P)(hs:HSim B X){b off n0:Nat}(hσ:X.σ b=some n0){cs:List AV}{k:IntKind}(hh:X.h[b]?=some (.big cs k n l)){a:AV} {v:Value} (hv:Rep X a v) {r:Res} (h:(qsz E X.h t b off cs k n l a).run=some r):qR P B X (do Instr.storeAt t (.pointer (some ⟨n0,off,none⟩)) v;pure .skip) r:=by
 obtain⟨n1,c,T,vs,e1,e2,e3,e4,e5⟩:=hs.blk b _ hh;rw[hσ] at e1;cases e1;have hlen:=e3.length;have hcl:c.size=vs.length+n:=by
  have:c.toList.length=(vs++q1s k l).length:=by rw[e4]
  simpa[uo,e5] using this
 have hown:X.own b n0:=⟨hσ,_,hh,rfl⟩;unfold qsz at h;split at h
 ·rename_i cs' k' n' l';split at h
  ·rename_i hc;obtain⟨rfl,rfl,rfl,c1,c2,c3,c4⟩:=hc;cases h;cases hv with
   | bagg _ _ _ _ vs' h' hl'=>
    have hlen':=h'.length;have hcs:(Value.agg (vs'++q1s k l').toArray).cells.toList=vs'++q1s k l':=by simp[Value.cells]
    have hcz:(Value.agg (vs'++q1s k l').toArray).cells.size=c.size:=by simp[Value.cells,uo];omega
    have hsz':(sizeOf t).run P X.w=.ok (Value.agg (vs'++q1s k l').toArray).cells.size X.w:=q9j hE (by rw[hcz];omega) (by rw[hcz];omega) X.w;have hrun:=q2B (P:=P) (t:=t) (o:=0) (v:=.agg (vs'++q1s k l').toArray) e2 hsz' (by omega) (fun u hu=>by
     rw[hcs] at hu;rcases qJG.1 hu with hu|hu
     ·exact qbQ h' c4 u hu
     ·unfold q1s at hu;obtain⟨row,_,hr⟩:=qK1.1 hu;rw[<-hr];rfl)
    have hup:=UpdW.setRow (X:=X) (c':=(c.toList.take 0++(Value.agg (vs'++q1s k l').toArray).cells.toList++c.toList.drop (0+(Value.agg (vs'++q1s k l').toArray).cells.size)).toArray) e2 (by rw[hcs];simp[hcz,uo];omega);have hkk:qfc (.big cs k n l) (.big cs' k n l'):=trivial;have hx:=Ctx.upd_ext hs hh hown hup hkk;refine⟨.skip,Go.undef,X.upd b (.big cs' k n l') (X.w.setRow n0 _),?_,.inr ⟨rfl,rfl⟩,.skip,hs.upd hh hown hup hkk ?_,rfl,hx⟩
    ·simp only[Instr.storeAt,Instr.sureAddr,qJh,qJN,qJn,hrun];rfl
    ·refine⟨n0,_,T,vs',hσ,hup.new,h'.ext hx,?_,hl'⟩;rw[hcs];simp[hcz]
  ·cases h
 ·rename_i hnb;split at h
  ·rename_i hc;obtain⟨c1,c2,c3⟩:=hc;split at h
   ·rename_i hle;have hle':off+a.cells.length<=cs.length:=Nat.le_of_ble_eq_true hle;cases h;have hrl:=qg5 hv c2;have hlenv:v.cells.size=a.cells.length:=by have:=hrl.length;simpa using this.symm
    have hone:=qbQ hrl c2;have hsz:(sizeOf t).run P X.w=.ok v.cells.size X.w:=by rw[hlenv];exact q9j hE c1 c3 X.w
    have hrun:=q2B (P:=P) (t:=t) (o:=off) (v:=v) e2 hsz (by omega) hone;have hup:=UpdW.setRow (X:=X) (c':=(c.toList.take off++v.cells.toList++c.toList.drop (off+v.cells.size)).toArray) e2 (by simp;omega);have hkk:qfc (.big cs k n l) (.big (qmK cs off a.cells) k n l):=trivial;have hx:=Ctx.upd_ext hs hh hown hup hkk;refine⟨.skip,Go.undef,X.upd b (.big (qmK cs off a.cells) k n l) (X.w.setRow n0 _),?_,.inr ⟨rfl,rfl⟩,.skip,hs.upd hh hown hup hkk ?_,rfl,hx⟩
    ·simp[Instr.storeAt,Instr.sureAddr,hrun];rfl
    ·refine⟨n0,_,T,vs.take off++v.cells.toList++vs.drop (off+a.cells.length),hσ,hup.new,(qdL e3 hrl off).ext hx,?_,e5⟩;show c.toList.take off++v.cells.toList++c.toList.drop (off+v.cells.size)=_;rw[e4,hlenv,List.take_append_of_le_length (by omega),List.drop_append_of_le_length (by omega)];simp
   ·split at h
    ·rename_i k' x hx;split at h
     ·rename_i hc2;obtain⟨rfl,d1,d2⟩:=hc2;cases h;obtain rfl:=q3K hv hx;have hone:a.cells.length=1:=by cases a<;>simp[asI] at hx<;>rfl
      have:=qxf (P:=P) hE hs hσ hh (j:=off-cs.length) (by omega) (t:=t) (by omega) x
      rwa [show cs.length+(off-cs.length)=off by omega] at this
     ·cases h
    ·cases h
  ·cases h
theorem qsN (hE:E.tok P)(hs:HSim B X){p a:AV}{vp v:Value}(hp:Rep X p vp)(hv:Rep X a v)(h:(q0h E X.h t p a).run=some r):qR P B X (do Instr.storeAt t vp v;pure .skip) r:=by
 unfold q0h at h;split at h
 ·rename_i b off;split at h
  ·rename_i cs k n l hh;cases hp with
   | ptr _ _ n0 hb hσ=>exact qzj hE hs hσ hh hv h
  ·exact qmo hE hs hp hv h
 ·rename_i b o i;split at h
  ·rename_i cs k n l hh;split at h
   ·rename_i k' x hx;split at h
    ·rename_i hc;obtain⟨rfl,rfl,hc3⟩:=hc;obtain⟨g1,g2⟩:=jm h;cases g2;obtain⟨g3,g4⟩:=qjq g1;obtain rfl:=q3K hv hx;cases hp with
     | aptr _ _ _ n0 hb hσ h0=>
      have:=qxf (P:=P) hE hs hσ hh (j:=i.toNat) (by omega) (t:=t) hc3 x
      rwa [qL6 h0] at this
    ·cases h
   ·cases h
  ·cases h
 ·exact qmo hE hs hp hv h
theorem qkd (hE:E.tok P)(hs:HSim B X){a ai:AV}{v vi:Value}(hv:Rep X a v)(hi:Rep X ai vi)(h:(q14 E X.h t a ai).run=some r):∃av u,r=(av,X.h,none)/\(Instr.indexAt t v vi).run P X.w=.ok u X.w/\Rep X av u:=by
 unfold q14 at h;split at h
 ·rename_i n e es hd;split at h
  ·split at h
   ·rename_i b off;split at h
    ·rename_i k i;split at h
     ·rename_i hes;obtain⟨ht,hce⟩:=q7K hE hd;obtain⟨g1,g2⟩:=jm h;cases g2;obtain⟨g3,g4⟩:=qjq g1;obtain rfl:=q3K hi rfl;cases hv with
      | ptr _ _ n0 hb hσ=>
       refine⟨_,_,rfl,q0z ht (by omega) g3 g4,?_⟩;rw[qK0,<-hce,hes,qKX];exact .aptr b off i n0 hb hσ g3
     ·cases h
    ·exact q39 hE hs hv hi h
   ·exact q39 hE hs hv hi h
  ·exact q39 hE hs hv hi h
 ·exact q39 hE hs hv hi h
theorem qhT{X:Ctx}{place:Nat->Option (Nat×Nat)}(tl:List Value):∀{parts:List (Nat×AV)} {vparts:List (Nat×Value)} {cells cs:List AV} {vc:Array Value} {vs:List Value},
  qdi place cells parts=some cs->RepP X parts vparts->RepL X cells vs->vc.toList=vs++tl->∃vc' vs',Instr.fill place vc vparts=some vc'/\RepL X cs vs'/\vc'.toList=vs'++tl
 | [],_,cells,cs,vc,vs,h,hp,hr,hv=>by
  cases hp;simp only[qdi,qJc] at h;subst h;exact⟨vc,vs,rfl,hr,hv⟩
 | (i,a)::rest,_,cells,cs,vc,vs,h,hp,hr,hv=>by
  cases hp with
  | cons ha ht=>
  rename_i v m;simp only[qdi] at h;cases hpl:place i with
  | none=>rw[hpl] at h;cases h
  | some q=>
   obtain⟨off,size⟩:=q;rw[hpl] at h;simp only at h;by_cases hc:a.cells.length=size/\off+a.cells.length<=cells.length/\yJ a.cells=true
   ·rw[if_pos hc] at h;have hrl:=qg5 ha hc.2.2;have hlen:v.cells.size=a.cells.length:=by have:=hrl.length;simpa using this.symm
    have hvs:cells.length=vs.length:=hr.length;have hvc:vc.size=vs.length+tl.length:=by
     have:vc.toList.length=(vs++tl).length:=by rw[hv]
     simpa using this
    have hnot:¬(v.cells.size≠size\/off+v.cells.size>vc.size):=by omega
    have hf:=qro v.cells vc off (by omega);obtain⟨vc',vs',h1,h2,h3⟩:=qhT tl (vc:=v.cells.zipIdx.foldl (fun cs (x:Value×Nat)=>cs.setIfInBounds (off+x.2) x.1) vc) (vs:=vs.take off++v.cells.toList++vs.drop (off+a.cells.length)) h ht (qdL hr hrl off) (by rw[hf,hlen,hv,List.take_append_of_le_length (by omega),List.drop_append_of_le_length (by omega)];simp);refine⟨vc',vs',?_,h2,h3⟩;simp only[Instr.fill,hpl];rw[if_neg (by simpa using hnot)];exact h1
   ·rw[if_neg hc] at h;cases h
theorem qqw (hE:E.tok P){parts:List (Nat×AV)}{vparts:Array (Nat×Value)}(hp:RepP X parts vparts.toList)(h:(qbD E X.h t parts).run=some r):∃av u,r=(av,X.h,none)/\(Instr.build t vparts).run P X.w=.ok u X.w/\Rep X av u:=by
 unfold qbD at h;split at h
 ·rename_i o k n hb;obtain⟨b1,b2,b3,b4,_⟩:=qhg hb;split at h
  ·rename_i fs hd;split at h
   ·rename_i hok;obtain⟨z,z1,z2,_⟩:=qdT hE (t:=t) (by omega) X.w;obtain⟨fields,e1,e2⟩:=q82 hE hd;have hinfo:∀f∈fields.toList,(P.info? f.type).isSome=true:=by have hk:=q0f hE (t:=t) (by rw[hd];rfl);rw[hk.1] at hok;unfold qtw at hok;obtain⟨_,i,dd,h1,_⟩:=hk;rw[h1] at hok;simpa only [e1,qJL] using hok
    cases hf:qdi (fun i=>(fs[i]?).map fun (f:Nat×TypeId×Nat)=>(f.1,f.2.2)) (((E.ty t).zero.take o).map jx) parts with
    | none=>rw[hf] at h;cases h
    | some cs=>
     rw[hf] at h;cases h;have hpl:(fun i:Nat=>(fs[i]?).map fun (f:Nat×TypeId×Nat)=>(f.1,f.2.2))=fun i:Nat=>(fields.map fun f=>(f.offset,P.cellsOf f.type))[i]?:=by funext i;rw[e2];simp only[qJo,qLn,Array.getElem?_map,Option.map_map];rfl
     rw[hpl] at hf;obtain⟨vc,vs',f1,f2,f3⟩:=qhT (q1s k (q3O n [.i 0])) (vc:=z.cells) (vs:=(E.ty t).zero.take o) hf hp (jL X _) (by rw[z2];exact qm8 hb);have:Rep X (.bagg cs k n (q3O n [.i 0])) (.agg (vs'++q1s k (q3O n [.i 0])).toArray):=.bagg _ _ _ _ _ f2 (qo4 _ _);rw[<-f3] at this;refine⟨_,.agg vc,rfl,?_,by simpa using this⟩;have hm:=qxj (P:=P) (f:=fun f:Field=>(do pure (f.offset,<-sizeOf f.type):Sem (Nat×Nat))) (g:=fun f=>(f.offset,P.cellsOf f.type)) fields (fun f hf w=>by
      have:=hinfo f hf;cases hi:P.info? f.type with
      | none=>rw[hi] at this;cases this
      | some i=>simp[sizeOf,typeInfo,hi,Program.cellsOf]) X.w
     simp only[Instr.build,qJh,z1,qJn,run_underlying e1];rw[hm];simp only[qJn,f1];rfl
   ·cases h
  ·cases h
 ·exact qsr hE hp h
theorem qdr {t e:TypeId}{ad:Addr}{vlo vhi:Option Value}{a b:Nat}(ht:P.underlying t=some (.array n e))(hp:0<P.cellsOf e)(hb:(Instr.sliceBounds false n n vlo vhi none).run P w=.ok (a,b,n) w) :(Instr.sliceAt t (.pointer (some ad)) vlo vhi none).run P w=.ok (.slice (some (if n=a then ad else ad.add (a*P.cellsOf e))) (b-a) (n-a)) w:=by simp[Instr.sliceAt,run_underlying ht,Instr.sureAddr,hb,zO hp]
theorem qkB {t e:TypeId}{ad:Addr}{vlo vhi vmx:Option Value}{a b:Nat}(ht:P.underlying t=some (.array n e))(hp:0<P.cellsOf e)(hb:(Instr.sliceBounds false n n vlo vhi vmx).run P w=.ok (a,b,b) w) :(Instr.sliceAt t (.pointer (some ad)) vlo vhi vmx).run P w=.ok (.slice (some (if b=a then ad else ad.add (a*P.cellsOf e))) (b-a) (b-a)) w:=by simp[Instr.sliceAt,run_underlying ht,Instr.sureAddr,hb,zO hp]
theorem Sh.beq_eq1 {s t:Sh}(h:Sh.beq s t=true):s=t:=by
 have:Sh.beqL [s] [t]=true:=by simp[Sh.beqL,h]
 have:=Sh.beqL_eq _ _ this;cases this;rfl
theorem qvp {M:Nat->Prop}{sh:List Sh}{i:Int}{off n:Nat}{s:Sh}{rows:R}(h:qvj sh l i off n=some (s,rows)){a:Addr}(_:a.spot=none)(hr:Rows w M sh l a) :rows.length=n/\i=0/\qdO w M [s] rows (.slice (some ⟨a.block,a.off+i.toNat*sh.length+off,none⟩) n n):=by
 unfold qvj at h;split at h
 ·rename_i s' row hs;split at h
  ·rename_i hc;obtain⟨⟨rfl,c1⟩,c2,c3⟩:=hc;cases h;have hl:(((row.drop off).take n).map fun u=>[u]).length=n:=by simp;omega
   refine⟨hl,rfl,.inr ⟨_,n,by rw[hl],fun _=>rfl,by rw[hl];exact qJe n,fun r j hj hrn=>?_⟩⟩;rw[hl] at hrn;have hj0:j=0:=by simpa using hj
   subst hj0;have hlt:off+r<sh.length:=by omega
   obtain⟨g1,v,g2,g3⟩:=hr 0 (off+r) hlt (by simp);refine⟨g1,v,?_,?_⟩
   ·rw[<-g2];show World.cell? w ⟨a.block,a.off+(0:Int).toNat*sh.length+off+r*1+0,none⟩=_;congr 2;simp;omega
   ·have e1:sh[off+r]=s:=by
     have hm:sh[off+r]∈(sh.drop off).take n:=by rw[List.mem_iff_getElem];refine⟨r,by simp;omega,by simp⟩
     exact(Sh.beq_eq1 (qJL.1 c2 _ hm)).symm
    have e2:wy [row] ((0:Nat):Int) (off+r)=wy (((row.drop off).take n).map fun u=>[u]) (r:Int) 0:=by
     unfold wy;have h1:(((row.drop off).take n).map fun u=>[u]).getD ((r:Nat):Int).toNat []=[row.getD (off+r) (.i 0)]:=by rw[qJq,qJd,qJo,qKg,if_pos hrn,qKh,qJd,qJk (show off+r<row.length by omega)];rfl
     rw[h1];rfl
    rw[e1] at g3;rw[<-e2];exact g3
  ·cases h
 ·cases h
theorem qpO {lo:Option AV}{vlo:Option Value}(hlo:RepO X lo vlo){k k':IntKind}{a b:Int}(h1:qdJ lo 0=some a) (hb:b<=n) (ha0:0<=a) (ha:a<=b) (w:World) :(Instr.sliceBounds false n n vlo (some (.int k b)) (some (.int k' b))).run P w=.ok (a.toNat,b.toNat,b.toNat) w:=by
 have hb0:0<=b:=by omega
 have hba:a<=(b.toNat:Nat):=by omega
 have hbb:b<=(b.toNat:Nat):=by omega
 rcases qk7 hlo h1 with⟨rfl,rfl⟩|⟨k,rfl⟩
 ·simp[Instr.sliceBounds,zB hb0 hb,zB hb0 hbb]
 ·simp[Instr.sliceBounds,zB hb0 hb,zB hb0 hbb,zB ha0 hba]
theorem qwK (hs:HSim B X){t e:TypeId}(hta:P.underlying t=some (.array n e))(hce:P.cellsOf e=1){ad:Addr}{s:Sh}{rows:R}(hl:rows.length=n)(himm:qdO X.w X.M [s] rows (.slice (some ad) n n)) {lo hi mx:Option AV} {vlo vhi vmx:Option Value} (hlo:RepO X lo vlo) (hhi:RepO X hi vhi) (hmx:RepO X mx vmx) {r:Res}(h:(qtV X.h n s rows lo hi mx).run=some r):qR P B X (do pure (.value (<-Instr.sliceAt t (.pointer (some ad)) vlo vhi vmx))) r:=by
 have hrl:qk rows=(n:Int):=by unfold qk;rw[hl]
 unfold qtV at h;cases mx with
 | none=>
  cases hmx;simp only at h;cases h1:qdJ lo 0 with
  | none=>rw[h1] at h;cases h
  | some x=>
   cases h2:qdJ hi n with
   | none=>rw[h1,h2] at h;cases h
   | some y=>
    rw[h1,h2] at h;obtain⟨g1,g2⟩:=jm h;obtain⟨g3,g4⟩:=jm g2;cases g4;obtain⟨q1,q2⟩:=q0g g1;obtain⟨q3,q4⟩:=q0g g3;have hrun:=qdr (P:=P) (w:=X.w) (ad:=ad) hta (by omega) (q0q hlo hhi h1 h2 rfl q1 (by omega) q3 q4 _);refine qR.ofV hs hrun ?_;obtain⟨_,_,w3⟩:=qo5 himm q3 q4 (by rw[hrl];exact q2);refine .imm _ _ _ ?_;rw[hce];have e0:(if n=x.toNat then some ad else (some ad).map (·.add (x.toNat*[s].length)))=some (if n=x.toNat then ad else ad.add (x.toNat*1)):=by split<;>rfl
    rw[e0] at w3;exact w3
 | some m=>
  simp only at h;cases h1:qdJ lo 0 with
  | none=>rw[h1] at h;cases h
  | some x=>
   cases hi with
   | none=>rw[h1] at h;cases h
   | some y=>
   rw[h1] at h;simp only[qJH] at h;cases h2:asI y with
   | none=>rw[h2] at h;cases h
   | some p=>
    obtain⟨k1,c⟩:=p;cases h3:asI m with
    | none=>rw[h2,h3] at h;cases h
    | some p'=>
     obtain⟨k2,d⟩:=p';rw[h2,h3] at h;obtain⟨g1,g2⟩:=jm h;obtain⟨g3,g4⟩:=jm g2;obtain⟨g5,g6⟩:=jm g4;cases g6;obtain⟨q1,q2⟩:=q0g g1;obtain⟨q3,q4⟩:=q0g g3;have hcd:c=d:=of_decide_eq_true g5;subst hcd;cases hhi with
     | some hy=>
      cases hmx with
      | some hm=>
       obtain⟨k3,rfl⟩:=qtc hy h2;obtain⟨k4,rfl⟩:=qtc hm h3;have hrun:=qkB (P:=P) (w:=X.w) (ad:=ad) hta (by omega) (qpO (k:=k3) (k':=k4) hlo h1 q2 q3 q4 _);refine qR.ofV hs hrun ?_;obtain⟨_,w3⟩:=qrm himm q3 q4 (by rw[hrl];exact q2);rw[hce];have e0:(if c.toNat=x.toNat then some ad else (some ad).map (·.add (x.toNat*[s].length)))=some (if c.toNat=x.toNat then ad else ad.add (x.toNat*1)):=by split<;>rfl
       rw[e0] at w3;exact .full _ _ _ _ w3
theorem qse (hE:E.tok P)(hs:HSim B X){a:AV}{lo hi mx:Option AV}{vlo vhi vmx:Option Value}(hv:Rep X a v)(hlo:RepO X lo vlo) (hhi:RepO X hi vhi) (hmx:RepO X mx vmx) {r:Res} (h:(uw E X.h t a lo hi mx).run=some r) :qR P B X (do pure (.value (<-Instr.sliceAt t v vlo vhi vmx))) r:=by
 unfold uw at h;split at h
 ·rename_i n e es hd;obtain⟨hta,hce⟩:=q7K hE hd;split at h
  ·rename_i sh l i off;split at h
   ·rename_i hes;split at h
    ·rename_i s rows har;cases hv with
     | eptr _ _ _ _ a hsp h0 h1 hr=>
      obtain⟨hl,hi0,himm⟩:=qvp har hsp hr;exact qwK hs hta (by omega) hl himm hlo hhi hmx h
    ·cases h
   ·cases h
  ·rename_i b off;split at h
   ·cases hmx
    ·split at h
     ·rename_i hes;unfold qDc at h;cases h1:qdJ lo 0 with
      | none=>rw[h1] at h;cases h
      | some x=>
       cases h2:qdJ hi n with
       | none=>rw[h1,h2] at h;cases h
       | some y=>
        rw[h1,h2] at h;obtain⟨g1,g2⟩:=jm h;obtain⟨g3,g4⟩:=jm g2;cases g4;obtain⟨q1,q2⟩:=q0g g1;obtain⟨q3,q4⟩:=q0g g3;cases hv with
        | ptr _ _ n0 hb hσ=>
         have hrun:=qdr (P:=P) (w:=X.w) (ad:=⟨n0,off,none⟩) hta (by omega) (q0q hlo hhi h1 h2 rfl q1 (by omega) q3 q4 _);refine qR.ofV hs hrun ?_;have he1:P.cellsOf e=1:=by omega
         have hk:(if n=x.toNat then (⟨n0,off,none⟩:Addr) else Addr.add ⟨n0,off,none⟩ (x.toNat*P.cellsOf e))=⟨n0,if n=x.toNat then off else off+x.toNat,none⟩:=by
          split
          ·rfl
          ·rw[qK0,he1,qKX]
         rw[hk];have hyx:qvG y x=y-x:=rfl;have hn:y.toNat-x.toNat=(qvG y x).toNat:=by rw[hyx];omega
         rw[hn];refine .asub b off n x (qvG y x) n0 _ _ hb hσ q3 (by rw[hyx];omega) (by rw[hyx];omega) ?_;split
         ·right;rw[hyx];omega
         ·exact .inl rfl
     ·cases h
   ·cases h
  ·cases h
 ·exact quB hE hs hv hlo hhi hmx h
theorem qzD {l l':R}{i i' c:Int}(h0:0<=i)(h0':0<=i')(hc:0<=c)(h1:i+c<=l.length)(h2:i'+c<=l'.length):(qkP l i l' i' c).length=l.length:=by simp[qkP];omega
theorem qtj (hE:E.tok P)(hs:HSim B X){ts:List TypeId}{azz:List AV}(hv:RepL X azz vs)(h:(qrC E X.h ts azz).run=some r)(ty:TypeId) :qR P B X (do pure (.value (<-Builtin.copy_ ts.toArray ty vs.toArray))) r:=by
 unfold qrC at h;split at h
 ·rename_i t t' b o n i m b' o' n' i' m';split at h
  ·rename_i e es hd;obtain⟨ht,hce⟩:=q1p hE hd;split at h
   ·rename_i cs k N l hb;split at h
    ·rename_i cs' k' N' l' hb';split at h
     ·rename_i hc;obtain⟨hes,rfl,rfl,rfl,rfl,rfl⟩:=hc;cases h;cases hv with
      | cons hv1 hv=>cases hv with
       | cons hv2 hv=>cases hv with
        | nil=>
         cases hv1 with
         | asub _ _ _ _ _ n0 k0 c0 hbl hσ i0 m0 im hk=>
          cases hv2 with
          | asub _ _ _ _ _ n1 k1 c1 hbl' hσ' i0' m0' im' hk'=>
           obtain⟨q,c,T,us,e1,e2,e3,e4,e5⟩:=hs.blk b _ hb;rw[hσ] at e1;cases e1;obtain⟨q',c',T',us',f1,f2,f3,f4,f5⟩:=hs.blk b' _ hb';rw[hσ'] at f1;cases f1;have hlen:=e3.length;have hlen':=f3.length;have hcl:c.size=us.length+n:=by
            have:c.toList.length=(us++q1s k l).length:=by rw[e4]
            simpa[uo,e5] using this
           obtain⟨d,hd0,hd1⟩:∃d:Int,d=qhs m' m/\0<=d/\d<=m/\d<=m':=by refine⟨_,rfl,?_⟩;unfold qhs;split<;>omega
           rw[<-hd0];have hdn:d.toNat=Nat.min m'.toNat m.toNat:=by rw[hd0];unfold qhs;show _=min m'.toNat m.toNat;split<;>omega
           let ws:List Value:=(List.range d.toNat).map fun j:Nat=>Value.int k (cI l' ((i'.toNat+j:Nat):Int) 0)
           have hwl:ws.length=d.toNat:=by simp[ws]
           have hcell:∀j v,ws[j]?=some v->X.w.cell? (Addr.add ⟨n1,k1,none⟩ j)=some v:=by
            intro j v hj;have hjd:j<d.toNat:=by have:=qu hj;omega
            simp only[ws,qJo,qKa hjd,qJR,qJc] at hj;rw[qK0,w8 f2,<-hj];rcases hk' with hk'|hk'
            ·rw[hk',show cs'.length+i'.toNat+j=us'.length+(i'.toNat+j) by omega];exact qrJ f4 (by omega)
            ·omega
           have hone:∀v∈ws,v.oneCell'=true:=by intro v hv;obtain⟨j,_,hj⟩:=qK1.1 hv;rw[<-hj];rfl
           have hkd:k0=cs.length+i.toNat\/ws=[]:=by
            rcases hk with hk|hk
            ·exact .inl hk
            ·exact .inr (qKY (by omega))
           have hinfo:(P.info? e).map (·.size)=some 1:=by obtain⟨ii,w1,w2⟩:=qvo (P:=P) (e:=e) (by omega);rw[w1,qJR,w2,<-hce,hes]
           have hmin:ws.length=Nat.min m'.toNat m.toNat:=by omega
           have hown:X.own b n0:=⟨hσ,_,hb,rfl⟩;have hkk:qfc (.big cs k n l) (.big cs k n (qkP l i l' i' d)):=trivial;have hrl:(qkP l i l' i' d).length=l.length:=qzD i0 i0' hd1.1 (by omega) (by omega);have hint:q1s k (qkP l i l' i' d)=(q1s k l).take i.toNat++ws++(q1s k l).drop (i.toNat+d.toNat):=by
            apply qK9;intro j;have hsp:=qd6 (c:=q1s k l) (vs:=ws) (o:=i.toNat) (k:=j) (by rw[hwl,uo];omega);rw[hwl] at hsp;rw[hsp];by_cases hj:j<l.length
            ·rw[qfH (by omega)];have hli:(l.take i.toNat).length=i.toNat:=by simp;omega
             have hld:((l'.drop i'.toNat).take d.toNat).length=d.toNat:=by simp;omega
             have hcu:∀(f:R) (k:Nat),cI f (k:Int) 0=((f[k]?.getD []).getD 0 (.i 0)).toI:=fun f k=>by unfold cI wy;rw[qJq,qJd (l:=f)]
             split
             ·rename_i hin;simp only[ws,qJo,qKa (show j-i.toNat<d.toNat by omega),qJR,qJc];congr 1;rw[hcu,hcu];unfold qkP;rw[qJQ,qJz (by omega),hli,qJp (by omega),qKg,if_pos (by omega),qKh]
             ·rename_i hout;rw[qfH hj];congr 2;rw[hcu,hcu];unfold qkP;rcases qJl j i.toNat with hlt|hge
              ·rw[qJQ,qJp (by omega),qKg,if_pos hlt]
              ·rw[qJz (by simp only[qJB];omega),qKh];simp only[qJB,hli,hld];rw[show i.toNat+d.toNat+(j-(i.toNat+d.toNat))=j by omega]
            ·rw[qJC (by rw[uo];omega)];rw[if_neg (by omega),qJC (by rw[uo];omega)]
           have hrow:c.toList.take k0++ws++c.toList.drop (k0+ws.length)=us++q1s k (qkP l i l' i' d):=by
            rw[hint];rcases hkd with hkd|hkd
            ·rw[e4,hkd,hwl,hlen,List.take_append,List.drop_append,List.take_of_length_le (by omega),qKZ (show us.length<=us.length+i.toNat+d.toNat by omega)];rw[show us.length+i.toNat-us.length=i.toNat by omega,show us.length+i.toNat+d.toNat-us.length=i.toNat+d.toNat by omega];simp
            ·have hd00:d.toNat=0:=by rw[<-hwl,hkd];rfl
             rw[hkd,hd00];simp[e4]
           have hfit:k0+ws.length<=c.size\/ws=[]:=by
            rcases hkd with hkd|hkd
            ·left;omega
            ·exact .inr hkd
           rcases hfit with hfit|hfit
           ·have hrun:=run_copy_row (P:=P) X.w t t' ty e n0 k0 m.toNat c0 ⟨n1,k1,none⟩ m'.toNat c1 c T ws ht hinfo e2 hmin hcell hfit hone;have hup:=UpdW.setRow (X:=X) (c':=(c.toList.take k0++ws++c.toList.drop (k0+ws.length)).toArray) e2 (by simp;omega);have hx:=Ctx.upd_ext hs hb hown hup hkk;refine⟨.value (goInt ws.length),goInt ws.length,X.upd b (.big cs k n (qkP l i l' i' d)) (X.w.setRow n0 _),?_,.inl rfl,?_,hs.upd hb hown hup hkk ?_,rfl,hx⟩
            ·rw[qJh];have:(#[Value.slice (some ⟨n0,k0,none⟩) m.toNat c0,Value.slice (some ⟨n1,k1,none⟩) m'.toNat c1]:Array Value)=List.toArray [.slice (some ⟨n0,k0,none⟩) m.toNat c0,.slice (some ⟨n1,k1,none⟩) m'.toNat c1]:=rfl;rw[<-this];have h2:(#[t,t']:Array TypeId)=List.toArray [t,t']:=rfl;rw[<-h2,hrun];rfl
            ·have:goInt ws.length=.int .i64 d:=by show Value.int .i64 (ws.length:Int)=_;rw[hwl,qL6 hd1.1]
             rw[this];exact .int _ _
            ·exact⟨n0,_,T,us,hσ,hup.new,e3.ext hx,by rw[<-hrow],by rw[hrl];exact e5⟩
           ·
            have hd00:d.toNat=0:=by rw[<-hwl,hfit];rfl
            have hrun:(Builtin.copy_ (List.toArray [t,t']) ty (List.toArray [.slice (some ⟨n0,k0,none⟩) m.toNat c0,.slice (some ⟨n1,k1,none⟩) m'.toNat c1])).run P X.w=.ok (goInt 0) X.w:=by
             have hl:=run_loadCells_list (P:=P) X.w ⟨n1,k1,none⟩ ws hcell;cases hq:P.info? e with
             | none=>rw[hq] at hinfo;cases hinfo
             | some ii=>
              have hsize:ii.size=1:=by rw[hq] at hinfo;simpa using hinfo
              have hmz:Nat.min m'.toNat m.toNat=0:=by omega
              rw[hfit] at hl;simp only[qKr] at hl;simp[Builtin.copy_,run_underlying ht,Builtin.lenOf,Builtin.firstCells,sizeOf,typeInfo,hq,hmz,hl,storeCells]
            have hw:X.w=X.w.setRow n0 c:=(setRow_self X.w n0 c T (0,0) e2).symm;have hup:UpdW X n0 c c T X.w:=⟨e2,e2,rfl,fun _ _=>rfl,rfl,rfl,rfl,rfl⟩;have hx:=Ctx.upd_ext hs hb hown hup hkk;refine⟨.value (goInt 0),goInt 0,X.upd b (.big cs k n (qkP l i l' i' d)) X.w,?_,.inl rfl,?_,hs.upd hb hown hup hkk ?_,rfl,hx⟩
            ·rw[qJh,hrun];rfl
            ·have:goInt 0=.int .i64 d:=by show Value.int .i64 (0:Int)=_;congr 1;omega
             rw[this];exact .int _ _
            ·refine⟨n0,c,T,us,hσ,e2,e3.ext hx,?_,by rw[hrl];exact e5⟩;rw[<-hrow,hfit];simp
     ·cases h
    ·cases h
   ·cases h
  ·cases h
 ·exact qvY hE hs hv h ty
end Go.Eng

namespace Go.Eng
variable {B:Base}{E:Env}{P:Program}{X:Ctx}{a:Act}{r:Res}{st:St}
theorem Move.transl {X Y Z:Ctx}{f:Nat->Option Nat}(h:Ext X Y)(k:Move Y Z f):Move X Z f:=by refine Move.of (fun n hn=>k.M n (h.M n hn)) (fun a ha=>(k.w a (h.M _ ha)).trans (h.w a ha)) (fun b1 b2 hb1 hf=>?_) (k.y.trans h.y) (k.kept.trans h.kept);have k1:=h.b b1 b1 hb1 rfl;have k2:=k.b b1 b2 k1.lt hf;refine⟨k2.lt,k2.σ.trans k1.σ,fun sh m hv=>k1.vec sh m (k2.vec sh m hv),fun sh m hv n hn c T fr hc=>?_⟩;obtain⟨c1,T1,fr1,e1,e2⟩:=k1.size sh m (k2.vec sh m hv) n hn c T fr hc;obtain⟨c2,T2,fr2,e3,e4⟩:=k2.size sh m hv n (by rw[k1.σ];exact hn) c1 T1 fr1 e1;exact⟨c2,T2,fr2,e3,e4.trans e2⟩
theorem qR.frozen {X X1:Ctx}{h':List Blk}{m:Sem Next}(fz:Frozen B X X1 h')(h:qR P B X1 m r):qR P B X m r:=by
 obtain⟨nx,v,X',g1,g2,g3,g4,g5⟩:=h;refine⟨nx,v,X',by rw[<-fz.w];exact g1,g2,g3,g4,?_⟩;cases hn:r.2.2 with
 | none=>rw[hn] at g5;exact⟨g5.1,fz.ext.trans g5.2⟩
 | some b=>rw[hn] at g5;exact⟨g5.1,Move.transl fz.ext g5.2⟩
theorem qG8 (hs:HSim B X){x:AV}{vx:Value}(h2:Rep X x vx){sh:List Sh}{m:R}(hm:vT X.h x=some (sh,m)) :∃X1,Frozen B X X1 (yG X.h x)/\Src P X1 sh m vx:=by
 cases h2 with
 | imm sh' l v himm=>
  simp only[vT,qJc,qJO] at hm;obtain⟨rfl,rfl⟩:=hm;exact⟨X,⟨rfl,rfl,rfl,hs,Ext.refl X⟩,qrs himm⟩
 | vec b p n c hb hv=>
  obtain⟨e0,hh⟩:=qde hm;obtain⟨X1,fz⟩:=qfK hs b;have hfr:X1.h[b]?=some (.frz e0 sh m):=by rw[fz.h];exact qge hh
  exact⟨X1,fz,qrs (qh1 fz.hs hfr ((Rep.vec b p n c hb hv).ext fz.ext))⟩
 | _=>simp[vT] at hm
theorem qdS (hs:HSim B X){t e ty:TypeId}{sh:List Sh}{s x:AV}{vs vx:Value}{i:TypeInfo}{z:Value}(ht:P.underlying t=some (.slice e))(hc2:0<P.cellsOf e)(hc1:sh.length=P.cellsOf e) {rm:Int} (he:ElemOk rm P e (P.cellsOf e) i z) (h1:Rep X s vs) (h2:Rep X x vx) {r:Res} (hh:(qkW rm X.h e sh s x).run=some r) :qR P B X (do pure (.value (<-Builtin.append_ #[t,t] ty #[vs,vx]))) r:=by
 unfold qkW at hh;cases hr:vT X.h x with
 | none=>rw[hr] at hh;cases hh
 | some q=>
  obtain⟨sh',m⟩:=q;rw[hr] at hh;simp only at hh;by_cases hbq:Sh.beqL sh sh'=true
  ·rw[if_pos hbq] at hh;obtain rfl:=Sh.beqL_eq _ _ hbq;obtain⟨X1,fz,hsrc⟩:=qG8 (P:=P) hs h2 hr;have hlen:X1.h.length=X.h.length:=by rw[fz.h];cases x<;>simp[yG,qcS]
   cases h1 with
   | nils=>
    simp only at hh;obtain⟨g1,g2⟩:=jm hh;cases g2;have:=qgr (ty:=ty) fz.hs ht hc2 hc1 he hsrc (of_decide_eq_true g1);rw[hlen,fz.h] at this;exact this.frozen fz
   | vec b p n c hb hv=>
    simp only at hh;cases hbk:X.h[b]? with
    | none=>rw[hbk] at hh;cases hh
    | some k=>
     rw[hbk] at hh;cases k<;>try (cases hh)
     rename_i e' sh'' l;simp only at hh;by_cases hq:Sh.beqL sh sh''=true/\e=e'
     ·rw[if_pos hq] at hh;obtain rfl:=Sh.beqL_eq _ _ hq.1;obtain rfl:=hq.2;have hrep:Rep X (.vec b) (.slice p n c):=.vec b p n c hb hv;by_cases hxv:∃b',x=AV.vec b'
      ·obtain⟨b',rfl⟩:=hxv;simp only[qC6] at hh;by_cases hbb:b=b'
       ·rw[if_pos hbb] at hh;cases hh
       rw[if_neg hbb] at hh;obtain⟨g1,g2⟩:=jm hh;cases g2;have hb1:X1.h[b]?=some (.vec e sh l):=by
        rw[fz.h];simp only[yG,zR];split
        ·rw[qJf (qJI hbb)];exact hbk
        ·exact hbk
       have:=qfR (ty:=ty) fz.hs ht hc2 hc1 he hb1 (hrep.ext fz.ext) hsrc (of_decide_eq_true g1);rw[fz.h] at this;exact this.frozen fz
      ·have hh':(Tree.br (ile (qk l+qk m) rm) (.leaf ((.vec b,X.h.set b (.vec e sh (uV l m)),some b):Res)) .fail).run=some r:=by cases x<;>first|exact hh|exact absurd ⟨_,rfl⟩ hxv
       obtain⟨g1,g2⟩:=jm hh';cases g2;have hx1:X1.h=X.h:=by rw[fz.h];cases x<;>first|rfl|exact absurd ⟨_,rfl⟩ hxv
       have:=qfR (ty:=ty) fz.hs ht hc2 hc1 he (by rw[hx1];exact hbk) (hrep.ext fz.ext) hsrc (of_decide_eq_true g1);rw[hx1] at this;exact this.frozen fz
     ·rw[if_neg hq] at hh;cases hh
   | full sh'' l p n himm=>
    simp only at hh;by_cases hq:Sh.beqL sh sh''=true
    ·rw[if_pos hq] at hh;obtain rfl:=Sh.beqL_eq _ _ hq;have hrep:=(Rep.full (X:=X) sh l p n himm).ext fz.ext;cases hrep with
     | full _ _ _ _ himm'=>
      cases hlt:ilt 0 (qk m) with
      | true=>
       rw[hlt] at hh;obtain⟨g3,g4⟩:=jm (show (Tree.br _ _ _).run=some r from hh);cases g4;have:=qn2 (ty:=ty) fz.hs ht hc2 hc1 he himm' hsrc (of_decide_eq_true hlt) (of_decide_eq_true g3);rw[hlen,fz.h] at this;exact this.frozen fz
      | false=>
       rw[hlt] at hh;obtain⟨g3,g4⟩:=jm (show (Tree.br _ _ _).run=some r from hh);cases g4;have hm0:m=[]:=by have:¬(0:Int)<qk m:=of_decide_eq_false hlt;unfold qk at this;exact qKY (by omega)
       subst hm0;have hn0:n=0:=by
        have hl0:qk l<=0:=of_decide_eq_true g3;unfold qk at hl0;rcases himm' with⟨q1,_⟩|⟨_,_,q1,_⟩
        ·cases q1;rfl
        ·cases q1;omega
       subst hn0;have:=qng (ty:=ty) fz.hs ht hc2 hsrc (p:=p);rw[hlen,fz.h] at this;exact this.frozen fz
    ·rw[if_neg hq] at hh;cases hh
   | _=>simp only at hh;cases hh
  ·rw[if_neg hbq] at hh;cases hh
theorem qsl (hE:E.tok P)(hs:HSim B X){t ty:TypeId}{s x:AV}{vs vx:Value}(h1:Rep X s vs)(h2:Rep X x vx)(h:(qrS E X.h t s x).run=some r):qR P B X (do pure (.value (<-Builtin.append_ #[t,t] ty #[vs,vx]))) r:=by
 unfold qrS at h;cases hd:(E.ty t).d<;>rw[hd] at h<;>try (cases h)
 rename_i e es;obtain⟨ht,rfl⟩:=q1p hE hd;simp only at h;cases hsh:E.shape 16 e with
 | none=>rw[hsh] at h;cases h
 | some sh=>
  rw[hsh] at h;simp only at h;by_cases hc:sh.length=P.cellsOf e/\0<P.cellsOf e/\(E.ty e).zero.length=P.cellsOf e
  ·rw[if_pos hc] at h;obtain⟨hc1,hc2,hc4⟩:=hc;obtain⟨i,z,he⟩:=qB6 hE hc2 hc4;cases x with
   | nils=>
    simp only at h;cases h1<;>simp only[okv] at h<;>cases h;cases h2;exact qR.ofV hs (kp ht hc2 (qJe 0)) .nils
   | _=>exact qdS hs ht hc2 hc1 he h1 h2 h
  ·rw[if_neg hc] at h;cases h
inductive RepLL (X:Ctx):List (List AV)->List (List Value)->Prop
 | nil:RepLL X [] []
 | cons {a:List AV} {v:List Value} {l:List (List AV)} {m:List (List Value)} (h:RepL X a v) (t:RepLL X l m):RepLL X (a::l) (v::m)
theorem RepLL.ren {X X':Ctx}{f:Nat->Option Nat}(hm:Move0 X X' f):∀{l:List (List AV)} {m:List (List Value)},RepLL X l m->RepLL X' (l.map (AV.renL f)) m
 | _,_,.nil=>.nil
 | _,_,.cons h t=>.cons (h.ren hm) (t.ren hm)
theorem RepLL.ext {X X':Ctx}(hm:Ext X X'):∀{l:List (List AV)} {m:List (List Value)},RepLL X l m->RepLL X' l m
 | _,_,.nil=>.nil
 | _,_,.cons h t=>.cons (h.ext hm) (t.ext hm)
theorem RepLL.ext0 {X X':Ctx}(hm:Move0 X X' some):∀{l:List (List AV)} {m:List (List Value)},RepLL X l m->RepLL X' l m
 | _,_,.nil=>.nil
 | _,_,.cons h t=>.cons (h.ext0 hm) (t.ext0 hm)
def qir(D:Nat):Deferred:={ target:=.collected D,args:=#[] }
def qwF(kept pin:List (Nat×Obj))(ds:List Deferred):Prop:=∃Ds:List Nat,ds=Ds.map qir/\Ds.Nodup/\∀D,D∈Ds->(D,.deferred (some []))∈kept/\∀p,p∈pin->p.1≠D
theorem qwF.nil {kept pin:List (Nat×Obj)}:qwF kept pin []:=⟨[],rfl,.nil,fun _ h=>by cases h⟩
def AV.span:AV->Nat
 | .eptr sh l _ _=>sh.length*l.length
 | _=>0
def qDa(X:Ctx)(x:Nat×AV):Prop:=Rep X x.2 (.pointer (some ⟨x.1,0,none⟩))/\X.M x.1/\X.w.cell? ⟨x.1,x.2.span,none⟩=none
theorem qDa.move {X X':Ctx}{x:Nat×AV}(h:qDa X x)(hM:∀n,X.M n->X'.M n)(hw:∀a:Addr,X.M a.block->X'.w.cell? a=X.w.cell? a)(hr:Rep X' x.2 (.pointer (some ⟨x.1,0,none⟩))):qDa X' x:=⟨hr,hM _ h.2.1,by rw[hw _ h.2.1];exact h.2.2⟩
def q5D(gl:List (Nat×AV))(X:Ctx):Prop:=∀x,x∈gl->(∃sh l i off,x.2=.eptr sh l i off)/\qDa X x
structure Sim (E:Env) (B:Base) (X:Ctx) (st:St) (a:Act):Prop where
 hs:HSim B X
 h:X.h=st.h
 t:RepL X st.t a.tmps.toList
 fs:RepLL X st.fs B.fs
 glob:∀x,x∈E.glob->(∃sh l i off,x.2=.eptr sh l i off)/\qDa X x
 df:qwF X.kept (B.pin st.pend) a.defers
 ni:B.imps.length<=E.nimp
 y:X.y=B.y
 pin:∀p,p∈B.pin st.pend->p∈X.kept
theorem q8l (hs:Sim E B X st a)(x:Operand):Rep X (E.opd st.t x) (a.eval x):=by
 cases x with
 | tmp i=>
  have:=hs.t.getD i;simpa[Env.opd,Act.eval,qKD,qJd] using this
 | const v=>exact qG4 X v
 | global g=>
  simp only[Env.opd,Act.eval];cases hg:E.glob.find? fun x=>x.1==g with
  | none=>exact .undef _
  | some x=>
   have h1:=qKy hg;have h2:x.1=g:=by simpa using h1
   have:=(hs.glob x (qK7 hg)).2.1;rw[h2] at this;exact this
 | func f=>exact .fn f [] [] [] [] .nil .nil
theorem q4q{E:Env}{B:Base}{X:Ctx}{st:St}{a:Act}(hs:Sim E B X st a):∀l:List Operand,RepL X (l.map (E.opd st.t)) (l.map a.eval)
 | []=>.nil
 | x::l=>.cons (q8l hs x) (q4q hs l)
theorem qoG{E:Env}{B:Base}{X:Ctx}{st:St}{a:Act}(hs:Sim E B X st a):∀l:List (Nat×Operand),RepP X (l.map fun p=>(p.1,E.opd st.t p.2)) (l.map fun p=>(p.1,a.eval p.2))
 | []=>.nil
 | (_,x)::l=>.cons (q8l hs x) (qoG hs l)
theorem qsV (hs:Sim E B X st a)(x:Option Operand):RepO X (x.map (E.opd st.t)) (x.map a.eval):=by
 cases x with
 | none=>exact .none
 | some x=>exact .some (q8l hs x)
theorem qqS (hs:HSim B X){f:Int->Int->Int}{g:Value->Value->Sem Value}(hg:∀k k' x y w,(g (.int k x) (.int k' y)).run P w=.ok (.int k (f x y)) w){azz:List AV} {vs:List Value} (hv:RepL X azz vs) {r:Res} (h:(qs3 f X.h azz).run=some r) {m:Sem Value} (hm:∀x rest,vs=x::rest->m=rest.foldlM g x):qR P B X (do pure (.value (<-m))) r:=by
 cases hv with
 | nil=>cases h
 | cons hx ht=>
  rename_i a v azz vs;simp only[qs3] at h;cases h1:asI a with
  | none=>rw[h1] at h;cases h
  | some p=>
   obtain⟨k,n⟩:=p;rw[h1] at h;simp only at h;cases h2:qwk f k n azz with
   | none=>rw[h2] at h;cases h
   | some q=>
    rw[h2] at h;simp only at h;obtain rfl:=q3K hx h1;have hr:=qpb (P:=P) hg k azz n q vs h2 ht;rw[hm _ _ rfl];split at h<;>cases h
    ·exact qR.ofV hs hr (.ilit _ _)
    ·exact qR.ofV hs hr (.int _ _)
theorem qq8 (hE:E.tok P)(hs:HSim B X){b:Builtin}{ts:Array TypeId}{azz:List AV}{vs:List Value}(hv:RepL X azz vs)(h:(q7M E X.h b ts.toList azz).run=some r) (ty:TypeId) (cs:Array Bool):qR P B X (builtin b ts ty cs vs.toArray) r:=by
 obtain⟨ts⟩:=ts;cases b with
 | append=>
  simp only[q7M] at h;unfold quK at h;split at h
  ·rename_i t t' s x;by_cases htt:t=t'
   ·subst htt;rw[if_pos rfl] at h;cases hv with
    | cons h1 hv=>cases hv with
     | cons h2 hv=>cases hv;exact qsl hE hs h1 h2 h
   ·rw[if_neg htt] at h;cases h
  ·cases h
 | len=>
  simp only[q7M] at h;unfold qnZ at h;split at h
  ·rename_i t rest x;cases hv with
   | cons h1 hv=>
    cases hv;obtain⟨av,u,rfl,g1,g2⟩:=qwD (P:=P) (t:=t) (ty:=ty) (ts:=(t::rest:List TypeId).toArray) hE hs (by simp) h1 h;exact qR.ofV hs g1 g2
  ·cases h
 | max=>
  simp only[q7M] at h;exact qqS hs (f:=qqF) (g:=Builtin.max2) (fun _ _ _ _ _=>qE6) hv h (m:=Builtin.max_ ts.toArray ty vs.toArray) (fun x rest e=>by subst e;rfl)
 | min=>
  simp only[q7M] at h;exact qqS hs (f:=qhs) (g:=Builtin.min2) (fun _ _ _ _ _=>qDx) hv h (m:=Builtin.min_ ts.toArray ty vs.toArray) (fun x rest e=>by subst e;rfl)
 | copy=>
  simp only[q7M] at h;exact qtj hE hs hv h ty
 | _=>simp only[q7M] at h;cases h
theorem qjz (hE:E.tok P)(hs:Sim E B X st a){o:Oper}(h:(qny E st.h (E.opd st.t) o.op).run=some r):qR P B X (execOp a.eval o) r:=by
 have ro:=q8l hs;rw[<-hs.h] at h;unfold qny at h;unfold execOp;cases hop:o.op with
 | move x=>rw[hop] at h;cases h;exact qR.val hs.hs rfl (ro x)
 | assign x=>rw[hop] at h;cases h;exact qR.val hs.hs rfl (ro x)
 | pick c x y=>
  rw[hop] at h;simp only at h ⊢;have hc:=ro c;generalize E.opd st.t c=ac at *;generalize a.eval c=vc at *;cases hc<;>simp only at h<;>try (cases h)
  ·rename_i b;refine qR.val hs.hs (v:=if b then a.eval x else a.eval y) rfl ?_;cases b<;>exact ro _
  ·rename_i b;cases b
   ·cases h;exact qR.val hs.hs (v:=a.eval y) rfl (ro y)
   ·cases h;exact qR.val hs.hs (v:=a.eval x) rfl (ro x)
 | box t x=>
  rw[hop] at h;simp only at h ⊢;obtain⟨z,hz,rfl⟩:=qra h;exact qAF hs.hs (ro x) hz
 | alloc t=>
  rw[hop] at h;simp only at h ⊢;obtain⟨z,hz,rfl⟩:=qra h;exact qwb hE hs.hs hz
 | load t x=>
  rw[hop] at h;obtain⟨av,u,rfl,g1,g2⟩:=qsi hE hs.hs (ro x) h;exact qR.ofV hs.hs g1 g2
 | store t x y=>rw[hop] at h;exact qsN hE hs.hs (ro x) (ro y) h
 | build t parts=>
  rw[hop] at h;obtain⟨av,u,rfl,g1,g2⟩:=qqw (vparts:=parts.map fun p=>(p.1,a.eval p.2)) hE (by simpa using qoG hs parts.toList) h;exact qR.ofV hs.hs g1 g2
 | buildSlice t len parts=>
  rw[hop] at h;have h:(q7Z E X.h t len (parts.toList.map fun p=>(p.1,E.opd st.t p.2))).run=some r:=h;have hp:RepP X (parts.toList.map fun p=>(p.1,E.opd st.t p.2)) (parts.map fun p=>(p.1,a.eval p.2)).toList:=by rw[Array.toList_map];exact qoG hs parts.toList
  have hg:=qlS hE hs.hs hp h;exact hg
 | nilCheck x=>
  rw[hop] at h;simp only at h ⊢;have hx:=ro x;generalize E.opd st.t x=ax at *;generalize a.eval x=vx at *;cases hx<;>simp only at h<;>try (cases h)
  ·rename_i b off n hb hσ;split at h
   ·cases h;exact qR.val hs.hs rfl (.ptr b off n hb hσ)
   ·cases h;exact qR.val hs.hs rfl (.ptr b off n hb hσ)
   ·cases h
  ·rename_i sh l i off ad h1 h2 h3 h4;exact qR.val hs.hs rfl (.eptr sh l i off ad h1 h2 h3 h4)
  ·rename_i sh l i off ad h1 h2 h3 h4;exact qR.val hs.hs rfl (.eptr sh l i off ad h1 h2 h3 h4)
 | binOp op t x y ty=>
  rw[hop] at h;simp only at h ⊢;have hx:=ro x;have hy:=ro y;generalize E.opd st.t x=ax at *;generalize E.opd st.t y=ay at *;unfold qiJ at h;split at h
  ·obtain⟨av,u,rfl,g1,g2⟩:=qsn (x:=x) (y:=y) hE hx hy h;exact qR.ofV hs.hs g1 g2
  ·obtain⟨av,u,rfl,g1,g2⟩:=qvg (x:=x) (y:=y) hE hs.hs hx hy h;exact qR.ofV hs.hs g1 g2
 | unOp op t x=>
  rw[hop] at h;obtain⟨av,u,rfl,g1,g2⟩:=qyL (P:=P) (ro x) h;exact qR.ofV hs.hs g1 g2
 | convert s d x=>
  rw[hop] at h;obtain⟨av,u,rfl,g1,g2⟩:=qsT hE hs.hs (ro x) h;exact qR.ofV hs.hs g1 g2
 | makeSlice t n m=>rw[hop] at h;exact qwo hE hs.hs (ro n) (ro m) h
 | makeFunc fn first caps=>
  rw[hop] at h;simp only at h ⊢;cases fn<;>simp only at h<;>try (cases h)
  rename_i f;have:Rep X (.fn f (first.toList.map (E.opd st.t)) (caps.toList.map (E.opd st.t))) (.func (.func f) (first.toList.map a.eval).toArray (caps.toList.map a.eval).toArray):=
   .fn f _ _ _ _ (q4q hs _) (q4q hs _)
  refine qR.val hs.hs (v:=.func (.func f) (first.map a.eval) (caps.map a.eval)) rfl ?_;have e1:(first.toList.map a.eval).toArray=first.map a.eval:=by apply qKz;simp
  have e2:(caps.toList.map a.eval).toArray=caps.map a.eval:=by apply qKz;simp
  rwa [e1,e2] at this
 | slice t x lo hi mx=>
  rw[hop] at h;exact qse hE hs.hs (ro x) (qsV hs lo) (qsV hs hi) (qsV hs mx) h
 | fieldAddr s x f=>
  rw[hop] at h;obtain⟨av,u,rfl,g1,g2⟩:=qlc hE (ro x) h;exact qR.ofV hs.hs g1 g2
 | field s x f=>
  rw[hop] at h;obtain⟨av,u,rfl,g1,g2⟩:=qt9 hE (ro x) h;exact qR.ofV hs.hs g1 g2
 | indexAddr t x i=>
  rw[hop] at h;obtain⟨av,u,rfl,g1,g2⟩:=qkd hE hs.hs (ro x) (ro i) h;exact qR.ofV hs.hs g1 g2
 | index t x i=>
  rw[hop] at h;obtain⟨av,u,rfl,g1,g2⟩:=qtb hE (ro x) (ro i) h;exact qR.ofV hs.hs g1 g2
 | extract x i=>
  rw[hop] at h;simp only at h ⊢;have hx:=ro x;generalize E.opd st.t x=ax at *;generalize a.eval x=vx at *;cases hx<;>simp only at h<;>try (cases h)
  rename_i vs us hv;cases hi:vs[i]? with
  | none=>rw[hi] at h;cases h
  | some v=>
   rw[hi] at h;cases h;obtain⟨u,g1,g2⟩:=hv.get i v hi;refine qR.ofV hs.hs (v:=u) ?_ g2;simp[Instr.extract,g1]
 | call c=>
  rw[hop] at h;obtain⟨callee,args,argTypes⟩:=c;cases callee with
  | value x=>simp only at h;cases h
  | invoke x n=>simp only at h;cases h
  | builtin b=>
   simp only at h ⊢;have hargs:=q4q hs args.toList;have hrun:∀ty,(do let d <-resolve a.eval { callee:=.builtin b,args,argTypes } ty;invoke d.target d.args:Sem Next) =
     builtin b argTypes ty (args.map fun|.const _=>true|_=>false) (args.map a.eval):=by
    intro ty;rfl
   rw[hrun];have hA:args.map a.eval=(args.toList.map a.eval).toArray:=by apply qKz;simp
   rw[hA];generalize args.toList.map (E.opd st.t)=als at *;generalize args.toList.map a.eval=avs at *;exact qq8 hE hs.hs hargs h _ _
 | _=>rw[hop] at h;simp only at h;cases h
end Go.Eng

namespace Go.Eng
variable {P:Program}{n:Nat}{w:World}
def q50(ro:Option Nat):Fence:={ Fence.wide with round:=ro }
theorem qdX (ro:Option Nat):(q50 ro).depth.isSome=true->1<=n:=fun h=>by simp[q50,Fence.wide] at h
theorem qzI {ro:Option Nat}{f:FuncId}{args:Array Value}{R:Ending->World->Prop}:CallsIn (q50 ro) n P f args w R↔Calls P f args w R:=(callsIn_wide (n:=n))
theorem qIv {ro:Option Nat}{row:String}{args:Array Value}{R:Value->World->Prop}(h:Go.Rows P row args w R):RowsIn (q50 ro) n P row args w R:=by intro c cs _;obtain⟨v,w',h1,h2⟩:=h c cs;exact⟨v,w',h1,stepsIn_wide.2 h2⟩
theorem qoW (ro:Option Nat)(n:Nat){o:Oper}{a:Act}{next:Act->World->Prop}{Q:Exit->Act->World->Prop}(h:o.wp P a w next Q)(hd:∀c,o.op≠.defer c) :o.wpIn (q50 ro) n P a w next Q:=by
 refine⟨fun _ _=>trivial,?_⟩;rw[show (q50 ro).round=ro from rfl,Oper.semAt_eq _ _ _ hd];unfold Oper.wp at h;generalize (execOp a.eval o).run P w=r at h;cases r with
 | ok x w'=>
  cases x with
  | value v=>exact h
  | skip=>exact h
  | defer d=>exact h
  | enter f args=>exact⟨qdX ro,qzI.2 h⟩
  | row row args=>exact⟨qdX ro,qIv h⟩
  | round l f tmps assign body=>exact h.elim
  | _=>exact h
 | halt x w'=>cases x<;>exact h
end Go.Eng

namespace Go.Eng
variable {B:Base}{E:Env}{X:Ctx}{a:Act}{o:Oper}{st:St}{v:Value}
structure CallOK (E:Env) (P:Program) (callH:q8G) (B:Base):Prop where
 fn:∀(f:FuncId) (args:List AV) (st:St) (r:AV×St) (X:Ctx) (a:Act) (vargs:List Value),Sim E B X st a->RepL X args vargs->(callH (some f) args st).run=some r ->
  (∀w,(callFunc f vargs.toArray).run P w=.ok (.enter f vargs.toArray) w) /\
  Calls P f vargs.toArray X.w fun e w'=>∃v X',e=.returned v/\X'.w=w'/\Rep X' r.1 v/\Sim E B X' r.2 a
 yld:∀(args:List AV) (st:St) (r:AV×St) (X:Ctx) (a:Act) (vargs:List Value),Sim E B X st a->RepL X args vargs->(callH none args st).run=some r ->
  ∃(l:Nat) (f:FuncId) (tmps:Array Value) (assign body:Code),(Instr.yield X.y vargs.toArray).run P X.w=.ok (.round l f tmps assign body) X.w /\
  ∀n,RoundIn (q50 B.ro) n P l f tmps assign body X.w fun e w'=>∃v X',e=.returned v/\X'.w=w'/\Rep X' r.1 v/\Sim E B X' r.2 a
theorem qxy {t:List AV}(h:RepL X t a.tmps.toList){av:AV}(hv:Rep X av v)(dst:Option Tmp):RepL X (qhQ t dst av) (a.put dst v).tmps.toList:=by
 cases dst with
 | none=>exact h
 | some d=>
  simp only[qhQ,Act.put,Array.toList_setIfInBounds];exact RepL.set hv h d
theorem qrk (a:Act)(dst:Option Tmp)(v:Value):(a.put dst v).defers=a.defers:=by cases dst<;>rfl
theorem Sim.put (hs:Sim E B X st a){av:AV}(hv:Rep X av v)(dst:Option Tmp) :Sim E B X { st with t:=qhQ st.t dst av } (a.put dst v):=⟨hs.hs,hs.h,qxy hs.t hv dst,hs.fs,hs.glob,by rw[qrk];exact hs.df,hs.ni,hs.y,hs.pin⟩
theorem Sim.ext {X X':Ctx}(hs:Sim E B X st a)(hx:Ext X X')(hs':HSim B X'):Sim E B X' { st with h:=X'.h } a:=⟨hs',rfl,hs.t.ext hx,hs.fs.ext hx,fun x hx'=>⟨(hs.glob x hx').1,(hs.glob x hx').2.move hx.M hx.w ((hs.glob x hx').2.1.ext hx)⟩,hx.kept▸hs.df,hs.ni,hx.y.trans hs.y,fun p hp=>hx.kept▸hs.pin p hp⟩
theorem Sim.apply {X X':Ctx}(hs:Sim E B X st a){r:Res}(hv:Rep X' r.1 v)(hs':HSim B X')(hm:match r.2.2 with|none=>X'.h=r.2.1/\Ext X X'|some b=>X'.h=r.2.1.map (Blk.ren (qcb b))/\Move X X' (qcb b)) (dst:Option Tmp) :Sim E B X' (st.apply dst r) (a.put dst v):=by
 unfold St.apply;cases hn:r.2.2 with
 | none=>
  rw[hn] at hm;obtain⟨h1,h2⟩:=hm;have:=(hs.ext h2 hs').put hv dst;rw[h1] at this;exact this
 | some b=>
  rw[hn] at hm;obtain⟨h1,h2⟩:=hm;refine⟨hs',h1,qxy (hs.t.ren h2.toMove0) hv dst,hs.fs.ren h2.toMove0,fun x hx=>?_,by rw[qrk];exact h2.kept▸hs.df,hs.ni,h2.y.trans hs.y,fun p hp=>h2.kept▸hs.pin p hp⟩;obtain⟨⟨sh,l,i,off,he⟩,hr⟩:=hs.glob x hx;refine⟨⟨sh,l,i,off,he⟩,hr.move h2.M h2.w ?_⟩;have:=hr.1.ren h2.toMove0;rw[he] at this ⊢;exact this
theorem qqs {callH:q8G}{st s:St}(h:(qp8 E callH o st).run=some s):∀c,o.op≠.defer c:=by intro c hc;unfold qp8 at h;rw[hc] at h;simp[qny,Tree.bind,Tree.run] at h
theorem qmF {P:Program}(hE:E.tok P){callH:q8G}(hc:CallOK E P callH B){st st':St}(hs:Sim E B X st a)(h:(qp8 E callH o st).run=some st') {next:Act->World->Prop} {Q:Exit->Act->World->Prop} (hq:∀X' a',Sim E B X' st' a'->next a' X'.w) {n:Nat}:o.wpIn (q50 B.ro) n P a X.w next Q:=by
 have hnd:=qqs h;have plain:∀(_:((qny E st.h (E.opd st.t) o.op).bind fun r=>.leaf (st.apply o.dst r)).run=some st'),o.wp P a X.w next Q:=by
  intro hh;obtain⟨r,h1,h2⟩:=bind_some hh;cases h2;obtain⟨nx,v,X',g1,g2,g3,g4,g5⟩:=qjz hE hs h1;unfold Oper.wp;rw[g1];rcases g2 with rfl|⟨rfl,rfl⟩
  ·exact hq X' _ (hs.apply g3 g4 g5 o.dst)
  ·exact hq X' _ (hs.apply g3 g4 g5 o.dst)
 unfold qp8 at h;split at h
 ·rename_i x args tys hop;cases hx:E.opd st.t x with
  | fn f first caps=>
   rw[hx] at h;obtain⟨r,h1,h2⟩:=bind_some h;cases h2;have hv:=q8l hs x;rw[hx] at hv;generalize hev:a.eval x=vx at hv;cases hv with
   | fn _ _ _ vf vc q1 q2=>
    have hargs:=q4q hs args.toList;have hall:RepL X (first++args.toList.map (E.opd st.t)++caps) (vf++args.toList.map a.eval++vc):=(q1.append hargs).append q2;obtain⟨g1,g2⟩:=hc.fn f _ st r X a _ hs hall h1;refine qoW B.ro n ?_ hnd;unfold Oper.wp;have hrun:(execOp a.eval o).run P X.w=.ok (.enter f (vf++args.toList.map a.eval++vc).toArray) X.w:=by
     simp only[execOp,hop,resolve,hev,Deferred.ofValue,qJh,qJN,qJn,invoke];have:vf.toArray++args.map a.eval++vc.toArray=(vf++args.toList.map a.eval++vc).toArray:=by apply qKz;simp
     rw[this];exact g1 X.w
    rw[hrun];refine g2.mono fun e w' ⟨v,X',e1,e2,e3,e4⟩=>?_;subst e1 e2;exact hq X' _ (e4.put e3 o.dst)
  | yld=>
   rw[hx] at h;obtain⟨r,h1,h2⟩:=bind_some h;cases h2;have hv:=q8l hs x;rw[hx] at hv;generalize hev:a.eval x=vx at hv;cases hv;obtain⟨l,f,tmps,assign,body,g1,g2⟩:=hc.yld _ st r X a _ hs (q4q hs args.toList) h1;refine⟨fun _ _=>trivial,?_⟩;rw[Oper.semAt_eq _ _ _ hnd];have hrun:(execOp a.eval o).run P X.w=.ok (.round l f tmps assign body) X.w:=by
    simp only[execOp,hop,resolve,hev,Deferred.ofValue,qJh,qJN,qJn,invoke];have:#[]++args.map a.eval=(args.toList.map a.eval).toArray:=by apply qKz;simp
    rw[this];exact g1
   rw[hrun];refine⟨qdX B.ro,(g2 (n-1)).mono fun e w' ⟨v,X',e1,e2,e3,e4⟩=>?_⟩;subst e1 e2;exact hq X' _ (e4.put e3 o.dst)
  | _=>rw[hx] at h;cases h
 ·exact qoW B.ro n (plain h) hnd
theorem Sim.lit (hs:Sim E B X st a){d:Nat}{b:Bool}(hd:st.t[d]?=some (.bool b)):Sim E B X { st with t:=st.t.set d (.blit b) } a:=by
 refine⟨hs.hs,hs.h,?_,hs.fs,hs.glob,hs.df,hs.ni,hs.y,hs.pin⟩;obtain⟨v,h1,h2⟩:=hs.t.get d _ hd;have hv:v=.bool b:=by cases h2;rfl
 subst hv;have:=RepL.set (X:=X) (a:=.blit b) (v:=.bool b) (.blit b) hs.t d;have e:a.tmps.toList.set d (.bool b)=a.tmps.toList:=by
  apply qK9;intro i;by_cases hi:i=d
  ·subst hi;rw[qJv (qu h1),h1]
  ·rw[qJf (qJI hi)]
 rwa [e] at this
theorem qpi {st st':St}(hs:Sim E B X st a){all:Array Oper}{k:Nat}(h:(qpY all k o st).run=some st'):Sim E B X st' a:=by
 unfold qpY at h;split at h
 ·split at h
  ·rename_i d _;split at h
   ·rename_i b hd;cases b
    ·cases h;exact hs.lit hd
    ·cases h;exact hs.lit hd
   ·cases h;exact hs
  ·cases h;exact hs
 ·cases h;exact hs
theorem q9C {t:List AV}(ht:RepL X t a.tmps.toList){all:Array Oper}{b:Bool}(h:q6b all o t=some b):Region.wanted o (yielded all a.tmps)=b:=by
 unfold q6b at h;unfold Region.wanted;cases hg:o.guard with
 | none=>rw[hg] at h;cases h;rfl
 | some p=>
  obtain⟨j,want⟩:=p;rw[hg] at h;simp only at h ⊢;cases hj:(all[j]?).bind (·.dst) with
  | none=>rw[hj] at h;cases h
  | some d=>
   rw[hj] at h;simp only at h;unfold yielded;rw[hj,qJH];split at h
   ·rename_i c hd;cases h;obtain⟨v,h1,h2⟩:=ht.get d _ hd;have h1':a.tmps[d]?=some v:=by simpa using h1
    cases h2;rw[h1'];cases c<;>cases want<;>rfl
   ·rename_i hd;cases h;obtain⟨v,h1,h2⟩:=ht.get d _ hd;have h1':a.tmps[d]?=some v:=by simpa using h1
    cases h2;rw[h1'];rfl
   ·cases h
theorem qjk{E:Env}{P:Program}(hE:E.tok P){callH:q8G}{B:Base}(hc:CallOK E P callH B){all:Array Oper}{st':St}{Q:Exit->Act->World->Prop}{n:Nat}
  (hq:∀X' a',Sim E B X' st' a'->Q .normal a' X'.w):∀(l:List Oper) (k:Nat) {X:Ctx} {st:St} {a:Act},Sim E B X st a->(qjg E callH all k l st).run=some st'->wpListIn (q50 B.ro) n P all Q l a X.w
 | [],k,X,st,a,hs,h=>by
  simp only[qjg,Tree.run,qJc] at h;subst h;exact hq X a hs
 | o::rest,k,X,st,a,hs,h=>by
  simp only[qjg] at h;simp only[wpListIn];cases hw:q6b all o st.t with
  | none=>rw[hw] at h;cases h
  | some b=>
   rw[hw] at h;rw[q9C hs.t hw];cases b with
   | true=>
    simp only[if_true];obtain⟨s1,h1,h2⟩:=bind_some h;obtain⟨s2,h3,h4⟩:=bind_some h2;refine qmF hE hc hs h1 fun X' a' hs'=>?_;exact qjk hE hc hq rest (k+1) (qpi hs' h3) h4
   | false=>
    simp only[qJA,if_false];exact⟨fun _ _=>trivial,qjk hE hc hq rest (k+1) (hs.put (av:=.skip) .skip o.dst) h⟩
theorem qqg {P:Program}(hE:E.tok P){callH:q8G}(hc:CallOK E P callH B){id:Nat}{ops:Array Oper}{st st':St}(hs:Sim E B X st a)(h:(qjg E callH ops 0 ops.toList st).run=some st') {Q:Exit->Act->World->Prop} {n:Nat} (hq:∀X' a',Sim E B X' st' a'->Q .normal a' X'.w):(Code.region id ops false).wpIn (q50 B.ro) n P Q a X.w:=wpIn_region_list (qjk hE hc hq ops.toList 0 hs h)
end Go.Eng

