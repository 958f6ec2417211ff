/- Texts of the proof, merged: what the code computes, and plain laws. No statement stands here. -/
import Derived.Calls
import Derived.Orders
import Derived.Laws.AppendOwn
import Derived.Laws.Entries
import Derived.Laws.Cells
import Derived.Laws.Slices
import Derived.Laws.Build
import Derived.Laws.StructEq
import Derived.Laws.Rows
import Derived.Laws.CopyRow
import Derived.ChangeKeysEq
import Derived.Laws.MakeOwn
import Derived.Laws.BytesString
import Derived.Laws.IdiomStrings
import Derived.OrdersIn
import Derived.TacticsIn
import Derived.Tactics
import Derived.RangeFuncIn
import Derived.RangeFuncLeaves
namespace Go.Eng
theorem qxB:type_of%@Option.some.injEq:=@Option.some.injEq
theorem qxC:type_of%@Nat.le_refl:=@Nat.le_refl
theorem qxD:type_of%@List.getElem?_set_ne:=@List.getElem?_set_ne
theorem qxE:type_of%@List.getD_eq_getElem?_getD:=@List.getD_eq_getElem?_getD
theorem qxF:type_of%@Sem.run_bind:=@Sem.run_bind
theorem qxG:type_of%@Nat.lt_or_ge:=@Nat.lt_or_ge
theorem qxH:type_of%@Result.andThen_ok:=@Result.andThen_ok
theorem qxI:type_of%@Array.getElem?_eq_some_iff:=@Array.getElem?_eq_some_iff
theorem qxJ:type_of%@Nat.le_trans:=@Nat.le_trans
theorem qxK:type_of%@List.getElem?_append_left:=@List.getElem?_append_left
theorem qxL:type_of%@Bool.and_eq_true:=@Bool.and_eq_true
theorem qxM:type_of%@List.mem_cons_self:=@List.mem_cons_self
theorem qxN:type_of%@List.getElem?_set_self:=@List.getElem?_set_self
theorem qxO:type_of%@List.getElem?_eq_getElem:=@List.getElem?_eq_getElem
theorem qxP:type_of%@List.mem_cons:=@List.mem_cons
theorem qxQ:type_of%@List.mem_cons_of_mem:=@List.mem_cons_of_mem
theorem qxR:type_of%@List.getElem?_eq_none:=@List.getElem?_eq_none
theorem qxS:type_of%@Ne.symm:=@Ne.symm
theorem qxT:type_of%@Int.le_refl:=@Int.le_refl
theorem qxU:type_of%@List.getElem?_append_right:=@List.getElem?_append_right
theorem qxV:type_of%@List.all_eq_true:=@List.all_eq_true
theorem qxW:type_of%@Sem.run_pure:=@Sem.run_pure
theorem qxX:type_of%@Prod.mk.injEq:=@Prod.mk.injEq
theorem qxY:type_of%@List.mem_append:=@List.mem_append
theorem qxZ:type_of%@List.getElem?_map:=@List.getElem?_map
theorem qy0:type_of%@Option.map_some:=@Option.map_some
theorem qy1:type_of%@Int.toNat_natCast:=@Int.toNat_natCast
theorem qy2:type_of%@Nat.add_mul:=@Nat.add_mul
theorem qy3:type_of%@Option.bind_some:=@Option.bind_some
theorem qy4:type_of%@Int.one_mul:=@Int.one_mul
theorem qy5:type_of%@Bool.false_eq_true:=@Bool.false_eq_true
theorem qy6:type_of%@Option.some.inj:=@Option.some.inj
theorem qy7:type_of%@Addr.add_lit:=@Addr.add_lit
theorem qy8:type_of%@Nat.mul_le_mul_right:=@Nat.mul_le_mul_right
theorem qy9:type_of%@List.length_cons:=@List.length_cons
theorem qya:type_of%@List.mem_append_right:=@List.mem_append_right
theorem qyb:type_of%@List.append_assoc:=@List.append_assoc
theorem qyc:type_of%@List.ext_getElem?:=@List.ext_getElem?
theorem qyd:type_of%@Nat.add_zero:=@Nat.add_zero
theorem qye:type_of%@List.mem_singleton:=@List.mem_singleton
theorem qyf:type_of%@Nat.eq_of_beq_eq_true:=@Nat.eq_of_beq_eq_true
theorem qyg:type_of%@List.getElem?_cons_succ:=@List.getElem?_cons_succ
theorem qyh:type_of%@Rat.intCast_mul:=@Rat.intCast_mul
theorem qyi:type_of%@List.mem_of_find?_eq_some:=@List.mem_of_find?_eq_some
theorem qyj:type_of%@List.getElem?_take:=@List.getElem?_take
theorem qyk:type_of%@List.mem_append_left:=@List.mem_append_left
theorem qyl:type_of%@List.getElem?_drop:=@List.getElem?_drop
theorem qym:type_of%@Nat.zero_add:=@Nat.zero_add
theorem qyn:type_of%@List.cons_append:=@List.cons_append
theorem qyo:type_of%@Array.ext':=@Array.ext'
theorem qyp:type_of%@List.map_cons:=@List.map_cons
theorem qyq:type_of%@List.length_nil:=@List.length_nil
theorem qyr:type_of%@List.getElem?_cons_zero:=@List.getElem?_cons_zero
theorem qys:type_of%@Int.mul_zero:=@Int.mul_zero
theorem qyt:type_of%@World.cell?_of_block:=@World.cell?_of_block
theorem qyu:type_of%@List.getElem_mem:=@List.getElem_mem
theorem qyv:type_of%@List.find?_some:=@List.find?_some
theorem qyw:type_of%@Bool.not_eq_true':=@Bool.not_eq_true'
theorem qyx:type_of%@Nat.eq_zero_or_pos:=@Nat.eq_zero_or_pos
theorem qyy:type_of%@List.mem_map:=@List.mem_map
theorem qyz:type_of%@Array.getD_eq_getD_getElem?:=@Array.getD_eq_getD_getElem?
theorem qyA:type_of%@List.length_take:=@List.length_take
theorem qyB:type_of%@Nat.min_eq_left:=@Nat.min_eq_left
theorem qyC:type_of%@List.mem_of_getElem?:=@List.mem_of_getElem?
theorem qyD:type_of%@List.append_nil:=@List.append_nil
theorem qyE:type_of%@Bool.or_eq_true:=@Bool.or_eq_true
theorem qyF:type_of%@List.cons.injEq:=@List.cons.injEq
theorem qyG:type_of%@Nat.lt_of_lt_of_le:=@Nat.lt_of_lt_of_le
theorem qyH:type_of%@Int.natAbs_mul:=@Int.natAbs_mul
theorem qyI:type_of%@Int.lt_trichotomy:=@Int.lt_trichotomy
theorem qyJ:type_of%@Nat.eq_or_lt_of_le:=@Nat.eq_or_lt_of_le
theorem qyK:type_of%@Option.getD_some:=@Option.getD_some
theorem qyL:type_of%@List.length_append:=@List.length_append
theorem qyM:type_of%@List.length_pos_iff:=@List.length_pos_iff
theorem qyN:type_of%@List.nil_append:=@List.nil_append
theorem qyO:type_of%@List.length_set:=@List.length_set
theorem qyP:type_of%@Rat.intCast_sub:=@Rat.intCast_sub
theorem qyQ:type_of%@List.replicate_succ:=@List.replicate_succ
theorem qyR:type_of%@List.mem_range:=@List.mem_range
theorem qyS:type_of%@List.map_append:=@List.map_append
theorem qyT:type_of%@List.getD_cons_zero:=@List.getD_cons_zero
theorem qyU:type_of%@Int.mul_nonneg:=@Int.mul_nonneg
theorem qyV:type_of%@Rat.mul_pos:=@Rat.mul_pos
theorem qyW:type_of%@Nat.lt_succ_self:=@Nat.lt_succ_self
theorem qyX:type_of%@Int.toNat_of_nonneg:=@Int.toNat_of_nonneg
theorem qyY:type_of%@Int.mul_comm:=@Int.mul_comm
theorem qyZ:type_of%@List.map_congr_left:=@List.map_congr_left
theorem qz0:type_of%@Array.getElem?_eq_getElem:=@Array.getElem?_eq_getElem
theorem qz1:type_of%@Nat.pow_succ:=@Nat.pow_succ
theorem qz2:type_of%@World.block_lt_of_cell?:=@World.block_lt_of_cell?
theorem qz3:type_of%@Int.mul_le_mul_of_nonneg_right:=@Int.mul_le_mul_of_nonneg_right
theorem qz4:type_of%@Rat.mul_nonneg:=@Rat.mul_nonneg
theorem qz5:type_of%@Nat.add_assoc:=@Nat.add_assoc
theorem qz6:type_of%@List.all_cons:=@List.all_cons
theorem qz7:type_of%@List.foldl_cons:=@List.foldl_cons
theorem qz8:type_of%@List.getElem?_range:=@List.getElem?_range
theorem qz9:type_of%@List.length_map:=@List.length_map
theorem qza:type_of%@List.take_append_drop:=@List.take_append_drop
theorem qzb:type_of%@Array.toList_append:=@Array.toList_append
theorem qzc:type_of%@Nat.pow_le_pow_right:=@Nat.pow_le_pow_right
theorem qzd:type_of%@List.take_length:=@List.take_length
theorem qze:type_of%@Rat.intCast_add:=@Rat.intCast_add
theorem qzf:type_of%@Array.getElem?_toList:=@Array.getElem?_toList
theorem qzg:type_of%@List.mem_of_mem_take:=@List.mem_of_mem_take
theorem qzh:type_of%@List.mem_of_mem_drop:=@List.mem_of_mem_drop
theorem qzi:type_of%@List.flatten_cons:=@List.flatten_cons
theorem qzj:type_of%@List.drop_eq_nil_of_le:=@List.drop_eq_nil_of_le
theorem qzk:type_of%@List.getElem?_of_mem:=@List.getElem?_of_mem
theorem qzl:type_of%@List.getElem?_set:=@List.getElem?_set
theorem qzm:type_of%@List.getElem?_eq_some_iff:=@List.getElem?_eq_some_iff
theorem qzn:type_of%@List.mem_or_eq_of_mem_set:=@List.mem_or_eq_of_mem_set
theorem qzo:type_of%@Int.mul_neg_of_neg_of_pos:=@Int.mul_neg_of_neg_of_pos
theorem qzp:type_of%@Int.mul_le_mul_of_nonneg_left:=@Int.mul_le_mul_of_nonneg_left
abbrev qxA:=List UInt8
inductive Sh where
 | int (k:IntKind)|bool|str|sl (row:List Sh)
inductive U where
 | i (n:Int)|b (x:Bool)|s (l:List UInt8)|l (rows:List (List U))
abbrev R:=List (List U)
def U.toI:U->Int|.i n=>n|_=>0
def U.toB:U->Bool|.b x=>x|_=>false
def U.toS:U->List UInt8|.s x=>x|_=>[]
def U.toR:U->R|.l x=>x|_=>[]
def wv(l:R)(i:Int)(j:Nat):U:=(l.getD i.toNat []).getD j (.i 0)
def cI(l:R)(i:Int)(j:Nat):Int:=(wv l i j).toI
def cB(l:R)(i:Int)(j:Nat):Bool:=(wv l i j).toB
def cS(l:R)(i:Int)(j:Nat):List UInt8:=(wv l i j).toS
def cR(l:R)(i:Int)(j:Nat):R:=(wv l i j).toR
def qh(l:R):Int:=(l.length:Int)
def q1i(l m:R):R:=l++m
def qjF(row:List U)(off:Nat)(us:List U):List U:=(List.range (max row.length (off+us.length))).map fun j=>if off<=j/\j<off+us.length then us.getD (j-off) (.i 0) else row.getD j (.i 0)
def q9e(l:R)(i:Int)(off:Nat)(us:List U):R:=l.set i.toNat (qjF (l.getD i.toNat []) off us)
def qnT(l:R)(lo hi:Int):R:=(l.take hi.toNat).drop lo.toNat
def zG(s:List UInt8):Int:=(s.length:Int)
def sat(s:List UInt8)(i:Int):Int:=((s.getD i.toNat 0).toNat:Int)
def qbE(s:List UInt8)(lo hi:Int):List UInt8:=(s.take hi.toNat).drop lo.toNat
def qmH(s t:List UInt8):List UInt8:=s++t
def seq(s t:List UInt8):Bool:=s==t
def slt(s t:List UInt8):Bool:=Op.bytesLess s t
def wT(k:IntKind)(x y:Int):Int:=k.wrap (x+y)
def q3e(k:IntKind)(x y:Int):Int:=k.wrap (x-y)
def q8T(k:IntKind)(x y:Int):Int:=k.wrap (x*y)
def qbh(k:IntKind)(x y:Int):Int:=k.wrap (x.tdiv y)
def qp2(x y:Int):Int:=x.tmod y
def qpx(k:IntKind)(x:Int):Int:=k.wrap x
def ieq(x y:Int):Bool:=x==y
def ine(x y:Int):Bool:=x != y
def ilt(x y:Int):Bool:=decide (x<y)
def ile(x y:Int):Bool:=decide (x<=y)
def qlt(x y:Int):Int:=if y>x then y else x
def qd7(x y:Int):Int:=if y<x then y else x
def inb(i n:Int):Bool:=decide (0<=i)&&decide (i<n)
def q5U(i n:Int):Bool:=decide (0<=i)&&decide (i<=n)
def beq(x y:Bool):Bool:=x==y
def qwJ(l:List Int)(i:Int):Int:=l.getD i.toNat 0
def qpJ(x y:Bool):Bool:=x&&y
inductive Ex where
 | normal|exit (id:Nat)|ret
inductive AV where
 | undef|skip|yld
 | blit (b:Bool)|bool (b:Bool)
 | ilit (k:IntKind) (n:Int)|int (k:IntKind) (n:Int)
 | str (s:List UInt8)
 | nilp|ptr (b off:Nat)
 | eptr (sh:List Sh) (l:R) (i:Int) (off:Nat)
 | mptr (c:Bool) (sh:List Sh) (l:R) (i:Int) (off:Nat)
 | vptr (b:Nat) (i:Int) (off:Nat)
 | vsub (b:Nat) (i:Int)
 | aptr (b o:Nat) (i:Int)
 | asub (b o n:Nat) (i m:Int)
 | nils|imm (sh:List Sh) (l:R)|full (sh:List Sh) (l:R)|vec (b:Nat)
 | nilf|fn (f:FuncId) (first caps:List AV)
 | agg (cs:List AV)|tuple (vs:List AV)
 | bagg (cs:List AV) (k:IntKind) (n:Nat) (l:R)
inductive Blk where
 | cells (cs:List AV)|big (cs:List AV) (k:IntKind) (n:Nat) (l:R)|vec (e:TypeId) (sh:List Sh) (l:R)|frz (e:TypeId) (sh:List Sh) (l:R)|dead
structure St where
 t:List AV
 fs:List (List AV)
 h:List Blk
 pend:Option Ex:=none
inductive Tree (α:Type) where
 | leaf (a:α)|br (b:Bool) (t e:Tree α)|fail
def Tree.bind{α β:Type}:Tree α->(α->Tree β)->Tree β
 | .leaf a,f=>f a
 | .br b t e,f=>.br b (t.bind f) (e.bind f)
 | .fail,_=>.fail
def Tree.run{α:Type}:Tree α->Option α
 | .leaf a=>some a
 | .br b t e=>match b with|true=>t.run|false=>e.run
 | .fail=>none
def Tree.holds{α:Type}:Tree α->(α->Prop)->Prop
 | .leaf a,Q=>Q a
 | .br b t e,Q=>(b=true->t.holds Q)/\(b=false->e.holds Q)
 | .fail,_=>False
inductive TD where
 | none|bool|int (k:IntKind)|str|slice (e:TypeId) (es:Nat)|array (n:Nat) (e:TypeId) (es:Nat)
 | struct (fs:List (Nat×TypeId×Nat))|ptr (e:TypeId)|func
structure TI where
 d:TD
 size:Nat
 zero:List Value
 bytes:Nat
 eqok:Bool
 fok:Bool
def qsY(P:Program):TypeDesc->TD
 | .bool=>.bool
 | .int k=>.int k
 | .string=>.str
 | .slice e=>.slice e (P.cellsOf e)
 | .array n e=>.array n e (P.cellsOf e)
 | .struct fs=>.struct (fs.toList.map fun f=>(f.offset,f.type,P.cellsOf f.type))
 | .pointer e=>.ptr e
 | .func _ _ _=>.func
 | _=>.none
def qlw(P:Program)(t:TypeId):TI :=
  match P.info? t with
  | some i => { d := match P.underlying t with | some d => qsY P d | none => .none, size := i.size, zero := match i.zero with | some v => v.cells.toList | none => [], bytes := i.bytes,
                eqok:=match P.underlying t with|some (.struct fs)=>!P.stoodInHeld t&&!P.eqGuardType P.depth t&&fs.toList.all (fun f=>f.name != "_")|_=>false,
                fok:=match P.underlying t with|some (.struct fs)=>fs.toList.all (fun f=>(P.info? f.type).isSome)|_=>false }
  | none=>{ d:=.none,size:=0,zero:=[],bytes:=0,eqok:=false,fok:=false }
structure Env where
 tt:List (TypeId×TI)
 glob:List (Nat×AV)
 spec:List (FuncId×(List AV->List Blk->Tree (AV×List Blk)))
 body:List (FuncId×Func)
 loops:List ((FuncId×Nat)×(St->Tree (Ex×St)))
 nimp:Nat
 iter:List (FuncId×FuncId×Nat):=[]
 raws:List FuncId:=[]
 dels:List (FuncId×TypeId):=[]
def qx1:TI:={ d:=.none,size:=0,zero:=[],bytes:=0,eqok:=false,fok:=false }
def Env.ty(E:Env)(t:TypeId):TI:=((E.tt.find? fun x=>x.1==t).map (·.2)).getD qx1
def TD.known:TD->Bool
 | .none=>false
 | _=>true
def TD.isAgg:TD->Bool
 | .struct _|.array _ _ _=>true
 | _=>false
def Env.shape(E:Env):Nat->TypeId->Option (List Sh)
 | 0,_=>none
 | n+1,t=>match (E.ty t).d with
  | .bool=>some [.bool]
  | .int k=>some [.int k]
  | .str=>some [.str]
  | .slice e _=>(E.shape n e).map fun r=>[.sl r]
  | .array m e _=>(E.shape n e).map fun r=>(List.replicate m r).flatten
  | .struct fs=>(fs.mapM fun f=>E.shape n f.2.1).map List.flatten
  | _=>none
mutual
def Sh.beq:Sh->Sh->Bool
 | .int k,.int k'=>decide (k=k')
 | .bool,.bool=>true
 | .str,.str=>true
 | .sl r,.sl r'=>Sh.beqL r r'
 | _,_=>false
def Sh.beqL:List Sh->List Sh->Bool
 | [],[]=>true
 | a::l,b::m=>a.beq b&&Sh.beqL l m
 | _,_=>false
end
def vh:Value->AV
 | .bool b=>.blit b
 | .int k n=>.ilit k n
 | .string s=>.str s.data.toList
 | .pointer none=>.nilp
 | .slice none 0 0=>.nils
 | .nilFunc=>.nilf
 | _=>.undef
def ofV:Value->AV
 | .agg cs=>.agg (cs.toList.map vh)
 | v=>vh v
def AV.cells:AV->List AV
 | .agg cs=>cs
 | v=>[v]
def AV.isCell:AV->Bool
 | .undef|.skip|.agg _|.tuple _|.bagg _ _ _ _=>false
 | _=>true
mutual
def AV.ren(f:Nat->Option Nat):AV->AV
 | .ptr b off=>match f b with|some b'=>.ptr b' off|none=>.undef
 | .vptr b i off=>match f b with|some b'=>.vptr b' i off|none=>.undef
 | .vec b=>match f b with|some b'=>.vec b'|none=>.undef
 | .vsub b i=>match f b with|some b'=>.vsub b' i|none=>.undef
 | .aptr b o i=>match f b with|some b'=>.aptr b' o i|none=>.undef
 | .asub b o n i m=>match f b with|some b'=>.asub b' o n i m|none=>.undef
 | .bagg cs k n l=>.bagg (AV.renL f cs) k n l
 | .fn g first caps=>.fn g (AV.renL f first) (AV.renL f caps)
 | .agg cs=>.agg (AV.renL f cs)
 | .tuple vs=>.tuple (AV.renL f vs)
 | v=>v
def AV.renL(f:Nat->Option Nat):List AV->List AV
 | []=>[]
 | a::l=>a.ren f::AV.renL f l
end
mutual
def AV.noY:AV->Bool
 | .yld=>false
 | .fn _ first caps=>AV.noYL first&&AV.noYL caps
 | .agg cs=>AV.noYL cs
 | .bagg cs _ _ _=>AV.noYL cs
 | .tuple vs=>AV.noYL vs
 | _=>true
def AV.noYL:List AV->Bool
 | []=>true
 | a::l=>a.noY&&AV.noYL l
end
def Blk.noY:Blk->Bool
 | .cells cs=>AV.noYL cs
 | .big cs _ _ _=>AV.noYL cs
 | _=>true
def Blk.ren(f:Nat->Option Nat):Blk->Blk
 | .cells cs=>.cells (AV.renL f cs)
 | .big cs k n l=>.big (AV.renL f cs) k n l
 | b=>b
mutual
def AV.men:AV->List Nat
 | .ptr b _=>[b]
 | .vptr b _ _=>[b]
 | .vsub b _=>[b]
 | .aptr b _ _=>[b]
 | .asub b _ _ _ _=>[b]
 | .bagg cs _ _ _=>AV.menL cs
 | .vec b=>[b]
 | .fn _ first caps=>AV.menL first++AV.menL caps
 | .agg cs=>AV.menL cs
 | .tuple vs=>AV.menL vs
 | _=>[]
def AV.menL:List AV->List Nat
 | []=>[]
 | a::l=>a.men++AV.menL l
end
def asI:AV->Option (IntKind×Int)
 | .ilit k n=>some (k,n)
 | .int k n=>some (k,n)
 | _=>none
def asB:AV->Option Bool
 | .blit b=>some b
 | .bool b=>some b
 | _=>none
def q9q(sh:List Sh)(l:R)(i:Int)(j:Nat):Option AV:=
 match sh[j]? with
 | some (.int k)=>some (.int k (cI l i j))
 | some .bool=>some (.bool (cB l i j))
 | some .str=>some (.str (cS l i j))
 | some (.sl row)=>some (.imm row (cR l i j))
 | none=>none
def q5z(sh:List Sh)(l:R)(i:Int):Nat->Nat->Option (List AV)
 | _,0=>some []
 | off,n+1=>match q9q sh l i off,q5z sh l i (off+1) n with
  | some a,some r=>some (a::r)
  | _,_=>none
def wn(h:List Blk):AV->Option (List Sh×R)
 | .imm sh l=>some (sh,l)
 | .vec b=>match h[b]? with
  | some (.vec _ sh l)=>some (sh,l)
  | some (.frz _ sh l)=>some (sh,l)
  | _=>none
 | _=>none
def toU(h:List Blk):Sh->AV->Option U
 | .int k,.ilit k' n=>if k=k' then some (.i n) else none
 | .int k,.int k' n=>if k=k' then some (.i n) else none
 | .bool,.blit b=>some (.b b)
 | .bool,.bool b=>some (.b b)
 | .str,.str s=>some (.s s)
 | .sl _,.nils=>some (.l [])
 | .sl row,.imm row' l=>if Sh.beqL row row' then some (.l l) else none
 | .sl row,.vec b=>match h[b]? with
  | some (.vec _ row' l)=>if Sh.beqL row row' then some (.l l) else none
  | some (.frz _ row' l)=>if Sh.beqL row row' then some (.l l) else none
  | _=>none
 | _,_=>none
def qgq(h:List Blk):List Sh->List AV->Option (List U)
 | [],[]=>some []
 | s::sh,a::azz=>match toU h s a,qgq h sh azz with
  | some u,some us=>some (u::us)
  | _,_=>none
 | _,_=>none
def zm(h:List Blk)(b:Nat):List Blk:=
 match h[b]? with
 | some (.vec e sh l)=>h.set b (.frz e sh l)
 | _=>h
def q5t(h:List Blk):List AV->List Blk
 | []=>h
 | .vec b::l=>q5t (zm h b) l
 | _::l=>q5t h l
def qbK(h:List Blk)(sh:List Sh):Nat->List AV->Option R
 | 0,[]=>some []
 | 0,_=>none
 | n+1,cs=>match qgq h sh (cs.take sh.length),qbK h sh n (cs.drop sh.length) with
  | some u,some r=>some (u::r)
  | _,_=>none
abbrev Res:=AV×List Blk×Option Nat
def okv(h:List Blk)(v:AV):Tree Res:=.leaf (v,h,none)
def okb(h:List Blk)(b:Bool):Tree Res:=.leaf (.bool b,h,none)
def jc(l:List AV):Bool:=l.all AV.isCell
def qfo(cs:List AV)(off:Nat)(vs:List AV):List AV:=cs.take off++vs++cs.drop (off+vs.length)
def q9h(E:Env)(h:List Blk)(t:TypeId)(p:AV):Tree Res:=
 let ti:=E.ty t
 if ti.d.known=false then .fail else
 match p with
 | .ptr b off=>match h[b]? with
  | some (.cells cs)=>
   if ti.d.isAgg then (if off+ti.size<=cs.length then okv h (.agg ((cs.drop off).take ti.size)) else .fail)
   else match cs[off]? with|some v=>okv h v|none=>.fail
  | _=>.fail
 | .eptr sh l i off=>
  if ti.d.isAgg then (match q5z sh l i off ti.size with|some cs=>okv h (.agg cs)|none=>.fail)
  else (match q9q sh l i off with|some v=>okv h v|none=>.fail)
 | .vptr b i off=>match wn h (.vec b) with
  | some (sh,l)=>
   if ti.d.isAgg then (match q5z sh l i off ti.size with|some cs=>okv h (.agg cs)|none=>.fail)
   else (match q9q sh l i off with|some v=>okv h v|none=>.fail)
  | none=>.fail
 | _=>.fail
def q8X(E:Env)(h:List Blk)(t:TypeId)(p v:AV):Tree Res:=
 let cs':=v.cells
 if cs'.length=(E.ty t).size/\jc cs'=true/\cs'.length≠0 then
  match p with
  | .ptr b off=>match h[b]? with
   | some (.cells cs)=>if off+cs'.length<=cs.length then .leaf (.skip,h.set b (.cells (qfo cs off cs')),none) else .fail
   | _=>.fail
  | .vptr b i off=>match h[b]? with
   | some (.vec e sh l)=>if (AV.menL cs').isEmpty then (match qgq h ((sh.drop off).take cs'.length) cs' with
    | some us=>.leaf (.skip,h.set b (.vec e sh (q9e l i off us)),none)
    | none=>.fail) else .fail
   | _=>.fail
  | _=>.fail
 else .fail
def q7O(place:Nat->Option (Nat×Nat))(cells:List AV):List (Nat×AV)->Option (List AV)
 | []=>some cells
 | (i,v)::rest=>match place i with
  | none=>none
  | some (off,size)=>
   if v.cells.length=size/\off+v.cells.length<=cells.length/\jc v.cells=true then q7O place (qfo cells off v.cells) rest else none
def qad(E:Env)(h:List Blk)(t:TypeId)(parts:List (Nat×AV)):Tree Res:=
 if (E.ty t).zero.length=0 then .fail else
 match (E.ty t).d with
 | .struct fs=>if (E.ty t).fok then (match q7O (fun i=>(fs[i]?).map fun f=>(f.1,f.2.2)) ((E.ty t).zero.map vh) parts with
  | some cs=>okv h (.agg cs)
  | none=>.fail) else .fail
 | .array _ _ es=>if es=0 then .fail else match q7O (fun i=>some (i*es,es)) ((E.ty t).zero.map vh) parts with
  | some cs=>okv h (.agg cs)
  | none=>.fail
 | _=>.fail
def q3U(E:Env)(h:List Blk)(t:TypeId)(len:Nat)(parts:List (Nat×AV)):Tree Res:=
 match (E.ty t).d with
 | .slice e es=>
  if len*es<=16777216/\0<es/\(E.ty e).zero.length=es then
   match q7O (fun i=>some (i*es,es)) ((List.replicate len ((E.ty e).zero.map vh)).flatten) parts,E.shape 16 e with
   | some cs,some sh=>if sh.length=es then (match qbK h sh len cs with
    | some l=>.leaf (.vec h.length,q5t h cs++[.vec e sh l],none)
    | none=>.fail) else .fail
   | _,_=>.fail
  else .fail
 | _=>.fail
def q06(E:Env)(h:List Blk)(s:TypeId)(x:AV)(f:Nat):Tree Res:=
 match (E.ty s).d with
 | .struct fs=>match fs[f]? with
  | some (o,_,sz)=>if sz=0 then .fail else
   match x with
   | .ptr b off=>okv h (.ptr b (off+o))
   | .eptr sh l i off=>okv h (.eptr sh l i (off+o))
   | .vptr b i off=>okv h (.vptr b i (off+o))
   | _=>.fail
  | none=>.fail
 | _=>.fail
def q9B(E:Env)(t:TypeId)(cs:List AV)(off:Nat):Option AV:=
 let ti:=E.ty t
 if ti.d.known=false then none else
 if ti.d.isAgg then (if off+ti.size<=cs.length then some (.agg ((cs.drop off).take ti.size)) else none)
 else cs[off]?
def qaH(E:Env)(h:List Blk)(t:TypeId)(cs:List AV)(off:Nat):Tree Res:=
 match q9B E t cs off with
 | some v=>okv h v
 | none=>.fail
def qb0(E:Env)(h:List Blk)(s:TypeId)(x:AV)(f:Nat):Tree Res:=
 match (E.ty s).d,x with
 | .struct fs,.agg cs=>match fs[f]? with
  | some (o,t,_)=>qaH E h t cs o
  | none=>.fail
 | _,_=>.fail
def qb3(h:List Blk)(i:Int)(f:Nat->AV):Nat->Tree Res
 | 0=>.fail
 | m+1=>.br (ieq i m) (okv h (f m)) (qb3 h i f m)
def ju(E:Env)(h:List Blk)(t:TypeId)(x ix:AV):Tree Res:=
 match (E.ty t).d,x,asI ix with
 | .slice _ es,.imm sh l,some (_,i)=>if sh.length=es/\0<es then .br (inb i (qh l)) (okv h (.eptr sh l i 0)) .fail else .fail
 | .slice _ es,.vec b,some (_,i)=>match wn h (.vec b) with
  | some (sh,l)=>if sh.length=es/\0<es then .br (inb i (qh l)) (okv h (.vptr b i 0)) .fail else .fail
  | none=>.fail
 | .array n _ es,.ptr b off,_=>match ix with
  | .ilit _ i=>if 0<=i/\i<n/\0<es then okv h (.ptr b (off+i.toNat*es)) else .fail
  | .int _ i=>if n<=16/\0<es then qb3 h i (fun m=>.ptr b (off+m*es)) n else .fail
  | _=>.fail
 | .array n _ es,.eptr sh l i0 off,_=>match ix with
  | .ilit _ i=>if 0<=i/\i<n/\0<es then okv h (.eptr sh l i0 (off+i.toNat*es)) else .fail
  | .int _ i=>if n<=16/\0<es then qb3 h i (fun m=>.eptr sh l i0 (off+m*es)) n else .fail
  | _=>.fail
 | _,_,_=>.fail
def qdj(k:IntKind):List AV->Option (List Int)
 | []=>some []
 | a::l=>match asI a,qdj k l with
  | some (k',n),some r=>if k=k' then some (n::r) else none
  | _,_=>none
def qfE(E:Env)(h:List Blk)(e:TypeId)(cs:List AV)(es:Nat)(i:Int):Nat->Nat->Tree Res
 | _,0=>.fail
 | j,m+1=>.br (ieq i (j:Int)) (qaH E h e cs (j*es)) (qfE E h e cs es i (j+1) m)
def qaa(E:Env)(h:List Blk)(t:TypeId)(x ix:AV):Tree Res:=
 match (E.ty t).d,x,asI ix with
 | .array n e es,.agg cs,some (_,i)=>match ix with
  | .ilit _ i=>if 0<=i/\i<n/\0<es then qaH E h e cs (i.toNat*es) else .fail
  | _=>match (E.ty e).d with
   | .int k=>if es=1/\cs.length=n then (match qdj k cs with
    | some l=>.br (inb i n) (okv h (.int k (qwJ l i))) .fail
    | none=>.fail) else .fail
   | .slice _ _=>if 0<es then (match Nat.ble n 4 with|true=>qfE E h e cs es i 0 n|false=>.fail) else .fail
   | _=>.fail
 | .str,.str s,some (_,i)=>.br (inb i (zG s)) (okv h (.int .u8 (sat s i))) .fail
 | _,_,_=>.fail
def q2M(h:List Blk)(k:IntKind)(f:Int->Int->Int)(lit:Bool)(x y:Int):Tree Res:=if lit then okv h (.ilit k (f x y)) else okv h (.int k (f x y))
def qpg(h:List Blk)(f:Int->Int->Bool)(lit:Bool)(x y:Int):Tree Res:=if lit then okv h (.blit (f x y)) else okv h (.bool (f x y))
def qvG:AV->Bool
 | .ilit _ _=>true
 | _=>false
def qlU(d:TD)(h:List Blk)(op:BinOp)(x y:AV):Tree Res:=
 match asI x,asI y with
 | some (k,a),some (k',b)=>
  if k=k' then
   let lit:=qvG x&&qvG y
   match op with
   | .add=>q2M h k (wT k) lit a b
   | .sub=>q2M h k (q3e k) lit a b
   | .mul=>q2M h k (q8T k) lit a b
   | .quo=>match y with
    | .ilit _ c=>if c=0 then .fail else q2M h k (qbh k) lit a b
    | _=>.br (ine b 0) (q2M h k (qbh k) lit a b) .fail
   | .rem=>match y with
    | .ilit _ c=>if c=0 then .fail else q2M h k qp2 lit a b
    | _=>.br (ine b 0) (q2M h k qp2 lit a b) .fail
   | .eql=>qpg h ieq lit a b
   | .neq=>qpg h ine lit a b
   | .lss=>qpg h ilt lit a b
   | .leq=>qpg h ile lit a b
   | .gtr=>qpg h (fun u v=>ilt v u) lit a b
   | .geq=>qpg h (fun u v=>ile v u) lit a b
   | _=>.fail
  else .fail
 | _,_=>
  match asB x,asB y with
  | some a,some b=>(match d with
   | .bool=>(match op with
    | .eql=>okb h (Eng.beq a b)
    | .neq=>okb h (!(Eng.beq a b))
    | _=>.fail)
   | _=>.fail)
  | _,_=>match x,y with
   | .str a,.str b=>match op with
    | .eql=>okb h (Eng.seq a b)
    | .neq=>okb h (!(Eng.seq a b))
    | .lss=>okb h (slt a b)
    | .leq=>okb h (slt a b||Eng.seq a b)
    | .gtr=>okb h (!(slt a b||Eng.seq a b))
    | .geq=>okb h (!(slt a b))
    | .add=>.br (ile (zG a+zG b) 140737488355328) (okv h (.str (qmH a b))) .fail
    | _=>.fail
   | .nilp,.nilp=>(match d with
    | .ptr _=>(match op with|.eql=>okv h (.blit true)|.neq=>okv h (.blit false)|_=>.fail)
    | _=>.fail)
   | .ptr b _,.nilp=>(match d,h[b]? with
    | .ptr _,some (.cells _)=>(match op with|.eql=>okv h (.blit false)|.neq=>okv h (.blit true)|_=>.fail)
    | _,_=>.fail)
   | .eptr _ _ _ _,.nilp=>(match d with
    | .ptr _=>(match op with|.eql=>okv h (.blit false)|.neq=>okv h (.blit true)|_=>.fail)
    | _=>.fail)
   | .imm _ l,.nils=>(match d with
    | .slice _ _=>(match op with|.eql=>.br (ilt 0 (qh l)) (okv h (.blit false)) .fail|.neq=>.br (ilt 0 (qh l)) (okv h (.blit true)) .fail|_=>.fail)
    | _=>.fail)
   | .mptr c _ _ _ _,.nilp=>(match d with
    | .ptr _=>(match op with|.eql=>okb h (!c)|.neq=>okb h c|_=>.fail)
    | _=>.fail)
   | _,_=>.fail
def qmf(E:Env)(e:TypeId)(c:Nat)(xs ys:List AV):List Nat->Option Bool
 | []=>some true
 | i::is=>match q9B E e xs (i*c),q9B E e ys (i*c),qmf E e c xs ys is with
  | some (.str a),some (.str b),some r=>some (qpJ (Eng.seq a b) r)
  | _,_,_=>none
mutual
def eqT(E:Env):Nat->TypeId->AV->AV->Option Bool
 | 0,_,_,_=>none
 | n+1,t,x,y=>match (E.ty t).d with
  | .int _=>match asI x,asI y with
   | some (k,a),some (k',b)=>if k=k' then some (ieq a b) else none
   | _,_=>none
  | .bool=>match asB x,asB y with
   | some a,some b=>some (Eng.beq a b)
   | _,_=>none
  | .str=>match x,y with
   | .str a,.str b=>some (Eng.seq a b)
   | _,_=>none
  | .struct fs=>if (E.ty t).eqok then (match x,y with
   | .agg xs,.agg ys=>quQ E n fs xs ys
   | _,_=>none) else none
  | .array m e es=>(match n,(E.ty e).d,x,y with
   | _+1,.str,.agg xs,.agg ys=>qmf E e es xs ys (List.range m)
   | _,_,_,_=>none)
  | _=>none
def quQ(E:Env):Nat->List (Nat×TypeId×Nat)->List AV->List AV->Option Bool
 | _,[],_,_=>some true
 | 0,_,_,_=>none
 | n+1,f::fs,xs,ys=>match q9B E f.2.1 xs f.1,q9B E f.2.1 ys f.1 with
  | some a,some b=>match eqT E n f.2.1 a b,quQ E n fs xs ys with
   | some r,some s=>some (qpJ r s)
   | _,_=>none
  | _,_=>none
end
def qhD(E:Env)(h:List Blk)(op:BinOp)(t:TypeId)(x y:AV):Tree Res:=
 match eqT E 32 t x y with
 | some r=>(match op with|.eql=>okb h r|.neq=>okb h (!r)|_=>.fail)
 | none=>.fail
def qcm(E:Env)(h:List Blk)(op:BinOp)(t:TypeId)(x y:AV):Tree Res:=
 match x,y with
 | .agg xs,.agg ys=>qhD E h op t (.agg xs) (.agg ys)
 | a,b=>qlU (E.ty t).d h op a b
def qvz(h:List Blk)(op:UnOp)(x:AV):Tree Res:=
 match op,x with
 | .not,.blit b=>okv h (.blit (!b))
 | .not,.bool b=>okv h (.bool (!b))
 | .neg,.ilit k n=>okv h (.ilit k (q3e k 0 n))
 | .neg,.int k n=>okv h (.int k (q3e k 0 n))
 | _,_=>.fail
def qfS(E:Env)(h:List Blk)(src dst:TypeId)(x:AV):Tree Res:=
 match (E.ty src).d,(E.ty dst).d,x with
 | .int _,.int k,.ilit _ n=>okv h (.ilit k (qpx k n))
 | .int _,.int k,.int _ n=>okv h (.int k (qpx k n))
 | .str,.str,.str s=>okv h (.str s)
 | _,_,_=>.fail
def q8j:Option AV->Int->Option Int
 | none,d=>some d
 | some a,_=>(asI a).map (·.2)
def qcI:List Sh->Bool
 | [.int .u8]=>true
 | _=>false
def qkb(sh:List Sh)(hi:Option AV):Bool:=match hi with
 | none=>qcI sh
 | some _=>false
def qvP(l:R):List UInt8:=l.map fun row=>UInt8.ofNat (row.getD 0 (.i 0)).toI.toNat
def q31(n:Int)(row:List U):R:=List.replicate n.toNat row
def qph(l:R)(i:Int)(s:List UInt8):R:=l.take i.toNat++s.map (fun c=>[.i (c.toNat:Int)])++l.drop (i.toNat+s.length)
def qqv(x y:Int):Int:=x-y
def qhJ(E:Env)(h:List Blk)(e:TypeId)(x:AV):Tree Res:=
 match (E.ty e).d with
 | .int .u8=>(match wn h x with
  | some (sh,l)=>if qcI sh then okv h (.str (qvP l)) else .fail
  | none=>.fail)
 | _=>.fail
def qaR(E:Env)(h:List Blk)(src dst:TypeId)(x:AV):Tree Res:=
 match (E.ty src).d with
 | .slice e _=>(match (E.ty dst).d with
  | .str=>qhJ E h e x
  | _=>.fail)
 | _=>qfS E h src dst x
def q7r(E:Env)(h:List Blk)(t:TypeId)(x:AV)(lo hi mx:Option AV):Tree Res:=
 match mx with
 | some m=>(match (E.ty t).d,x,hi with
  | .slice _ es,.imm sh l,some y=>(match q8j lo 0,asI y,asI m with
   | some a,some (_,b),some (_,c)=>if sh.length=es/\0<es then .br (q5U b (qh l)) (.br (q5U a b) (.br (ieq b c) (okv h (.full sh (qnT l a b))) .fail) .fail) .fail else .fail
   | _,_,_=>.fail)
  | _,_,_=>.fail)
 | none=>match (E.ty t).d,x with
  | .str,.str s=>match q8j lo 0,q8j hi (zG s) with
   | some l,some r=>.br (q5U r (zG s)) (.br (q5U l r) (okv h (.str (qbE s l r))) .fail) .fail
   | _,_=>.fail
  | .slice _ es,.imm sh l=>match q8j lo 0,q8j hi (qh l) with
   | some a,some b=>if sh.length=es/\0<es then .br (q5U b (qh l)) (.br (q5U a b) (okv h (.imm sh (qnT l a b))) .fail) .fail else .fail
   | _,_=>.fail
  | .slice _ es,.vec b=>match h[b]? with
   | some (.vec _ sh l)=>(match qkb sh hi with
    | true=>(match q8j lo 0 with
     | some a=>if es=1 then .br (ilt 0 (qh l)) (.br (q5U a (qh l)) (okv h (.vsub b a)) .fail) .fail else .fail
     | none=>.fail)
    | false=>(match q8j lo 0,q8j hi (qh l) with
     | some a,some c=>if sh.length=es/\0<es then .br (q5U c (qh l)) (.br (q5U a c) (.leaf (.imm sh (qnT l a c),zm h b,none)) .fail) .fail else .fail
     | _,_=>.fail))
   | some (.frz _ sh l)=>(match q8j lo 0,q8j hi (qh l) with
    | some a,some c=>if sh.length=es/\0<es then .br (q5U c (qh l)) (.br (q5U a c) (okv h (.imm sh (qnT l a c))) .fail) .fail else .fail
    | _,_=>.fail)
   | _=>.fail
  | _,_=>.fail
def qiA(b:Nat):Int:=((140737488355328/(if b=0 then 1 else b):Nat):Int)
def j6(h:List Blk)(x:AV):List Blk:=
 match x with
 | .vec b=>zm h b
 | _=>h
def qr1(rm:Int)(h:List Blk)(e:TypeId)(sh:List Sh)(l m:R)(b:Nat)(x:AV):Tree Res:=
 match x with
 | .vec b'=>if b=b' then .fail else
   .br (ile (qh l+qh m) rm) (.leaf (.vec b,(zm h b').set b (.vec e sh (q1i l m)),some b)) .fail
 | _=>.br (ile (qh l+qh m) rm) (.leaf (.vec b,h.set b (.vec e sh (q1i l m)),some b)) .fail
def qed(rm:Int)(h:List Blk)(e:TypeId)(sh:List Sh)(s x:AV):Tree Res:=
 match wn h x with
 | some (sh',m)=>if Sh.beqL sh sh' then
  (match s with
  | .nils=>.br (ile (qh m) rm) (.leaf (.vec h.length,j6 h x++[.vec e sh m],none)) .fail
  | .vec b=>match h[b]? with
   | some (.vec e' sh'' l)=>if Sh.beqL sh sh''/\e=e' then qr1 rm h e sh l m b x else .fail
   | _=>.fail
  | .full sh'' l=>if Sh.beqL sh sh'' then .br (ilt 0 (qh m)) (.br (ile (qh l+qh m) rm) (.leaf (.vec h.length,j6 h x++[.vec e sh (q1i l m)],none)) .fail) (.br (ile (qh l) 0) (.leaf (.vec h.length,j6 h x++[.vec e sh []],none)) .fail) else .fail
  | _=>.fail) else .fail
 | none=>.fail
def qk7(E:Env)(h:List Blk)(t:TypeId)(s x:AV):Tree Res:=
 match (E.ty t).d with
 | .slice e es=>match E.shape 16 e with
  | some sh=>if sh.length=es/\0<es/\(E.ty e).zero.length=es then
    (match x with
    | .nils=>(match s with
     | .nils=>okv h .nils
     | _=>.fail)
    | x=>qed (qiA (E.ty e).bytes) h e sh s x) else .fail
  | none=>.fail
 | _=>.fail
def qrT(E:Env)(h:List Blk)(t:TypeId)(x:AV):Tree Res:=
 match (E.ty t).d,x with
 | .str,.str s=>okv h (.int .i64 (zG s))
 | .array n _ _,_=>okv h (.ilit .i64 n)
 | .slice _ _,.nils=>okv h (.ilit .i64 0)
 | .slice _ _,x=>match wn h x with
  | some (_,l)=>okv h (.int .i64 (qh l))
  | none=>.fail
 | _,_=>.fail
def qnJ(f:Int->Int->Int)(k:IntKind):Int->List AV->Option Int
 | a,[]=>some a
 | a,x::l=>match asI x with
  | some (k',b)=>if k=k' then qnJ f k (f a b) l else none
  | none=>none
def qr7(E:Env)(h:List Blk)(t:TypeId)(x y:AV):Tree Res:=
 match (E.ty t).d,asI x,asI y with
 | .slice e es,some (_,n),some (_,m)=>(match E.shape 16 e with
  | some sh=>if sh.length=es/\0<es/\(E.ty e).zero.length=es then
    (match qgq h sh ((E.ty e).zero.map vh) with
    | some us=>.br (ieq n m) (.br (q5U n (qiA (E.ty e).bytes)) (.leaf (.vec h.length,h++[.vec e sh (q31 n us)],none)) .fail) .fail
    | none=>.fail) else .fail
  | none=>.fail)
 | _,_,_=>.fail
def qmT(E:Env)(h:List Blk):List TypeId->List AV->Tree Res
 | [t,_],[.vsub b i,.str s]=>(match (E.ty t).d with
  | .slice _ es=>(match h[b]? with
   | some (.vec e' sh l)=>if qcI sh/\es=1 then .br (ile (zG s) (qqv (qh l) i)) (.leaf (.int .i64 (zG s),h.set b (.vec e' sh (qph l i s)),none)) .fail else .fail
   | _=>.fail)
  | _=>.fail)
 | _,_=>.fail
def isZ(k:IntKind):Value->Bool
 | .int k' n=>decide (k=k')&&decide (n=0)
 | _=>false
def qpW(E:Env)(t:TypeId):Option (Nat×IntKind×Nat):=
 match (E.ty t).d with
 | .struct fs=>(match fs.getLast? with
  | some (o,ty,_)=>(match (E.ty ty).d with
   | .array n e _=>(match (E.ty e).d with
    | .int k=>if Nat.ble 32 n&&Nat.beq (E.ty t).zero.length (o+n)&&Nat.beq (E.ty t).size (o+n)&&((E.ty t).zero.drop o).all (isZ k) then some (o,k,n) else none
    | _=>none)
   | _=>none)
  | none=>none)
 | _=>none
def q92(E:Env)(t:TypeId):Option Blk:=match qpW E t with
 | some (o,k,n)=>if jc (((E.ty t).zero.take o).map vh)=true then some (.big (((E.ty t).zero.take o).map vh) k n (q31 n [.i 0])) else none
 | none=>if jc ((E.ty t).zero.map vh)=true/\((E.ty t).zero.map vh).length≠0 then some (.cells ((E.ty t).zero.map vh)) else none
def qqU(x:AV):Option Blk:=match x with
 | .bagg cs k n l=>if jc cs=true then some (.big cs k n l) else none
 | x=>if jc x.cells=true then some (.cells x.cells) else none
def qsr(h:List Blk)(k:Option Blk):Tree Res:=match k with
 | some k=>.leaf (.ptr h.length 0,h++[k],none)
 | none=>.fail
def qrG(E:Env)(h:List Blk)(t:TypeId)(off:Nat)(cs:List AV)(k:IntKind)(n:Nat)(l:R):Tree Res:=
 if (E.ty t).d.known=false then .fail else
 if (E.ty t).d.isAgg=true then (if off=0/\(E.ty t).size=cs.length+n then okv h (.bagg cs k n l) else .fail)
 else (match cs[off]? with
  | some v=>okv h v
  | none=>if off<cs.length+n then okv h (.int k (cI l ((off-cs.length:Nat):Int) 0)) else .fail)
def q79(E:Env)(h:List Blk)(t:TypeId)(p:AV):Tree Res:=
 match p with
 | .ptr b off=>(match h[b]? with
  | some (.big cs k n l)=>qrG E h t off cs k n l
  | _=>q9h E h t (.ptr b off))
 | .aptr b o i=>(match h[b]? with
  | some (.big cs k n l)=>if (E.ty t).d.known=true/\(E.ty t).d.isAgg=false/\o=cs.length then .br (inb i n) (okv h (.int k (cI l i 0))) .fail else .fail
  | _=>.fail)
 | p=>q9h E h t p
def qkg(E:Env)(h:List Blk)(t:TypeId)(b off:Nat)(cs:List AV)(k:IntKind)(n:Nat)(l:R)(v:AV):Tree Res:=
 match v with
 | .bagg cs' k' n' l'=>if off=0/\k=k'/\n=n'/\cs.length=cs'.length/\(E.ty t).size=cs.length+n/\0<n/\jc cs'=true then .leaf (.skip,h.set b (.big cs' k n l'),none) else .fail
 | v=>if v.cells.length=(E.ty t).size/\jc v.cells=true/\v.cells.length≠0 then
   (match Nat.ble (off+v.cells.length) cs.length with
   | true=>.leaf (.skip,h.set b (.big (qfo cs off v.cells) k n l),none)
   | false=>(match asI v with
    | some (k',x)=>if k=k'/\cs.length<=off/\off<cs.length+n then .leaf (.skip,h.set b (.big cs k n (q9e l ((off-cs.length:Nat):Int) 0 [.i x])),none) else .fail
    | none=>.fail))
   else .fail
def yE(E:Env)(h:List Blk)(t:TypeId)(p v:AV):Tree Res:=
 match p with
 | .ptr b off=>(match h[b]? with
  | some (.big cs k n l)=>qkg E h t b off cs k n l v
  | _=>q8X E h t (.ptr b off) v)
 | .aptr b o i=>(match h[b]? with
  | some (.big cs k n l)=>(match asI v with
   | some (k',x)=>if k=k'/\o=cs.length/\(E.ty t).size=1 then .br (inb i n) (.leaf (.skip,h.set b (.big cs k n (q9e l i 0 [.i x])),none)) .fail else .fail
   | none=>.fail)
  | _=>.fail)
 | p=>q8X E h t p v
def um(E : Env)(h : List Blk)(t : TypeId)(x ix : AV) : Tree Res :=
  match (E.ty t).d with
  | .array n _ es=>(match Nat.blt 16 n with
    | true=>(match x with
      | .ptr b off=>(match ix with
        | .int _ i=>if es=1 then .br (inb i n) (okv h (.aptr b off i)) .fail else .fail
        | _=>ju E h t x ix)
      | _=>ju E h t x ix)
    | false=>ju E h t x ix)
  | _=>ju E h t x ix
def q6O(E:Env)(h:List Blk)(t:TypeId)(parts:List (Nat×AV)):Tree Res:=
 match qpW E t with
 | some (o,k,n)=>(match (E.ty t).d with
  | .struct fs=>if (E.ty t).fok=true then (match q7O (fun i=>(fs[i]?).map fun f=>(f.1,f.2.2)) (((E.ty t).zero.take o).map vh) parts with
   | some cs=>okv h (.bagg cs k n (q31 n [.i 0]))
   | none=>.fail) else .fail
  | _=>.fail)
 | none=>qad E h t parts
def qtS(h:List Blk)(b off n:Nat)(lo hi:Option AV):Tree Res:=
 match q8j lo 0,q8j hi n with
 | some a,some c=>.br (q5U c n) (.br (q5U a c) (okv h (.asub b off n a (qqv c a))) .fail) .fail
 | _,_=>.fail
def qns(sh:List Sh)(l:R)(i:Int)(off n:Nat):Option (Sh×R):=
 match sh[off]?,l with
 | some s,[row]=>if (i=0/\off+n<=sh.length)/\((sh.drop off).take n).all (Sh.beq s)=true/\off+n<=row.length then some (s,((row.drop off).take n).map fun u=>[u]) else none
 | _,_=>none
def qms(h:List Blk)(n:Nat)(s:Sh)(l:R)(lo hi mx:Option AV):Tree Res:=
 match mx with
 | none=>(match q8j lo 0,q8j hi n with
  | some a,some c=>.br (q5U c n) (.br (q5U a c) (okv h (.imm [s] (qnT l a c))) .fail) .fail
  | _,_=>.fail)
 | some m=>(match q8j lo 0,hi.bind asI,asI m with
  | some a,some (_,c),some (_,d)=>.br (q5U c n) (.br (q5U a c) (.br (ieq c d) (okv h (.full [s] (qnT l a c))) .fail) .fail) .fail
  | _,_,_=>.fail)
def jE(E:Env)(h:List Blk)(t:TypeId)(x:AV)(lo hi mx:Option AV):Tree Res:=
 match (E.ty t).d with
 | .array n _ es=>(match x with
  | .eptr sh l i off=>if es=1 then (match qns sh l i off n with
   | some (s,rows)=>qms h n s rows lo hi mx
   | none=>.fail) else .fail
  | .ptr b off=>(match mx with
   | none=>if es=1 then qtS h b off n lo hi else .fail
   | some _=>.fail)
  | _=>.fail)
 | _=>q7r E h t x lo hi mx
def qdI(l:R)(i:Int)(l':R)(i' c:Int):R:=l.take i.toNat++(l'.drop i'.toNat).take c.toNat++l.drop (i.toNat+c.toNat)
def qki(E:Env)(h:List Blk):List TypeId->List AV->Tree Res
 | [t,_],[.asub b o n i m,.asub b' o' n' i' m']=>(match (E.ty t).d with
  | .slice _ es=>(match h[b]? with
   | some (.big cs k N l)=>(match h[b']? with
    | some (.big cs' k' N' l')=>if es=1/\o=cs.length/\n=N/\o'=cs'.length/\n'=N'/\k=k' then
      .leaf (.int .i64 (qd7 m' m),h.set b (.big cs k N (qdI l i l' i' (qd7 m' m))),none) else .fail
    | _=>.fail)
   | _=>.fail)
  | _=>.fail)
 | ts,azz=>qmT E h ts azz
def qlk(E:Env)(h:List Blk):List TypeId->List AV->Tree Res
 | [t,t'],[s,x]=>if t=t' then qk7 E h t s x else .fail
 | _,_=>.fail
def qh7(E:Env)(h:List Blk):List TypeId->List AV->Tree Res
 | t::_,[x]=>qrT E h t x
 | _,_=>.fail
def qkk(f:Int->Int->Int)(h:List Blk):List AV->Tree Res
 | x::l=>match asI x with
  | some (k,n)=>(match qnJ f k n l with
   | some m=>if (x::l).all qvG then okv h (.ilit k m) else okv h (.int k m)
   | none=>.fail)
  | none=>.fail
 | []=>.fail
def q3T(E:Env)(h:List Blk)(b:Builtin)(argTypes:List TypeId)(args:List AV):Tree Res:=
 match b with
 | .append=>qlk E h argTypes args
 | .len=>qh7 E h argTypes args
 | .max=>qkk qlt h args
 | .min=>qkk qd7 h args
 | .copy=>qki E h argTypes args
 | _=>.fail
def qgl(E:Env)(h:List Blk)(ev:Operand->AV)(op:Op):Tree Res:=
 match op with
 | .move x=>okv h (ev x)
 | .assign x=>okv h (ev x)
 | .pick c a b=>(match ev c with
  | .blit t=>okv h (if t then ev a else ev b)
  | .bool t=>.br t (okv h (ev a)) (okv h (ev b))
  | _=>.fail)
 | .box _ x=>qsr h (qqU (ev x))
 | .alloc t=>qsr h (q92 E t)
 | .load t a=>q79 E h t (ev a)
 | .store t a x=>yE E h t (ev a) (ev x)
 | .build t parts=>q6O E h t (parts.toList.map fun p=>(p.1,ev p.2))
 | .buildSlice t len parts=>q3U E h t len (parts.toList.map fun p=>(p.1,ev p.2))
 | .nilCheck x=>(match ev x with
  | .ptr b o=>(match h[b]? with
   | some (.cells _)=>okv h (.ptr b o)
   | some (.big _ _ _ _)=>okv h (.ptr b o)
   | _=>.fail)
  | .eptr sh l i o=>okv h (.eptr sh l i o)
  | .mptr c sh l i o=>.br c (okv h (.eptr sh l i o)) .fail
  | _=>.fail)
 | .binOp op t x y _=>qcm E h op t (ev x) (ev y)
 | .unOp op _ x=>qvz h op (ev x)
 | .convert s d x=>qaR E h s d (ev x)
 | .makeSlice t n m=>qr7 E h t (ev n) (ev m)
 | .makeFunc (.func f) first caps=>okv h (.fn f (first.toList.map ev) (caps.toList.map ev))
 | .slice t x lo hi mx=>jE E h t (ev x) (lo.map ev) (hi.map ev) (mx.map ev)
 | .fieldAddr s x f=>q06 E h s (ev x) f
 | .field s x f=>qb0 E h s (ev x) f
 | .indexAddr t x i=>um E h t (ev x) (ev i)
 | .index t x i=>qaa E h t (ev x) (ev i)
 | .extract x i=>(match ev x with
  | .tuple vs=>(match vs[i]? with|some v=>okv h v|none=>.fail)
  | _=>.fail)
 | .call { callee:=.builtin b,args,argTypes }=>q3T E h b argTypes.toList (args.toList.map ev)
 | _=>.fail
def Env.opd(E:Env)(t:List AV):Operand->AV
 | .tmp i=>t.getD i .undef
 | .const v=>ofV v
 | .global g=>((E.glob.find? fun x=>x.1==g).map (·.2)).getD .undef
 | .func f=>.fn f [] []
def qbY(t:List AV):Option Tmp->AV->List AV
 | some d,v=>t.set d v
 | none,_=>t
def St.renAll(st:St)(f:Nat->Option Nat):St:={ t:=AV.renL f st.t,fs:=st.fs.map (AV.renL f),h:=st.h.map (Blk.ren f),pend:=st.pend }
def q7u(b:Nat):Nat->Option Nat:=fun x=>if x=b then none else some x
def St.apply(st:St)(dst:Option Tmp)(r:Res):St:=
 match r.2.2 with
 | none=>{ st with t:=qbY st.t dst r.1,h:=r.2.1 }
 | some b=>let s:=({ st with h:=r.2.1 }:St).renAll (q7u b)
  { s with t:=qbY s.t dst r.1 }
abbrev q4j:=Option FuncId->List AV->St->Tree (AV×St)
abbrev qpn:=List AV->St->Tree (AV×St)
abbrev q85:=FuncId->qpn->List AV->St->Tree (AV×St)
def qtD(y:qpn)(callH:q4j):q4j
 | none=>y
 | some f=>callH (some f)
def qig(E:Env)(callH:q4j)(o:Oper)(st:St):Tree St:=
 match o.op with
 | .call { callee:=.value x,args,argTypes:=_ }=>(match E.opd st.t x with
  | .fn f first caps=>(callH (some f) (first++args.toList.map (E.opd st.t)++caps) st).bind fun r=>
    .leaf { r.2 with t:=qbY r.2.t o.dst r.1 }
  | .yld=>(callH none (args.toList.map (E.opd st.t)) st).bind fun r=>
    .leaf { r.2 with t:=qbY r.2.t o.dst r.1 }
  | _=>.fail)
 | op=>(qgl E st.h (E.opd st.t) op).bind fun r=>.leaf (st.apply o.dst r)
def qrE(o:Oper)(st:St):St:={ st with t:=qbY st.t o.dst .skip }
def qmY(all:Array Oper)(k:Nat):Bool:=all.toList.any fun o=>match o.guard with|some (j,_)=>j==k|none=>false
def qiS(all:Array Oper)(k:Nat)(o:Oper)(st:St):Tree St:=
 if qmY all k then (match o.dst with
  | some d=>match st.t[d]? with
   | some (.bool b)=>.br b (.leaf { st with t:=st.t.set d (.blit true) }) (.leaf { st with t:=st.t.set d (.blit false) })
   | _=>.leaf st
  | none=>.leaf st)
 else .leaf st
def q2o(all:Array Oper)(o:Oper)(t:List AV):Option Bool:=
 match o.guard with
 | none=>some true
 | some (j,want)=>match (all[j]?).bind (·.dst) with
  | none=>none
  | some d=>match t[d]? with
   | some (.blit b)=>some (decide (b=want))
   | some .skip=>some false
   | _=>none
def qcH(E:Env)(callH:q4j)(all:Array Oper):Nat->List Oper->St->Tree St
 | _,[],st=>.leaf st
 | k,o::rest,st=>match q2o all o st.t with
  | some true=>(qig E callH o st).bind fun s=>(qiS all k o s).bind (qcH E callH all (k+1) rest)
  | some false=>qcH E callH all (k+1) rest (qrE o st)
  | none=>.fail
def qd3:List Nat->List Nat
 | []=>[]
 | a::l=>if (qd3 l).contains a then qd3 l else a::qd3 l
def qrx(l:List Nat)(b:Nat):Option Nat:=let i:=l.findIdx (·==b);if i<l.length then some i else none
mutual
def AV.lend(h:List Blk):AV->AV
 | .vec b=>match h[b]? with|some (.frz _ sh l)=>.imm sh l|_=>.undef
 | .agg cs=>.agg (AV.lendL h cs)
 | .tuple cs=>.tuple (AV.lendL h cs)
 | v=>v
def AV.lendL(h:List Blk):List AV->List AV
 | []=>[]
 | a::l=>a.lend h::AV.lendL h l
end
def zv:AV->List Nat
 | .vec b=>[b]
 | .agg cs=>cs.filterMap fun|.vec b=>some b|_=>none
 | _=>[]
def Blk.plain:Blk->Bool
 | .cells cs=>(AV.menL cs).isEmpty
 | .big cs _ _ _=>(AV.menL cs).isEmpty
 | _=>false
def q2x(h:List Blk):List Nat->Option (List Blk)
 | []=>some []
 | b::l=>match h[b]?,q2x h l with
  | some k,some r=>if k.plain=true then some (k::r) else none
  | _,_=>none
def uz(h:List Blk):List Nat->List Blk->Option (List Blk)
 | [],_=>some h
 | b::l,k::r=>if k.plain=true then (uz h l r).map fun h'=>h'.set b k else none
 | _::_,[]=>none
def qfT(fp:List Nat)(n:Nat):Nat->Option Nat:=fun k=>if k<fp.length then fp[k]? else some (n+(k-fp.length))
abbrev wk:=List AV->List Blk->Tree (AV×List Blk)
def qx(h:List Blk):List Nat->List Blk
 | []=>h
 | b::l=>qx (zm h b) l
def q6w(h:List Blk):List Nat->List Blk
 | []=>h
 | b::l=>match h[b]? with
  | some (.cells cs)=>q6w (h.set b (.cells (AV.lendL h cs))) l
  | _=>q6w h l
def q3K(h:List Blk):List Nat->List Nat
 | []=>[]
 | b::l=>match h[b]? with
  | some (.cells cs)=>cs.flatMap zv++q3K h l
  | _=>q3K h l
def wj(h:List Blk)(args:List AV):List Blk:=
 let h1:=qx h (args.flatMap zv)
 let fp:=AV.menL (AV.lendL h1 args)
 q6w (qx h1 (q3K h1 fp)) fp
def uC(G:wk)(args:List AV)(st:St):Tree (AV×St):=
 let h1:=wj st.h args
 let args1:=AV.lendL h1 args
 let fp:=qd3 (AV.menL args1)
 match q2x h1 fp with
 | none=>.fail
 | some hin=>(G (AV.renL (qrx fp) args1) hin).bind fun r=>
   match uz h1 fp r.2 with
   | none=>.fail
   | some h2=>.leaf (r.1.ren (qfT fp h1.length),{ st with h:=h2++(r.2.drop fp.length).map (Blk.ren (qfT fp h1.length)) })
def qcs(h:List Blk)(b:Nat):Bool:=match h[b]? with|some (.frz _ _ _)=>true|_=>false
def q6Y(E:Env):Op->Bool
 | .move _|.assign _|.pick _ _ _|.load _ _|.build _ _|.nilCheck _|.binOp _ _ _ _ _|.unOp _ _ _|.convert _ _ _
 | .fieldAddr _ _ _|.field _ _ _|.indexAddr _ _ _|.index _ _ _|.extract _ _=>true
 | .slice t _ _ _ mx=>match (E.ty t).d with|.str=>true|.array _ _ _=>true|.slice _ _=>mx.isSome|_=>false
 | .makeFunc _ _ _=>true
 | .call { callee:=.builtin .len,.. }=>true
 | .call { callee:=.builtin .max,.. }=>true
 | .call { callee:=.builtin .min,.. }=>true
 | _=>false
abbrev q32:=FuncId->List AV->Tree AV
def qsL:AV->Bool
 | .vec _=>false
 | _=>true
def qc3(E:Env)(h:List Blk)(ev:Operand->AV)(op:Op):Tree (AV×Blk):=
 match op with
 | .buildSlice t len parts=>(match (E.ty t).d with
  | .slice e es=>
   if len*es<=16777216/\0<es/\(E.ty e).zero.length=es then
    (match q7O (fun i=>some (i*es,es)) ((List.replicate len ((E.ty e).zero.map vh)).flatten) (parts.toList.map fun p=>(p.1,ev p.2)),E.shape 16 e with
    | some cs,some sh=>if sh.length=es/\cs.all qsL=true then (match qbK h sh len cs with
     | some l=>.leaf (.vec h.length,.vec e sh l)
     | none=>.fail) else .fail
    | _,_=>.fail)
   else .fail
  | _=>.fail)
 | _=>.fail
def q7y(E:Env)(callS:q32)(h:List Blk)(ev:Operand->AV)(op:Op):Tree AV:=
 match op with
 | .call { callee:=.value x,args,argTypes:=_ }=>(match ev x with
  | .fn f first caps=>callS f (first++args.toList.map ev++caps)
  | _=>.fail)
 | op=>if q6Y E op then (qgl E h ev op).bind fun r=>.leaf r.1 else .fail
def q9M(ops:List Oper):List Nat:=ops.foldl (fun acc o=>acc++[o.after.toList.foldl (fun s e=>if Region.binds .any e then s ||| 2^e.on ||| acc.getD e.on 0 else s) 0]) []
def qpS(all:Array Oper)(o:Oper):List Tmp :=
  (o.op.operands.toList.filterMap fun|.tmp t=>some t|_=>none) ++
  (match o.guard with
   | some (g,_)=>((all[g]?).bind (·.dst)).toList
   | none=>[])
def qrC(all:Array Oper):Bool:=
 let ops:=all.toList
 let anc:=q9M ops
 let n:=ops.length
 (List.range n).all fun i=>
  match ops[i]? with
  | none=>false
  | some oi=>
   (oi.after.toList.all fun e=>!Region.binds .any e||decide (e.on<i)) &&
   (List.range n).all fun j=>j==i ||
    match ops[j]? with
    | none=>false
    | some oj=>match oj.dst with
     | none=>true
     | some t=>oi.dst != some t&&(!(qpS all oi).contains t||(anc.getD i 0).testBit j||(anc.getD j 0).testBit i)
def Blk.menB:Blk->List Nat
 | .cells cs=>AV.menL cs
 | .big cs _ _ _=>AV.menL cs
 | _=>[]
def q77:List Blk->List Nat
 | []=>[]
 | k::h=>k.menB++q77 h
def qdZ:List (List AV)->List Nat
 | []=>[]
 | a::l=>AV.menL a++qdZ l
def qfk:Op->Bool
 | .store _ _ _=>true
 | _=>false
def qaS(E:Env)(f:FuncId):Option wk:=(E.spec.find? fun x=>x.1==f).map (·.2)
def vr(ev:Operand->AV)(op:Op):Option (FuncId×List AV):=
 match op with
 | .call { callee:=.value x,args,argTypes:=_ }=>(match ev x with
  | .fn f first caps=>some (f,first++args.toList.map ev++caps)
  | _=>none)
 | _=>none
def qaQ(op:Op):Bool:=
 match op with
 | .call { callee:=.value _,args:=_,argTypes:=_ }=>true
 | _=>false
def qe2(E:Env)(h:List Blk)(ev:Operand->AV)(op:Op):Bool:=
 match qaQ op with
 | true=>(match vr ev op with
  | some (f,args)=>(match qaS E f with
   | some _=>E.raws.contains f||(!(args.flatMap zv).all (qcs h)||!(AV.menL (AV.lendL h args)).isEmpty)
   | none=>false)
  | none=>false)
 | false=>qfk op
def qfN(h:List Blk)(args:List AV):List Nat:=
 let h1:=qx h (args.flatMap zv)
 let fp:=AV.menL (AV.lendL h1 args)
 args.flatMap zv++q3K h1 fp++fp
def qnV(h:List Blk)(ev:Operand->AV)(op:Op):List Nat:=
 match vr ev op with
 | some (_,args)=>qfN h args
 | none=>(match op with
  | .store _ x _=>(ev x).men
  | _=>[])
def qsC(op:Op):Bool:=
 match op with
 | .move _|.assign _|.extract _ _|.fieldAddr _ _ _|.makeFunc _ _ _|.pick _ _ _|.build _ _=>false
 | _=>true
def qvN(E:Env)(ev:Operand->AV)(op:Op):Option (List Nat):=
 match qaQ op with
 | true=>(match vr ev op with
  | some (f,args)=>(match qaS E f with
   | some _=>some (AV.menL args)
   | none=>none)
  | none=>none)
 | false=>(match qsC op with
  | true=>some (AV.menL (op.operands.toList.map ev))
  | false=>some [])
def qiT(ev:Operand->AV)(op:Op):List Nat:=
 match vr ev op with
 | some (_,args)=>AV.menL args
 | none=>AV.menL (op.operands.toList.map ev)
def qnK(h:List Blk):List Nat->List Nat
 | []=>[]
 | b::l=>(match h[b]? with|some k=>k.menB|none=>[])++qnK h l
def qsh(h:List Blk)(ev:Operand->AV)(op:Op):List Nat:=
 match vr ev op with
 | some (_,args)=>
  let h1:=qx h (args.flatMap zv)
  AV.menL args++qnK h1 (AV.menL (AV.lendL h1 args))
 | none=>AV.menL (op.operands.toList.map ev)
def qep(E:Env)(h:List Blk)(ev:Operand->AV)(op:Op):Tree (AV×List Blk):=
 match vr ev op with
 | some (f,args)=>(match qaS E f with
  | some G=>(uC G args { t:=[],fs:=[],h:=h,pend:=none }).bind fun r=>.leaf (r.1,r.2.h)
  | none=>.fail)
 | none=>(match qfk op with
  | true=>(qgl E h ev op).bind fun r=>(match r.2.2 with
   | none=>.leaf (r.1,r.2.1)
   | some _=>.fail)
  | false=>.fail)
def qwc(anc:List Nat)(i j:Nat):Bool:=(anc.getD i 0).testBit j
def yl(all:Array Oper):Nat:=
 let ops:=all.toList
 let anc:=q9M ops
 ((List.range ops.length).find? fun m=>(List.range ops.length).all fun j=>decide (j<m)||(List.range j).all fun i=>(anc.getD j 0).testBit i).getD ops.length
structure LDesc where
 s:Option Nat
 r:Option (List Nat)
 w:List Nat
 v:List Nat
def qxe(op:Op):Bool:=
 match op with
 | .call { callee:=.builtin .append,args:=_,argTypes:=_ }=>true
 | _=>false
def qfa(op:Op):Option (FuncId×List Operand):=
 match op with
 | .call { callee:=.value (.func f),args:=args,argTypes:=_ }=>some (f,args.toList)
 | _=>none
def qvO(E:Env)(f:FuncId):Option TypeId:=(E.dels.find? fun x=>x.1==f).map (·.2)
def qiN(E:Env)(op:Op):Bool:=
 match op with
 | .buildSlice _ _ _=>true
 | .alloc _=>true
 | op=>qxe op||(match qfa op with
  | some (f,_)=>E.raws.contains f||(qvO E f).isSome
  | none=>false)
def qom(b:Nat):AV->Bool
 | .vec b'=>!Nat.beq b' b
 | _=>true
def qjB(_:Env)(_:List Blk)(_:TypeId)(_:List AV)(_:Nat):Tree (AV×List Blk):=.fail
def qro(E:Env)(h:List Blk)(f:FuncId)(args:List AV)(k:Nat):Tree (AV×List Blk):=
 match E.spec.find? fun x=>x.1==f with
 | some G=>(match (AV.menL (AV.lendL (qx h (args.flatMap zv)) args)).isEmpty with
  | true=>(G.2 (AV.lendL (qx h (args.flatMap zv)) args) []).bind fun r=>(match r with
   | (.vec 0,[.vec e sh l])=>.leaf (.vec k,(qx h (args.flatMap zv)).set k (.vec e sh l))
   | _=>.fail)
  | false=>.fail)
 | none=>.fail
def qks(E:Env)(h:List Blk)(t:TypeId)(k:Nat):Tree (AV×List Blk):=
 match q92 E t with
 | some z=>(match z.menB.isEmpty with
  | true=>.leaf (.ptr k 0,h.set k z)
  | false=>.fail)
 | none=>.fail
def qmp(E:Env)(h:List Blk)(t:TypeId)(s x:AV)(k:Nat):Tree (AV×List Blk) :=
  match (E.ty t).d with
  | .slice e es=>(match E.shape 16 e,wn h x with
    | some sh,some (sh',m) =>
      if (sh.length = es /\ 0 < es /\ (E.ty e).zero.length = es) /\ Sh.beqL sh sh' = true then
        (match s with
        | .nils=>.br (ile (qh m) (qiA (E.ty e).bytes)) (.leaf (.vec k,(j6 h x).set k (.vec e sh m))) .fail
        | .vec b=>(match h[b]? with
          | some (.vec e' sh'' l)=>if (Sh.beqL sh sh''=true/\e=e')/\qom b x=true then
              .br (ile (qh l+qh m) (qiA (E.ty e).bytes)) (.leaf (.vec k,((j6 h x).set b .dead).set k (.vec e sh (q1i l m)))) .fail else .fail
          | _=>.fail)
        | .full sh'' l=>if Sh.beqL sh sh''=true then
            .br (ilt 0 (qh m)) (.br (ile (qh l+qh m) (qiA (E.ty e).bytes)) (.leaf (.vec k,(j6 h x).set k (.vec e sh (q1i l m)))) .fail) .fail else .fail
        | _=>.fail) else .fail
    | _,_=>.fail)
  | _=>.fail
def qjg:Option Blk->Bool
 | some .dead=>true
 | _=>false
def qmL(E:Env)(h:List Blk)(ts:List TypeId)(azz:List AV)(k:Nat):Tree (AV×List Blk):=
 match ts,azz with
 | [t,t'],[s,x]=>if t=t' then qmp E h t s x k else .fail
 | _,_=>.fail
def qjX(E:Env)(h:List Blk)(ev:Operand->AV)(op:Op)(k:Nat):Tree (AV×List Blk):=
 match qfa op with
 | some (f,xs)=>(match qvO E f with
  | some e=>qjB E h e (xs.map ev) k
  | none=>qro E h f (xs.map ev) k)
 | none=>.fail
def q1x(E:Env)(callS:List Blk->q32)(h:List Blk)(ev:Operand->AV)(op:Op)(k:Nat):Tree (AV×List Blk):=
 match qiN E op with
 | false=>(match qe2 E h ev op with
  | true=>(qep E h ev op).bind fun r=>(match Nat.beq r.2.length h.length with
   | true=>.leaf r
   | false=>.fail)
  | false=>(q7y E (callS h) h ev op).bind fun v=>.leaf (v,h))
 | true=>(match qjg h[k]? with
  | true=>(match op with
   | .buildSlice _ _ _=>(qc3 E h ev op).bind fun r=>.leaf (.vec k,h.set k r.2)
   | .alloc t=>qks E h t k
   | .call { callee:=.builtin .append,args:=args,argTypes:=tys }=>qmL E h tys.toList (args.toList.map ev) k
   | op=>qjX E h ev op k)
  | false=>.fail)
def wx(E:Env)(h:List Blk)(ev:Operand->AV)(op:Op)(k:Nat)(v:AV)(g:List Blk):LDesc:=
 match qiN E op with
 | true=>⟨some k,some (k::qiT ev op),k::qiT ev op,v.men++qnK g (k::qiT ev op)⟩
 | false=>(match qe2 E h ev op with
  | true=>⟨none,some (qsh h ev op++qnV h ev op),qnV h ev op,v.men++qnK g (qnV h ev op)⟩
  | false=>⟨none,qvN E ev op,[],v.men⟩)
def qtL(w:List Nat)(r:Option (List Nat)):Bool:=
 match w with
 | []=>true
 | w=>(match r with
  | some l=>w.all fun b=>!l.contains b
  | none=>false)
def qwX(s:Option Nat)(v:List Nat):Bool:=
 match s with
 | some k=>v.contains k
 | none=>false
def qal(anc:List Nat)(x:Nat×LDesc)(k:Nat)(d:LDesc):Bool:=!qwX d.s x.2.v&&(qwc anc k x.1||(!qwX x.2.s d.v&&(qtL x.2.w d.r&&qtL d.w x.2.r)))
def qn3(E:Env)(callS:List Blk->q32)(all:Array Oper)(anc:List Nat):Nat->List Oper->Nat->List (Nat×LDesc)->St->Tree St
 | _,[],_,_,st=>.leaf st
 | k,o::rest,c,ds,st=>match q2o all o st.t with
  | some true=>(q1x E callS st.h (E.opd st.t) o.op c).bind fun r=>
    (match ((wx E st.h (E.opd st.t) o.op c r.1 r.2).v.all fun b=>Nat.blt b st.h.length)&&ds.all fun x=>qal anc x k (wx E st.h (E.opd st.t) o.op c r.1 r.2) with
    | true=>(qiS all k o { st with t:=qbY st.t o.dst r.1,h:=r.2 }).bind (qn3 E callS all anc (k+1) rest (match qiN E o.op with|true=>c+1|false=>c) (ds++[(k,wx E st.h (E.opd st.t) o.op c r.1 r.2)]))
    | false=>.fail)
  | some false=>qn3 E callS all anc (k+1) rest c ds (qrE o st)
  | none=>.fail
def qx7(E:Env)(l:List Oper):Nat:=(l.filter fun o=>qiN E o.op).length
def qsp(E:Env)(callH:q4j)(callS:List Blk->q32)(all:Array Oper)(st:St):Tree St:=
 if qrC all=false then .fail else
 (qn3 E callS all (q9M all.toList) 0 (all.toList.take (yl all)) st.h.length [] { st with h:=st.h++List.replicate (qx7 E (all.toList.take (yl all))) .dead }).bind fun r=>
  qcH E callH all (yl all) (all.toList.drop (yl all)) r
def zk:Code->Nat
 | .seq a b=>1+zk a+zk b
 | .cond _ a b=>zk a+zk b
 | .block _ c=>zk c
 | .scope c=>zk c
 | .loop c=>1+zk c
 | .rangeFunc _ _ a b=>1+zk a+zk b
 | _=>0
def q59(l:List ((Nat×Nat)×(St->Tree (Ex×St))))(f k:Nat):Option (St->Tree (Ex×St)):=
 match l with
 | []=>none
 | x::l=>if Nat.beq x.1.1 f&&Nat.beq x.1.2 k then some x.2 else q59 l f k
def qbq(l:List (FuncId×FuncId×Nat))(g:Nat):Option (FuncId×Nat):=
 match l with
 | []=>none
 | x::l=>if Nat.beq x.1 g then some x.2 else qbq l g
def qjC(l:List (FuncId×FuncId×Nat))(g f k:Nat):Bool:=match qbq l g with
 | some y=>Nat.beq y.1 f&&Nat.beq y.2 k
 | none=>false
def q47(l:List (FuncId×FuncId×Nat))(f:Nat):Bool:=match qbq l f with
 | some _=>false
 | none=>true
def qh0(t:List AV):List Tmp->List AV->List AV
 | d::ds,v::vs=>qh0 (t.set d v) ds vs
 | _,_=>t
def qlq(evA evB:St->Tree (Ex×St))(ps:List Tmp):qpn:=fun args st=>
 match st.pend,st.fs with
 | none,ct::fs=>(match Nat.beq args.length ps.length with
  | true=>(evA { t:=qh0 ct ps args,fs:=st.t::ct::fs,h:=st.h,pend:=none }).bind fun r=>(match r.1 with
   | .normal=>(evB r.2).bind fun q=>(match q.2.fs with
    | it::fs'=>(match q.1 with
     | .normal=>.leaf (.blit true,{ t:=it,fs:=fs',h:=q.2.h,pend:=none })
     | .ret=>.leaf (.blit false,{ t:=it,fs:=fs',h:=q.2.h,pend:=some .ret })
     | .exit i=>.leaf (.blit false,{ t:=it,fs:=fs',h:=q.2.h,pend:=some (.exit i) }))
    | []=>.fail)
   | _=>.fail)
  | false=>.fail)
 | _,_=>.fail
def qmS(st:St):Bool:=match st.fs,st.pend with
 | [[]],none=>AV.noYL st.t&&st.h.all Blk.noY
 | _,_=>false
def qs2(r:AV×St):Tree (Ex×St):=match qmS { r.2 with pend:=none } with
 | true=>(match r.2.pend with
  | none=>.leaf (.normal,{ r.2 with pend:=none })
  | some .ret=>.leaf (.ret,{ r.2 with pend:=none })
  | some (.exit i)=>.leaf (.exit i,{ r.2 with pend:=none })
  | some .normal=>.fail)
 | false=>.fail
def uOf:AV->Option (Sh×U)
 | .str s=>some (.str,.s s)
 | .int k n=>some (.int k,.i n)
 | .ilit k n=>some (.int k,.i n)
 | .bool b=>some (.bool,.b b)
 | .blit b=>some (.bool,.b b)
 | .imm sh l=>some (.sl sh,.l l)
 | _=>none
def qwa:List AV->Option (List Sh×List U)
 | []=>some ([],[])
 | a::l=>match uOf a,qwa l with
  | some (s,u),some (ss,us)=>some (s::ss,u::us)
  | _,_=>none
def qwU(b:Nat)(sh:List Sh)(row:List U):AV->AV
 | .ptr b' off=>if Nat.beq b' b then .eptr sh [row] 0 off else .ptr b' off
 | a=>a
def qqN(ni b:Nat)(st:St):St:=
 match st.h[b]? with
 | some (.cells cs)=>(match qwa cs,Nat.ble ni b with
  | some (sh,row),true=>{ st with t:=st.t.map (qwU b sh row),h:=st.h.set b .dead }
  | _,_=>st)
 | _=>st
def qqS:AV->Option Nat
 | .ptr b _=>some b
 | _=>none
def qvW(o:Oper)(i:Nat):Bool:=match o.dst with
 | some j=>Nat.beq i j
 | none=>false
def quG(E:Env)(ops:List Oper)(t:List AV):Option Nat:=
 ops.findSome? fun o=>match o.op with
  | .slice ty (.tmp i) _ _ _=>(match (E.ty ty).d with
   | .array n e _=>(match (E.ty e).d,Nat.ble n 16 with
    | .str,true=>(match ops.findSome? fun q=>if qvW q i then (match q.op with|.fieldAddr _ (.tmp j) _=>some j|_=>none) else none with
     | some j=>qqS (t.getD j .undef)
     | none=>qqS (t.getD i .undef))
    | _,_=>none)
   | _=>none)
  | .makeFunc (.func f) _ caps=>(match E.raws.contains (f+1000000) with
   | true=>caps.toList.findSome? fun x=>(match x with
    | .tmp i=>qqS (t.getD i .undef)
    | _=>none)
   | false=>none)
  | _=>none
def qjL(E:Env)(ops:List Oper)(st:St):St:=
 match quG E ops st.t with
 | some b=>qqN E.nimp b st
 | none=>st
def j4(E:Env)(callH:q4j)(callS:List Blk->q32)(rangeH:q85)(f:FuncId):Code->Nat->St->Tree (Ex×St)
 | .skip,_,st=>.leaf (.normal,st)
 | .label _,_,st=>.leaf (.normal,st)
 | .region _ ops draw,_,st=>((match draw with
   | true=>qsp E callH callS ops (qjL E ops.toList st)
   | false=>qcH E callH ops 0 ops.toList (qjL E ops.toList st)):Tree St).bind fun s=>.leaf (.normal,s)
 | .seq a b,k,st=>match q59 E.loops f k with
  | some L=>L st
  | none=>(j4 E callH callS rangeH f a (k+1) st).bind fun r=>match r.1 with
   | .normal=>j4 E callH callS rangeH f b (k+1+zk a) r.2
   | e=>.leaf (e,r.2)
 | .cond c a b,k,st=>match E.opd st.t c with
  | .blit true=>j4 E callH callS rangeH f a k st
  | .blit false=>j4 E callH callS rangeH f b (k+zk a) st
  | .bool x=>match c with
   | .tmp d=>.br x (j4 E callH callS rangeH f a k { st with t:=st.t.set d (.blit true) }) (j4 E callH callS rangeH f b (k+zk a) { st with t:=st.t.set d (.blit false) })
   | _=>.fail
  | _=>.fail
 | .block id c,k,st=>(j4 E callH callS rangeH f c k st).bind fun r=>match r.1 with
  | .exit i=>if i=id then .leaf (.normal,r.2) else .leaf (.exit i,r.2)
  | e=>.leaf (e,r.2)
 | .loop _,k,st=>match q59 E.loops f k with
  | some L=>L st
  | none=>.fail
 | .exit id,_,st=>.leaf (.exit id,st)
 | .ret,_,st=>.leaf (.ret,st)
 | .rangeFunc x ps a b,k,st=>(match E.opd st.t x with
  | .fn g first caps=>(match qjC E.iter g f k&&q47 E.iter f&&qmS st with
   | true=>(rangeH g (qlq (j4 E callH callS rangeH f a (k+1)) (j4 E callH callS rangeH f b (k+1+zk a)) ps.toList) (first++[.yld]++caps) st).bind qs2
   | false=>.fail)
  | _=>.fail)
 | _,_,_=>.fail
def qg1(E:Env)(h:List Blk)(t:List AV):List ResultVar->Option (List AV)
 | []=>some []
 | .tmp i::l=>match qg1 E h t l with|some r=>some (t.getD i .undef::r)|none=>none
 | .cell a ty::l=>match (q9h E h ty (t.getD a .undef)),qg1 E h t l with
  | .leaf (v,_,_),some r=>some (v::r)
  | _,_=>none
def qrI:List AV->AV
 | [v]=>v
 | l=>.tuple l
def qu3(E:Env)(fn:Func)(r:Ex×St):Tree (AV×St):=
 match r.1 with
 | .exit _=>.fail
 | _=>match qg1 E r.2.h r.2.t fn.results.toList,r.2.fs with
  | some vs,caller::fs=>.leaf (qrI vs,{ t:=caller,fs:=fs,h:=r.2.h,pend:=r.2.pend })
  | _,_=>.fail
def qq4(fn:Func)(args:List AV):List AV:=args++List.replicate (fn.ntmps-args.length) .skip
def q5g(E:Env)(h:List Blk):q32:=fun f args=>
 match E.spec.find? fun x=>x.1==f with
 | none=>.fail
 | some G=>if (args.flatMap zv).all (qcs h)/\(AV.menL (AV.lendL h args)).isEmpty then
   (G.2 (AV.lendL h args) []).bind fun r=>match r.2 with|[]=>if (r.1.men).isEmpty then .leaf r.1 else .fail|_=>.fail
  else .fail
def qjt(E:Env)(h:List Blk)(all:Array Oper):Nat->List Oper->List AV->Tree (List AV)
 | _,[],t=>.leaf t
 | k,o::rest,t=>match q2o all o t with
  | some true=>(match q6Y E o.op with
   | true=>(qgl E h (E.opd t) o.op).bind fun r=>(qiS all k o { t:=qbY t o.dst r.1,fs:=[],h:=h,pend:=none }).bind fun s=>qjt E h all (k+1) rest s.t
   | false=>.fail)
  | some false=>qjt E h all (k+1) rest (qbY t o.dst .skip)
  | none=>.fail
def kj(E:Env)(h:List Blk)(f:FuncId):Code->Nat->List AV->Tree (Ex×List AV)
 | .skip,_,t=>.leaf (.normal,t)
 | .label _,_,t=>.leaf (.normal,t)
 | .region _ ops draw,_,t=>(match draw with
  | true=>.fail
  | false=>(match quG E ops.toList t with
   | some _=>.fail
   | none=>(qjt E h ops 0 ops.toList t).bind fun t=>.leaf (.normal,t)))
 | .seq a b,k,t=>(match q59 E.loops f k with
  | some _=>.fail
  | none=>(kj E h f a (k+1) t).bind fun r=>match r.1 with
   | .normal=>kj E h f b (k+1+zk a) r.2
   | e=>.leaf (e,r.2))
 | .cond c a b,k,t=>(match E.opd t c with
  | .blit true=>kj E h f a k t
  | .blit false=>kj E h f b (k+zk a) t
  | .bool x=>(match c with
   | .tmp d=>.br x (kj E h f a k (t.set d (.blit true))) (kj E h f b (k+zk a) (t.set d (.blit false)))
   | _=>.fail)
  | _=>.fail)
 | .block id c,k,t=>(kj E h f c k t).bind fun r=>match r.1 with
  | .exit i=>if i=id then .leaf (.normal,r.2) else .leaf (.exit i,r.2)
  | e=>.leaf (e,r.2)
 | .exit id,_,t=>.leaf (.exit id,t)
 | .ret,_,t=>.leaf (.ret,t)
 | _,_,_=>.fail
def qmV(E:Env)(h:List Blk)(f:FuncId)(fn:Func)(args:List AV):Tree AV:=
 match fn.body with
 | none=>.fail
 | some c=>(kj E h f c 0 (qq4 fn args)).bind fun r=>match r.1 with
  | .exit _=>.fail
  | _=>(match qg1 E h r.2 fn.results.toList with
   | some vs=>.leaf (qrI vs)
   | none=>.fail)
def q48(E:Env)(h:List Blk):q32:=fun f args=>
 match E.spec.find? fun x=>x.1==f with
 | some _=>q5g E h f args
 | none=>(match E.body.find? fun x=>x.1==f with
  | some fn=>(match q47 E.iter f with
   | true=>qmV E h f fn.2 args
   | false=>.fail)
  | none=>.fail)
def qlc:List Blk->q32:=fun _ _ _=>.fail
def qjS(E:Env)(callS:List Blk->q32)(callH:q4j)(rangeH:q85)(f:FuncId)(fn:Func)(args:List AV)(st:St):Tree (AV×St):=
 match fn.body with
 | none=>.fail
 | some c=>(j4 E callH callS rangeH f c 0 { t:=qq4 fn args,fs:=st.t::st.fs,h:=st.h,pend:=st.pend }).bind (qu3 E fn)
def qp1(E:Env)(callH:q4j)(rangeH:q85)(f:FuncId)(fn:Func)(args:List AV)(st:St):Tree (AV×St):=
 match fn.body with
 | none=>.fail
 | some c=>(j4 E callH (q48 E) rangeH f c 0 { t:=qq4 fn args,fs:=st.t::st.fs,h:=st.h,pend:=st.pend }).bind (qu3 E fn)
def qjU:q85:=fun _ _ _ _=>.fail
def qcw(E:Env)(callH:q4j):q85:=fun g y args st=>match E.body.find? fun x=>x.1==g with
 | some fn=>qp1 E (qtD y callH) qjU g fn.2 args st
 | none=>.fail
def qqX(_:Env)(_:TypeId)(_:List AV)(_:St):Tree (AV×St):=.fail
def q4A(E:Env):Nat->q4j
  | 0=>fun _ _ _=>.fail
  | n+1=>fun o args st=>match o with
    | none=>.fail
    | some f=>match qvO E f with
     | some e=>qqX E e args st
     | none=>match E.spec.find? fun x=>x.1==f with
      | some G=>uC G.2 args st
      | none=>match E.body.find? fun x=>x.1==f with
        | some fn=>(match q47 E.iter f with
          | true=>(qp1 E (q4A E n) (qcw E (q4A E n)) f fn.2 args st).bind fun r=>.leaf (r.1,{ t:=r.2.t,fs:=r.2.fs,h:=r.2.h,pend:=st.pend })
          | false=>.fail)
        | none=>.fail
def qov(E:Env)(n:Nat)(f:FuncId)(fn:Func):wk:=fun args h=>match q47 E.iter f with
 | true=>(qp1 E (q4A E n) (qcw E (q4A E n)) f fn args { t:=[],fs:=[],h:=h,pend:=none }).bind fun r=>.leaf (r.1,r.2.h)
 | false=>.fail
variable {l:R}{sh:List Sh}{v:Value}{w:World}
theorem Tree.run_bind {α β:Type}(t:Tree α)(f:α->Tree β):(t.bind f).run=t.run.bind fun a=>(f a).run:=by
 induction t with
 | leaf a=>rfl
 | br b t e iht ihe=>cases b<;>simp[Tree.bind,Tree.run,iht,ihe]
 | fail=>rfl
theorem bind_some {α β:Type}{t:Tree α}{f:α->Tree β}{b:β}(h:(t.bind f).run=some b):∃a,t.run=some a/\(f a).run=some b:=by
 rw[Tree.run_bind] at h;cases ht:t.run with
 | none=>rw[ht] at h;cases h
 | some a=>rw[ht] at h;exact⟨a,rfl,h⟩
inductive RepU (w:World) (M:Nat->Prop):Sh->U->Value->Prop
 | int (k:IntKind) (u:U):RepU w M (.int k) u (.int k u.toI)
 | bool (u:U):RepU w M .bool u (.bool u.toB)
 | str (u:U):RepU w M .str u (.string ⟨u.toS.toArray⟩)
 | slnil (row:List Sh) (u:U) (h:u.toR=[]):RepU w M (.sl row) u (.slice none 0 0)
 | sl (row:List Sh) (u:U) (a:Addr) (cap:Nat) (vs:Nat->Nat->Value) (hsp:0<u.toR.length->a.spot=none) (hcap:u.toR.length<=cap)
   (hM:∀r j,r<u.toR.length->j<row.length->M a.block)
   (hc:∀r j,r<u.toR.length->j<row.length->w.cell? ⟨a.block,a.off+r*row.length+j,none⟩=some (vs r j))
   (hr:∀r j (hj:j<row.length),r<u.toR.length->RepU w M row[j] (wv u.toR r j) (vs r j)) :
   RepU w M (.sl row) u (.slice (some a) u.toR.length cap)
def Rows(w:World)(M:Nat->Prop)(sh:List Sh)(l:R)(a:Addr):Prop:=∀r j (hj:j<sh.length),r<l.length->M a.block/\∃v,w.cell? ⟨a.block,a.off+r*sh.length+j,none⟩=some v/\RepU w M sh[j] (wv l r j) v
def q8A(w:World)(M:Nat->Prop)(sh:List Sh)(l:R)(v:Value):Prop:=(v=.slice none 0 0/\l=[])\/∃a cap,v=.slice (some a) l.length cap/\(0<l.length->a.spot=none)/\l.length<=cap/\Rows w M sh l a
theorem qdq {M:Nat->Prop}{row:List Sh}{u:U}(h:RepU w M (.sl row) u v):q8A w M row u.toR v:=by
 cases h with
 | slnil _ _ h=>exact .inl ⟨rfl,h⟩
 | sl _ _ a cap vs hsp hcap hM hc hr=>exact .inr ⟨a,cap,rfl,hsp,hcap,fun r j hj hrr=>⟨hM r j hrr hj,vs r j,hc r j hrr hj,hr r j hj hrr⟩⟩
open Classical in
theorem q5d {M:Nat->Prop}{row:List Sh}(h:q8A w M row l v):RepU w M (.sl row) (.l l) v:=by
 rcases h with⟨rfl,rfl⟩|⟨a,cap,rfl,hsp,hcap,hr⟩
 ·exact .slnil _ _ rfl
 ·exact .sl row (.l l) a cap (fun r j=>if h:∃hj:j<row.length,r<l.length then Classical.choose (hr r j h.1 h.2).2 else undef) hsp hcap
   (fun r j h1 h2=>(hr r j h2 h1).1)
   (fun r j h1 h2=>by rw[dif_pos ⟨h2,h1⟩];exact(Classical.choose_spec (hr r j h2 h1).2).1)
   (fun r j h2 h1=>by rw[dif_pos ⟨h2,h1⟩];exact(Classical.choose_spec (hr r j h2 h1).2).2)
theorem RepU.mono {w w':World}{M M':Nat->Prop}{s:Sh}{u:U}(h:RepU w M s u v)(hM:∀n,M n->M' n) (hw:∀a:Addr,M a.block->w'.cell? a=w.cell? a):RepU w' M' s u v:=by
 induction h with
 | int=>exact .int _ _
 | bool=>exact .bool _
 | str=>exact .str _
 | slnil row u h=>exact .slnil _ _ h
 | sl row u a cap vs hsp hcap h1 hc hr ih=>
  exact .sl row u a cap vs hsp hcap (fun r j h2 h3=>hM _ (h1 r j h2 h3)) (fun r j h2 h3=>by rw[hw ⟨a.block,a.off+r*row.length+j,none⟩ (h1 r j h2 h3)];exact hc r j h2 h3) ih
theorem Rows.mono {w w':World}{M M':Nat->Prop}{a:Addr}(h:Rows w M sh l a)(hM:∀n,M n->M' n) (hw:∀a:Addr,M a.block->w'.cell? a=w.cell? a):Rows w' M' sh l a:=by intro r j hj hr;obtain⟨h1,v,h2,h3⟩:=h r j hj hr;exact⟨hM _ h1,v,by rw[hw ⟨a.block,_,none⟩ h1];exact h2,h3.mono hM hw⟩
theorem q8A.mono {w w':World}{M M':Nat->Prop}(h:q8A w M sh l v)(hM:∀n,M n->M' n) (hw:∀a:Addr,M a.block->w'.cell? a=w.cell? a):q8A w' M' sh l v:=by
 rcases h with h|⟨a,cap,h1,h2,hc,h3⟩
 ·exact .inl h
 ·exact .inr ⟨a,cap,h1,h2,hc,h3.mono hM hw⟩
structure Ctx where
 σ:Nat->Option Nat
 h:List Blk
 w:World
 M:Nat->Prop
 kept:List (Nat×Obj):=[]
 y:Nat:=0
def Ctx.isVec(X:Ctx)(b:Nat)(sh:List Sh)(n:Nat):Prop:=∃e l,(X.h[b]?=some (.vec e sh l)\/X.h[b]?=some (.frz e sh l))/\l.length=n
def qmm(X:Ctx)(b:Nat)(sh:List Sh)(m:Nat)(v:Value):Prop:=
 match X.σ b with
 | none=>∃p,v=.slice p 0 0
 | some n=>∃cap,v=.slice (some ⟨n,0,none⟩) m cap/\m<=cap/\cap<=maxLen/\∃c T fr,X.w.heap[n]?=some (.cells c T fr)/\c.size=cap*sh.length
def uE(k:IntKind)(l:R):List Value:=l.map fun row=>.int k (row.getD 0 (.i 0)).toI
theorem jy (k:IntKind)(l:R):(uE k l).length=l.length:=by simp[uE]
theorem qa9 {k:IntKind}{i:Nat}(h:i<l.length):(uE k l)[i]?=some (.int k (cI l i 0)):=by simp[uE,cI,wv,h]
mutual
inductive Rep (X:Ctx):AV->Value->Prop
 | undef (v:Value):Rep X .undef v
 | skip:Rep X .skip Go.undef
 | yld:Rep X .yld (.func (.yield X.y) #[] #[])
 | blit (b:Bool):Rep X (.blit b) (.bool b)
 | bool (b:Bool):Rep X (.bool b) (.bool b)
 | ilit (k:IntKind) (n:Int):Rep X (.ilit k n) (.int k n)
 | int (k:IntKind) (n:Int):Rep X (.int k n) (.int k n)
 | str (s:qxA):Rep X (.str s) (.string ⟨s.toArray⟩)
 | nilp:Rep X .nilp (.pointer none)
 | ptr (b off n:Nat) (hb:b<X.h.length) (hσ:X.σ b=some n):Rep X (.ptr b off) (.pointer (some ⟨n,off,none⟩))
 | eptr (sh:List Sh) (l:R) (i:Int) (off:Nat) (a:Addr) (hsp:a.spot=none) (h0:0<=i) (h1:i.toNat<l.length) (hr:Rows X.w X.M sh l a) :
   Rep X (.eptr sh l i off) (.pointer (some ⟨a.block,a.off+i.toNat*sh.length+off,none⟩))
 | mnil (sh:List Sh) (l:R) (i:Int) (off:Nat):Rep X (.mptr false sh l i off) (.pointer none)
 | mptr (sh:List Sh) (l:R) (i:Int) (off:Nat) (a:Addr) (hsp:a.spot=none) (h0:0<=i) (h1:i.toNat<l.length) (hr:Rows X.w X.M sh l a) :
   Rep X (.mptr true sh l i off) (.pointer (some ⟨a.block,a.off+i.toNat*sh.length+off,none⟩))
 | vptr (b:Nat) (i:Int) (off n k:Nat) (hb:b<X.h.length) (hσ:X.σ b=some n)
   (h:∀sh m,X.isVec b sh m->0<=i/\i.toNat<m/\k=i.toNat*sh.length):Rep X (.vptr b i off) (.pointer (some ⟨n,k+off,none⟩))
 | vsub (b:Nat) (i:Int) (n k m c:Nat) (hb:b<X.h.length) (hσ:X.σ b=some n)
   (h:∀sh m',X.isVec b sh m'->0<=i/\i.toNat<=m'/\(k=i.toNat*sh.length\/(m=0/\k=0))/\m=m'-i.toNat):Rep X (.vsub b i) (.slice (some ⟨n,k,none⟩) m c)
 | aptr (b o:Nat) (i:Int) (n:Nat) (hb:b<X.h.length) (hσ:X.σ b=some n) (h0:0<=i):Rep X (.aptr b o i) (.pointer (some ⟨n,o+i.toNat,none⟩))
 | asub (b o N:Nat) (i m:Int) (n k c:Nat) (hb:b<X.h.length) (hσ:X.σ b=some n) (h0:0<=i) (h1:0<=m) (h2:i+m<=N) (hk:k=o+i.toNat\/m=0):Rep X (.asub b o N i m) (.slice (some ⟨n,k,none⟩) m.toNat c)
 | nils:Rep X .nils (.slice none 0 0)
 | imm (sh:List Sh) (l:R) (v:Value) (h:q8A X.w X.M sh l v):Rep X (.imm sh l) v
 | full (sh:List Sh) (l:R) (p:Option Addr) (n:Nat) (h:q8A X.w X.M sh l (.slice p n n)):Rep X (.full sh l) (.slice p n n)
 | vec (b:Nat) (p:Option Addr) (n c:Nat) (hb:b<X.h.length) (h:∀sh m,X.isVec b sh m->qmm X b sh m (.slice p n c)):Rep X (.vec b) (.slice p n c)
 | nilf:Rep X .nilf .nilFunc
 | fn (f:FuncId) (first caps:List AV) (vf vc:List Value) (h1:RepL X first vf) (h2:RepL X caps vc):Rep X (.fn f first caps) (.func (.func f) vf.toArray vc.toArray)
 | agg (cs:List AV) (vs:List Value) (h:RepL X cs vs):Rep X (.agg cs) (.agg vs.toArray)
 | tuple (cs:List AV) (vs:List Value) (h:RepL X cs vs):Rep X (.tuple cs) (.tuple vs.toArray)
 | bagg (cs:List AV) (k:IntKind) (n:Nat) (l:R) (vs:List Value) (h:RepL X cs vs) (hl:l.length=n):Rep X (.bagg cs k n l) (.agg (vs++uE k l).toArray)
inductive RepL (X:Ctx):List AV->List Value->Prop
 | nil:RepL X [] []
 | cons {a:AV} {v:Value} {azz:List AV} {vs:List Value} (h:Rep X a v) (t:RepL X azz vs):RepL X (a::azz) (v::vs)
end
structure MoveB (X X':Ctx) (b b':Nat):Prop where
 lt:b'<X'.h.length
 σ:X'.σ b'=X.σ b
 vec:∀sh m,X'.isVec b' sh m->X.isVec b sh m
 size:∀sh m,X'.isVec b' sh m->∀n,X.σ b=some n->∀c T fr,X.w.heap[n]?=some (.cells c T fr)->∃c' T' fr',X'.w.heap[n]?=some (.cells c' T' fr')/\c'.size=c.size
structure Move0 (X X':Ctx) (f:Nat->Option Nat):Prop where
 M:∀n,X.M n->X'.M n
 w:∀a:Addr,X.M a.block->X'.w.cell? a=X.w.cell? a
 b:∀b b',b<X.h.length->f b=some b'->MoveB X X' b b'
 y:X'.y=X.y
structure Move (X X':Ctx) (f:Nat->Option Nat):Prop extends Move0 X X' f where
 kept:X'.kept=X.kept
theorem Move.of {X X':Ctx}{f:Nat->Option Nat}(M:∀n,X.M n->X'.M n)(w:∀a:Addr,X.M a.block->X'.w.cell? a=X.w.cell? a)(b:∀b b',b<X.h.length->f b=some b'->MoveB X X' b b') (y:X'.y=X.y:=by rfl) (k:X'.kept=X.kept:=by rfl):Move X X' f:=⟨⟨M,w,b,y⟩,k⟩
mutual
theorem Rep.ren{X X':Ctx}{f:Nat->Option Nat}(hm:Move0 X X' f):∀{av:AV} {v:Value},Rep X av v->Rep X' (av.ren f) v
 | _,_,.undef v=>.undef v
 | _,_,.skip=>.skip
 | _,_,.yld=>by rw[<-hm.y];exact .yld
 | _,_,.blit b=>.blit b
 | _,_,.bool b=>.bool b
 | _,_,.ilit k n=>.ilit k n
 | _,_,.int k n=>.int k n
 | _,_,.str s=>.str s
 | _,_,.nilp=>.nilp
 | _,_,.ptr b off n hb hσ=>by
  unfold AV.ren;cases hf:f b with
  | none=>exact .undef _
  | some b'=>exact .ptr b' off n (hm.b b b' hb hf).lt (by rw[(hm.b b b' hb hf).σ];exact hσ)
 | _,_,.eptr sh l i off a hsp h0 h1 hr=>.eptr sh l i off a hsp h0 h1 (hr.mono hm.M hm.w)
 | _,_,.mnil sh l i off=>.mnil sh l i off
 | _,_,.mptr sh l i off a hsp h0 h1 hr=>.mptr sh l i off a hsp h0 h1 (hr.mono hm.M hm.w)
 | _,_,.vptr b i off n k hb hσ h=>by
  unfold AV.ren;cases hf:f b with
  | none=>exact .undef _
  | some b'=>exact .vptr b' i off n k (hm.b b b' hb hf).lt (by rw[(hm.b b b' hb hf).σ];exact hσ) fun sh m hv=>h sh m ((hm.b b b' hb hf).vec sh m hv)
 | _,_,.vsub b i n k m c hb hσ h=>by
  unfold AV.ren;cases hf:f b with
  | none=>exact .undef _
  | some b'=>exact .vsub b' i n k m c (hm.b b b' hb hf).lt (by rw[(hm.b b b' hb hf).σ];exact hσ) fun sh m' hv=>h sh m' ((hm.b b b' hb hf).vec sh m' hv)
 | _,_,.aptr b o i n hb hσ h0=>by
  unfold AV.ren;cases hf:f b with
  | none=>exact .undef _
  | some b'=>exact .aptr b' o i n (hm.b b b' hb hf).lt (by rw[(hm.b b b' hb hf).σ];exact hσ) h0
 | _,_,.asub b o N i m n k c hb hσ h0 h1 h2 hk=>by
  unfold AV.ren;cases hf:f b with
  | none=>exact .undef _
  | some b'=>exact .asub b' o N i m n k c (hm.b b b' hb hf).lt (by rw[(hm.b b b' hb hf).σ];exact hσ) h0 h1 h2 hk
 | _,_,.nils=>.nils
 | _,_,.imm sh l v h=>.imm sh l v (h.mono hm.M hm.w)
 | _,_,.full sh l p n h=>.full sh l p n (h.mono hm.M hm.w)
 | _,_,.vec b p nn cc hb h=>by
  unfold AV.ren;cases hf:f b with
  | none=>exact .undef _
  | some b'=>
   refine .vec b' p nn cc (hm.b b b' hb hf).lt fun sh m hv=>?_;have h1:=h sh m ((hm.b b b' hb hf).vec sh m hv);unfold qmm at *;rw[(hm.b b b' hb hf).σ];cases hs:X.σ b with
   | none=>rw[hs] at h1;exact h1
   | some n=>
    rw[hs] at h1;obtain⟨cap,e1,e2,e2',c,T,fr,e3,e4⟩:=h1;obtain⟨c',T',fr',e5,e6⟩:=(hm.b b b' hb hf).size sh m hv n hs c T fr e3;exact⟨cap,e1,e2,e2',c',T',fr',e5,e6.trans e4⟩
 | _,_,.nilf=>.nilf
 | _,_,.fn g first caps vf vc h1 h2=>.fn g _ _ vf vc (RepL.ren hm h1) (RepL.ren hm h2)
 | _,_,.agg cs vs h=>.agg _ vs (RepL.ren hm h)
 | _,_,.tuple cs vs h=>.tuple _ vs (RepL.ren hm h)
 | _,_,.bagg cs k n l vs h hl=>.bagg _ k n l vs (RepL.ren hm h) hl
theorem RepL.ren{X X':Ctx}{f:Nat->Option Nat}(hm:Move0 X X' f):∀{av:List AV} {v:List Value},RepL X av v->RepL X' (AV.renL f av) v
 | _,_,.nil=>.nil
 | _,_,.cons h t=>.cons (Rep.ren hm h) (RepL.ren hm t)
end
mutual
theorem AV.ren_some:∀av:AV,av.ren some=av
 | .undef|.skip|.yld|.blit _|.bool _|.ilit _ _|.int _ _|.str _|.nilp|.eptr _ _ _ _|.mptr _ _ _ _ _|.nils|.imm _ _|.full _ _|.nilf=>rfl
 | .ptr _ _=>rfl
 | .vptr _ _ _=>rfl
 | .vsub _ _=>rfl
 | .aptr _ _ _=>rfl
 | .asub _ _ _ _ _=>rfl
 | .vec _=>rfl
 | .fn g first caps=>by simp[AV.ren,AV.renL_some first,AV.renL_some caps]
 | .agg cs=>by simp[AV.ren,AV.renL_some cs]
 | .tuple cs=>by simp[AV.ren,AV.renL_some cs]
 | .bagg cs k n l=>by simp[AV.ren,AV.renL_some cs]
theorem AV.renL_some:∀l:List AV,AV.renL some l=l
 | []=>rfl
 | a::l=>by simp[AV.renL,AV.ren_some a,AV.renL_some l]
end
abbrev Ext(X X':Ctx):Prop:=Move X X' some
theorem Rep.ext {X X':Ctx}(hm:Ext X X'){av:AV}(h:Rep X av v):Rep X' av v:=by have:=h.ren hm.toMove0;rwa [AV.ren_some] at this
theorem RepL.ext {X X':Ctx}(hm:Ext X X'){av:List AV}{v:List Value}(h:RepL X av v):RepL X' av v:=by have:=h.ren hm.toMove0;rwa [AV.renL_some] at this
theorem RepL.length{X:Ctx}:∀{azz:List AV} {vs:List Value},RepL X azz vs->azz.length=vs.length
 | _,_,.nil=>rfl
 | _,_,.cons _ t=>by simp[RepL.length t]
theorem RepL.get{X:Ctx}:∀{azz:List AV} {vs:List Value} (_:RepL X azz vs) (i:Nat) (a:AV),azz[i]?=some a->∃v,vs[i]?=some v/\Rep X a v
 | _,_,.nil,i,a,h=>by simp at h
 | _,_,.cons h _,0,a,e=>by simp at e;subst e;exact⟨_,by simp,h⟩
 | _,_,.cons _ t,i+1,a,e=>by
  obtain⟨v,h1,h2⟩:=RepL.get t i a (by simpa using e);exact⟨v,by simpa using h1,h2⟩
theorem RepL.getD {X:Ctx}{azz:List AV}{vs:List Value}(h:RepL X azz vs)(i:Nat):Rep X (azz.getD i .undef) (vs.getD i Go.undef):=by
 cases e:azz[i]? with
 | none=>
  have:azz.getD i .undef=.undef:=by simp[e]
  rw[this];exact .undef _
 | some a=>
  obtain⟨v,h1,h2⟩:=h.get i a e;simp[e,h1];exact h2
theorem RepL.append{X:Ctx}:∀{azz:List AV} {vs:List Value} {bs:List AV} {us:List Value},RepL X azz vs->RepL X bs us->RepL X (azz++bs) (vs++us)
 | _,_,_,_,.nil,h=>h
 | _,_,_,_,.cons h t,h'=>.cons h (RepL.append t h')
theorem RepL.take{X:Ctx}:∀{azz:List AV} {vs:List Value},RepL X azz vs->∀n,RepL X (azz.take n) (vs.take n)
 | _,_,.nil,n=>by simp;exact .nil
 | _,_,.cons h t,0=>by simp;exact .nil
 | _,_,.cons h t,n+1=>by simp;exact .cons h (RepL.take t n)
theorem RepL.drop{X:Ctx}:∀{azz:List AV} {vs:List Value},RepL X azz vs->∀n,RepL X (azz.drop n) (vs.drop n)
 | _,_,.nil,n=>by simp;exact .nil
 | _,_,.cons h t,0=>by simp;exact .cons h t
 | _,_,.cons h t,n+1=>by simp;exact RepL.drop t n
theorem RepL.set{X:Ctx}{a:AV}{v:Value}(hv:Rep X a v):∀{azz:List AV} {vs:List Value},RepL X azz vs->∀n,RepL X (azz.set n a) (vs.set n v)
 | _,_,.nil,n=>by simp;exact .nil
 | _,_,.cons h t,0=>by simp;exact .cons hv t
 | _,_,.cons h t,n+1=>by simp;exact .cons h (RepL.set hv t n)
def qm9(w:World)(M:Nat->Prop)(sh:List Sh)(l:R)(c:Array Value):Prop:=∀r j (hj:j<sh.length),r<l.length->∃v,c[r*sh.length+j]?=some v/\RepU w M sh[j] (wv l r j) v
theorem qm9.mono {w w':World}{M M':Nat->Prop}{c:Array Value}(h:qm9 w M sh l c)(hM:∀n,M n->M' n) (hw:∀a:Addr,M a.block->w'.cell? a=w.cell? a):qm9 w' M' sh l c:=by intro r j hj hr;obtain⟨v,h2,h3⟩:=h r j hj hr;exact⟨v,h2,h3.mono hM hw⟩
def vD(X:Ctx)(b:Nat):Blk->Prop
 | .cells cs=>∃n c T,X.σ b=some n/\X.w.heap[n]?=some (.cells c T (0,0))/\RepL X cs c.toList
 | .big cs k N l=>∃n c T vs,X.σ b=some n/\X.w.heap[n]?=some (.cells c T (0,0))/\RepL X cs vs/\c.toList=vs++uE k l/\l.length=N
 | .vec e sh l=>(X.σ b=none/\l=[])\/∃n c,X.σ b=some n/\X.w.heap[n]?=some (.cells c e (0,0))/\qm9 X.w X.M sh l c
 | .frz e sh l=>(X.σ b=none/\l=[])\/∃n c,X.σ b=some n/\X.w.heap[n]?=some (.cells c e (0,0))/\qm9 X.w X.M sh l c/\X.M n
 | .dead=>True
def Blk.mut:Blk->Bool
 | .cells _|.vec _ _ _|.big _ _ _ _=>true
 | _=>false
def Blk.solid:Blk->Bool
 | .cells _|.big _ _ _ _=>true
 | _=>false
def Ctx.own(X:Ctx)(b n:Nat):Prop:=X.σ b=some n/\∃k,X.h[b]?=some k/\k.mut=true
structure Base where
 w0:World
 imps:List (Option Nat)
 M0:Nat->Prop
 fs:List (List Value)
 ro:Option Nat:=none
 y:Nat:=0
 pin:Option Ex->List (Nat×Obj):=fun _=>[]
theorem Rep.ext0 {X X':Ctx}(hm:Move0 X X' some){av:AV}(h:Rep X av v):Rep X' av v:=by have:=h.ren hm;rwa [AV.ren_some] at this
theorem RepL.ext0 {X X':Ctx}(hm:Move0 X X' some){av:List AV}{v:List Value}(h:RepL X av v):RepL X' av v:=by have:=h.ren hm;rwa [AV.renL_some] at this
structure HSim (B:Base) (X:Ctx):Prop where
 blk:∀b k,X.h[b]?=some k->vD X b k
 inj:∀b b' n,X.own b n->X.own b' n->b=b'
 notM:∀b n,X.own b n->¬X.M n
 ltM:∀n,X.M n->n<X.w.heap.size
 M0:∀n,B.M0 n->X.M n
 newM:∀n,X.M n->B.M0 n\/B.w0.heap.size<=n
 os:X.w.os=B.w0.os
 tape:X.w.tape=B.w0.tape
 output:X.w.output=B.w0.output
 size:B.w0.heap.size<=X.w.heap.size
 frame:∀n,n<B.w0.heap.size->some n∉B.imps->X.w.heap[n]?=B.w0.heap[n]?
 imps:∀b,b<B.imps.length->X.σ b=(B.imps[b]?).join
 impc:∀b,b<B.imps.length->∃k,X.h[b]?=some k/\k.solid=true
 fresh:∀b n,X.own b n->B.imps.length<=b->B.w0.heap.size<=n
 kept:∀p,p∈X.kept->X.w.heap[p.1]?=some p.2/\(∀c T fr,p.2≠.cells c T fr)/\B.w0.heap.size<=p.1
theorem Ctx.own.lt {B:Base}{X:Ctx}(hs:HSim B X){b n:Nat}(h:X.own b n):n<X.w.heap.size:=by
 obtain⟨h1,k,h2,h3⟩:=h;have:=hs.blk b k h2;cases k with
 | cells cs=>
  obtain⟨n',c,T,e1,e2,_⟩:=this;rw[h1] at e1;cases e1;exact(qxI.1 e2).1
 | big cs k N l=>
  obtain⟨n',c,T,vs,e1,e2,_⟩:=this;rw[h1] at e1;cases e1;exact(qxI.1 e2).1
 | vec e sh l=>
  rcases this with⟨e1,_⟩|⟨n',c,e1,e2,_⟩
  ·rw[h1] at e1;cases e1
  ·rw[h1] at e1;cases e1;exact(qxI.1 e2).1
 | frz e sh l=>cases h3
 | dead=>cases h3
theorem Ctx.own.cells {B:Base}{X:Ctx}(hs:HSim B X){b n:Nat}(h:X.own b n):∃c T fr,X.w.heap[n]?=some (.cells c T fr):=by
 obtain⟨h1,k,h2,h3⟩:=h;have:=hs.blk b k h2;cases k with
 | cells cs=>
  obtain⟨n',c,T,e1,e2,_⟩:=this;rw[h1] at e1;cases e1;exact⟨_,_,_,e2⟩
 | big cs k N l=>
  obtain⟨n',c,T,vs,e1,e2,_⟩:=this;rw[h1] at e1;cases e1;exact⟨_,_,_,e2⟩
 | vec e sh l=>
  rcases this with⟨e1,_⟩|⟨n',c,e1,e2,_⟩
  ·rw[h1] at e1;cases e1
  ·rw[h1] at e1;cases e1;exact⟨_,_,_,e2⟩
 | frz e sh l=>cases h3
 | dead=>cases h3
theorem zu {n:Nat}{c:Array Value}{T:TypeId}{fr:Nat×Nat}(h:w.heap[n]?=some (.cells c T fr))(off:Nat):w.cell? ⟨n,off,none⟩=c[off]?:=by simp[World.cell?,h]
end Go.Eng

namespace Go.Eng
variable {B:Base}{X:Ctx}{b:Nat}{e:TypeId}{l:R}{sh:List Sh}{w':World}
theorem Blk.mut_ren (f:Nat->Option Nat)(k:Blk):(k.ren f).mut=k.mut:=by cases k<;>rfl
theorem Blk.solid_ren (f:Nat->Option Nat)(k:Blk):(k.ren f).solid=k.solid:=by cases k<;>rfl
theorem Blk.ren_some (k:Blk):k.ren some=k:=by cases k<;>simp[Blk.ren,AV.renL_some]
theorem HSim.hlen (hs:HSim B X):B.imps.length<=X.h.length:=by
 rcases qxG X.h.length B.imps.length with h|h
 ·obtain⟨cs,e,_⟩:=hs.impc X.h.length h;rw[qxR (qxC _)] at e;cases e
 ·exact h
theorem vD.move {X X':Ctx}{f:Nat->Option Nat}(hm:Move0 X X' f){b b':Nat}{k:Blk}(hσ:X'.σ b'=X.σ b)(hw:∀n,X.σ b=some n->X'.w.heap[n]?=X.w.heap[n]?) (h:vD X b k):vD X' b' (k.ren f):=by
 cases k with
 | cells cs=>
  obtain⟨n,c,T,e1,e2,e3⟩:=h;exact⟨n,c,T,by rw[hσ];exact e1,by rw[hw n e1];exact e2,e3.ren hm⟩
 | big cs k N l=>
  obtain⟨n,c,T,vs,e1,e2,e3,e4,e5⟩:=h;exact⟨n,c,T,vs,by rw[hσ];exact e1,by rw[hw n e1];exact e2,e3.ren hm,e4,e5⟩
 | vec e sh l=>
  rcases h with⟨e1,e2⟩|⟨n,c,e1,e2,e3⟩
  ·exact .inl ⟨by rw[hσ];exact e1,e2⟩
  ·exact .inr ⟨n,c,by rw[hσ];exact e1,by rw[hw n e1];exact e2,e3.mono hm.M hm.w⟩
 | frz e sh l=>
  rcases h with⟨e1,e2⟩|⟨n,c,e1,e2,e3,e4⟩
  ·exact .inl ⟨by rw[hσ];exact e1,e2⟩
  ·exact .inr ⟨n,c,by rw[hσ];exact e1,by rw[hw n e1];exact e2,e3.mono hm.M hm.w,hm.M n e4⟩
 | dead=>trivial
theorem vD.ext {X X':Ctx}(hm:Ext X X'){k:Blk}(hσ:X'.σ b=X.σ b)(hw:∀n,X.σ b=some n->X'.w.heap[n]?=X.w.heap[n]?) (h:vD X b k):vD X' b k:=by
 have:=vD.move hm.toMove0 (b':=b) hσ hw h
 rwa [Blk.ren_some] at this
theorem HSim.lt (hs:HSim B X){b n:Nat}{k:Blk}(h:X.h[b]?=some k)(hd:k≠.dead)(hn:X.σ b=some n):n<X.w.heap.size:=by
 have:=hs.blk b k h;cases k with
 | cells cs=>
  obtain⟨n',c,T,e1,e2,_⟩:=this;rw[hn] at e1;cases e1;exact(qxI.1 e2).1
 | big cs k N l=>
  obtain⟨n',c,T,vs,e1,e2,_⟩:=this;rw[hn] at e1;cases e1;exact(qxI.1 e2).1
 | vec e sh l=>
  rcases this with⟨e1,_⟩|⟨n',c,e1,e2,_⟩<;>rw[hn] at e1<;>cases e1;exact(qxI.1 e2).1
 | frz e sh l=>
  rcases this with⟨e1,_⟩|⟨n',c,e1,e2,_⟩<;>rw[hn] at e1<;>cases e1;exact(qxI.1 e2).1
 | dead=>exact absurd rfl hd
def Ctx.pushW(X:Ctx)(k:Blk)(s':Option Nat)(w':World):Ctx:={ σ:=fun b=>if b=X.h.length then s' else X.σ b,h:=X.h++[k],w:=w',M:=X.M,kept:=X.kept,y:=X.y }
structure PushW (X:Ctx) (s':Option Nat) (w':World):Prop where
 old:∀m,m<X.w.heap.size->w'.heap[m]?=X.w.heap[m]?
 size:X.w.heap.size<=w'.heap.size
 os:w'.os=X.w.os
 tape:w'.tape=X.w.tape
 output:w'.output=X.w.output
 new:∀m,s'=some m->X.w.heap.size<=m
theorem zz (w:World)(o:Obj){n:Nat}(h:n<w.heap.size):(w.alloc o).heap[n]?=w.heap[n]?:=by show (w.heap.push o)[n]?=_;rw[Array.getElem?_push,if_neg (by omega)]
theorem zy (w:World)(o:Obj):(w.alloc o).heap[w.heap.size]?=some o:=by show (w.heap.push o)[w.heap.size]?=_;rw[Array.getElem?_push,if_pos rfl]
theorem PushW.alloc (X:Ctx)(o:Obj):PushW X (some X.w.heap.size) (X.w.alloc o):=⟨fun _ h=>zz _ _ h,by simp,rfl,rfl,rfl,fun m h=>by cases h;exact qxC _⟩
theorem PushW.same (X:Ctx):PushW X none X.w:=⟨fun _ _=>rfl,qxC _,rfl,rfl,rfl,fun m h=>by cases h⟩
theorem Ctx.push_ext (hs:HSim B X)(k:Blk){s':Option Nat}(hw:PushW X s' w'):Ext X (X.pushW k s' w'):=by
 refine Move.of (fun _ h=>h) (fun a ha=>qyt (hw.old _ (hs.ltM _ ha))) (fun b b' hb h=>?_);cases h;refine⟨by simp[Ctx.pushW];omega,by simp[Ctx.pushW];omega,fun sh m ⟨e,l,h1,h2⟩=>⟨e,l,?_,h2⟩,fun _ _ _ n hn c T fr hc=>⟨c,T,fr,?_,rfl⟩⟩
 ·simpa[Ctx.pushW,qxK hb] using h1
 ·rw[show (X.pushW k s' w').w=w' from rfl,hw.old _ (qxI.1 hc).1];exact hc
theorem HSim.push (hs:HSim B X){k:Blk}{s':Option Nat}(hw:PushW X s' w')(hk:vD (X.pushW k s' w') X.h.length k):HSim B (X.pushW k s' w'):=by
 have hx:=Ctx.push_ext hs k hw;have hget:∀b k',(X.pushW k s' w').h[b]?=some k'->b<X.h.length/\X.h[b]?=some k'\/b=X.h.length/\k'=k:=by
  intro b k' h;rcases qxG b X.h.length with hb|hb
  ·exact .inl ⟨hb,by simpa[Ctx.pushW,qxK hb] using h⟩
  ·have:(X.h++[k])[b]?=some k':=h;rw[qxU hb] at this;rcases qyJ hb with hb'|hb'
   ·rw[<-hb'] at this;simp at this;exact .inr ⟨hb'.symm,this.symm⟩
   ·rw[qxR (by simp;omega)] at this;cases this
 have hσ:∀b,b<X.h.length->(X.pushW k s' w').σ b=X.σ b:=fun b hb=>by simp[Ctx.pushW];omega
 have hσn:(X.pushW k s' w').σ X.h.length=s':=by simp[Ctx.pushW]
 have hown:∀b n,(X.pushW k s' w').own b n->X.own b n\/b=X.h.length/\X.w.heap.size<=n:=by
  intro b n ⟨h1,k',h2,h3⟩;rcases hget b k' h2 with⟨hb,h4⟩|⟨rfl,rfl⟩
  ·exact .inl ⟨by rw[<-hσ b hb];exact h1,k',h4,h3⟩
  ·rw[hσn] at h1;exact .inr ⟨rfl,hw.new n h1⟩
 constructor
 ·intro b k' h;rcases hget b k' h with⟨hb,h4⟩|⟨rfl,rfl⟩
  ·by_cases hd:k'=.dead
   ·subst hd;trivial
   ·exact vD.ext hx (hσ b hb) (fun n hn=>hw.old n (hs.lt h4 hd hn)) (hs.blk b k' h4)
  ·exact hk
 ·intro b b' n h h';rcases hown b n h with h1|⟨g1,g2⟩
  ·rcases hown b' n h' with h2|⟨g3,g4⟩
   ·exact hs.inj b b' n h1 h2
   ·exact absurd (Ctx.own.lt hs h1) (by omega)
  ·rcases hown b' _ h' with h2|⟨g3,_⟩
   ·exact absurd (Ctx.own.lt hs h2) (by omega)
   ·rw[g1,g3]
 ·intro b n h hM;rcases hown b n h with h1|⟨g1,g2⟩
  ·exact hs.notM b n h1 hM
  ·exact absurd (hs.ltM _ hM) (by omega)
 ·intro n h;have:=hs.ltM n h;have:=hw.size;show n<w'.heap.size;omega
 ·exact hs.M0
 ·exact hs.newM
 ·exact hw.os.trans hs.os
 ·exact hw.tape.trans hs.tape
 ·exact hw.output.trans hs.output
 ·have:=hs.size;have:=hw.size;show _<=w'.heap.size;omega
 ·intro n hn hni;have:=hs.size;rw[show (X.pushW k s' w').w=w' from rfl,hw.old _ (by omega)];exact hs.frame n hn hni
 ·intro b hb;have:=hs.hlen;rw[hσ b (by omega)];exact hs.imps b hb
 ·intro b hb;obtain⟨cs,h,hc⟩:=hs.impc b hb;exact⟨cs,by have:=hs.hlen;simpa[Ctx.pushW,qxK (show b<X.h.length by omega)] using h,hc⟩
 ·intro b n h hb;rcases hown b n h with h1|⟨g1,g2⟩
  ·exact hs.fresh b n h1 hb
  ·have:=hs.size;omega
 ·intro p hp;obtain⟨q1,q2,q3⟩:=hs.kept p hp;exact⟨(hw.old _ (qxI.1 q1).1).trans q1,q2,q3⟩
def q9D:Blk->Blk->Prop
 | .cells _,.cells _=>True
 | .big _ _ _ _,.big _ _ _ _=>True
 | .vec e sh l,.vec e' sh' l'=>e=e'/\sh=sh'/\l.length=l'.length
 | _,_=>False
def Ctx.upd(X:Ctx)(b:Nat)(k':Blk)(w':World):Ctx:={ X with h:=X.h.set b k',w:=w' }
structure UpdW (X:Ctx) (n:Nat) (c c':Array Value) (T:TypeId) (w':World):Prop where
 old:X.w.heap[n]?=some (.cells c T (0,0))
 new:w'.heap[n]?=some (.cells c' T (0,0))
 sz:c'.size=c.size
 other:∀m,m≠n->w'.heap[m]?=X.w.heap[m]?
 size:w'.heap.size=X.w.heap.size
 os:w'.os=X.w.os
 tape:w'.tape=X.w.tape
 output:w'.output=X.w.output
theorem UpdW.setRow {n:Nat}{c c':Array Value}{T:TypeId}(h:X.w.heap[n]?=some (.cells c T (0,0)))(hs:c'.size=c.size):UpdW X n c c' T (X.w.setRow n c'):=⟨h,setRow_heap _ _ _ _ _ _ h,hs,fun m hm=>setRow_other _ _ _ _ hm,by simp,rfl,rfl,rfl⟩
theorem q34 {α:Type}{l:List α}{k:α}(hb:b<l.length){b':Nat}{x:α}(h:(l.set b k)[b']?=some x):b'=b/\x=k\/b'≠b/\l[b']?=some x:=by
 rcases Nat.decEq b' b with hne|rfl
 ·right;rw[qxD (qxS hne)] at h;exact⟨hne,h⟩
 ·left;rw[qxN hb] at h;cases h;exact⟨rfl,rfl⟩
theorem qj {α:Type}{l:List α}{x:α}(h:l[b]?=some x):b<l.length:=by
 rcases qxG b l.length with h'|h'
 ·exact h'
 ·rw[qxR h'] at h;cases h
theorem Ctx.upd_ext (hs:HSim B X){b n:Nat}{k k':Blk}{c c':Array Value}{T:TypeId}(hb:X.h[b]?=some k)(hn:X.own b n)(hw:UpdW X n c c' T w') (hk:q9D k k'):Ext X (X.upd b k' w'):=by
 refine Move.of (fun _ h=>h) (fun a ha=>qyt (hw.other _ fun e=>hs.notM b n hn (e▸ha))) (fun b1 b2 hb1 h=>?_);cases h;refine⟨by simpa[Ctx.upd] using hb1,rfl,fun sh m ⟨e,l,h1,h2⟩=>?_,fun _ _ _ m hm c1 T1 fr1 hc1=>?_⟩
 ·simp only[Ctx.upd] at h1;have hbl:=qj hb;rcases h1 with h1|h1
  ·rcases q34 hbl h1 with⟨rfl,rfl⟩|⟨hne,h1⟩
   ·cases k<;>simp[q9D] at hk;obtain⟨rfl,rfl,h3⟩:=hk;exact⟨_,_,.inl hb,by omega⟩
   ·exact⟨e,l,.inl h1,h2⟩
  ·rcases q34 hbl h1 with⟨rfl,rfl⟩|⟨hne,h1⟩
   ·cases k<;>simp[q9D] at hk
   ·exact⟨e,l,.inr h1,h2⟩
 ·by_cases hmn:m=n
  ·subst hmn;rw[hw.old] at hc1;cases hc1;exact⟨c',T,_,hw.new,hw.sz⟩
  ·exact⟨c1,T1,fr1,by rw[show (X.upd b k' w').w=w' from rfl,hw.other m hmn];exact hc1,rfl⟩
theorem HSim.upd (hs:HSim B X){b n:Nat}{k k':Blk}{c c':Array Value}{T:TypeId}(hb:X.h[b]?=some k)(hn:X.own b n)(hw:UpdW X n c c' T w') (hk:q9D k k') (hk':vD (X.upd b k' w') b k'):HSim B (X.upd b k' w'):=by
 have hx:=Ctx.upd_ext hs hb hn hw hk;have hbl:=qj hb;have hmut:k'.mut=true:=by cases k<;>cases k'<;>simp[q9D] at hk<;>rfl
 have hown:∀b1 n1,(X.upd b k' w').own b1 n1->X.own b1 n1:=by
  intro b1 n1 ⟨h1,k1,h2,h3⟩;rcases q34 hbl h2 with⟨rfl,rfl⟩|⟨hne,h2⟩
  ·have:n1=n:=by have:=hn.1;rw[show (X.upd b1 k1 w').σ=X.σ from rfl,this] at h1;exact(qy6 h1).symm
   subst this;exact hn
  ·exact⟨h1,k1,h2,h3⟩
 constructor
 ·intro b1 k1 h;rcases q34 hbl h with⟨rfl,rfl⟩|⟨hne,h1⟩
  ·exact hk'
  ·by_cases hd:k1=.dead
   ·subst hd;trivial
   ·refine vD.ext hx rfl (fun m hm=>hw.other m fun e=>?_) (hs.blk b1 k1 h1);subst e;by_cases hm1:k1.mut=true
    ·exact hne (hs.inj b1 b m ⟨hm,k1,h1,hm1⟩ hn)
    ·cases k1 with
     | cells=>exact hm1 rfl
     | big=>exact hm1 rfl
     | vec=>exact hm1 rfl
     | dead=>exact hd rfl
     | frz e sh l=>
      rcases hs.blk b1 _ h1 with⟨e1,_⟩|⟨n1,c1,e1,_,_,e4⟩
      ·rw[hm] at e1;cases e1
      ·rw[hm] at e1;cases e1;exact hs.notM b m hn e4
 ·intro b1 b2 m h1 h2;exact hs.inj b1 b2 m (hown b1 m h1) (hown b2 m h2)
 ·intro b1 m h1 h2;exact hs.notM b1 m (hown b1 m h1) h2
 ·intro m h;have:=hs.ltM m h;simpa[Ctx.upd,hw.size] using this
 ·exact hs.M0
 ·exact hs.newM
 ·exact hw.os.trans hs.os
 ·exact hw.tape.trans hs.tape
 ·exact hw.output.trans hs.output
 ·have:=hs.size;simpa[Ctx.upd,hw.size] using this
 ·intro m hm hni;have:m≠n:=by
   intro e;subst e;rcases qxG b B.imps.length with hlt|hge
   ·have h1:=hs.imps b hlt;rw[hn.1] at h1;rw[qxO hlt] at h1;simp at h1;exact hni (h1▸qyu hlt)
   ·have:=hs.fresh b m hn hge;omega
  rw[show (X.upd b k' w').w=w' from rfl,hw.other m this];exact hs.frame m hm hni
 ·exact hs.imps
 ·intro b1 hb1;obtain⟨cs,h,hc⟩:=hs.impc b1 hb1;by_cases hbb:b1=b
  ·subst hbb;rw[hb] at h;cases h;refine⟨k',by simp[Ctx.upd,qxN hbl],?_⟩;cases k<;>cases k'<;>simp[q9D] at hk<;>simp[Blk.solid] at hc<;>rfl
  ·exact⟨cs,by simpa[Ctx.upd,qxD (qxS hbb)] using h,hc⟩
 ·intro b1 m h1 h2;exact hs.fresh b1 m (hown b1 m h1) h2
 ·intro p hp;obtain⟨q1,q2,q3⟩:=hs.kept p hp;refine⟨(hw.other _ fun e=>?_).trans q1,q2,q3⟩;rw[e,hw.old] at q1;exact q2 _ _ _ (qy6 q1).symm
def Ctx.frz(X:Ctx)(b:Nat)(e:TypeId)(sh:List Sh)(l:R):Ctx:={ X with h:=X.h.set b (.frz e sh l),M:=fun m=>X.M m\/X.σ b=some m }
theorem qgD (hs:HSim B X){k:Blk}(hb:X.h[b]?=some k)(hk:k.solid=false):B.imps.length<=b:=by
 rcases qxG b B.imps.length with h|h
 ·obtain⟨cs,e,hc⟩:=hs.impc b h;rw[hb] at e;cases e;rw[hk] at hc;cases hc
 ·exact h
theorem Ctx.frz_ext (hb:X.h[b]?=some (.vec e sh l)):Ext X (X.frz b e sh l):=by
 refine Move.of (fun _ h=>.inl h) (fun _ _=>rfl) (fun b1 b2 hb1 h=>?_);cases h;refine⟨by simpa[Ctx.frz] using hb1,rfl,fun sh1 m ⟨e1,l1,h1,h2⟩=>?_,fun _ _ _ m hm c T fr hc=>⟨c,T,fr,hc,rfl⟩⟩;have hbl:=qj hb;rcases h1 with h1|h1
 ·rcases q34 hbl h1 with⟨rfl,h3⟩|⟨hne,h1⟩
  ·cases h3
  ·exact⟨_,_,.inl h1,h2⟩
 ·rcases q34 hbl h1 with⟨rfl,h3⟩|⟨hne,h1⟩
  ·cases h3;exact⟨_,_,.inl hb,h2⟩
  ·exact⟨_,_,.inr h1,h2⟩
theorem HSim.frz (hs:HSim B X)(hb:X.h[b]?=some (.vec e sh l)):HSim B (X.frz b e sh l):=by
 have hx:=Ctx.frz_ext hb;have hbl:=qj hb;have hown:∀b1 n1,(X.frz b e sh l).own b1 n1->b1≠b/\X.own b1 n1:=by
  intro b1 n1 ⟨h1,k1,h2,h3⟩;rcases q34 hbl h2 with⟨rfl,rfl⟩|⟨hne,h2⟩
  ·cases h3
  ·exact⟨hne,h1,k1,h2,h3⟩
 have hob:∀m,X.σ b=some m->X.own b m:=fun m hm=>⟨hm,_,hb,rfl⟩;constructor
 ·intro b1 k1 h;rcases q34 hbl h with⟨rfl,rfl⟩|⟨hne,h1⟩
  ·rcases hs.blk b1 _ hb with h1|⟨n,c,h1,h2,h3⟩
   ·exact .inl h1
   ·exact .inr ⟨n,c,h1,h2,h3.mono hx.M hx.w,.inr h1⟩
  ·exact vD.ext hx rfl (fun _ _=>rfl) (hs.blk b1 k1 h1)
 ·intro b1 b2 m h1 h2;exact hs.inj b1 b2 m (hown b1 m h1).2 (hown b2 m h2).2
 ·intro b1 m h1 h2;rcases h2 with h2|h2
  ·exact hs.notM b1 m (hown b1 m h1).2 h2
  ·exact(hown b1 m h1).1 (hs.inj b1 b m (hown b1 m h1).2 (hob m h2))
 ·intro m h;rcases h with h|h
  ·exact hs.ltM m h
  ·exact Ctx.own.lt hs (hob m h)
 ·intro m h;exact .inl (hs.M0 m h)
 ·intro m h;rcases h with h|h
  ·exact hs.newM m h
  ·exact .inr (hs.fresh b m (hob m h) (qgD hs hb rfl))
 ·exact hs.os
 ·exact hs.tape
 ·exact hs.output
 ·exact hs.size
 ·exact hs.frame
 ·exact hs.imps
 ·intro b1 hb1;obtain⟨cs,h,hc⟩:=hs.impc b1 hb1;by_cases hbb:b1=b
  ·subst hbb;rw[hb] at h;cases h;cases hc
  ·exact⟨cs,by simpa[Ctx.frz,qxD (qxS hbb)] using h,hc⟩
 ·intro b1 m h1 h2;exact hs.fresh b1 m (hown b1 m h1).2 h2
 ·exact hs.kept
def Ctx.repl(X:Ctx)(b:Nat)(s':Option Nat)(k':Blk)(w':World):Ctx:={ σ:=fun x=>if x=b then s' else X.σ x,h:=(X.h.set b k').map (Blk.ren (q7u b)),w:=w',M:=X.M,kept:=X.kept,y:=X.y }
structure ReplW (X:Ctx) (b:Nat) (s':Option Nat) (w':World):Prop where
 other:∀m,m<X.w.heap.size->X.σ b≠some m->w'.heap[m]?=X.w.heap[m]?
 same:∀m c T fr,X.σ b=some m->X.w.heap[m]?=some (.cells c T fr)->∃c' T' fr',w'.heap[m]?=some (.cells c' T' fr')/\c'.size=c.size
 size:X.w.heap.size<=w'.heap.size
 os:w'.os=X.w.os
 tape:w'.tape=X.w.tape
 output:w'.output=X.w.output
 at_:s'=X.σ b\/∀m,s'=some m->X.w.heap.size<=m
theorem qgn {k':Blk}{s':Option Nat}(hb:b<X.h.length){b1:Nat}{k1:Blk}(h:(X.repl b s' k' w').h[b1]?=some k1) :b1=b/\k1=k'.ren (q7u b)\/b1≠b/\∃k0,X.h[b1]?=some k0/\k1=k0.ren (q7u b):=by
 simp only[Ctx.repl,qxZ] at h;cases h1:(X.h.set b k')[b1]? with
 | none=>rw[h1] at h;cases h
 | some k0=>
  rw[h1] at h;simp only[qy0,qxB] at h;rcases q34 hb h1 with⟨rfl,rfl⟩|⟨hne,h2⟩
  ·exact .inl ⟨rfl,h.symm⟩
  ·exact .inr ⟨hne,k0,h2,h.symm⟩
theorem qeC {k:Blk}{f:Nat->Option Nat}(h:Blk.vec e sh l=k.ren f\/Blk.frz e sh l=k.ren f):k=.vec e sh l\/k=.frz e sh l:=by
 cases k<;>simp[Blk.ren] at h
 ·exact .inl (by simp[h])
 ·exact .inr (by simp[h])
theorem Ctx.repl_move (hs:HSim B X)(hb:X.h[b]?=some (.vec e sh l)){s':Option Nat}{k':Blk}(hw:ReplW X b s' w'):Move X (X.repl b s' k' w') (q7u b):=by
 have hbl:=qj hb;have hob:∀m,X.σ b=some m->X.own b m:=fun m hm=>⟨hm,_,hb,rfl⟩;refine Move.of (fun _ h=>h) (fun a ha=>qyt (hw.other _ (hs.ltM _ ha) fun hm=>hs.notM b _ (hob _ hm) ha)) (fun b1 b2 hb1 h=>?_);have hne:b1≠b:=by intro e;subst e;simp[q7u] at h
 have:b2=b1:=by simp[q7u,hne] at h;exact h.symm
 subst this;refine⟨by simpa[Ctx.repl] using hb1,by simp[Ctx.repl,hne],fun sh1 m ⟨e1,l1,h1,h2⟩=>?_,fun _ _ _ m hm c T fr hc=>?_⟩
 ·rcases h1 with h1|h1
  ·rcases qgn hbl h1 with⟨h3,_⟩|⟨_,k0,h3,h4⟩
   ·exact absurd h3 hne
   ·rcases qeC (.inl h4) with rfl|rfl
    ·exact⟨_,_,.inl h3,h2⟩
    ·exact⟨_,_,.inr h3,h2⟩
  ·rcases qgn hbl h1 with⟨h3,_⟩|⟨_,k0,h3,h4⟩
   ·exact absurd h3 hne
   ·rcases qeC (.inr h4) with rfl|rfl
    ·exact⟨_,_,.inl h3,h2⟩
    ·exact⟨_,_,.inr h3,h2⟩
 ·by_cases hbm:X.σ b=some m
  ·exact hw.same m c T fr hbm hc
  ·exact⟨c,T,fr,by rw[show (X.repl b s' k' w').w=w' from rfl,hw.other m (qxI.1 hc).1 hbm];exact hc,rfl⟩
theorem HSim.repl (hs:HSim B X)(hb:X.h[b]?=some (.vec e sh l)){s':Option Nat}{k':Blk}(hw:ReplW X b s' w') (hk':vD (X.repl b s' k' w') b (k'.ren (q7u b))):HSim B (X.repl b s' k' w'):=by
 have hx:=Ctx.repl_move hs hb (k':=k') hw;have hbl:=qj hb;have hni:=qgD hs hb rfl;have hob:∀m,X.σ b=some m->X.own b m:=fun m hm=>⟨hm,_,hb,rfl⟩;have hown:∀b1 n1,(X.repl b s' k' w').own b1 n1->b1≠b/\X.own b1 n1\/b1=b/\s'=some n1:=by
  intro b1 n1 ⟨h1,k1,h2,h3⟩;rcases qgn hbl h2 with⟨rfl,_⟩|⟨hne,k0,h4,rfl⟩
  ·exact .inr ⟨rfl,by simpa[Ctx.repl] using h1⟩
  ·exact .inl ⟨hne,by simpa[Ctx.repl,hne] using h1,k0,h4,by rwa [Blk.mut_ren] at h3⟩
 have hnew:∀m,s'=some m->X.own b m\/X.w.heap.size<=m:=by
  intro m hm;rcases hw.at_ with h|h
  ·exact .inl (hob m (h▸hm))
  ·exact .inr (h m hm)
 constructor
 ·intro b1 k1 h;rcases qgn hbl h with⟨rfl,rfl⟩|⟨hne,k0,h1,rfl⟩
  ·exact hk'
  ·by_cases hd:k0=.dead
   ·subst hd;trivial
   ·refine vD.move hx.toMove0 (by simp[Ctx.repl,hne]) (fun m hm=>hw.other m (hs.lt h1 hd hm) fun hbm=>?_) (hs.blk b1 k0 h1);by_cases hm1:k0.mut=true
    ·exact hne (hs.inj b1 b m ⟨hm,k0,h1,hm1⟩ (hob m hbm))
    ·cases k0 with
     | cells=>exact hm1 rfl
     | big=>exact hm1 rfl
     | vec=>exact hm1 rfl
     | dead=>exact hd rfl
     | frz e sh l=>
      rcases hs.blk b1 _ h1 with⟨e1,_⟩|⟨n1,c1,e1,_,_,e4⟩
      ·rw[hm] at e1;cases e1
      ·rw[hm] at e1;cases e1;exact hs.notM b m (hob m hbm) e4
 ·intro b1 b2 m h1 h2;rcases hown b1 m h1 with⟨n1,g1⟩|⟨n1,g1⟩
  ·rcases hown b2 m h2 with⟨n2,g2⟩|⟨n2,g2⟩
   ·exact hs.inj b1 b2 m g1 g2
   ·rcases hnew m g2 with h3|h3
    ·rw[n2];exact hs.inj b1 _ m g1 h3
    ·exact absurd (Ctx.own.lt hs g1) (by omega)
  ·rcases hown b2 m h2 with⟨n2,g2⟩|⟨n2,g2⟩
   ·rcases hnew m g1 with h3|h3
    ·rw[n1];exact hs.inj _ b2 m h3 g2
    ·exact absurd (Ctx.own.lt hs g2) (by omega)
   ·rw[n1,n2]
 ·intro b1 m h1 h2;rcases hown b1 m h1 with⟨n1,g1⟩|⟨n1,g1⟩
  ·exact hs.notM b1 m g1 h2
  ·rcases hnew m g1 with h3|h3
   ·exact hs.notM _ m h3 h2
   ·exact absurd (hs.ltM m h2) (by omega)
 ·intro m h;have:=hs.ltM m h;have:=hw.size;show m<w'.heap.size;omega
 ·exact hs.M0
 ·exact hs.newM
 ·exact hw.os.trans hs.os
 ·exact hw.tape.trans hs.tape
 ·exact hw.output.trans hs.output
 ·have:=hs.size;have:=hw.size;show _<=w'.heap.size;omega
 ·intro m hm hnm;have h1:=hs.size;have:X.σ b≠some m:=fun e=>by have:=hs.fresh b m (hob m e) hni;omega
  rw[show (X.repl b s' k' w').w=w' from rfl,hw.other m (by omega) this];exact hs.frame m hm hnm
 ·intro b1 hb1;have:b1≠b:=by omega
  simp only[Ctx.repl,this,if_false];exact hs.imps b1 hb1
 ·intro b1 hb1;obtain⟨cs,h,hc⟩:=hs.impc b1 hb1;have hne:b1≠b:=by omega
  exact⟨cs.ren (q7u b),by simp[Ctx.repl,qxD (qxS hne),h],by rw[Blk.solid_ren];exact hc⟩
 ·intro b1 m h1 h2;rcases hown b1 m h1 with⟨n1,g1⟩|⟨n1,g1⟩
  ·exact hs.fresh b1 m g1 h2
  ·rcases hnew m g1 with h3|h3
   ·exact hs.fresh _ m h3 hni
   ·have:=hs.size;omega
 ·intro p hp;obtain⟨q1,q2,q3⟩:=hs.kept p hp;refine⟨(hw.other _ (qxI.1 q1).1 fun e=>?_).trans q1,q2,q3⟩;obtain⟨c,T,fr,hc⟩:=(hob _ e).cells hs;rw[hc] at q1;exact q2 _ _ _ (qy6 q1).symm
end Go.Eng

namespace Go.Eng
variable {B:Base}{E:Env}{P:Program}{X:Ctx}{av:AV}{l:R}{sh:List Sh}{t:TypeId}{v:Value}
def Env.tok(E:Env)(P:Program):Prop:=∀x,x∈E.tt->qlw P x.1=x.2
theorem qgv (hE:E.tok P)(t:TypeId):E.ty t=qx1\/E.ty t=qlw P t:=by
 unfold Env.ty;cases h:E.tt.find? fun x=>x.1==t with
 | none=>exact .inl rfl
 | some x=>
  have h1:=qyv h;have h2:=hE x (qyi h);have h3:x.1=t:=by simpa using h1
  right;simp only[qy0,qyK];rw[<-h2,h3]
theorem yD (hE:E.tok P)(h:(E.ty t).d.known=true) :E.ty t=qlw P t/\∃i d,P.info? t=some i/\P.underlying t=some d/\(E.ty t).d=qsY P d/\(E.ty t).size=i.size/\(E.ty t).bytes=i.bytes:=by
 rcases qgv hE t with h1|h1
 ·rw[h1] at h;cases h
 ·refine⟨h1,?_⟩;rw[h1] at h ⊢;unfold qlw at *;cases hi:P.info? t with
  | none=>rw[hi] at h;cases h
  | some i=>
   rw[hi] at h;cases hd:P.underlying t with
   | none=>rw[hd] at h;cases h
   | some d=>exact⟨i,d,rfl,rfl,by simp,rfl,rfl⟩
theorem uq (hE:E.tok P){t e:TypeId}{es:Nat}(h:(E.ty t).d=.slice e es):P.underlying t=some (.slice e)/\es=P.cellsOf e:=by obtain⟨_,i,d,_,h2,h3,_⟩:=yD hE (t:=t) (by rw[h];rfl);rw[h] at h3;cases d<;>simp[qsY] at h3;obtain⟨rfl,rfl⟩:=h3;exact⟨h2,rfl⟩
theorem q3B (hE:E.tok P){t e:TypeId}{n es:Nat}(h:(E.ty t).d=.array n e es):P.underlying t=some (.array n e)/\es=P.cellsOf e:=by obtain⟨_,i,d,_,h2,h3,_⟩:=yD hE (t:=t) (by rw[h];rfl);rw[h] at h3;cases d<;>simp[qsY] at h3;obtain⟨rfl,rfl,rfl⟩:=h3;exact⟨h2,rfl⟩
theorem q41 (hE:E.tok P){fs:List (Nat×TypeId×Nat)}(h:(E.ty t).d=.struct fs) :∃fields,P.underlying t=some (.struct fields)/\fs=fields.toList.map fun f=>(f.offset,f.type,P.cellsOf f.type):=by obtain⟨_,i,d,_,h2,h3,_⟩:=yD hE (t:=t) (by rw[h];rfl);rw[h] at h3;cases d<;>simp[qsY] at h3;exact⟨_,h2,h3⟩
theorem qhF (hE:E.tok P){k:IntKind}(h:(E.ty t).d=.int k):P.underlying t=some (.int k):=by obtain⟨_,i,d,_,h2,h3,_⟩:=yD hE (t:=t) (by rw[h];rfl);rw[h] at h3;cases d<;>simp[qsY] at h3;rw[h2,h3]
theorem q9t (hE:E.tok P)(h:(E.ty t).d=.str):P.underlying t=some .string:=by obtain⟨_,i,d,_,h2,h3,_⟩:=yD hE (t:=t) (by rw[h];rfl);rw[h] at h3;cases d<;>simp[qsY] at h3;exact h2
theorem q7H (hE:E.tok P)(h:(E.ty t).d.known=true)(w:World):(isAgg t).run P w=.ok (E.ty t).d.isAgg w:=by obtain⟨_,i,d,_,h2,h3,_⟩:=yD hE h;rw[h3];unfold isAgg;rw[qxF,run_underlying h2,qxH];rw[h3] at h;cases d<;>first|rfl|(simp[qsY,TD.known] at h)
theorem qbi (hE:E.tok P)(h:(E.ty t).d.known=true)(w:World):(sizeOf t).run P w=.ok (E.ty t).size w:=by obtain⟨_,i,d,h1,_,_,h4,_⟩:=yD hE h;simp[sizeOf,typeInfo,h1,h4]
theorem za (h:0<P.cellsOf t)(w:World):(sizeOf t).run P w=.ok (P.cellsOf t) w:=by
 unfold Program.cellsOf at *;cases h1:P.info? t with
 | none=>rw[h1] at h;simp at h
 | some i=>simp[sizeOf,typeInfo,h1]
def qz(P:Program)(B:Base)(X:Ctx)(m:Sem Next)(r:Res):Prop:=
 ∃nx v X',m.run P X.w=.ok nx X'.w/\(nx=.value v\/(nx=.skip/\v=Go.undef))/\Rep X' r.1 v/\HSim B X' /\
  match r.2.2 with
  | none=>X'.h=r.2.1/\Ext X X'
  | some b=>X'.h=r.2.1.map (Blk.ren (q7u b))/\Move X X' (q7u b)
theorem Ext.refl (X:Ctx):Ext X X:=Move.of (fun _ h=>h) (fun _ _=>rfl) (fun b b' hb h=>by cases h;exact⟨hb,rfl,fun _ _ h=>h,fun _ _ _ _ _ c T fr h=>⟨c,T,fr,h,rfl⟩⟩)
theorem qz.val {m:Sem Next}(hs:HSim B X)(h:m.run P X.w=.ok (.value v) X.w)(hr:Rep X av v):qz P B X m (av,X.h,none):=⟨_,v,X,h,.inl rfl,hr,hs,rfl,Ext.refl X⟩
theorem q99 (l:R)(i:Int)(j:Nat):wv l (i.toNat:Int) j=wv l i j:=by unfold wv;rw[qy1]
theorem qjd {i:Int}{j:Nat}(h:q9q sh l i j=some av)(hj:j<sh.length)(hr:RepU X.w X.M sh[j] (wv l i j) v):Rep X av v:=by
 unfold q9q at h;rw[qxO hj] at h;generalize sh[j]=s at *;cases s with
 | int k=>cases h;cases hr;exact .int _ _
 | bool=>cases h;cases hr;exact .bool _
 | str=>cases h;cases hr;exact .str _
 | sl row=>cases h;exact .imm _ _ _ (qdq hr)
theorem qe8 {i:Int}{j:Nat}(h:q9q sh l i j=some av):j<sh.length:=by
 unfold q9q at h;rcases qxG j sh.length with h'|h'
 ·exact h'
 ·rw[qxR h'] at h;cases h
theorem qhY{X:Ctx}{sh:List Sh}{l:R}{i:Int}(g:Nat->Option Value)
  (hg:∀j (hj:j<sh.length),∃v,g j=some v/\RepU X.w X.M sh[j] (wv l i j) v) :
  ∀(n off:Nat) (cs:List AV),q5z sh l i off n=some cs->∃vs:List Value,vs.length=n/\RepL X cs vs/\∀j v,vs[j]?=some v->g (off+j)=some v
 | 0,off,cs,h=>by
  simp[q5z] at h;subst h;exact⟨[],rfl,.nil,fun j v h=>by simp at h⟩
 | n+1,off,cs,h=>by
  simp only[q5z] at h;cases h1:q9q sh l i off with
  | none=>rw[h1] at h;cases h
  | some a=>
   cases h2:q5z sh l i (off+1) n with
   | none=>rw[h1,h2] at h;cases h
   | some r=>
    rw[h1,h2] at h;cases h;obtain⟨vs,e1,e2,e3⟩:=qhY g hg n (off+1) r h2;obtain⟨v,e4,e5⟩:=hg off (qe8 h1);refine⟨v::vs,by simp[e1],.cons (qjd h1 (qe8 h1) e5) e2,fun j u hj=>?_⟩;cases j with
    | zero=>simp at hj;subst hj;exact e4
    | succ j=>rw[show off+(j+1)=off+1+j by omega];exact e3 j u (by simpa using hj)
theorem qbX (hE:E.tok P)(hk:(E.ty t).d.known=true){blk o:Nat}{i:Int}{off:Nat}(hg:∀j (hj:j<sh.length),∃v,X.w.cell? ⟨blk,o+j,none⟩=some v/\RepU X.w X.M sh[j] (wv l i j) v) {r:Res}(h:((if (E.ty t).d.isAgg then (match q5z sh l i off (E.ty t).size with|some cs=>okv X.h (.agg cs)|none=>.fail) else (match q9q sh l i off with|some v=>okv X.h v|none=>.fail)):Tree Res).run=some r) :∃av u,r=(av,X.h,none)/\(loadVar t ⟨blk,o+off,none⟩).run P X.w=.ok u X.w/\Rep X av u:=by
 unfold loadVar;rw[qxF,q7H hE hk,qxH];cases ha:(E.ty t).d.isAgg with
 | true=>
  rw[ha] at h;simp only[if_true] at h ⊢;cases hc:q5z sh l i off (E.ty t).size with
  | none=>rw[hc] at h;cases h
  | some cs=>
   rw[hc] at h;cases h;obtain⟨vs,e1,e2,e3⟩:=qhY (fun j=>X.w.cell? ⟨blk,o+j,none⟩) hg _ _ _ hc;refine⟨_,.agg vs.toArray,rfl,?_,.agg cs vs e2⟩;have:=run_loadCells_list (P:=P) X.w ⟨blk,o+off,none⟩ vs (fun j v hj=>by rw[qy7];have:=e3 j v hj;rwa [<-qz5] at this);rw[e1] at this;simp[qbi hE hk,this]
 | false=>
  rw[ha] at h;simp only[qy5,if_false] at h ⊢;cases hc:q9q sh l i off with
  | none=>rw[hc] at h;cases h
  | some v=>
   rw[hc] at h;cases h;obtain⟨u,e1,e2⟩:=hg off (qe8 hc);exact⟨_,u,rfl,by simp[e1],qjd hc (qe8 hc) e2⟩
theorem q8g {h:List Blk}{b:Nat}(hr:wn h (.vec b)=some (sh,l)):∃e,h[b]?=some (.vec e sh l)\/h[b]?=some (.frz e sh l):=by simp only[wn] at hr;split at hr<;>first|(cases hr;rename_i hh;exact⟨_,.inl hh⟩)|(cases hr;rename_i hh;exact⟨_,.inr hh⟩)|cases hr
theorem HSim.rows (hs:HSim B X){b:Nat}{e:TypeId}(h:X.h[b]?=some (.vec e sh l)\/X.h[b]?=some (.frz e sh l)) :(X.σ b=none/\l=[])\/∃n c,X.σ b=some n/\X.w.heap[n]?=some (.cells c e (0,0))/\qm9 X.w X.M sh l c:=by
 rcases h with h|h
 ·exact hs.blk b _ h
 ·rcases hs.blk b _ h with h1|⟨n,c,h1,h2,h3,_⟩
  ·exact .inl h1
  ·exact .inr ⟨n,c,h1,h2,h3⟩
theorem qaf (hE:E.tok P)(hs:HSim B X){p:AV}(hv:Rep X p v){r:Res}(h:(q9h E X.h t p).run=some r):∃av u,r=(av,X.h,none)/\(Instr.loadAt t v).run P X.w=.ok u X.w/\Rep X av u:=by
 unfold q9h at h;by_cases hk:(E.ty t).d.known=false
 ·simp only[hk,if_true] at h;cases h
 simp only[hk] at h;have hk':(E.ty t).d.known=true:=by simpa using hk
 cases hv with
 | ptr b off n0 hb hσ=>
  simp only at h;cases hh:X.h[b]? with
  | none=>rw[hh] at h;cases h
  | some blk=>
   rw[hh] at h;cases blk with
   | vec=>cases h
   | frz=>cases h
   | dead=>cases h
   | big=>cases h
   | cells cs=>
    simp only at h;obtain⟨n,c,T,e1,e2,e3⟩:=hs.blk b _ hh;rw[hσ] at e1;cases e1;simp only[Instr.loadAt,Instr.sureAddr,qxF,qxW,qxH];unfold loadVar;rw[qxF,q7H hE hk',qxH];cases ha:(E.ty t).d.isAgg with
    | true=>
     rw[ha] at h;simp only[if_true] at h ⊢;by_cases hle:off+(E.ty t).size<=cs.length
     ·rw[if_pos hle] at h;cases h;have hlen:=e3.length;have h2:=(e3.drop off).take (E.ty t).size;refine⟨_,_,rfl,?_,.agg _ _ h2⟩;have hl:((c.toList.drop off).take (E.ty t).size).length=(E.ty t).size:=by simp only[qyA,List.length_drop] at *;omega
      have:=run_loadCells_list (P:=P) X.w ⟨n0,off,none⟩ ((c.toList.drop off).take (E.ty t).size) (fun j v hj=>by
       rw[qy7,zu e2];rw[qyj] at hj;split at hj
       ·rw[qyl] at hj;simpa using hj
       ·cases hj)
      rw[hl] at this;simp[qbi hE hk',this]
     ·rw[if_neg hle] at h;cases h
    | false=>
     rw[ha] at h;simp only[qy5,if_false] at h ⊢;cases hc:cs[off]? with
     | none=>rw[hc] at h;cases h
     | some u=>
      rw[hc] at h;cases h;obtain⟨u',e4,e5⟩:=e3.get off u hc;refine⟨_,u',rfl,?_,e5⟩;have:X.w.cell? ⟨n0,off,none⟩=some u':=by rw[zu e2];simpa using e4
      simp[this]
 | eptr sh l i off a hsp h0 h1 hr=>
  simp only at h;simp only[Instr.loadAt,Instr.sureAddr,qxF,qxW,qxH];exact qbX hE hk' (blk:=a.block) (o:=a.off+i.toNat*sh.length) (fun j hj=>by obtain⟨_,v,e1,e2⟩:=hr i.toNat j hj h1;exact⟨v,e1,by rwa [q99] at e2⟩) h
 | vptr b i off n0 k0 hb hσ hv=>
  simp only at h;cases hr:wn X.h (.vec b) with
  | none=>rw[hr] at h;cases h
  | some x=>
   obtain⟨sh,l⟩:=x;rw[hr] at h;simp only at h;obtain⟨e,hh⟩:=q8g hr;rcases hs.rows hh with⟨e1,rfl⟩|⟨n,c,e1,e2,e3⟩
   ·rw[hσ] at e1;cases e1
   ·rw[hσ] at e1;cases e1;obtain⟨f1,f2,rfl⟩:=hv sh l.length ⟨e,l,hh,rfl⟩;simp only[Instr.loadAt,Instr.sureAddr,qxF,qxW,qxH];exact qbX hE hk' (blk:=n0) (o:=i.toNat*sh.length) (fun j hj=>by obtain⟨v,g1,g2⟩:=e3 i.toNat j hj f2;exact⟨v,by rw[zu e2];exact g1,by rwa [q99] at g2⟩) h
 | _=>simp only at h;cases h
end Go.Eng

namespace Go.Eng
variable {E:Env}{P:Program}{X:Ctx}{r:Res}{t:TypeId}{v:Value}{w:World}
theorem qz.ofV {B:Base}{m:Sem Value}{av:AV}(hs:HSim B X)(h:m.run P X.w=.ok v X.w)(hr:Rep X av v) :qz P B X (do pure (.value (<-m))) (av,X.h,none):=qz.val (v:=v) hs (by simp[h]) hr
theorem q0O {a:AV}{k:IntKind}{n:Int}(hr:Rep X a v)(h:asI a=some (k,n)):v=.int k n:=by
 cases hr<;>simp[asI] at h
 ·obtain⟨rfl,rfl⟩:=h;rfl
 ·obtain⟨rfl,rfl⟩:=h;rfl
theorem qkt {a:AV}{b:Bool}(hr:Rep X a v)(h:asB a=some b):v=.bool b:=by
 cases hr<;>simp[asB] at h
 ·subst h;rfl
 ·subst h;rfl
theorem qmW {s:qxA}(hr:Rep X (.str s) v):v=.string ⟨s.toArray⟩:=by cases hr;rfl
theorem qje (X:Ctx)(v:Value):Rep X (vh v) v:=by
 unfold vh;split<;>first|exact .blit _|exact .ilit _ _|exact .nilp|exact .nils|exact .nilf|exact .undef _|skip
 rename_i s;have:Rep X (.str s.data.toList) (.string ⟨s.data.toList.toArray⟩):=.str _;simpa using this
theorem vE(X:Ctx):∀l:List Value,RepL X (l.map vh) l
 | []=>.nil
 | v::l=>.cons (qje X v) (vE X l)
theorem qvC (X:Ctx)(v:Value):Rep X (ofV v) v:=by
 unfold ofV;split
 ·rename_i cs;have:Rep X (.agg (cs.toList.map vh)) (.agg cs.toList.toArray):=.agg _ _ (vE X _);simpa using this
 ·exact qje X v
theorem q7J {h:List Blk}{k:IntKind}{f:Int->Int->Int}{lit:Bool}{x y:Int}(hr:(q2M h k f lit x y).run=some r)(X:Ctx) :∃av,r=(av,h,none)/\Rep X av (.int k (f x y)):=by
 unfold q2M at hr;split at hr<;>cases hr
 ·exact⟨_,rfl,.ilit _ _⟩
 ·exact⟨_,rfl,.int _ _⟩
theorem qbk {h:List Blk}{f:Int->Int->Bool}{lit:Bool}{x y:Int}(hr:(qpg h f lit x y).run=some r)(X:Ctx) :∃av,r=(av,h,none)/\Rep X av (.bool (f x y)):=by
 unfold qpg at hr;split at hr<;>cases hr
 ·exact⟨_,rfl,.blit _⟩
 ·exact⟨_,rfl,.bool _⟩
theorem wZ {b:Bool}{t:Tree Res}(h:(Tree.br b t .fail).run=some r):b=true/\t.run=some r:=by
 cases b
 ·cases h
 ·exact⟨rfl,h⟩
theorem qgW (hE:E.tok P)(h:(E.ty t).d=.bool):P.underlying t=some .bool:=by obtain⟨_,i,d,_,h2,h3,_⟩:=yD hE (t:=t) (by rw[h];rfl);rw[h] at h3;cases d<;>simp[qsY] at h3;exact h2
theorem qp7 (hE:E.tok P){t e:TypeId}(h:(E.ty t).d=.ptr e):P.underlying t=some (.pointer e):=by obtain⟨_,i,d,_,h2,h3,_⟩:=yD hE (t:=t) (by rw[h];rfl);rw[h] at h3;cases d<;>simp[qsY] at h3;rw[h2,h3]
theorem qjY (s t:qxA):(ByteArray.toList ⟨s.toArray⟩==ByteArray.toList ⟨t.toArray⟩)=seq s t:=by rw[ByteArray.toList_eq,ByteArray.toList_eq];rfl
theorem qtm (s t:qxA):Op.bytesLess (ByteArray.toList ⟨s.toArray⟩) (ByteArray.toList ⟨t.toArray⟩)=slt s t:=by rw[ByteArray.toList_eq,ByteArray.toList_eq];rfl
theorem qa7 {vx vy:Value}{r:Bool}(h:(Op.equalIn (9999+1) t vx vy).run P w=.ok r w):(Op.equal t vx vy).run P w=.ok r w:=h
theorem q5M {x y:Operand}{vx vy:Value}{r:Bool}(h:(Op.equal t vx vy).run P w=.ok r w)(h1:∀op,eqGuard op t x y vx vy=pure ()) (h2:binOp .eql t vx vy=(do pure (.bool (<-Op.equal t vx vy)))) :(do eqGuard .eql t x y vx vy;binOp .eql t vx vy:Sem Value).run P w=.ok (.bool r) w:=by simp[h1,h2,h]
theorem q3j {x y:Operand}{vx vy:Value}{r:Bool}(h:(Op.equal t vx vy).run P w=.ok r w)(h1:∀op,eqGuard op t x y vx vy=pure ()) (h2:binOp .neq t vx vy=(do pure (.bool (!(<-Op.equal t vx vy))))) :(do eqGuard .neq t x y vx vy;binOp .neq t vx vy:Sem Value).run P w=.ok (.bool (!r)) w:=by simp[h1,h2,h]
theorem qce (ht:P.underlying t=some .bool)(a b:Bool)(w:World):(Op.equal t (.bool a) (.bool b)).run P w=.ok (a==b) w:=qa7 (run_equalIn_bool' w 9999 t a b ht)
theorem q56 {t e:TypeId}(ht:P.underlying t=some (.pointer e))(w:World):(Op.equal t (.pointer none) (.pointer none)).run P w=.ok true w:=qa7 (by rw[Op.equalIn,qxF,run_underlying ht];rfl)
theorem q0i {t e:TypeId}(ht:P.underlying t=some (.pointer e))(a:Addr)(w:World):(Op.equal t (.pointer (some a)) (.pointer none)).run P w=.ok false w:=qa7 (by rw[Op.equalIn,qxF,run_underlying ht];rfl)
theorem qaE {t e:TypeId}(ht:P.underlying t=some (.slice e))(a:Addr)(n c:Nat):(Op.equal t (.slice (some a) n c) (.slice none 0 0)).run P w=.ok false w:=qa7 (by rw[Op.equalIn,qxF,run_underlying ht];rfl)
theorem qo2 (hE:E.tok P){B:Base}(hs:HSim B X){op:BinOp}{x y:Operand}{ax ay:AV}{vx vy:Value}(hx:Rep X ax vx)(hy:Rep X ay vy)(h:(qlU (E.ty t).d X.h op ax ay).run=some r):∃av u,r=(av,X.h,none)/\(do eqGuard op t x y vx vy;binOp op t vx vy:Sem Value).run P X.w=.ok u X.w/\Rep X av u:=by
 unfold qlU at h;cases h1:asI ax with
 | some p=>
  obtain⟨k,a⟩:=p;cases h2:asI ay with
  | some q=>
   obtain⟨k',b⟩:=q;rw[h1,h2] at h;simp only at h;have e1:=q0O hx h1;have e2:=q0O hy h2;subst e1 e2;by_cases hk:k=k'
   ·subst hk;simp only[if_true] at h;have hz:∀(f:Int->Int->Int) (lit:Bool),(match ay with
     | .ilit _ c=>if c=0 then Tree.fail else q2M X.h k f lit a b
     | _=>.br (ine b 0) (q2M X.h k f lit a b) .fail).run=some r->b≠0/\(q2M X.h k f lit a b).run=some r:=by
     intro f lit hh;cases ay<;>simp only[asI] at h2<;>cases h2
     ·have hh2:(if b=0 then Tree.fail else q2M X.h k f lit a b).run=some r:=hh;by_cases h0:b=0
      ·rw[if_pos h0] at hh2;cases hh2
      ·rw[if_neg h0] at hh2;exact⟨h0,hh2⟩
     ·obtain⟨g1,g2⟩:=wZ hh;exact⟨by simpa[ine] using g1,g2⟩
    cases op with
    | add=>obtain⟨av,e,f⟩:=q7J h X;exact⟨av,_,e,by simp[eqGuard,binOp,Op.intArith];rfl,f⟩
    | sub=>obtain⟨av,e,f⟩:=q7J h X;exact⟨av,_,e,by simp[eqGuard,binOp,Op.intArith];rfl,f⟩
    | mul=>obtain⟨av,e,f⟩:=q7J h X;exact⟨av,_,e,by simp[eqGuard,binOp,Op.intArith];rfl,f⟩
    | quo=>obtain⟨h0,hh⟩:=hz _ _ h;obtain⟨av,e,f⟩:=q7J hh X;exact⟨av,_,e,by simp[eqGuard,binOp,Op.intDiv,h0];rfl,f⟩
    | rem=>obtain⟨h0,hh⟩:=hz _ _ h;obtain⟨av,e,f⟩:=q7J hh X;exact⟨av,_,e,by simp[eqGuard,binOp,Op.intDiv,h0];rfl,f⟩
    | eql=>obtain⟨av,e,f⟩:=qbk h X;exact⟨av,_,e,by simp[eqGuard,binOp,Op.intCmp];rfl,f⟩
    | neq=>obtain⟨av,e,f⟩:=qbk h X;exact⟨av,_,e,by simp[eqGuard,binOp,Op.intCmp];rfl,f⟩
    | lss=>obtain⟨av,e,f⟩:=qbk h X;exact⟨av,_,e,by simp[eqGuard,binOp,Op.intCmp];rfl,f⟩
    | leq=>obtain⟨av,e,f⟩:=qbk h X;exact⟨av,_,e,by simp[eqGuard,binOp,Op.intCmp];rfl,f⟩
    | gtr=>obtain⟨av,e,f⟩:=qbk h X;exact⟨av,_,e,by simp[eqGuard,binOp,Op.intCmp];rfl,f⟩
    | geq=>obtain⟨av,e,f⟩:=qbk h X;exact⟨av,_,e,by simp[eqGuard,binOp,Op.intCmp];rfl,f⟩
    | _=>cases h
   ·simp only[hk,if_false] at h;cases h
  | none=>
   rw[h1,h2] at h;cases ax<;>simp[asI] at h1<;>simp[asB] at h<;>cases h
 | none=>
  rw[h1] at h;simp only at h;cases h2:asB ax with
  | some a=>
   cases h3:asB ay with
   | some b=>
    rw[h2,h3] at h;simp only at h;have e1:=qkt hx h2;have e2:=qkt hy h3;subst e1 e2;cases hd:(E.ty t).d<;>rw[hd] at h<;>try (cases h)
    have ht:=qgW hE hd;cases op<;>simp only[okb] at h<;>cases h
    ·exact⟨_,_,rfl,q5M (qce ht _ _ _) (fun op=>by cases op<;>rfl) rfl,.bool _⟩
    ·exact⟨_,_,rfl,q3j (qce ht _ _ _) (fun op=>by cases op<;>rfl) rfl,.bool _⟩
   | none=>
    rw[h2,h3] at h;cases ax<;>simp[asB] at h2<;>simp only at h<;>cases h
  | none=>
   rw[h2] at h;simp only at h;cases ax with
   | str s=>
    cases ay<;>simp only at h<;>try (cases h)
    rename_i s';obtain rfl:=qmW hx;obtain rfl:=qmW hy;cases op<;>simp only[okb,okv] at h<;>try (cases h)
    ·obtain⟨g1,g2⟩:=wZ h;cases g2;refine⟨_,.string ⟨(qmH s s').toArray⟩,rfl,?_,.str _⟩;have g3:(s.length:Int)+s'.length<=140737488355328:=of_decide_eq_true g1;have g4:¬(((ByteArray.mk s.toArray).size+(ByteArray.mk s'.toArray).size:Nat):Int)>IntKind.i64.max:=by
      have:IntKind.i64.max=9223372036854775807:=by decide
      have h1:(ByteArray.mk s.toArray).size=s.length:=rfl;have h2:(ByteArray.mk s'.toArray).size=s'.length:=rfl;omega
     have g5:(ByteArray.mk s.toArray++ByteArray.mk s'.toArray)=⟨(qmH s s').toArray⟩:=by apply ByteArray.ext;simp[qmH]
     simp only[eqGuard,binOp,Op.stringOp,qxF,qxW,qxH,Bool.not_false,if_true,g4,if_false,g5]
    all_goals exact⟨_,_,rfl,by simp only[eqGuard,binOp,Op.stringOp,qjY,qtm];rfl,.bool _⟩
   | nilp=>
    cases ay<;>simp only at h<;>try (cases h)
    cases hd:(E.ty t).d<;>rw[hd] at h<;>try (cases h)
    have ht:=qp7 hE hd;cases hx;cases hy;cases op<;>simp only[okv] at h<;>cases h
    ·exact⟨_,_,rfl,q5M (q56 ht _) (fun op=>by cases op<;>rfl) rfl,.blit _⟩
    ·exact⟨_,_,rfl,q3j (q56 ht _) (fun op=>by cases op<;>rfl) rfl,.blit _⟩
   | ptr b o=>
    cases ay<;>simp only at h<;>try (cases h)
    cases hd:(E.ty t).d<;>rw[hd] at h<;>try (cases h)
    have ht:=qp7 hE hd;cases hb:X.h[b]? with
    | none=>rw[hb] at h;cases h
    | some k=>
     rw[hb] at h;cases k<;>try (cases h)
     obtain⟨n,c,T,e1,_,_⟩:=hs.blk b _ hb;cases hy;cases hx with
     | ptr _ _ n0 hbl hσ=>
      cases op<;>simp only[okv] at h<;>cases h
      ·exact⟨_,_,rfl,q5M (q0i ht _ _) (fun op=>by cases op<;>rfl) rfl,.blit _⟩
      ·exact⟨_,_,rfl,q3j (q0i ht _ _) (fun op=>by cases op<;>rfl) rfl,.blit _⟩
   | eptr sh l i o=>
    cases ay<;>simp only at h<;>try (cases h)
    cases hd:(E.ty t).d<;>rw[hd] at h<;>try (cases h)
    have ht:=qp7 hE hd;cases hy;cases hx;cases op<;>simp only[okv] at h<;>cases h
    ·exact⟨_,_,rfl,q5M (q0i ht _ _) (fun op=>by cases op<;>rfl) rfl,.blit _⟩
    ·exact⟨_,_,rfl,q3j (q0i ht _ _) (fun op=>by cases op<;>rfl) rfl,.blit _⟩
   | imm sh l=>
    cases ay<;>simp only at h<;>try (cases h)
    cases hd:(E.ty t).d<;>rw[hd] at h<;>try (cases h)
    have ht:=uq hE hd;cases hy;cases hx with
    | imm _ _ _ himm=>
     have hne:ilt 0 (qh l)=true->∃a c,vx=.slice (some a) l.length c:=by
      intro hl;have hl':(0:Int)<qh l:=of_decide_eq_true hl;rcases himm with⟨rfl,rfl⟩|⟨a,cap,rfl,_⟩
      ·simp[qh] at hl'
      ·exact⟨a,cap,rfl⟩
     cases op<;>simp only[okv] at h<;>try (cases h)
     ·obtain⟨g1,g2⟩:=wZ h;cases g2;obtain⟨a,c,rfl⟩:=hne g1;exact⟨_,_,rfl,q5M (qaE ht.1 _ _ _) (fun op=>by cases op<;>rfl) rfl,.blit _⟩
     ·obtain⟨g1,g2⟩:=wZ h;cases g2;obtain⟨a,c,rfl⟩:=hne g1;exact⟨_,_,rfl,q3j (qaE ht.1 _ _ _) (fun op=>by cases op<;>rfl) rfl,.blit _⟩
   | mptr c sh l i o=>
    cases ay<;>simp only at h<;>try (cases h)
    cases hd:(E.ty t).d<;>rw[hd] at h<;>try (cases h)
    have ht:=qp7 hE hd;cases hy;cases hx with
    | mnil=>
     cases op<;>simp only[okb] at h<;>cases h
     ·exact⟨_,_,rfl,q5M (q56 ht _) (fun op=>by cases op<;>rfl) rfl,.bool _⟩
     ·exact⟨_,_,rfl,q3j (q56 ht _) (fun op=>by cases op<;>rfl) rfl,.bool _⟩
    | mptr=>
     cases op<;>simp only[okb] at h<;>cases h
     ·exact⟨_,_,rfl,q5M (q0i ht _ _) (fun op=>by cases op<;>rfl) rfl,.bool _⟩
     ·exact⟨_,_,rfl,q3j (q0i ht _ _) (fun op=>by cases op<;>rfl) rfl,.bool _⟩
   | _=>simp only at h;cases h
end Go.Eng

namespace Go.Eng
variable {E:Env}{P:Program}{X:Ctx}{r:Res}{t:TypeId}{v:Value}{w:World}
theorem qpA {op:UnOp}{a:AV}(hv:Rep X a v)(h:(qvz X.h op a).run=some r) :∃av u,r=(av,X.h,none)/\(Op.unary op v).run P X.w=.ok u X.w/\Rep X av u:=by
 unfold qvz at h;cases op<;>cases hv<;>simp only[okv] at h<;>cases h
 ·exact⟨_,_,rfl,rfl,.ilit _ _⟩
 ·exact⟨_,_,rfl,rfl,.int _ _⟩
 ·exact⟨_,_,rfl,rfl,.blit _⟩
 ·exact⟨_,_,rfl,rfl,.bool _⟩
theorem qlS (hE:E.tok P){src dst:TypeId}{a:AV}(hv:Rep X a v)(h:(qfS E X.h src dst a).run=some r) :∃av u,r=(av,X.h,none)/\(convert src dst v).run P X.w=.ok u X.w/\Rep X av u:=by
 unfold qfS at h;cases hs:(E.ty src).d<;>rw[hs] at h<;>try (cases h)
 ·rename_i k1;cases hd:(E.ty dst).d<;>rw[hd] at h<;>try (cases h)
  rename_i k2;have e1:=qhF hE hs;have e2:=qhF hE hd;cases hv<;>simp only[okv] at h<;>cases h
  ·refine⟨_,_,rfl,?_,.ilit _ _⟩;simp only[convert,qxF,run_underlying e1,run_underlying e2,qxH];rfl
  ·refine⟨_,_,rfl,?_,.int _ _⟩;simp only[convert,qxF,run_underlying e1,run_underlying e2,qxH];rfl
 ·cases hd:(E.ty dst).d<;>rw[hd] at h<;>try (cases h)
  have e1:=q9t hE hs;have e2:=q9t hE hd;cases hv<;>simp only[okv] at h<;>cases h;refine⟨_,_,rfl,?_,.str _⟩;simp only[convert,qxF,run_underlying e1,run_underlying e2,qxH];rfl
theorem qiL {a:Addr}{f:Field}(h:0<P.cellsOf f.type):(fieldPlace a f).run P w=.ok (a.add f.offset) w:=by
 have:P.cellsOf f.type≠0:=by omega
 simp[fieldPlace,za h,this]
theorem qez (hE:E.tok P){s:TypeId}{a:AV}(hv:Rep X a v){f:Nat}(h:(q06 E X.h s a f).run=some r) :∃av u,r=(av,X.h,none)/\(Instr.fieldAt s v f).run P X.w=.ok u X.w/\Rep X av u:=by
 unfold q06 at h;cases hs:(E.ty s).d<;>rw[hs] at h<;>try (cases h)
 rename_i fs;obtain⟨fields,e1,e2⟩:=q41 hE hs;simp only at h;cases hf:fs[f]? with
 | none=>rw[hf] at h;cases h
 | some x=>
  obtain⟨o,t,sz⟩:=x;rw[hf] at h;simp only at h;have hfield:∃fd,fields[f]?=some fd/\fd.offset=o/\P.cellsOf fd.type=sz:=by
   rw[e2,qxZ] at hf;cases hg:fields.toList[f]? with
   | none=>rw[hg] at hf;cases hf
   | some fd=>
    rw[hg] at hf;simp only[qy0,qxB,qxX] at hf;exact⟨fd,by simpa using hg,hf.1,hf.2.2⟩
  obtain⟨fd,g1,rfl,g3⟩:=hfield;by_cases hz:sz=0
  ·rw[if_pos hz] at h;cases h
  rw[if_neg hz] at h;have hp:0<P.cellsOf fd.type:=by omega
  have hrun:∀a:Addr,(Instr.fieldAt s (.pointer (some a)) f).run P X.w=.ok (.pointer (some (a.add fd.offset))) X.w:=by intro a;simp[Instr.fieldAt,run_underlying e1,g1,Instr.sureAddr,qiL hp]
  cases hv with
  | ptr b off n hb hσ=>
   simp only[okv] at h;cases h;refine⟨_,_,rfl,hrun _,?_⟩;rw[qy7];exact .ptr _ _ _ hb hσ
  | eptr sh l i off a hsp h0 h1 hr=>
   simp only[okv] at h;cases h;refine⟨_,_,rfl,hrun _,?_⟩;rw[qy7,qz5];exact .eptr _ _ _ _ _ hsp h0 h1 hr
  | vptr b i off n k hb hσ hp=>
   simp only[okv] at h;cases h;refine⟨_,_,rfl,hrun _,?_⟩;rw[qy7,qz5];exact .vptr _ _ _ _ _ hb hσ hp
  | _=>simp only at h;cases h
theorem q1O (hE:E.tok P){cs:List AV}{vs:List Value}(hv:RepL X cs vs){off:Nat}{a:AV}(h:q9B E t cs off=some a) (w:World):∃u,(part t vs.toArray off).run P w=.ok u w/\Rep X a u:=by
 unfold q9B at h;by_cases hk:(E.ty t).d.known=false
 ·simp only[hk,if_true] at h;cases h
 simp only[hk] at h;have hk':(E.ty t).d.known=true:=by simpa using hk
 unfold part;rw[qxF,q7H hE hk',qxH];cases ha:(E.ty t).d.isAgg with
 | true=>
  rw[ha] at h;simp only[if_true] at h ⊢;by_cases hle:off+(E.ty t).size<=cs.length
  ·have h':(some (AV.agg ((cs.drop off).take (E.ty t).size)):Option AV)=some a:=by simpa[hle] using h
   cases h';refine⟨.agg ((vs.drop off).take (E.ty t).size).toArray,?_,.agg _ _ ((hv.drop off).take _)⟩;rw[qxF,qbi hE hk',qxH,qxW];congr 2;apply qyo;simp[List.extract,Nat.add_sub_cancel_left]
  ·simp[hle] at h
 | false=>
  rw[ha] at h;simp only[qy5,if_false] at h ⊢;obtain⟨u,e1,e2⟩:=hv.get off a h;exact⟨u,by simp[e1],e2⟩
theorem qjH {h:List Blk}{cs:List AV}{off:Nat}(hr:(qaH E h t cs off).run=some r):∃a,q9B E t cs off=some a/\r=(a,h,none):=by
 unfold qaH at hr;cases hp:q9B E t cs off with
 | none=>rw[hp] at hr;cases hr
 | some a=>rw[hp] at hr;cases hr;exact⟨a,rfl,rfl⟩
theorem qkj (hE:E.tok P){s:TypeId}{a:AV}(hv:Rep X a v){f:Nat}(h:(qb0 E X.h s a f).run=some r) :∃av u,r=(av,X.h,none)/\(Instr.field s v f).run P X.w=.ok u X.w/\Rep X av u:=by
 unfold qb0 at h;cases hs:(E.ty s).d<;>rw[hs] at h<;>try (cases h)
 rename_i fs;obtain⟨fields,e1,e2⟩:=q41 hE hs;cases hv<;>simp only at h<;>try (cases h)
 rename_i cs vs hv;cases hf:fs[f]? with
 | none=>rw[hf] at h;cases h
 | some x=>
  obtain⟨o,t,sz⟩:=x;rw[hf] at h;simp only at h;rw[e2,qxZ] at hf;cases hg:fields.toList[f]? with
  | none=>rw[hg] at hf;cases hf
  | some fd=>
   rw[hg] at hf;simp only[qy0,qxB,qxX] at hf;obtain⟨rfl,rfl,_⟩:=hf;obtain⟨a,h1,rfl⟩:=qjH h;obtain⟨u,h2,h3⟩:=q1O hE hv h1 X.w;have hg':fields[f]?=some fd:=by simpa using hg
   exact⟨_,u,rfl,by simp[Instr.field,run_underlying e1,hg',asAgg,h2],h3⟩
theorem qcN {i n:Int}(h:inb i n=true):0<=i/\i<n:=by simpa[inb] using h
theorem yI {i n:Int}(h:q5U i n=true):0<=i/\i<=n:=by simpa[q5U] using h
theorem q8h {t e:TypeId}{a:Addr}{n c:Nat}{k:IntKind}{i:Int}(ht:P.underlying t=some (.slice e))(hp:0<P.cellsOf e)(h0:0<=i)(h1:i<n) :(Instr.indexAt t (.slice (some a) n c) (.int k i)).run P w=.ok (.pointer (some (a.add (i.toNat*P.cellsOf e)))) w:=by simp[Instr.indexAt,asIntOf,run_underlying ht,h0,h1,za hp]
theorem yY {t e:TypeId}{a:Addr}{n:Nat}{k:IntKind}{i:Int}(ht:P.underlying t=some (.array n e))(hp:0<P.cellsOf e)(h0:0<=i)(h1:i<n) :(Instr.indexAt t (.pointer (some a)) (.int k i)).run P w=.ok (.pointer (some (a.add (i.toNat*P.cellsOf e)))) w:=by simp[Instr.indexAt,asIntOf,run_underlying ht,h0,h1,za hp,Instr.sureAddr]
theorem Addr.add_of {a:Addr}(h:a.spot=none)(n:Nat):a.add n=⟨a.block,a.off+n,none⟩:=by obtain⟨b,o,s⟩:=a;subst h;exact qy7 b o n
theorem qcD{h:List Blk}{i:Int}{f:Nat->AV}{r:Res}:∀n,(qb3 h i f n).run=some r->∃m:Nat,m<n/\i=m/\r=(f m,h,none)
 | 0,h=>by cases h
 | n+1,hr=>by
  simp only[qb3,Tree.run] at hr;cases hb:ieq i n with
  | true=>
   rw[hb] at hr;cases hr;exact⟨n,qyW n,by simpa[ieq] using hb,rfl⟩
  | false=>
   rw[hb] at hr;obtain⟨m,h1,h2,h3⟩:=qcD n hr;exact⟨m,by omega,h2,h3⟩
theorem q0b (hE:E.tok P){B:Base}(hs:HSim B X){a ai:AV}{v vi:Value}(hv:Rep X a v)(hi:Rep X ai vi)(h:(ju E X.h t a ai).run=some r):∃av u,r=(av,X.h,none)/\(Instr.indexAt t v vi).run P X.w=.ok u X.w/\Rep X av u:=by
 unfold ju at h;cases hd:(E.ty t).d<;>rw[hd] at h<;>try (cases h)
 ·rename_i e es;obtain⟨ht,rfl⟩:=uq hE hd;cases hai:asI ai with
  | none=>rw[hai] at h;cases hv<;>simp only at h<;>cases h
  | some p=>
   obtain⟨k,i⟩:=p;rw[hai] at h;obtain rfl:=q0O hi hai;cases hv<;>simp only at h<;>try (cases h)
   ·rename_i sh l himm;by_cases hc:sh.length=P.cellsOf e/\0<P.cellsOf e
    ·rw[if_pos hc] at h;obtain⟨g1,g2⟩:=wZ h;cases g2;obtain⟨g3,g4⟩:=qcN g1;rcases himm with⟨rfl,rfl⟩|⟨a,cap,rfl,hsp,hcap,hr⟩
     ·simp[qh] at g4;omega
     ·refine⟨_,_,rfl,q8h ht hc.2 g3 g4,?_⟩;have hsp:=hsp (by simp[qh] at g4;omega);rw[Addr.add_of hsp,<-hc.1];have:Rep X (.eptr sh l i 0) (.pointer (some ⟨a.block,a.off+i.toNat*sh.length+0,none⟩)):=.eptr _ _ _ _ _ hsp g3 (by simp[qh] at g4;omega) hr;simpa using this
    ·rw[if_neg hc] at h;cases h
   ·rename_i b p n c hb hv;cases hr:wn X.h (.vec b) with
    | none=>rw[hr] at h;cases h
    | some x=>
     obtain⟨sh,l⟩:=x;rw[hr] at h;simp only at h;by_cases hc:sh.length=P.cellsOf e/\0<P.cellsOf e
     ·rw[if_pos hc] at h;obtain⟨g1,g2⟩:=wZ h;cases g2;obtain⟨g3,g4⟩:=qcN g1;obtain⟨e0,hh⟩:=q8g hr;have hvv:=hv sh l.length ⟨e0,l,hh,rfl⟩;unfold qmm at hvv;rcases hs.rows hh with⟨e1,rfl⟩|⟨n0,c0,e1,e2,e3⟩
      ·simp[qh] at g4;omega
      ·rw[e1] at hvv;obtain⟨cap,f1,f2,f3,c1,T1,fr1,f4,f5⟩:=hvv;cases f1;refine⟨_,_,rfl,q8h ht hc.2 g3 g4,?_⟩;rw[qy7,<-hc.1];have:Rep X (.vptr b i 0) (.pointer (some ⟨n0,i.toNat*sh.length+0,none⟩)):=.vptr _ _ _ _ _ hb e1 fun sh' m ⟨e',l',q1,q2⟩=>by
        have:sh'=sh/\l'=l:=by rcases hh with hh|hh<;>rcases q1 with q1|q1<;>rw[hh] at q1<;>cases q1<;>exact⟨rfl,rfl⟩
        obtain⟨rfl,rfl⟩:=this;exact⟨g3,by simp[qh] at g4;omega,rfl⟩
       simpa using this
     ·rw[if_neg hc] at h;cases h
 ·rename_i n e es;obtain⟨ht,rfl⟩:=q3B hE hd;cases hv<;>simp only at h<;>try (cases h)
  ·rename_i b off n0 hb hσ;cases hi<;>simp only at h<;>try (cases h)
   ·rename_i k i;by_cases hc:0<=i/\i<n/\0<P.cellsOf e
    ·rw[if_pos hc] at h;cases h;refine⟨_,_,rfl,yY ht hc.2.2 hc.1 hc.2.1,?_⟩;rw[qy7];exact .ptr _ _ _ hb hσ
    ·rw[if_neg hc] at h;cases h
   ·rename_i k i;by_cases hc:n<=16/\0<P.cellsOf e
    ·rw[if_pos hc] at h;obtain⟨m,g1,rfl,rfl⟩:=qcD _ h;refine⟨_,_,rfl,yY ht hc.2 (by omega) (by omega),?_⟩;rw[qy7];exact .ptr _ _ _ hb hσ
    ·rw[if_neg hc] at h;cases h
  ·rename_i sh l i0 off a hsp h0 h1 hr;cases hi<;>simp only at h<;>try (cases h)
   ·rename_i k i;by_cases hc:0<=i/\i<n/\0<P.cellsOf e
    ·rw[if_pos hc] at h;cases h;refine⟨_,_,rfl,yY ht hc.2.2 hc.1 hc.2.1,?_⟩;rw[qy7,qz5];exact .eptr _ _ _ _ _ hsp h0 h1 hr
    ·rw[if_neg hc] at h;cases h
   ·rename_i k i;by_cases hc:n<=16/\0<P.cellsOf e
    ·rw[if_pos hc] at h;obtain⟨m,g1,rfl,rfl⟩:=qcD _ h;refine⟨_,_,rfl,yY ht hc.2 (by omega) (by omega),?_⟩;rw[qy7,qz5];exact .eptr _ _ _ _ _ hsp h0 h1 hr
    ·rw[if_neg hc] at h;cases h
end Go.Eng

namespace Go.Eng
variable {P:Program}
theorem qi7{X:Ctx}{k:IntKind}:∀{cs:List AV} {l:List Int} {vs:List Value},qdj k cs=some l->RepL X cs vs->vs=l.map (Value.int k)
 | [],l,vs,h,hr=>by cases hr;simp[qdj] at h;subst h;rfl
 | a::cs,l,vs,h,hr=>by
  cases hr with
  | cons ha ht=>
   simp only[qdj] at h;cases h1:asI a with
   | none=>rw[h1] at h;cases h
   | some p=>
    obtain⟨k',n⟩:=p;cases h2:qdj k cs with
    | none=>rw[h1,h2] at h;cases h
    | some r=>
     rw[h1,h2] at h;simp only at h;by_cases hk:k=k'
     ·subst hk;rw[if_pos rfl] at h;cases h;rw[q0O ha h1,qi7 h2 ht];rfl
     ·rw[if_neg hk] at h;cases h
theorem qk4 {E:Env}(hE:E.tok P){X:Ctx}{t:TypeId}{a ai:AV}{v vi:Value}(hv:Rep X a v)(hi:Rep X ai vi){r:Res}(h:(qaa E X.h t a ai).run=some r):∃av u,r=(av,X.h,none)/\(Instr.index t v vi).run P X.w=.ok u X.w/\Rep X av u:=by
 unfold qaa at h;cases hd:(E.ty t).d<;>rw[hd] at h<;>try (cases h)
 ·cases hai:asI ai with
  | none=>rw[hai] at h;cases hv<;>simp only at h<;>cases h
  | some p=>
   obtain⟨k,i⟩:=p;rw[hai] at h;obtain rfl:=q0O hi hai;have ht:=q9t hE hd;cases hv<;>simp only at h<;>try (cases h)
   rename_i s;obtain⟨g1,g2⟩:=wZ h;cases g2;obtain⟨g3,g4⟩:=qcN g1;refine⟨_,.int .u8 (sat s i),rfl,?_,.int _ _⟩;have hlt:i.toNat<s.length:=by simp only[zG] at g4;omega
   have hsz:(ByteArray.mk s.toArray)[i.toNat]?=some s[i.toNat]:=by
    have:(ByteArray.mk s.toArray)[i.toNat]?=(s.toArray)[i.toNat]?:=by simp only[getElem?_def];rfl
    rw[this];simp[hlt]
   simp only[Instr.index,asIntOf,qxF,qxW,qxH,run_underlying ht,g3,if_true,hsz];simp[sat,hlt]
 ·rename_i n e es;obtain⟨ht,rfl⟩:=q3B hE hd;cases hai:asI ai with
  | none=>rw[hai] at h;cases hv<;>simp only at h<;>cases h
  | some p=>
   obtain⟨k,i⟩:=p;rw[hai] at h;obtain rfl:=q0O hi hai;cases hv<;>simp only at h<;>try (cases h)
   rename_i cs vs hv;have lit:∀(_:0<=i) (_:i<n) (_:0<P.cellsOf e) (_:(qaH E X.h e cs (i.toNat*P.cellsOf e)).run=some r),
     ∃av u,r=(av,X.h,none)/\(Instr.index t (.agg vs.toArray) (.int k i)).run P X.w=.ok u X.w/\Rep X av u:=by
    intro h0 h1 hp hh;obtain⟨a,q1,rfl⟩:=qjH hh;obtain⟨u,q2,q3⟩:=q1O hE hv q1 X.w;exact⟨_,u,rfl,by simp[Instr.index,asIntOf,run_underlying ht,h0,h1,za hp,q2],q3⟩
   have sym:∀(_:(match (E.ty e).d with
     | .int k=>if P.cellsOf e=1/\cs.length=n then (match qdj k cs with
      | some l=>Tree.br (inb i n) (okv X.h (.int k (qwJ l i))) .fail
      | none=>.fail) else .fail
     | .slice _ _=>if 0<P.cellsOf e then (match Nat.ble n 4 with|true=>qfE E X.h e cs (P.cellsOf e) i 0 n|false=>.fail) else .fail
     | _=>.fail).run=some r),
     ∃av u,r=(av,X.h,none)/\(Instr.index t (.agg vs.toArray) (.int k i)).run P X.w=.ok u X.w/\Rep X av u:=by
    intro hh;cases he:(E.ty e).d<;>rw[he] at hh<;>try (cases hh)
    case slice e' es'=>
     simp only at hh;split at hh
     case isFalse=>cases hh
     rename_i hp;split at hh
     case h_2=>cases hh
     have go:∀(m j:Nat),j+m=n->(qfE E X.h e cs (P.cellsOf e) i j m).run=some r->∃av u,r=(av,X.h,none)/\(Instr.index t (.agg vs.toArray) (.int k i)).run P X.w=.ok u X.w/\Rep X av u:=by
      intro m;induction m with
      | zero=>intro j _ hh;cases hh
      | succ m ih=>
       intro j hj hh;unfold qfE at hh;simp only[Tree.run] at hh;split at hh
       ·rename_i hi;have hij:i=(j:Int):=by simpa[ieq] using hi
        exact lit (by omega) (by omega) hp (by rw[hij,qy1];exact hh)
       ·exact ih (j+1) (by omega) hh
     exact go n 0 (by omega) hh
    rename_i k';simp only at hh;by_cases hc:P.cellsOf e=1/\cs.length=n
    ·rw[if_pos hc] at hh;cases hl:qdj k' cs with
     | none=>rw[hl] at hh;cases hh
     | some l=>
      rw[hl] at hh;obtain⟨g1,g2⟩:=wZ hh;cases g2;obtain⟨g3,g4⟩:=qcN g1;have hvs:=qi7 hl hv;have hlen:=hv.length;refine⟨_,.int k' (qwJ l i),rfl,?_,.int _ _⟩;have hlt:i.toNat<l.length:=by rw[hvs] at hlen;simp at hlen;omega
      have hag:(isAgg e).run P X.w=.ok false X.w:=by rw[q7H hE (by rw[he];rfl),he];rfl
      have hget:vs[i.toNat]?=some (.int k' (qwJ l i)):=by rw[hvs];simp[hlt,qwJ]
      simp[Instr.index,asIntOf,run_underlying ht,g3,g4,za (show 0<P.cellsOf e by omega),part,hag,hc.1,hget]
    ·rw[if_neg hc] at hh;cases hh
   cases ai with
   | ilit k2 i2=>
    simp only[asI] at hai;cases hai;simp only at h;by_cases hc:0<=i/\i<n/\0<P.cellsOf e
    ·rw[if_pos hc] at h;exact lit hc.1 hc.2.1 hc.2.2 h
    ·rw[if_neg hc] at h;cases h
   | int k2 i2=>exact sym h
   | _=>simp[asI] at hai
theorem qmO {E:Env}(hE:E.tok P){B:Base}{X:Ctx}(hs:HSim B X){t ty:TypeId}{ts:Array TypeId}(h0:ts[0]?=some t){a:AV}{v:Value}(hv:Rep X a v){r:Res}(h:(qrT E X.h t a).run=some r):∃av u,r=(av,X.h,none)/\(Builtin.len_ ts ty #[v]).run P X.w=.ok u X.w/\Rep X av u:=by
 unfold qrT at h;cases hd:(E.ty t).d<;>rw[hd] at h<;>try (cases h)
 ·have ht:=q9t hE hd;cases hv<;>simp only at h<;>try (cases h)
  rename_i s;refine⟨_,.int .i64 (zG s),rfl,?_,.int _ _⟩;simp[Builtin.len_,h0,run_underlying ht,goInt,zG];rfl
 ·rename_i e es;obtain⟨ht,rfl⟩:=uq hE hd;have run:∀p n c,(Builtin.len_ ts ty #[.slice p n c]).run P X.w=.ok (.int .i64 n) X.w:=by intro p n c;simp[Builtin.len_,h0,run_underlying ht,goInt]
  have gen:∀(_:(match wn X.h a with|some (_,l)=>okv X.h (.int .i64 (qh l))|none=>.fail).run=some r),
    ∃av u,r=(av,X.h,none)/\(Builtin.len_ ts ty #[v]).run P X.w=.ok u X.w/\Rep X av u:=by
   intro hh;cases hr:wn X.h a with
   | none=>rw[hr] at hh;cases hh
   | some x=>
    obtain⟨sh,l⟩:=x;rw[hr] at hh;cases hh;cases hv<;>simp only[wn] at hr<;>try (cases hr)
    ·rename_i himm;rcases himm with⟨rfl,rfl⟩|⟨a,cap,rfl,_⟩
     ·exact⟨_,_,rfl,run _ _ _,.int _ _⟩
     ·exact⟨_,_,rfl,run _ _ _,.int _ _⟩
    ·rename_i b p n c hb hv;obtain⟨e0,hh⟩:=q8g (b:=b) (h:=X.h) (sh:=sh) (l:=l) (by simpa only [wn] using hr);have hvv:=hv sh l.length ⟨e0,l,hh,rfl⟩;unfold qmm at hvv;rcases hs.rows hh with⟨e1,rfl⟩|⟨n0,c0,e1,e2,e3⟩
     ·rw[e1] at hvv;obtain⟨p,hvv⟩:=hvv;cases hvv;exact⟨_,_,rfl,run _ _ _,.int _ _⟩
     ·rw[e1] at hvv;obtain⟨cap,f1,_⟩:=hvv;cases f1;exact⟨_,_,rfl,run _ _ _,.int _ _⟩
  cases hv with
  | nils=>simp only at h;cases h;exact⟨_,_,rfl,run _ _ _,.ilit _ _⟩
  | _=>exact gen h
 ·rename_i n e es;obtain⟨ht,rfl⟩:=q3B hE hd;refine⟨_,.int .i64 n,rfl,?_,.ilit _ _⟩;simp[Builtin.len_,h0,run_underlying ht,goInt]
theorem qtz {k k':IntKind}{x y:Int}{w:World}:(Builtin.max2 (.int k x) (.int k' y)).run P w=.ok (.int k (qlt x y)) w:=rfl
theorem qtp {k k':IntKind}{x y:Int}{w:World}:(Builtin.min2 (.int k x) (.int k' y)).run P w=.ok (.int k (qd7 x y)) w:=rfl
theorem qgB{P:Program}{X:Ctx}{f:Int->Int->Int}{g:Value->Value->Sem Value}(hg:∀k k' x y w,(g (.int k x) (.int k' y)).run P w=.ok (.int k (f x y)) w)(k:IntKind) :
  ∀(l:List AV) (a m:Int) (vs:List Value),qnJ f k a l=some m->RepL X l vs->(vs.foldlM g (.int k a)).run P X.w=.ok (.int k m) X.w
 | [],a,m,vs,h,hr=>by cases hr;simp[qnJ] at h;subst h;rfl
 | x::l,a,m,vs,h,hr=>by
  cases hr with
  | cons hx ht=>
   simp only[qnJ] at h;cases h1:asI x with
   | none=>rw[h1] at h;cases h
   | some p=>
    obtain⟨k',b⟩:=p;rw[h1] at h;simp only at h;by_cases hk:k=k'
    ·rw[if_pos hk] at h;rw[q0O hx h1,List.foldlM_cons,qxF,hg,qxH];exact qgB hg k l _ m _ h ht
    ·rw[if_neg hk] at h;cases h
theorem qfP{E:Env}{P:Program}(hE:E.tok P){X:Ctx}{e:TypeId}{c:Nat}(he:P.underlying e=some .string){xs ys:List AV}{vxs vys:List Value}(hx:RepL X xs vxs)(hy:RepL X ys vys)(d:Nat)(w:World) :
  ∀(is:List Nat) (r:Bool),qmf E e c xs ys is=some r->(Op.eqItems (d+1) e c vxs.toArray vys.toArray is).run P w=.ok r w
 | [],r,h=>by
  simp only[qmf] at h;cases h;rfl
 | i::is,r,h=>by
  simp only[qmf] at h;split at h
  ·rename_i a b r' h1 h2 h3;cases h;obtain⟨u1,q1,q2⟩:=q1O hE hx h1 w;obtain⟨u2,q3,q4⟩:=q1O hE hy h2 w;cases q2;cases q4;have q5:=run_equalIn_string w d e ⟨a.toArray⟩ ⟨b.toArray⟩ he;have q6:=qfP hE he hx hy d w is r' h3;rw[qjY] at q5;simp only[Op.eqItems,qxF,q1,q3,q5,qxH];cases hs:Eng.seq a b with
   | true=>simp[qpJ,q6]
   | false=>simp[qpJ]
  ·cases h
mutual
theorem qln{E:Env}{P:Program}(hE:E.tok P){X:Ctx}:∀(n:Nat) (t:TypeId) (x y:AV) (r:Bool) (vx vy:Value),eqT E n t x y=some r->Rep X x vx->Rep X y vy ->
  ∀d,n<=d->∀w,(Op.equalIn d t vx vy).run P w=.ok r w
 | 0,_,_,_,_,_,_,h,_,_,_,_,_=>by simp[eqT] at h
 | n+1,t,x,y,r,vx,vy,h,hx,hy,d,hd,w=>by
  obtain⟨d,rfl⟩:∃d',d=d'+1:=⟨d-1,by omega⟩;simp only[eqT] at h;cases ht:(E.ty t).d<;>rw[ht] at h<;>try (cases h)
  ·have hu:=qgW hE ht;simp only at h;cases h1:asB x with
   | none=>rw[h1] at h;cases h
   | some a=>
    cases h2:asB y with
    | none=>rw[h1,h2] at h;cases h
    | some b=>
     rw[h1,h2] at h;cases h;rw[qkt hx h1,qkt hy h2];exact run_equalIn_bool' w d t a b hu
  ·have hu:=qhF hE ht;simp only at h;cases h1:asI x with
   | none=>rw[h1] at h;cases h
   | some a=>
    cases h2:asI y with
    | none=>rw[h1,h2] at h;cases h
    | some b=>
     obtain⟨k,a⟩:=a;obtain⟨k',b⟩:=b;rw[h1,h2] at h;simp only at h;by_cases hk:k=k'
     ·subst hk;rw[if_pos rfl] at h;cases h;rw[q0O hx h1,q0O hy h2];exact run_equalIn_int w d t k _ a b hu
     ·rw[if_neg hk] at h;cases h
  ·have hu:=q9t hE ht;simp only at h;cases hx<;>try (cases h)
   cases hy<;>try (cases h)
   rw[run_equalIn_string w d t _ _ hu,qjY]
  ·rename_i m e es;simp only at h;obtain⟨hta,rfl⟩:=q3B hE ht;split at h
   ·rename_i n' hte;have hue:=q9t hE hte;obtain⟨d',rfl⟩:∃d',d=d'+1:=⟨d-1,by omega⟩;obtain⟨_,i,dd,h1,_⟩:=yD hE (t:=e) (by rw[hte];rfl);cases hx with
    | agg _ vxs hxs=>
     cases hy with
     | agg _ vys hys=>
      rw[run_equalIn_array w (d'+1) vxs.toArray vys.toArray hta h1];exact qfP hE hue hxs hys d' w _ r h
   ·cases h
  ·rename_i fs;simp only at h;by_cases hok:(E.ty t).eqok=true
   ·rw[if_pos hok] at h;cases hx<;>try (cases h)
    cases hy<;>try (cases h)
    rename_i xs vxs hxs ys vys hys;obtain⟨fields,e1,e2⟩:=q41 hE ht;have hk:=yD hE (t:=t) (by rw[ht];rfl);have hst:P.stoodInHeld t=false/\∀f∈fields.toList,f.name ≠ "_" := by rw[hk.1] at hok;unfold qlw at hok;obtain⟨_,i,dd,h1,h2,_⟩:=hk;rw[h1] at hok;simp only[e1,qxL,qyw,qxV,bne_iff_ne] at hok;exact⟨hok.1.1,hok.2⟩
    have hfo:P.fieldsOf t=fields:=by simp[Program.fieldsOf,e1]
    have hrun:=run_equalIn_struct (P:=P) w d t vxs.toArray vys.toArray (by rw[hfo];exact e1) hst.1;rw[hrun,hfo];rw[e2] at h;exact qjp hE n fields.toList xs ys r vxs vys h hxs hys hst.2 d (by omega) w
   ·rw[if_neg hok] at h;cases h
theorem qjp{E:Env}{P:Program}(hE:E.tok P){X:Ctx}:∀(n:Nat) (fs:List Field) (xs ys:List AV) (r:Bool) (vxs vys:List Value),
  quQ E n (fs.map fun f=>(f.offset,f.type,P.cellsOf f.type)) xs ys=some r->RepL X xs vxs->RepL X ys vys->(∀f∈fs,f.name ≠ "_") ->
  ∀d,n<=d->∀w,(Op.eqFields d vxs.toArray vys.toArray fs).run P w=.ok r w
 | n,[],xs,ys,r,vxs,vys,h,hx,hy,hn,d,hd,w=>by
  cases n<;>simp[quQ] at h<;>subst h<;>rfl
 | 0,f::fs,xs,ys,r,vxs,vys,h,hx,hy,hn,d,hd,w=>by simp[quQ] at h
 | n+1,f::fs,xs,ys,r,vxs,vys,h,hx,hy,hn,d,hd,w=>by
  simp only[qyp,quQ] at h;cases h1:q9B E f.type xs f.offset with
  | none=>rw[h1] at h;cases h
  | some a=>
   cases h2:q9B E f.type ys f.offset with
   | none=>rw[h1,h2] at h;cases h
   | some b=>
    rw[h1,h2] at h;simp only at h;cases h3:eqT E n f.type a b with
    | none=>rw[h3] at h;cases h
    | some r1=>
     cases h4:quQ E n (fs.map fun f=>(f.offset,f.type,P.cellsOf f.type)) xs ys with
     | none=>rw[h3,h4] at h;cases h
     | some r2=>
      rw[h3,h4] at h;cases h;obtain⟨u1,q1,q2⟩:=q1O hE hx h1 w;obtain⟨u2,q3,q4⟩:=q1O hE hy h2 w;have q5:=qln hE n f.type a b r1 u1 u2 h3 q2 q4 d (by omega) w;have q6:=qjp hE n fs xs ys r2 vxs vys h4 hx hy (fun g hg=>hn g (qxQ _ hg)) d (by omega) w;have hn0:=hn f qxM;simp only[Op.eqFields,hn0,ne_eq,not_false_eq_true,if_true,qxF,q1,q3,q5,qxH];cases r1 with
      | true=>simp[qpJ,q6]
      | false=>simp[qpJ]
end
end Go.Eng

namespace Go.Eng
variable {B:Base}{E:Env}{P:Program}{X:Ctx}{t:TypeId}{v:Value}
theorem ql1 (hE:E.tok P){op:BinOp}{x y:Operand}{xs ys:List AV}{vx vy:Value}(hx:Rep X (.agg xs) vx)(hy:Rep X (.agg ys) vy){r:Res}(h:(qhD E X.h op t (.agg xs) (.agg ys)).run=some r):∃av u,r=(av,X.h,none)/\(do eqGuard op t x y vx vy;binOp op t vx vy:Sem Value).run P X.w=.ok u X.w/\Rep X av u:=by
 unfold qhD at h;cases he:eqT E 32 t (.agg xs) (.agg ys) with
 | none=>rw[he] at h;cases h
 | some b=>
  rw[he] at h;simp only at h;have heq:=qa7 (qln hE 32 t _ _ b vx vy he hx hy (9999+1) (by omega) X.w);have hg:∀op w,(eqGuard op t x y vx vy).run P w=.ok () w:=by
   intro op w;simp only[eqT] at he;cases ht:(E.ty t).d<;>rw[ht] at he<;>try (simp only[asI,asB] at he;cases he)
   ·rename_i m e es;simp only at he;obtain⟨hta,rfl⟩:=q3B hE ht;cases hte:(E.ty e).d<;>rw[hte] at he<;>try (cases he)
    ·have hue:=q9t hE hte;cases hx;cases hy;have hgt:P.eqGuardType P.depth t=false:=by rw[show P.depth=(2*(P.types.size+Made.depth))+1+1 from rfl];simp[Program.eqGuardType,hta,hue]
     unfold eqGuard;cases op<;>simp[run_program,hgt]
   ·rename_i fs;simp only at he;by_cases hok:(E.ty t).eqok=true
    ·have hk:=yD hE (t:=t) (by rw[ht];rfl);obtain⟨fields,e1,e2⟩:=q41 hE ht;rw[hk.1] at hok;unfold qlw at hok;obtain⟨_,i,dd,h1,h2,_⟩:=hk;rw[h1] at hok;simp only[e1,qxL,qyw] at hok;cases hx;cases hy;unfold eqGuard;cases op<;>simp[run_program,hok.1.2]
    ·rw[if_neg hok] at he;cases he
  cases hx with
  | agg _ vxs hxs=>
   cases hy with
   | agg _ vys hys=>
    cases op<;>simp only[okb] at h<;>cases h
    ·refine⟨_,_,rfl,?_,.bool b⟩;rw[qxF,hg,qxH];simp[binOp,heq]
    ·refine⟨_,_,rfl,?_,.bool (!b)⟩;rw[qxF,hg,qxH];simp[binOp,heq]
theorem qlQ {a:AV}(h:Rep X a v)(hc:a.isCell=true):v.cells=#[v]/\v.oneCell'=true:=by
 cases h with
 | imm sh l v h=>
  rcases h with⟨rfl,rfl⟩|⟨a,cap,rfl,h1,h2,h3⟩<;>exact⟨rfl,rfl⟩
 | undef=>simp[AV.isCell] at hc
 | skip=>simp[AV.isCell] at hc
 | agg=>simp[AV.isCell] at hc
 | tuple=>simp[AV.isCell] at hc
 | bagg=>simp[AV.isCell] at hc
 | _=>exact⟨rfl,rfl⟩
theorem qav {a:AV}(h:Rep X a v)(hc:jc a.cells=true):RepL X a.cells v.cells.toList:=by
 cases h with
 | agg cs vs h=>simpa[AV.cells,Value.cells] using h
 | undef=>simp[AV.cells,jc,AV.isCell] at hc
 | skip=>simp[AV.cells,jc,AV.isCell] at hc
 | tuple=>simp[AV.cells,jc,AV.isCell] at hc
 | bagg=>simp[AV.cells,jc,AV.isCell] at hc
 | yld=>exact .cons .yld .nil
 | blit=>exact .cons (.blit _) .nil
 | bool=>exact .cons (.bool _) .nil
 | ilit=>exact .cons (.ilit _ _) .nil
 | int=>exact .cons (.int _ _) .nil
 | str=>exact .cons (.str _) .nil
 | nilp=>exact .cons .nilp .nil
 | ptr b off n h1 h2=>exact .cons (.ptr b off n h1 h2) .nil
 | eptr sh l i off a h1 h2 h3 h4=>exact .cons (.eptr sh l i off a h1 h2 h3 h4) .nil
 | mnil sh l i off=>exact .cons (.mnil sh l i off) .nil
 | mptr sh l i off a h1 h2 h3 h4=>exact .cons (.mptr sh l i off a h1 h2 h3 h4) .nil
 | vptr b i off n k h1 h2 h3=>exact .cons (.vptr b i off n k h1 h2 h3) .nil
 | vsub b i n k m c h1 h2 h3=>exact .cons (.vsub b i n k m c h1 h2 h3) .nil
 | aptr b o i n h1 h2 h3=>exact .cons (.aptr b o i n h1 h2 h3) .nil
 | asub b o N i m n k c h1 h2 h3 h4 h5 h6=>exact .cons (.asub b o N i m n k c h1 h2 h3 h4 h5 h6) .nil
 | nils=>exact .cons .nils .nil
 | imm sh l v h=>
  rcases h with⟨rfl,rfl⟩|⟨a,cap,rfl,h1,h2,h3⟩
  ·exact .cons (.imm _ _ _ (.inl ⟨rfl,rfl⟩)) .nil
  ·exact .cons (.imm _ _ _ (.inr ⟨a,cap,rfl,h1,h2,h3⟩)) .nil
 | full sh l p n h=>exact .cons (.full sh l p n h) .nil
 | vec b p n c h1 h2=>exact .cons (.vec b p n c h1 h2) .nil
 | nilf=>exact .cons .nilf .nil
 | fn f first caps vf vc h1 h2=>exact .cons (.fn f first caps vf vc h1 h2) .nil
theorem q6x{X:Ctx}:∀{cs:List AV} {vs:List Value},RepL X cs vs->jc cs=true->∀v∈vs,v.oneCell'=true
 | _,_,.nil,_,v,h=>by simp at h
 | _,_,.cons ha ht,hc,v,h=>by
  simp only[jc,qz6,qxL] at hc;rcases qxP.1 h with rfl|h
  ·exact(qlQ ha hc.1).2
  ·exact q6x ht hc.2 v h
theorem qqr (hs:HSim B X){cs:List AV}{c:Array Value}{T:TypeId}(hr:RepL X cs c.toList) :HSim B (X.pushW (.cells cs) (some X.w.heap.size) (X.w.alloc (.cells c T))):=by have hw:=PushW.alloc X (.cells c T);refine hs.push hw ⟨X.w.heap.size,c,T,by simp[Ctx.pushW],zy _ _,hr.ext (Ctx.push_ext hs _ hw)⟩
theorem qoT {k:Blk}{n:Nat}{w':World}:Rep (X.pushW k (some n) w') (.ptr X.h.length 0) (.pointer (some ⟨n,0,none⟩)):=.ptr _ _ _ (by simp[Ctx.pushW]) (by simp[Ctx.pushW])
theorem qhI (hs:HSim B X){cs:List AV}(hr:RepL X cs v.cells.toList){m:Sem Value}(hm:m.run P X.w=.ok (.pointer (some ⟨X.w.heap.size,0,none⟩)) (X.w.alloc (.cells v.cells t))) :qz P B X (do pure (.value (<-m))) (.ptr X.h.length 0,X.h++[.cells cs],none):=
 ⟨.value (.pointer (some ⟨X.w.heap.size,0,none⟩)),_,X.pushW (.cells cs) (some X.w.heap.size) (X.w.alloc (.cells v.cells t)),by simp[hm];rfl,.inl rfl,qoT,qqr hs hr,rfl,
  Ctx.push_ext hs _ (PushW.alloc X _)⟩
theorem q5e (P:Program)(w:World)(t:TypeId)(v:Value):(newVar t v).run P w=.ok ⟨w.heap.size,0,none⟩ (w.alloc (.cells v.cells t)):=rfl
theorem qu5 (hs:HSim B X){a:AV}(hv:Rep X a v)(hc:jc a.cells=true) :qz P B X (do pure (.value (<-Instr.box t v))) (.ptr X.h.length 0,X.h++[.cells a.cells],none):=qhI (t:=t) hs (qav hv hc) (by simp[Instr.box,q5e])
theorem q90 (hE:E.tok P)(h:(E.ty t).zero.length≠0)(w:World):∃v,(zeroValue t).run P w=.ok v w/\v.cells.toList=(E.ty t).zero /\∃i,P.info? t=some i/\i.zero=some v:=by
 rcases qgv hE t with h1|h1
 ·rw[h1] at h;simp[qx1] at h
 ·rw[h1] at h ⊢;unfold qlw at *;cases hi:P.info? t with
  | none=>rw[hi] at h;simp at h
  | some i=>
   cases hz:i.zero with
   | none=>simp[hi,hz] at h
   | some v=>exact⟨v,by simp[zeroValue,typeInfo,hi,hz],by simp[hz],i,rfl,hz⟩
theorem qqp (hE:E.tok P)(hs:HSim B X)(hz:((E.ty t).zero.map vh).length≠0) :qz P B X (do pure (.value (<-Instr.alloc t true (.tuple #[])))) (.ptr X.h.length 0,X.h++[.cells ((E.ty t).zero.map vh)],none):=by obtain⟨v,h1,h2,_⟩:=q90 hE (t:=t) (by simpa using hz) X.w;refine qhI (t:=t) (v:=v) hs (by rw[h2];exact vE X _) ?_;simp[Instr.alloc,h1,q5e]
theorem q8Y {cs vs:List AV}{us ws:List Value}(h1:RepL X cs us)(h2:RepL X vs ws)(off:Nat):RepL X (qfo cs off vs) (us.take off++ws++us.drop (off+vs.length)):=((h1.take off).append h2).append (h1.drop _)
mutual
theorem Sh.beq_eq:∀a b:Sh,a.beq b=true->a=b
 | .int k,b,h=>by cases b<;>simp[Sh.beq] at h;rw[h]
 | .bool,b,h=>by cases b<;>simp[Sh.beq] at h;rfl
 | .str,b,h=>by cases b<;>simp[Sh.beq] at h;rfl
 | .sl r,b,h=>by
  cases b<;>simp[Sh.beq] at h;rw[Sh.beqL_eq _ _ h]
theorem Sh.beqL_eq:∀a b:List Sh,Sh.beqL a b=true->a=b
 | [],b,h=>by cases b<;>simp[Sh.beqL] at h;rfl
 | a::l,b,h=>by
  cases b<;>simp[Sh.beqL] at h;rw[Sh.beq_eq _ _ h.1,Sh.beqL_eq _ _ h.2]
end
theorem q3P {s:Sh}{a:AV}{u:U}(h:toU X.h s a=some u)(hm:a.men=[])(hr:Rep X a v):RepU X.w X.M s u v:=by
 cases hr with
 | ilit k n=>
  cases s<;>simp only[toU] at h<;>try (cases h)
  rename_i k';by_cases hk:k'=k
  ·subst hk;rw[if_pos rfl] at h;cases h;exact .int _ (.i n)
  ·rw[if_neg hk] at h;cases h
 | int k n=>
  cases s<;>simp only[toU] at h<;>try (cases h)
  rename_i k';by_cases hk:k'=k
  ·subst hk;rw[if_pos rfl] at h;cases h;exact .int _ (.i n)
  ·rw[if_neg hk] at h;cases h
 | blit b=>cases s<;>simp only[toU] at h<;>cases h;exact .bool (.b b)
 | bool b=>cases s<;>simp only[toU] at h<;>cases h;exact .bool (.b b)
 | str t=>cases s<;>simp only[toU] at h<;>cases h;exact .str (.s t)
 | nils=>cases s<;>simp only[toU] at h<;>cases h;exact .slnil _ _ rfl
 | imm sh l v himm=>
  cases s<;>simp only[toU] at h<;>try (cases h)
  rename_i row;by_cases hb:Sh.beqL row sh=true
  ·rw[if_pos hb] at h;cases h;obtain rfl:=Sh.beqL_eq _ _ hb;exact q5d himm
  ·rw[if_neg hb] at h;cases h
 | vec b p n c h1 h2=>simp[AV.men] at hm
 | _=>cases s<;>simp only[toU] at h<;>cases h
theorem qjK{X:Ctx}:∀{sh:List Sh} {azz:List AV} {us:List U} {vs:List Value},qgq X.h sh azz=some us->AV.menL azz=[]->RepL X azz vs ->
  us.length=sh.length/\azz.length=sh.length/\∀j (hj:j<sh.length),∃v,vs[j]?=some v/\RepU X.w X.M sh[j] (us.getD j (.i 0)) v
 | [],[],us,vs,h,_,hr=>by simp[qgq] at h;subst h;exact⟨rfl,rfl,fun j hj=>by simp at hj⟩
 | [],_::_,us,vs,h,_,_=>by simp[qgq] at h
 | _::_,[],us,vs,h,_,_=>by simp[qgq] at h
 | s::sh,a::azz,us,vs,h,hm,hr=>by
  simp only[qgq] at h;cases h1:toU X.h s a with
  | none=>rw[h1] at h;cases h
  | some u=>
   cases h2:qgq X.h sh azz with
   | none=>rw[h1,h2] at h;cases h
   | some us'=>
    rw[h1,h2] at h;cases h;simp only[AV.menL,List.append_eq_nil_iff] at hm;cases hr with
    | cons ha ht=>
     obtain⟨g1,g2,g3⟩:=qjK h2 hm.2 ht;refine⟨by simp[g1],by simp[g2],fun j hj=>?_⟩;cases j with
     | zero=>exact⟨_,rfl,by simpa using q3P h1 hm.1 ha⟩
     | succ j=>
      obtain⟨v,q1,q2⟩:=g3 j (by simpa using hj);exact⟨v,by simpa using q1,by simpa using q2⟩
theorem kL {n o:Nat}{c:Array Value}{T:TypeId}(hc:X.w.heap[n]?=some (.cells c T (0,0)))(hsz:(sizeOf t).run P X.w=.ok v.cells.size X.w) (hle:o+v.cells.size<=c.size) (h1:∀u∈v.cells.toList,u.oneCell'=true) :(storeVar t ⟨n,o,none⟩ v).run P X.w=.ok () (X.w.setRow n (c.toList.take o++v.cells.toList++c.toList.drop (o+v.cells.size)).toArray):=by have:=run_storeCells_at P n o T v.cells.toList 0 c X.w hc (by simpa using hle) h1;simp only[qyd,Array.length_toList] at this;simp[storeVar,hsz,this]
theorem qn4 (row:List U)(off:Nat)(us:List U)(j:Nat) :(qjF row off us).getD j (.i 0)=if off<=j/\j<off+us.length then us.getD (j-off) (.i 0) else row.getD j (.i 0):=by
 unfold qjF;by_cases hj:j<max row.length (off+us.length)
 ·simp[hj]
 ·have h1:¬(off<=j/\j<off+us.length):=by omega
  have h2:row.length<=j:=by omega
  rw[if_neg h1];simp[hj,h2]
theorem qat {l:R}{i:Int}{off:Nat}{us:List U}(hi:i.toNat<l.length){j:Nat}:wv (q9e l i off us) i j = if off<=j/\j<off+us.length then us.getD (j-off) (.i 0) else wv l i j:=by
 have:(q9e l i off us).getD i.toNat []=qjF (l.getD i.toNat []) off us:=by simp[q9e,hi]
 unfold wv;rw[this,qn4]
theorem q9s {l:R}{i:Int}{off:Nat}{us:List U}{r:Nat}(hr:r≠i.toNat){j:Nat}:wv (q9e l i off us) r j=wv l r j:=by unfold wv q9e;simp[qxD (qxS hr)]
theorem q4Y (hE:E.tok P){n:Nat}(h:n=(E.ty t).size)(h0:n≠0)(w:World):(sizeOf t).run P w=.ok n w:=by
 rcases qgv hE t with h1|h1
 ·rw[h1] at h;exact absurd h h0
 ·rw[h1] at h;unfold qlw at h;cases hi:P.info? t with
  | none=>rw[hi] at h;exact absurd h h0
  | some i=>rw[hi] at h;simp[sizeOf,typeInfo,hi];exact h.symm
theorem qsG {r i es j:Nat}(hj:j<es)(h:r≠i):r*es+j<i*es\/i*es+es<=r*es+j:=by
 rcases Nat.lt_or_gt_of_ne h with h|h
 ·left;have:(r+1)*es<=i*es:=qy8 _ h;rw[qy2] at this;omega
 ·right;have:(i+1)*es<=r*es:=qy8 _ h;rw[qy2] at this;omega
theorem q8a {c vs:List Value}{o k:Nat}(h:o+vs.length<=c.length):(c.take o++vs++c.drop (o+vs.length))[k]?=if o<=k/\k<o+vs.length then vs[k-o]? else c[k]?:=by
 by_cases h1:k<o
 ·rw[if_neg (by omega),qyb,qxK (by simp;omega),qyj,if_pos h1]
 ·by_cases h2:k<o+vs.length
  ·rw[if_pos (by omega),qyb,qxU (by simp;omega),qxK (by simp;omega)];congr 1;simp;omega
  ·rw[if_neg (by omega),qxU (by simp;omega),qyl];congr 1;simp;omega
theorem qfF (hE:E.tok P)(hs:HSim B X){p a:AV}{vp v:Value}(hp:Rep X p vp)(hv:Rep X a v){r:Res}(h:(q8X E X.h t p a).run=some r):qz P B X (do Instr.storeAt t vp v;pure .skip) r:=by
 unfold q8X at h;by_cases hc:a.cells.length=(E.ty t).size/\jc a.cells=true/\a.cells.length≠0
 ·rw[if_pos hc] at h;have hrl:=qav hv hc.2.1;have hlen:v.cells.size=a.cells.length:=by have:=hrl.length;simpa using this.symm
  have hone:=q6x hrl hc.2.1;have hsz:(sizeOf t).run P X.w=.ok v.cells.size X.w:=by rw[hlen];exact q4Y hE hc.1 hc.2.2 X.w
  cases hp with
  | ptr b off n hb hσ=>
   simp only at h;cases hh:X.h[b]? with
   | none=>rw[hh] at h;cases h
   | some k=>
    rw[hh] at h;cases k<;>try (cases h)
    rename_i cs;simp only at h;by_cases hle:off+a.cells.length<=cs.length
    ·rw[if_pos hle] at h;cases h;obtain⟨n',c,T,e1,e2,e3⟩:=hs.blk b _ hh;rw[hσ] at e1;cases e1;have hcl:=e3.length;simp only[Array.length_toList] at hcl;have hrun:=kL (P:=P) (t:=t) (o:=off) (v:=v) e2 hsz (by omega) hone;have hup:=UpdW.setRow (X:=X) (c':=(c.toList.take off++v.cells.toList++c.toList.drop (off+v.cells.size)).toArray) e2 (by simp;omega);have hown:X.own b n:=⟨hσ,_,hh,rfl⟩;have hx:=Ctx.upd_ext hs hh hown hup (k':=.cells (qfo cs off a.cells)) trivial;refine⟨.skip,Go.undef,X.upd b (.cells (qfo cs off a.cells)) (X.w.setRow n _),?_,.inr ⟨rfl,rfl⟩,.skip,hs.upd hh hown hup trivial ?_,rfl,hx⟩
     ·simp[Instr.storeAt,Instr.sureAddr,hrun];rfl
     ·refine⟨n,_,T,hσ,hup.new,?_⟩;have:=(q8Y e3 hrl off).ext hx;rw[<-hlen] at this;simpa using this
    ·rw[if_neg hle] at h;cases h
  | vptr b i off n k hb hσ hk=>
   simp only at h;cases hh:X.h[b]? with
   | none=>rw[hh] at h;cases h
   | some kk=>
    rw[hh] at h;cases kk<;>try (cases h)
    rename_i e sh l;simp only at h;by_cases hm:(AV.menL a.cells).isEmpty=true
    ·rw[if_pos hm] at h;cases hu:qgq X.h ((sh.drop off).take a.cells.length) a.cells with
     | none=>rw[hu] at h;cases h
     | some us=>
      rw[hu] at h;cases h;obtain⟨g1,g2,g3⟩:=qjK hu (by simpa using hm) hrl;have g2':off+a.cells.length<=sh.length:=by have:=hc.2.2;simp only[qyA,List.length_drop] at g2;omega
      have hul:us.length=a.cells.length:=by rw[g1,<-g2]
      obtain⟨q1,q2,q3⟩:=hk sh l.length ⟨e,l,.inl hh,rfl⟩;rcases hs.blk b _ hh with⟨e1,_⟩|⟨n',c,e1,e2,e3⟩
      ·rw[hσ] at e1;cases e1
      rw[hσ] at e1;cases e1;have hlast:i.toNat*sh.length+off+a.cells.length<=c.size:=by
       have hlt:off+a.cells.length-1<sh.length:=by have:=hc.2.2;omega
       obtain⟨v',w1,_⟩:=e3 i.toNat (off+a.cells.length-1) hlt q2;have:=(qxI.1 w1).1;omega
      subst q3;have hrun:=kL (P:=P) (t:=t) (o:=i.toNat*sh.length+off) (v:=v) e2 hsz (by omega) hone;have hup:=UpdW.setRow (X:=X) (c':=(c.toList.take (i.toNat*sh.length+off)++v.cells.toList++c.toList.drop (i.toNat*sh.length+off+v.cells.size)).toArray) e2 (by simp;omega);have hown:X.own b n:=⟨hσ,_,hh,rfl⟩;have hkk:q9D (.vec e sh l) (.vec e sh (q9e l i off us)):=⟨rfl,rfl,by simp[q9e]⟩;have hx:=Ctx.upd_ext hs hh hown hup hkk;refine⟨.skip,Go.undef,X.upd b (.vec e sh (q9e l i off us)) (X.w.setRow n _),?_,.inr ⟨rfl,rfl⟩,.skip,hs.upd hh hown hup hkk ?_,rfl,hx⟩
      ·simp[Instr.storeAt,Instr.sureAddr,hrun];rfl
      ·refine .inr ⟨n,_,hσ,hup.new,fun r j hj hr=>?_⟩;have hr':r<l.length:=by simpa[q9e] using hr
       have hget:∀k,(c.toList.take (i.toNat*sh.length+off)++v.cells.toList++c.toList.drop (i.toNat*sh.length+off+v.cells.size)).toArray[k]? =
         if i.toNat*sh.length+off<=k/\k<i.toNat*sh.length+off+v.cells.size then v.cells.toList[k-(i.toNat*sh.length+off)]? else c[k]?:=by
        intro k;have:=q8a (c:=c.toList) (vs:=v.cells.toList) (o:=i.toNat*sh.length+off) (k:=k) (by simp;omega);simpa using this
       rw[hget];by_cases hri:r=i.toNat
       ·subst hri;rw[q99,qat q2];by_cases hin:off<=j/\j<off+us.length
        ·rw[if_pos (by omega),if_pos hin];obtain⟨v',w1,w2⟩:=g3 (j-off) (by rw[<-g1];omega);refine⟨v',?_,?_⟩
         ·rw[show i.toNat*sh.length+j-(i.toNat*sh.length+off)=j-off by omega];exact w1
         ·have:((sh.drop off).take a.cells.length)[j-off]'(by rw[<-g1];omega)=sh[j]:=by simp only[List.getElem_take,List.getElem_drop];congr 1;omega
          rw[this] at w2;exact w2.mono hx.M hx.w
        ·rw[if_neg (by omega),if_neg hin];obtain⟨v',w1,w2⟩:=e3 i.toNat j hj q2;rw[q99] at w2;exact⟨v',w1,w2.mono hx.M hx.w⟩
       ·rw[q9s hri];have:=qsG (i:=i.toNat) hj hri;rw[if_neg (by omega)];obtain⟨v',w1,w2⟩:=e3 r j hj hr';exact⟨v',w1,w2.mono hx.M hx.w⟩
    ·rw[if_neg hm] at h;cases h
  | _=>simp only at h;cases h
 ·rw[if_neg hc] at h;cases h
end Go.Eng

namespace Go.Eng
theorem qin:∀(xs:List Value) (cs:Array Value) (off k:Nat),off+k+xs.length<=cs.size ->
  ((xs.zipIdx k).foldl (fun cs (x:Value×Nat)=>cs.setIfInBounds (off+x.2) x.1) cs).toList=cs.toList.take (off+k)++xs++cs.toList.drop (off+k+xs.length)
 | [],cs,off,k,_=>by simp
 | x::xs,cs,off,k,h=>by
  simp only[List.zipIdx_cons,qz7,qy9] at h ⊢;rw[qin xs (cs.setIfInBounds (off+k) x) off (k+1) (by simp;omega)];rw[Array.toList_setIfInBounds];apply qyc;intro i;have hlen:(cs.toList.set (off+k) x).length=cs.size:=by simp
  rw[q8a (by simp;omega)];have:=q8a (c:=cs.toList) (vs:=x::xs) (o:=off+k) (k:=i) (by simp;omega);simp only[qy9] at this;rw[this];by_cases h1:i=off+k
  ·subst h1;rw[if_neg (by omega),if_pos (by omega),qxN (by simp;omega)];simp
  ·by_cases h2:off+k<=i/\i<off+k+(xs.length+1)
   ·rw[if_pos (by omega),if_pos h2,show i-(off+k)=(i-(off+(k+1)))+1 by omega];simp
   ·rw[if_neg (by omega),if_neg h2,qxD (by omega)]
theorem qjD(v cs:Array Value)(off:Nat)(h:off+v.size<=cs.size) :(v.zipIdx.foldl (fun cs (x:Value×Nat)=>cs.setIfInBounds (off+x.2) x.1) cs).toList=cs.toList.take off++v.toList++cs.toList.drop (off+v.size):=by rw[<-Array.foldl_toList,Array.toList_zipIdx];have:=qin v.toList cs off 0 (by simpa using h);simpa using this
inductive RepP (X:Ctx):List (Nat×AV)->List (Nat×Value)->Prop
 | nil:RepP X [] []
 | cons {i:Nat} {a:AV} {v:Value} {l:List (Nat×AV)} {m:List (Nat×Value)} (h:Rep X a v) (t:RepP X l m):RepP X ((i,a)::l) ((i,v)::m)
theorem qbm{X:Ctx}{place:Nat->Option (Nat×Nat)}:∀{parts:List (Nat×AV)} {vparts:List (Nat×Value)} {cells cs:List AV} {vc:Array Value},
  q7O place cells parts=some cs->RepP X parts vparts->RepL X cells vc.toList->∃vc',Instr.fill place vc vparts=some vc'/\RepL X cs vc'.toList
 | [],_,cells,cs,vc,h,.nil,hr=>by simp[q7O] at h;subst h;exact⟨vc,rfl,hr⟩
 | (i,a)::parts,_,cells,cs,vc,h,.cons (v:=v) ha ht,hr=>by
  simp only[q7O] at h;cases hp:place i with
  | none=>rw[hp] at h;cases h
  | some q=>
   obtain⟨off,size⟩:=q;rw[hp] at h;simp only at h;by_cases hc:a.cells.length=size/\off+a.cells.length<=cells.length/\jc a.cells=true
   ·rw[if_pos hc] at h;have hrl:=qav ha hc.2.2;have hlen:v.cells.size=a.cells.length:=by have:=hrl.length;simpa using this.symm
    have hvc:cells.length=vc.size:=by have:=hr.length;simpa using this
    have hnot:¬(v.cells.size≠size\/off+v.cells.size>vc.size):=by omega
    have hf:=qjD v.cells vc off (by omega);obtain⟨vc',h1,h2⟩:=qbm (vc:=v.cells.zipIdx.foldl (fun cs (x:Value×Nat)=>cs.setIfInBounds (off+x.2) x.1) vc) h ht (by rw[hf,hlen];exact q8Y hr hrl off);refine⟨vc',?_,h2⟩;simp only[Instr.fill,hp];rw[if_neg (by simpa using hnot)];exact h1
   ·rw[if_neg hc] at h;cases h
theorem qds{α β:Type}{P:Program}{f:α->Sem β}{g:α->β}:∀(l:List α),(∀a∈l,∀w,(f a).run P w=.ok (g a) w)->∀w,(l.mapM f).run P w=.ok (l.map g) w
 | [],_,w=>rfl
 | a::l,h,w=>by
  rw[List.mapM_cons,qxF,h a qxM,qxH,qxF,qds l (fun b hb=>h b (qxQ _ hb)) w];rfl
theorem qoF{α β:Type}{P:Program}{f:α->Sem β}{g:α->β}(l:Array α)(h:∀a∈l.toList,∀w,(f a).run P w=.ok (g a) w)(w:World):(l.mapM f).run P w=.ok (l.map g) w:=by rw[Array.mapM_eq_mapM_toList,Sem.run_map,qds _ h,qxH];congr 1;apply qyo;simp
theorem qk6{E:Env}{P:Program}(hE:E.tok P){X:Ctx}{t:TypeId}{parts:List (Nat×AV)}{vparts:Array (Nat×Value)}(hp:RepP X parts vparts.toList){r:Res}(h:(qad E X.h t parts).run=some r):∃av u,r=(av,X.h,none)/\(Instr.build t vparts).run P X.w=.ok u X.w/\Rep X av u:=by
 unfold qad at h;by_cases hz:(E.ty t).zero.length=0
 ·rw[if_pos hz] at h;cases h
 rw[if_neg hz] at h;obtain⟨z,z1,z2,_⟩:=q90 hE hz X.w;cases hd:(E.ty t).d<;>rw[hd] at h<;>try (cases h)
 ·rename_i n e es;obtain⟨ht,rfl⟩:=q3B hE hd;simp only at h;by_cases h0:P.cellsOf e=0
  ·rw[if_pos h0] at h;cases h
  rw[if_neg h0] at h;cases hf:q7O (fun i=>some (i*P.cellsOf e,P.cellsOf e)) ((E.ty t).zero.map vh) parts with
  | none=>rw[hf] at h;cases h
  | some cs=>
   rw[hf] at h;cases h;obtain⟨vc,f1,f2⟩:=qbm (vc:=z.cells) hf hp (by rw[z2];exact vE X _);have:Rep X (.agg cs) (.agg vc.toList.toArray):=.agg _ _ f2;refine⟨_,.agg vc,rfl,?_,by simpa using this⟩;simp[Instr.build,z1,run_underlying ht,za (show 0<P.cellsOf e by omega),f1]
 ·rename_i fs;obtain⟨fields,e1,e2⟩:=q41 hE hd;simp only at h;by_cases hok:(E.ty t).fok=true
  ·rw[if_pos hok] at h;have hinfo:∀f∈fields.toList,(P.info? f.type).isSome=true:=by have hk:=yD hE (t:=t) (by rw[hd];rfl);rw[hk.1] at hok;unfold qlw at hok;obtain⟨_,i,dd,h1,_⟩:=hk;rw[h1] at hok;simpa only [e1,qxV] using hok
   cases hf:q7O (fun i=>(fs[i]?).map fun (f:Nat×TypeId×Nat)=>(f.1,f.2.2)) ((E.ty t).zero.map vh) parts with
   | none=>rw[hf] at h;cases h
   | some cs=>
    rw[hf] at h;cases h;have hpl:(fun i:Nat=>(fs[i]?).map fun (f:Nat×TypeId×Nat)=>(f.1,f.2.2))=fun i:Nat=>(fields.map fun f=>(f.offset,P.cellsOf f.type))[i]?:=by funext i;rw[e2];simp only[qxZ,qzf,Array.getElem?_map,Option.map_map];rfl
    rw[hpl] at hf;obtain⟨vc,f1,f2⟩:=qbm (vc:=z.cells) hf hp (by rw[z2];exact vE X _);have:Rep X (.agg cs) (.agg vc.toList.toArray):=.agg _ _ f2;refine⟨_,.agg vc,rfl,?_,by simpa using this⟩;have hm:=qoF (P:=P) (f:=fun f:Field=>(do pure (f.offset,<-sizeOf f.type):Sem (Nat×Nat))) (g:=fun f=>(f.offset,P.cellsOf f.type)) fields (fun f hf w=>by
     have:=hinfo f hf;cases hi:P.info? f.type with
     | none=>rw[hi] at this;cases this
     | some i=>simp[sizeOf,typeInfo,hi,Program.cellsOf]) X.w
    simp only[Instr.build,qxF,z1,qxH,run_underlying e1];rw[hm];simp only[qxH,f1];rfl
  ·rw[if_neg hok] at h;cases h
variable {B:Base}{e:TypeId}{h:List Blk}{l:R}{sh:List Sh}
structure Frozen (B:Base) (X X':Ctx) (h':List Blk):Prop where
 h:X'.h=h'
 w:X'.w=X.w
 σ:X'.σ=X.σ
 hs:HSim B X'
 ext:Ext X X'
theorem Move.trans {X Y Z:Ctx}(h:Ext X Y)(k:Ext Y Z):Ext X Z:=by refine Move.of (fun n hn=>k.M n (h.M n hn)) (fun a ha=>(k.w a (h.M _ ha)).trans (h.w a ha)) (fun b b' hb hf=>?_) (k.y.trans h.y) (k.kept.trans h.kept);cases hf;have h1:=h.b b b hb rfl;have h2:=k.b b b h1.lt rfl;refine⟨h2.lt,h2.σ.trans h1.σ,fun sh m hv=>h1.vec sh m (h2.vec sh m hv),fun sh m hv n hn c T fr hc=>?_⟩;obtain⟨c1,T1,fr1,e1,e2⟩:=h1.size sh m (h2.vec sh m hv) n hn c T fr hc;obtain⟨c2,T2,fr2,e3,e4⟩:=h2.size sh m hv n (by rw[h1.σ];exact hn) c1 T1 fr1 e1;exact⟨c2,T2,fr2,e3,e4.trans e2⟩
theorem qaI {X:Ctx}(hs:HSim B X)(b:Nat):∃X',Frozen B X X' (zm X.h b):=by
 unfold zm;cases hb:X.h[b]? with
 | none=>exact⟨X,rfl,rfl,rfl,hs,Ext.refl X⟩
 | some k=>
  cases k with
  | vec e sh l=>exact⟨X.frz b e sh l,rfl,rfl,rfl,hs.frz hb,Ctx.frz_ext hb⟩
  | cells=>exact⟨X,rfl,rfl,rfl,hs,Ext.refl X⟩
  | big=>exact⟨X,rfl,rfl,rfl,hs,Ext.refl X⟩
  | frz=>exact⟨X,rfl,rfl,rfl,hs,Ext.refl X⟩
  | dead=>exact⟨X,rfl,rfl,rfl,hs,Ext.refl X⟩
theorem qht {b b':Nat}(hb:h[b']?=some (.vec e sh l)\/h[b']?=some (.frz e sh l)) :(zm h b)[b']?=some (.vec e sh l)\/(zm h b)[b']?=some (.frz e sh l):=by
 unfold zm;split
 ·rename_i e1 sh1 l1 h1;by_cases hbb:b'=b
  ·subst hbb;rw[qxN (qj h1)];rcases hb with hb|hb<;>rw[h1] at hb<;>cases hb;exact .inr rfl
  ·rw[qxD (qxS hbb)];exact hb
 ·exact hb
theorem qaO {b:Nat}(hb:h[b]?=some (.vec e sh l)\/h[b]?=some (.frz e sh l)) :(zm h b)[b]?=some (.frz e sh l):=by
 unfold zm;rcases hb with hb|hb<;>rw[hb]
 ·simp only;rw[qxN (qj hb)]
 ·exact hb
theorem qo5 {b b':Nat}(hb:h[b']?=some (.frz e sh l)):(zm h b)[b']?=some (.frz e sh l):=by
 rcases qht (b:=b) (.inr hb) with h1|h1
 ·unfold zm at h1;split at h1
  ·rename_i e1 sh1 l1 h2;by_cases hbb:b'=b
   ·subst hbb;rw[h2] at hb;cases hb
   ·rw[qxD (qxS hbb),hb] at h1;cases h1
  ·rw[hb] at h1;cases h1
 ·exact h1
theorem q1P{B:Base}:∀(l:List Nat) {X:Ctx} (_:HSim B X),∃X',Frozen B X X' (qx X.h l)
 | [],X,hs=>⟨X,rfl,rfl,rfl,hs,Ext.refl X⟩
 | b::l,X,hs=>by
  obtain⟨X1,f1⟩:=qaI hs b;obtain⟨X2,f2⟩:=q1P l f1.hs;refine⟨X2,?_,f2.w.trans f1.w,f2.σ.trans f1.σ,f2.hs,f1.ext.trans f2.ext⟩;rw[f2.h,f1.h];rfl
theorem qh4:∀(l:List Nat) {h:List Blk} {b:Nat} {e:TypeId} {sh:List Sh} {r:R},h[b]?=some (.frz e sh r)->(qx h l)[b]?=some (.frz e sh r)
 | [],_,_,_,_,_,h=>h
 | _::l,_,_,_,_,_,h=>qh4 l (qo5 h)
theorem qha:∀(l:List Nat) {h:List Blk} {b:Nat} {e:TypeId} {sh:List Sh} {r:R},b∈l->(h[b]?=some (.vec e sh r)\/h[b]?=some (.frz e sh r))->(qx h l)[b]?=some (.frz e sh r)
 | a::l,h,b,e,sh,r,hm,hb=>by
  rcases qxP.1 hm with rfl|hm
  ·exact qh4 l (qaO hb)
  ·exact qha l hm (qht hb)
def qrS(l:List AV):List Nat:=l.filterMap fun|.vec b=>some b|_=>none
theorem qfJ:∀(l:List AV) (h:List Blk),q5t h l=qx h (qrS l)
 | [],h=>rfl
 | a::l,h=>by
  cases a<;>first|(simp only[q5t,qrS,List.filterMap_cons];exact qfJ l _)
theorem qbg {X:Ctx}(hs:HSim B X){b:Nat}{v:Value}(hb:X.h[b]?=some (.frz e sh l))(hv:Rep X (.vec b) v):q8A X.w X.M sh l v:=by
 cases hv with
 | vec _ p n c hlt h=>
  have h1:=h sh l.length ⟨e,l,.inr hb,rfl⟩;unfold qmm at h1;rcases hs.blk b _ hb with⟨e1,rfl⟩|⟨n0,c0,e1,e2,e3,e4⟩
  ·rw[e1] at h1;obtain⟨p',h1⟩:=h1;cases p' with
   | none=>exact .inl ⟨h1,rfl⟩
   | some a=>exact .inr ⟨a,0,h1,fun h=>absurd h (Nat.lt_irrefl 0),qxC 0,fun r j hj hr=>absurd hr (Nat.not_lt_zero r)⟩
  ·rw[e1] at h1;obtain⟨cap,f1,f2,f3,c1,T1,fr1,f4,f5⟩:=h1;refine .inr ⟨⟨n0,0,none⟩,cap,f1,fun _=>rfl,f2,fun r j hj hr=>⟨e4,?_⟩⟩;obtain⟨v,q1,q2⟩:=e3 r j hj hr;exact⟨v,by rw[zu e2];simpa using q1,q2⟩
theorem qpK {X X1:Ctx}{s:Sh}{a:AV}{u:U}{v:Value}(h:toU X.h s a=some u)(hs1:HSim B X1)(hx:Ext X X1)(hf:∀b e sh l,a=.vec b->(X.h[b]?=some (.vec e sh l)\/X.h[b]?=some (.frz e sh l))->X1.h[b]?=some (.frz e sh l)) (hr:Rep X a v):RepU X1.w X1.M s u v:=by
 by_cases hv:∃b,a=.vec b
 ·obtain⟨b,rfl⟩:=hv;cases s<;>simp only[toU] at h<;>try (cases h)
  rename_i row;have key:∀e row' l,(X.h[b]?=some (.vec e row' l)\/X.h[b]?=some (.frz e row' l))->(if Sh.beqL row row' then some (U.l l) else none)=some u->RepU X1.w X1.M (.sl row) u v:=by
   intro e row' l hb hh;by_cases hq:Sh.beqL row row'=true
   ·rw[if_pos hq] at hh;cases hh;obtain rfl:=Sh.beqL_eq _ _ hq;exact q5d (qbg hs1 (hf b e row l rfl hb) (hr.ext hx))
   ·rw[if_neg hq] at hh;cases hh
  split at h
  ·rename_i e row' l hb;exact key _ _ _ (.inl hb) h
  ·rename_i e row' l hb;exact key _ _ _ (.inr hb) h
  ·cases h
 ·
  have:RepU X.w X.M s u v:=by
   cases hr with
   | vec b=>exact absurd ⟨b,rfl⟩ hv
   | ilit k n=>exact q3P h rfl (.ilit k n)
   | int k n=>exact q3P h rfl (.int k n)
   | blit b=>exact q3P h rfl (.blit b)
   | bool b=>exact q3P h rfl (.bool b)
   | str t=>exact q3P h rfl (.str t)
   | nils=>exact q3P h rfl .nils
   | imm sh l v himm=>exact q3P h rfl (.imm sh l v himm)
   | _=>cases s<;>simp only[toU] at h<;>cases h
  exact this.mono hx.M hx.w
def qd9(w:World)(M:Nat->Prop)(sh:List Sh)(l:R)(xs:List Value):Prop:=xs.length=l.length*sh.length/\∀r j (hj:j<sh.length),r<l.length->∃v,xs[r*sh.length+j]?=some v/\RepU w M sh[j] (wv l r j) v
theorem qhs{B:Base}{X X1:Ctx}(hs1:HSim B X1)(hx:Ext X X1):∀{sh:List Sh} {azz:List AV} {us:List U} {vs:List Value},qgq X.h sh azz=some us ->
  (∀a∈azz,∀b e sh l,a=.vec b->(X.h[b]?=some (.vec e sh l)\/X.h[b]?=some (.frz e sh l))->X1.h[b]?=some (.frz e sh l))->RepL X azz vs ->
  us.length=sh.length/\azz.length=sh.length/\∀j (hj:j<sh.length),∃v,vs[j]?=some v/\RepU X1.w X1.M sh[j] (us.getD j (.i 0)) v
 | [],[],us,vs,h,_,hr=>by simp[qgq] at h;subst h;exact⟨rfl,rfl,fun j hj=>by simp at hj⟩
 | [],_::_,us,vs,h,_,_=>by simp[qgq] at h
 | _::_,[],us,vs,h,_,_=>by simp[qgq] at h
 | s::sh,a::azz,us,vs,h,hm,hr=>by
  simp only[qgq] at h;cases h1:toU X.h s a with
  | none=>rw[h1] at h;cases h
  | some u=>
   cases h2:qgq X.h sh azz with
   | none=>rw[h1,h2] at h;cases h
   | some us'=>
    rw[h1,h2] at h;cases h;cases hr with
    | cons ha ht=>
     obtain⟨g1,g2,g3⟩:=qhs hs1 hx h2 (fun a ha=>hm a (qxQ _ ha)) ht;refine⟨by simp[g1],by simp[g2],fun j hj=>?_⟩;cases j with
     | zero=>exact⟨_,rfl,by simpa using qpK h1 hs1 hx (hm a qxM) ha⟩
     | succ j=>
      obtain⟨v,q1,q2⟩:=g3 j (by simpa using hj);exact⟨v,by simpa using q1,by simpa using q2⟩
theorem qim (row:List U)(l:R)(j:Nat):wv (row::l) (0:Nat) j=row.getD j (.i 0):=by simp[wv]
theorem qgN (row:List U)(l:R)(r j:Nat):wv (row::l) ((r+1:Nat):Int) j=wv l r j:=by unfold wv;rw[qy1,qy1];simp
theorem qcJ{B:Base}{X X1:Ctx}(hs1:HSim B X1)(hx:Ext X X1){sh:List Sh}:∀(n:Nat) {azz:List AV} {l:R} {vs:List Value},qbK X.h sh n azz=some l ->
  (∀a∈azz,∀b e sh l,a=.vec b->(X.h[b]?=some (.vec e sh l)\/X.h[b]?=some (.frz e sh l))->X1.h[b]?=some (.frz e sh l))->RepL X azz vs->l.length=n/\qd9 X1.w X1.M sh l vs
 | 0,azz,l,vs,h,hm,hr=>by
  cases azz with
  | nil=>simp[qbK] at h;subst h;cases hr;exact⟨rfl,by simp,fun r j hj hr=>by simp at hr⟩
  | cons=>simp[qbK] at h
 | n+1,azz,l,vs,h,hm,hr=>by
  simp only[qbK] at h;cases h1:qgq X.h sh (azz.take sh.length) with
  | none=>rw[h1] at h;cases h
  | some us=>
   cases h2:qbK X.h sh n (azz.drop sh.length) with
   | none=>rw[h1,h2] at h;cases h
   | some l'=>
    rw[h1,h2] at h;cases h;obtain⟨g1,g2,g3⟩:=qhs hs1 hx h1 (fun a ha=>hm a (qzg ha)) (hr.take _);obtain⟨g4,g5,g6⟩:=qcJ hs1 hx n h2 (fun a ha=>hm a (qzh ha)) (hr.drop _);have hlen:=hr.length;have g2':sh.length<=azz.length:=by simp only[qyA] at g2;omega
    refine⟨by simp[g4],?_,fun r j hj hr'=>?_⟩
    ·simp only[List.length_drop] at g5;rw[qy9,qy2,Nat.one_mul];omega
    ·cases r with
     | zero=>
      obtain⟨v,q1,q2⟩:=g3 j hj;rw[qyj,if_pos hj] at q1;exact⟨v,by simpa using q1,by rw[qim];exact q2⟩
     | succ r=>
      obtain⟨v,q1,q2⟩:=g6 r j hj (by simpa using hr');rw[qyl] at q1;refine⟨v,?_,by rw[qgN];exact q2⟩;rw[<-q1];congr 1;rw[qy2];omega
end Go.Eng

namespace Go.Eng
variable {P:Program}{X:Ctx}{l:R}{sh:List Sh}{t:TypeId}{w:World}
theorem q74 (h:List Blk)(b:Nat):(zm h b).length=h.length:=by unfold zm;split<;>simp
theorem qci:∀(l:List Nat) (h:List Blk),(qx h l).length=h.length
 | [],_=>rfl
 | b::l,h=>by simp[qx,qci l,q74]
theorem qdc{α:Type}{l:List α}:∀{n i:Nat},i<n*l.length->(List.replicate n l).flatten[i]?=l[i%l.length]?
 | 0,i,h=>by simp at h
 | n+1,i,h=>by
  rw[qyQ,qzi];by_cases hi:i<l.length
  ·rw[qxK hi,Nat.mod_eq_of_lt hi]
  ·rw[qxU (by omega),qdc (by rw[qy2] at h;omega),Nat.mod_eq_sub_mod (by omega:l.length<=i)]
theorem qoV (z:Array Value)(n:Nat):((Array.range (n*z.size)).map (z[·%z.size]!)).toList=(List.replicate n z.toList).flatten:=by
 apply qyc;intro i;by_cases hi:i<n*z.size
 ·rw[qdc (by simpa using hi)];have hz:0<z.size:=by
   rcases qyx z.size with h|h
   ·rw[h] at hi;omega
   ·exact h
  have hlt:=Nat.mod_lt i hz;simp[hi,hlt]
 ·have h1:((Array.range (n*z.size)).map (z[·%z.size]!)).toList.length<=i:=by simp;omega
  have h2:(List.replicate n z.toList).flatten.length<=i:=by simp;omega
  rw[qxR h1,qxR h2]
theorem q7j{X:Ctx}{azz:List AV}{vs:List Value}(h:RepL X azz vs):∀n,RepL X (List.replicate n azz).flatten (List.replicate n vs).flatten
 | 0=>.nil
 | n+1=>by simp only[qyQ,qzi];exact h.append (q7j h n)
theorem qkB {e:TypeId}{n cap:Nat}{w':World}{c:Array Value}{T:TypeId}{fr:Nat×Nat}(h1:l.length<=cap)(h2:cap<=maxLen)(h3:w'.heap[n]?=some (.cells c T fr)) (h4:c.size=cap*sh.length):Rep (X.pushW (.vec e sh l) (some n) w') (.vec X.h.length) (.slice (some ⟨n,0,none⟩) l.length cap):=by
 refine .vec _ _ _ _ (by simp[Ctx.pushW]) fun sh' m ⟨e',l',q1,q2⟩=>?_;have:(X.h++[Blk.vec e sh l])[X.h.length]?=some (.vec e sh l):=by simp
 simp only[Ctx.pushW,this] at q1;rcases q1 with q1|q1<;>cases q1;subst q2;unfold qmm;simp only[Ctx.pushW,if_true];exact⟨cap,rfl,h1,h2,c,T,fr,h3,h4⟩
theorem qeM {E:Env}(hE:E.tok P){B:Base}(hs:HSim B X){len:Nat}{parts:List (Nat×AV)}{vparts:Array (Nat×Value)}(hp:RepP X parts vparts.toList){r:Res}(h:(q3U E X.h t len parts).run=some r):qz P B X (do pure (.value (<-Instr.buildSlice t len vparts))) r:=by
 unfold q3U at h;cases hd:(E.ty t).d<;>rw[hd] at h<;>try (cases h)
 rename_i e es;obtain⟨ht,rfl⟩:=uq hE hd;simp only at h;by_cases hc:len*P.cellsOf e<=16777216/\0<P.cellsOf e/\(E.ty e).zero.length=P.cellsOf e
 ·rw[if_pos hc] at h;obtain⟨hc1,hc2,hc3⟩:=hc;cases hf:q7O (fun i=>some (i*P.cellsOf e,P.cellsOf e)) (List.replicate len ((E.ty e).zero.map vh)).flatten parts with
  | none=>rw[hf] at h;cases h
  | some cs=>
   cases hsh:E.shape 16 e with
   | none=>rw[hf,hsh] at h;cases h
   | some sh=>
    rw[hf,hsh] at h;simp only at h;by_cases hl:sh.length=P.cellsOf e
    ·rw[if_pos hl] at h;cases hch:qbK X.h sh len cs with
     | none=>rw[hch] at h;cases h
     | some l=>
      rw[hch] at h;cases h;obtain⟨z,z1,z2,_⟩:=q90 hE (t:=e) (by omega) X.w;have hzs:z.cells.size=P.cellsOf e:=by rw[<-hc3,<-z2];simp
      have hini:RepL X (List.replicate len ((E.ty e).zero.map vh)).flatten ((Array.range (len*P.cellsOf e)).map (z.cells[·%z.cells.size]!)).toList:=by rw[<-hzs,qoV,z2];exact q7j (vE X _) len
      obtain⟨vc,f1,f2⟩:=qbm (vc:=(Array.range (len*P.cellsOf e)).map (z.cells[·%z.cells.size]!)) hf hp hini;obtain⟨X1,fz⟩:=q1P (qrS cs) hs;have hmem:∀a∈cs,∀b e sh l,a=.vec b->(X.h[b]?=some (.vec e sh l)\/X.h[b]?=some (.frz e sh l))->X1.h[b]?=some (.frz e sh l):=by intro a ha b e sh l hab hb;subst hab;rw[fz.h];exact qha _ (List.mem_filterMap.2 ⟨_,ha,rfl⟩) hb
      obtain⟨g1,g2,g3⟩:=qcJ fz.hs fz.ext len hch hmem f2;have hpw:=PushW.alloc X1 (.cells vc e);have hlenv:vc.size=len*P.cellsOf e:=by rw[<-hl,<-g1];simpa using g2
      have hx2:=Ctx.push_ext fz.hs (.vec e sh l) hpw;have hlenh:X1.h.length=X.h.length:=by rw[fz.h,qci]
      have hvec:=qkB (X:=X1) (e:=e) (sh:=sh) (l:=l) (n:=X1.w.heap.size) (cap:=len) (w':=X1.w.alloc (.cells vc e)) (by omega) (by have:len<=len*P.cellsOf e:=Nat.le_mul_of_pos_right _ hc2;unfold maxLen;omega) (zy _ _) (by rw[hl];exact hlenv);rw[g1,hlenh,fz.w] at hvec;refine⟨.value (.slice (some ⟨X.w.heap.size,0,none⟩) len len),_,X1.pushW (.vec e sh l) (some X1.w.heap.size) (X1.w.alloc (.cells vc e)),?_,.inl rfl,?_,fz.hs.push hpw ?_,?_,fz.ext.trans hx2⟩
      ·have hbig:¬(len*P.cellsOf e>2^24):=by omega
       simp only[Instr.buildSlice,qxF,run_underlying ht,qxH,za hc2,Sem.run_ite,hbig,if_false,qxW,Result.andThen_ite,z1];by_cases h0:len*P.cellsOf e=0
       ·rw[if_pos h0,show Instr.fill (fun i=>some (i*P.cellsOf e,P.cellsOf e)) (Array.map (fun x=>(#[]:Array Value)[x%(#[]:Array Value).size]!) (Array.range (len*P.cellsOf e))) vparts.toList=some vc by
         have e0:∀f:Nat->Value,Array.map f (Array.range (len*P.cellsOf e))=#[]:=by intro f;rw[h0];simp
         rw[e0] at f1 ⊢;exact f1,fz.w]
        rfl
       ·rw[if_neg h0,f1,fz.w];rfl
      ·rw[fz.w];exact hvec
      ·refine .inr ⟨X1.w.heap.size,vc,by simp[Ctx.pushW],zy _ _,fun r j hj hr=>?_⟩;obtain⟨v,q1,q2⟩:=g3 r j hj hr;exact⟨v,by simpa using q1,q2.mono hx2.M hx2.w⟩
      ·show X1.h++[_]=_;rw[fz.h,qfJ]
    ·rw[if_neg hl] at h;cases h
 ·rw[if_neg hc] at h;cases h
inductive RepO (X:Ctx):Option AV->Option Value->Prop
 | none:RepO X none none
 | some {a:AV} {v:Value} (h:Rep X a v):RepO X (some a) (some v)
theorem qT {k:IntKind}{i:Int}{y:Nat}{c:BoundsCode}(h0:0<=i)(h1:i<=y):(Instr.sliceBound (.int k i) y c).run P w=.ok i.toNat w:=by simp[Instr.sliceBound,asIntOf,h0,h1]
theorem qdy {o:Option AV}{v:Option Value}(h:RepO X o v){d a:Int}(ha:q8j o d=some a):(v=none/\a=d)\/∃k,v=some (.int k a):=by
 cases h with
 | none=>simp only[q8j,qxB] at ha;exact .inl ⟨rfl,ha.symm⟩
 | some hv=>
  simp only[q8j] at ha;rename_i a0 v0;cases h3:asI a0 with
  | none=>rw[h3] at ha;cases ha
  | some p=>
   obtain⟨k,n⟩:=p;rw[h3] at ha;simp only[qy0,qxB] at ha;subst ha;obtain rfl:=q0O hv h3;exact .inr ⟨k,rfl⟩
theorem uf {isS:Bool}{len cap:Nat}{lo hi:Option AV}{vlo vhi:Option Value}(hlo:RepO X lo vlo)(hhi:RepO X hi vhi){a b d:Int}(h1:q8j lo 0=some a) (h2:q8j hi d=some b) (hd:d=len) (hb0:0<=b) (hb:b<=cap) (ha0:0<=a) (ha:a<=b) (w:World) :(Instr.sliceBounds isS len cap vlo vhi none).run P w=.ok (a.toNat,b.toNat,cap) w:=by
 have hba:a<=(b.toNat:Nat):=by omega
 rcases qdy hlo h1 with⟨rfl,rfl⟩|⟨k,rfl⟩<;>rcases qdy hhi h2 with⟨rfl,rfl⟩|⟨k',rfl⟩
 ·subst hd;simp[Instr.sliceBounds]
 ·simp[Instr.sliceBounds,qT hb0 hb]
 ·subst hd;have:a<=(len:Int):=ha;simp[Instr.sliceBounds,qT ha0 this]
 ·simp[Instr.sliceBounds,qT hb0 hb,qT ha0 hba]
theorem qj5 {a b:Int}{r:Nat}(h:r<b.toNat-a.toNat){j:Nat}:wv (qnT l a b) r j=wv l ((a.toNat+r:Nat):Int) j:=by
 unfold wv qnT;rw[qy1,qy1];have:((l.take b.toNat).drop a.toNat).getD r []=l.getD (a.toNat+r) []:=by simp only[qxE,qyl,qyj];rw[if_pos (by omega)]
 rw[this]
theorem kT {a b:Int}(hb:b.toNat<=l.length):(qnT l a b).length=b.toNat-a.toNat:=by simp[qnT];omega
theorem qi9 {M:Nat->Prop}{p:Option Addr}{n c:Nat}{a b:Int}(h:q8A w M sh l (.slice p n c))(ha0:0<=a)(ha:a<=b)(hb:b<=qh l) :b.toNat<=c/\n=l.length/\q8A w M sh (qnT l a b) (.slice (if c=a.toNat then p else p.map (·.add (a.toNat*sh.length))) (b.toNat-a.toNat) (c-a.toNat)):=by
 have hb':b.toNat<=l.length:=by simp only[qh] at hb;omega
 rcases h with⟨h1,h2⟩|⟨ad,cap,h1,h2,h3,h4⟩
 ·cases h1;subst h2;simp at hb';have e1:a.toNat=0:=by omega
  have e2:b.toNat=0:=by omega
  refine⟨by omega,rfl,.inl ⟨?_,by simp[qnT]⟩⟩;rw[e1,e2];simp
 ·cases h1;refine⟨by omega,rfl,.inr ⟨if c=a.toNat then ad else ad.add (a.toNat*sh.length),c-a.toNat,?_,?_,?_,?_⟩⟩
  ·rw[kT hb'];split<;>rfl
  ·intro hl;rw[kT hb'] at hl;have h2':=h2 (by omega);split
   ·exact h2'
   ·rw[Addr.add_of h2']
  ·rw[kT hb'];omega
  ·intro r j hj hr;rw[kT hb'] at hr;rw[if_neg (by omega),Addr.add_of (h2 (by omega))];obtain⟨g1,v,g2,g3⟩:=h4 (a.toNat+r) j hj (by omega);refine⟨g1,v,?_,by rw[qj5 hr];exact g3⟩;rw[<-g2];show _=World.cell? w ⟨ad.block,ad.off+(a.toNat+r)*sh.length+j,none⟩;congr 2;rw[qy2];show ad.off+a.toNat*sh.length+r*sh.length+j=_;omega
theorem qjn {M:Nat->Prop}{p:Option Addr}{n c:Nat}{a b:Int}(h:q8A w M sh l (.slice p n c))(ha0:0<=a)(ha:a<=b)(hb:b<=qh l) :b.toNat<=c/\q8A w M sh (qnT l a b) (.slice (if b.toNat=a.toNat then p else p.map (·.add (a.toNat*sh.length))) (b.toNat-a.toNat) (b.toNat-a.toNat)):=by
 have hb':b.toNat<=l.length:=by simp only[qh] at hb;omega
 rcases h with⟨h1,h2⟩|⟨ad,cap,h1,h2,h3,h4⟩
 ·cases h1;subst h2;simp at hb';have e1:a.toNat=0:=by omega
  have e2:b.toNat=0:=by omega
  refine⟨by omega,.inl ⟨?_,by simp[qnT]⟩⟩;rw[e1,e2];simp
 ·cases h1;refine⟨by omega,.inr ⟨if b.toNat=a.toNat then ad else ad.add (a.toNat*sh.length),b.toNat-a.toNat,?_,?_,?_,?_⟩⟩
  ·rw[kT hb'];split<;>rfl
  ·intro hl;rw[kT hb'] at hl;have h2':=h2 (by omega);split
   ·exact h2'
   ·rw[Addr.add_of h2']
  ·rw[kT hb'];omega
  ·intro r j hj hr;rw[kT hb'] at hr;rw[if_neg (by omega),Addr.add_of (h2 (by omega))];obtain⟨g1,v,g2,g3⟩:=h4 (a.toNat+r) j hj (by omega);refine⟨g1,v,?_,by rw[qj5 hr];exact g3⟩;rw[<-g2];show _=World.cell? w ⟨ad.block,ad.off+(a.toNat+r)*sh.length+j,none⟩;congr 2;rw[qy2];show ad.off+a.toNat*sh.length+r*sh.length+j=_;omega
theorem qkf {a:AV}{v:Value}(h:Rep X a v){q:IntKind×Int}(ha:asI a=some q):∃k,v=.int k q.2:=by
 rcases qdy (.some h) (d:=0) (a:=q.2) (by simp[q8j,ha]) with⟨h1,_⟩|⟨k,h1⟩
 ·cases h1
 ·cases h1;exact⟨k,rfl⟩
theorem qiZ {len cap:Nat}{lo:Option AV}{vlo:Option Value}(hlo:RepO X lo vlo){k k':IntKind}{a b:Int}(h1:q8j lo 0=some a) (hb:b<=cap) (ha0:0<=a) (ha:a<=b) (w:World) :(Instr.sliceBounds true len cap vlo (some (.int k b)) (some (.int k' b))).run P w=.ok (a.toNat,b.toNat,b.toNat) w:=by
 have hb0:0<=b:=by omega
 have hba:a<=(b.toNat:Nat):=by omega
 have hbb:b<=(b.toNat:Nat):=by omega
 rcases qdy hlo h1 with⟨rfl,rfl⟩|⟨k,rfl⟩
 ·simp[Instr.sliceBounds,qT hb0 hb,qT hb0 hbb]
 ·simp[Instr.sliceBounds,qT hb0 hb,qT hb0 hbb,qT ha0 hba]
theorem qga {t e:TypeId}{p:Option Addr}{n c:Nat}{vlo vhi vmx:Option Value}{a b:Nat}(ht:P.underlying t=some (.slice e))(hp:0<P.cellsOf e)(hb:(Instr.sliceBounds true n c vlo vhi vmx).run P w=.ok (a,b,b) w) :(Instr.sliceAt t (.slice p n c) vlo vhi vmx).run P w=.ok (.slice (if b=a then p else p.map (·.add (a*P.cellsOf e))) (b-a) (b-a)) w:=by simp only[Instr.sliceAt,qxF,run_underlying ht,qxH,Instr.slice,hb,za hp];rfl
theorem q39 {t e:TypeId}{p:Option Addr}{n c:Nat}{vlo vhi:Option Value}{a b:Nat}(ht:P.underlying t=some (.slice e))(hp:0<P.cellsOf e)(hb:(Instr.sliceBounds true n c vlo vhi none).run P w=.ok (a,b,c) w) :(Instr.sliceAt t (.slice p n c) vlo vhi none).run P w=.ok (.slice (if c=a then p else p.map (·.add (a*P.cellsOf e))) (b-a) (c-a)) w:=by simp only[Instr.sliceAt,qxF,run_underlying ht,qxH,Instr.slice,hb,za hp];rfl
theorem qdw {s:qxA}{vlo vhi:Option Value}{a b:Int}(ht:P.underlying t=some .string)(hb:(Instr.sliceBounds false s.length s.length vlo vhi none).run P w=.ok (a.toNat,b.toNat,s.length) w) :(Instr.sliceAt t (.string ⟨s.toArray⟩) vlo vhi none).run P w=.ok (.string ⟨(qbE s a b).toArray⟩) w:=by
 have h1:(ByteArray.mk s.toArray).size=s.length:=rfl;simp only[Instr.sliceAt,qxF,run_underlying ht,qxH,Instr.slice,h1,hb,Option.isSome_none,qy5,if_false,qxW];congr 2;apply ByteArray.ext;have:(ByteArray.mk s.toArray).extract a.toNat b.toNat=⟨s.toArray.extract a.toNat b.toNat⟩:=by apply ByteArray.ext;simp
 rw[this];simp[qbE,List.extract,List.drop_take]
theorem qmE {E:Env}(hE:E.tok P){B:Base}(hs:HSim B X){a:AV}{v:Value}{lo hi mx:Option AV}{vlo vhi vmx:Option Value}(hv:Rep X a v)(hlo:RepO X lo vlo) (hhi:RepO X hi vhi) (hmx:RepO X mx vmx) {r:Res} (h:(q7r E X.h t a lo hi mx).run=some r) :qz P B X (do pure (.value (<-Instr.sliceAt t v vlo vhi vmx))) r:=by
 unfold q7r at h;cases hmx with
 | some hm=>
  rename_i m vm;simp only at h;cases hd:(E.ty t).d<;>rw[hd] at h<;>try (cases h)
  rename_i e es;obtain⟨ht,rfl⟩:=uq hE hd;cases hhi with
  | none=>cases hv<;>cases h
  | some hy=>
   rename_i y vy;cases hv<;>simp only at h<;>try (cases h)
   rename_i sh l himm;cases h1:q8j lo 0 with
   | none=>rw[h1] at h;cases h
   | some x=>
    cases h2:asI y with
    | none=>rw[h1,h2] at h;cases h
    | some q2=>
     cases h3:asI m with
     | none=>rw[h1,h2,h3] at h;cases h
     | some q3=>
      obtain⟨k2,b⟩:=q2;obtain⟨k3,c⟩:=q3;rw[h1,h2,h3] at h;simp only at h;by_cases hc:sh.length=P.cellsOf e/\0<P.cellsOf e
      ·rw[if_pos hc] at h;obtain⟨g1,g2⟩:=wZ h;obtain⟨g3,g4⟩:=wZ g2;obtain⟨g5,g6⟩:=wZ g4;cases g6;obtain⟨q1,q2⟩:=yI g1;obtain⟨q3,q4⟩:=yI g3;obtain rfl:b=c:=of_decide_eq_true g5;obtain⟨k,rfl⟩:=qkf hy h2;obtain⟨k',rfl⟩:=qkf hm h3;obtain⟨p,n,cp,rfl⟩:∃p n c,v=.slice p n c:=by rcases himm with⟨rfl,_⟩|⟨ad,cap,rfl,_⟩<;>exact⟨_,_,_,rfl⟩
       obtain⟨w1,w3⟩:=qjn himm q3 q4 q2;rw[hc.1] at w3;exact qz.ofV hs (qga ht hc.2 (qiZ hlo h1 (by omega) q3 q4 _)) (.full _ _ _ _ w3)
      ·rw[if_neg hc] at h;cases h
 | none=>
  simp only at h;cases hd:(E.ty t).d<;>rw[hd] at h<;>try (cases h)
  ·
   have ht:=q9t hE hd;cases hv<;>simp only at h<;>try (cases h)
   rename_i s;cases h1:q8j lo 0 with
   | none=>rw[h1] at h;cases h
   | some l=>
    cases h2:q8j hi (zG s) with
    | none=>rw[h1,h2] at h;cases h
    | some b=>
     rw[h1,h2] at h;obtain⟨g1,g2⟩:=wZ h;obtain⟨g3,g4⟩:=wZ g2;cases g4;obtain⟨q1,q2⟩:=yI g1;obtain⟨q3,q4⟩:=yI g3;exact qz.ofV hs (qdw ht (uf hlo hhi h1 h2 rfl q1 q2 q3 q4 _)) (.str _)
  ·rename_i e es;obtain⟨ht,rfl⟩:=uq hE hd;cases hv<;>simp only at h<;>try (cases h)
   ·rename_i sh l himm;cases h1:q8j lo 0 with
    | none=>rw[h1] at h;cases h
    | some x=>
     cases h2:q8j hi (qh l) with
     | none=>rw[h1,h2] at h;cases h
     | some y=>
      rw[h1,h2] at h;simp only at h;by_cases hc:sh.length=P.cellsOf e/\0<P.cellsOf e
      ·rw[if_pos hc] at h;obtain⟨g1,g2⟩:=wZ h;obtain⟨g3,g4⟩:=wZ g2;cases g4;obtain⟨q1,q2⟩:=yI g1;obtain⟨q3,q4⟩:=yI g3;obtain⟨p,n,c,rfl⟩:∃p n c,v=.slice p n c:=by rcases himm with⟨rfl,_⟩|⟨ad,cap,rfl,_⟩<;>exact⟨_,_,_,rfl⟩
       obtain⟨w1,rfl,w3⟩:=qi9 himm q3 q4 q2;rw[hc.1] at w3;exact qz.ofV hs (q39 ht hc.2 (uf hlo hhi h1 h2 rfl q1 (by omega) q3 q4 _)) (.imm _ _ _ w3)
      ·rw[if_neg hc] at h;cases h
   ·rename_i b p n c hb hv;have hb':=hb;have key:∀e0 sh l (h':List Blk),(X.h[b]?=some (.vec e0 sh l)\/X.h[b]?=some (.frz e0 sh l))->h'=zm X.h b->(match q8j lo 0,q8j hi (qh l) with
     | some x,some y=>if sh.length=P.cellsOf e/\0<P.cellsOf e then Tree.br (q5U y (qh l)) (.br (q5U x y) (.leaf ((.imm sh (qnT l x y),h',none):Res)) .fail) .fail else .fail
     | _,_=>.fail).run=some r->qz P B X (do pure (.value (<-Instr.sliceAt t (.slice p n c) vlo vhi none))) r:=by
     intro e0 sh l h' hh hh' hr;cases h1:q8j lo 0 with
     | none=>rw[h1] at hr;cases hr
     | some x=>
      cases h2:q8j hi (qh l) with
      | none=>rw[h1,h2] at hr;cases hr
      | some y=>
       rw[h1,h2] at hr;simp only at hr;by_cases hc:sh.length=P.cellsOf e/\0<P.cellsOf e
       ·rw[if_pos hc] at hr;obtain⟨g1,g2⟩:=wZ hr;obtain⟨g3,g4⟩:=wZ g2;cases g4;obtain⟨q1,q2⟩:=yI g1;obtain⟨q3,q4⟩:=yI g3;obtain⟨X1,fz⟩:=qaI hs b;have hfr:X1.h[b]?=some (.frz e0 sh l):=by rw[fz.h];exact qaO hh
        have hrep:Rep X (.vec b) (.slice p n c):=.vec b p n c hb hv;have himm:=qbg fz.hs hfr (hrep.ext fz.ext);obtain⟨w1,rfl,w3⟩:=qi9 himm q3 q4 q2;rw[hc.1] at w3;refine⟨_,_,X1,?_,.inl rfl,.imm _ _ _ w3,fz.hs,by rw[fz.h,hh'],fz.ext⟩;rw[qxF,q39 ht hc.2 (uf hlo hhi h1 h2 rfl q1 (by omega) q3 q4 _),fz.w];rfl
       ·rw[if_neg hc] at hr;cases hr
    cases hbk:X.h[b]? with
    | none=>rw[hbk] at h;cases h
    | some k=>
     rw[hbk] at h;cases k<;>try (cases h;done)
     ·rename_i e0 sh l;simp only at h;cases hbt:qkb sh hi with
      | false=>rw[hbt] at h;exact key _ _ _ _ (.inl hbk) rfl h
      | true=>
       rw[hbt] at h;simp only at h;cases h1:q8j lo 0 with
       | none=>rw[h1] at h;cases h
       | some x=>
        rw[h1] at h;simp only at h;by_cases hc:P.cellsOf e=1
        ·rw[if_pos hc] at h;obtain⟨g1,g2⟩:=wZ h;obtain⟨g3,g4⟩:=wZ g2;cases g4;have hpos:(0:Int)<qh l:=of_decide_eq_true g1;obtain⟨q1,q2⟩:=yI g3;have hhin:hi=none/\qcI sh=true:=by
          unfold qkb at hbt;cases hi with
          | none=>exact⟨rfl,hbt⟩
          | some y=>cases hbt
         obtain⟨rfl,hby⟩:=hhin;have hsh:sh.length=1:=by
          unfold qcI at hby
          split at hby
          ·rfl
          ·cases hby
         have hvv:=hv sh l.length ⟨e0,l,.inl hbk,rfl⟩;unfold qmm at hvv;rcases hs.blk b _ hbk with⟨e1,rfl⟩|⟨n0,c0,e1,e2,e3⟩
         ·simp[qh] at hpos
         ·rw[e1] at hvv;obtain⟨cap,q3,q4,q5,_⟩:=hvv;cases q3;have hb:=uf (P:=P) (isS:=true) (len:=l.length) (cap:=c) hlo hhi h1 (b:=qh l) (d:=qh l) rfl rfl (by omega) (by unfold qh;omega) q1 q2 X.w;have hrun:=q39 (p:=some ⟨n0,0,none⟩) ht (by omega) hb;refine qz.ofV hs hrun ?_;have hnn:(qh l).toNat=l.length:=by unfold qh;omega
          rw[hnn,hc];by_cases hcx:c=x.toNat
          ·rw[if_pos hcx];refine .vsub b x n0 0 _ _ hb' e1 fun sh' m' hv'=>?_;obtain⟨e',l',w1,w2⟩:=hv';rw[hbk] at w1;rcases w1 with w1|w1<;>cases w1;unfold qh at q2;exact⟨q1,by omega,.inr ⟨by omega,rfl⟩,by omega⟩
          ·rw[if_neg hcx];have hadd:(some (⟨n0,0,none⟩:Addr)).map (·.add (x.toNat*1))=some ⟨n0,x.toNat,none⟩:=by simp only[qy0,Addr.add];congr 1;split<;>(try simp_all)<;>(try omega)
           rw[hadd];refine .vsub b x n0 x.toNat _ _ hb' e1 fun sh' m' hv'=>?_;obtain⟨e',l',w1,w2⟩:=hv';rw[hbk] at w1;rcases w1 with w1|w1<;>cases w1;unfold qh at q2;exact⟨q1,by omega,.inl (by rw[hsh];omega),by omega⟩
        ·rw[if_neg hc] at h;cases h
     ·exact key _ _ _ X.h (.inr hbk) (by simp only[zm,hbk]) h
end Go.Eng

namespace Go.Eng
variable {B:Base}{P:Program}{X:Ctx}{e:TypeId}{l:R}{sh:List Sh}{v:Value}{w:World}
theorem q3W {M:Nat->Prop}{m:R}{ad:Addr}(hp:0<sh.length)(hsp:0<m.length->ad.spot=none)(h:Rows w M sh m ad) :∃news:List Value,qd9 w M sh m news/\(∀j u,news[j]?=some u->w.cell? (ad.add j)=some u)/\∀u∈news,u.oneCell'=true:=by
 have key:∀k,k<m.length*sh.length->∃v,w.cell? ⟨ad.block,ad.off+k,none⟩=some v/\v.oneCell'=true:=by
  intro k hk;have h1:k/sh.length<m.length:=(Nat.div_lt_iff_lt_mul hp).2 hk;have h2:k%sh.length<sh.length:=Nat.mod_lt _ hp;obtain⟨_,v,e1,e2⟩:=h (k/sh.length) (k%sh.length) h2 h1;refine⟨v,?_,?_⟩
  ·rw[<-e1];congr 2;have:=Nat.div_add_mod k sh.length;rw[Nat.mul_comm] at this;omega
  ·generalize sh[k%sh.length]=s at e2;cases e2<;>rfl
 refine⟨(List.range (m.length*sh.length)).map fun k=>(w.cell? ⟨ad.block,ad.off+k,none⟩).getD undef,⟨by simp,fun r j hj hr=>?_⟩,fun j u hu=>?_,fun u hu=>?_⟩
 ·obtain⟨_,v,e1,e2⟩:=h r j hj hr;have hlt:r*sh.length+j<m.length*sh.length:=by have:(r+1)*sh.length<=m.length*sh.length:=qy8 _ hr;rw[qy2] at this;omega
  refine⟨v,?_,e2⟩;rw[qxZ,qz8 hlt];simp only[qy0,<-qz5,e1,qyK]
 ·rw[qxZ] at hu;by_cases hj:j<m.length*sh.length
  ·rw[qz8 hj] at hu;obtain⟨v,e1,_⟩:=key j hj;simp only[qy0,e1,qyK,qxB] at hu;rw[Addr.add_of (hsp (Nat.pos_of_ne_zero fun h0=>by rw[h0] at hj;simp at hj)),e1,hu]
  ·rw[qxR (by simpa using hj)] at hu;cases hu
 ·obtain⟨k,hk,rfl⟩:=qyy.1 hu;obtain⟨v,e1,e2⟩:=key k (by simpa using hk);rw[e1];exact e2
theorem qiw {l m:R}{r j:Nat}(h:r<l.length):wv (q1i l m) r j=wv l r j:=by unfold wv q1i;rw[qy1];simp[qxK h]
theorem qgz {l m:R}{r j:Nat}(h:l.length<=r):wv (q1i l m) r j=wv m ((r-l.length:Nat):Int) j:=by unfold wv q1i;rw[qy1,qy1];simp[qxU h]
theorem qd9.app {M:Nat->Prop}{l m:R}{xs ys:List Value}(h1:qd9 w M sh l xs)(h2:qd9 w M sh m ys):qd9 w M sh (q1i l m) (xs++ys):=by
 refine⟨by simp[q1i,h1.1,h2.1,qy2],fun r j hj hr=>?_⟩;by_cases hl:r<l.length
 ·obtain⟨v,e1,e2⟩:=h1.2 r j hj hl;exact⟨v,by rw[qxK (qj e1)];exact e1,by rw[qiw hl];exact e2⟩
 ·have hr':r-l.length<m.length:=by simp only[q1i,qyL] at hr;omega
  obtain⟨v,e1,e2⟩:=h2.2 (r-l.length) j hj hr';refine⟨v,?_,by rw[qgz (by omega)];exact e2⟩;have h3:l.length*sh.length<=r*sh.length:=qy8 _ (by omega);rw[qxU (by rw[h1.1];omega),h1.1,<-e1];congr 1;rw[Nat.sub_mul];omega
theorem qd9.rowsC {M:Nat->Prop}{xs:List Value}{c:Array Value}(h:qd9 w M sh l xs)(hc:∃rest,c.toList=xs++rest):qm9 w M sh l c:=by obtain⟨rest,hc⟩:=hc;intro r j hj hr;obtain⟨v,e1,e2⟩:=h.2 r j hj hr;refine⟨v,?_,e2⟩;rw[<-qzf,hc,qxK (qj e1)];exact e1
theorem qkW {M:Nat->Prop}{c:Array Value}{cap:Nat}(h:qm9 w M sh l c)(hsz:c.size=cap*sh.length)(hl:l.length<=cap) :qd9 w M sh l (c.toList.take (l.length*sh.length)):=by
 have h3:l.length*sh.length<=cap*sh.length:=qy8 _ hl;refine⟨by simp;omega,fun r j hj hr=>?_⟩;obtain⟨v,e1,e2⟩:=h r j hj hr;refine⟨v,?_,e2⟩;have hlt:r*sh.length+j<l.length*sh.length:=by have:(r+1)*sh.length<=l.length*sh.length:=qy8 _ hr;rw[qy2] at this;omega
 rw[qyj,if_pos hlt];simpa using e1
structure Src (P:Program) (X:Ctx) (sh:List Sh) (m:R) (v:Value):Prop where
 nil:v=.slice none 0 0/\m=[]\/∃ad c,v=.slice (some ad) m.length c/\(0<m.length->ad.spot=none)/\Rows X.w X.M sh m ad
theorem qj8 {m:R}(h:q8A X.w X.M sh m v):Src P X sh m v:=by
 rcases h with h|⟨ad,c,h1,h2,_,h3⟩
 ·exact⟨.inl h⟩
 ·exact⟨.inr ⟨ad,c,h1,h2,h3⟩⟩
theorem qnA (h:0<P.cellsOf e):∃i,P.info? e=some i/\i.size=P.cellsOf e:=by
 unfold Program.cellsOf at *;cases hi:P.info? e with
 | none=>rw[hi] at h;simp at h
 | some i=>exact⟨i,rfl,by simp⟩
theorem jL {t e ty:TypeId}{p q:Option Addr}{n c d:Nat}(ht:P.underlying t=some (.slice e))(hp:0<P.cellsOf e)(hnc:n<=c) :(Builtin.append_ #[t,t] ty #[.slice p n c,.slice q 0 d]).run P w=.ok (.slice p n c) w:=by
 cases p with
 | none=>cases q<;>simp[Builtin.append_,run_underlying ht,za hp,Builtin.lenOf,hnc,Builtin.firstCells,loadCells,loadCellsFrom]
 | some a=>cases q<;>simp[Builtin.append_,run_underlying ht,za hp,Builtin.lenOf,hnc,Builtin.firstCells,storeCells,loadCells,loadCellsFrom]
structure ElemOk (rm:Int) (P:Program) (e:TypeId) (es:Nat) (i:TypeInfo) (z:Value):Prop where
 hi:P.info? e=some i
 hz:i.zero=some z
 size:i.size=es
 zs:z.cells.size=es
 by_:∀n:Nat,(n:Int)<=rm->n*i.bytes<=140737488355328/\n<=140737488355328
theorem qqV {E:Env}(hE:E.tok P)(hp:0<P.cellsOf e)(hz:(E.ty e).zero.length=P.cellsOf e):∃i z,ElemOk (qiA (E.ty e).bytes) P e (P.cellsOf e) i z:=by
 obtain⟨z,_,z2,i,hi,hz'⟩:=q90 hE (t:=e) (by omega) default;obtain⟨i',hi',hs⟩:=qnA hp;rw[hi] at hi';cases hi';refine⟨i,z,hi,hz',hs,by rw[<-hz,<-z2];simp,?_⟩;rcases qgv hE e with h1|h1
 ·rw[h1] at hz;simp[qx1] at hz;omega
 ·intro n hn;have hb:(E.ty e).bytes=i.bytes:=by rw[h1];unfold qlw;rw[hi]
  rw[hb] at hn;unfold qiA at hn;have hn':n<=140737488355328/(if i.bytes=0 then 1 else i.bytes):=by omega
  by_cases h0:i.bytes=0
  ·rw[if_pos h0] at hn';rw[h0];omega
  ·rw[if_neg h0] at hn';have h2:n*i.bytes<=140737488355328:=qxJ (qy8 _ hn') (Nat.div_mul_le_self _ _);exact⟨h2,qxJ (Nat.le_mul_of_pos_right n (by omega)) h2⟩
theorem qb8 {es n cap:Nat}{xs ys:List Value}{z:Value}(h1:xs.length+ys.length=n*es)(h2:z.cells.size=es)(h3:n<=cap) :(xs.toArray++ys.toArray++Builtin.zeroCells z.cells (cap-n)).size=cap*es:=by simp only[Array.size_append,List.size_toArray,size_zeroCells,h2,h1];rw[<-qy2];congr 1;omega
theorem qaM (hs:HSim B X){t e ty:TypeId}{m:R}{i:TypeInfo}{z:Value}(ht:P.underlying t=some (.slice e))(hp:0<P.cellsOf e)(hsh:sh.length=P.cellsOf e) {rm:Int} (he:ElemOk rm P e (P.cellsOf e) i z) (hsrc:Src P X sh m v) (hm:qh m<=rm) :qz P B X (do pure (.value (<-Builtin.append_ #[t,t] ty #[.slice none 0 0,v]))) (.vec X.h.length,X.h++[.vec e sh m],none):=by
 by_cases h0:m=[]
 ·subst h0;have hv:∃q d,v=.slice q 0 d:=by rcases hsrc.nil with⟨rfl,_⟩|⟨ad,c,rfl,_⟩<;>exact⟨_,_,rfl⟩
  obtain⟨q,d,rfl⟩:=hv;have hpw:=PushW.same X;refine⟨.value (.slice none 0 0),_,X.pushW (.vec e sh []) none X.w,?_,.inl rfl,?_,hs.push hpw (.inl ⟨by simp[Ctx.pushW],rfl⟩),rfl,Ctx.push_ext hs _ hpw⟩
  ·rw[qxF,jL ht hp (qxC 0)];rfl
  ·exact .vec _ _ _ _ (by simp[Ctx.pushW]) fun sh' m' _=>by unfold qmm;simp[Ctx.pushW]
 ·rcases hsrc.nil with⟨_,h⟩|⟨ad,c,rfl,hsp,hr⟩
  ·exact absurd h h0
  obtain⟨news,f1,f2,f3⟩:=q3W (by omega) hsp hr;have hml:0<m.length:=qyM.2 h0;have hby:=(he.by_ m.length (by simpa[qh] using hm)).1;have hroom:m.length<=140737488355328:=(he.by_ m.length (by simpa[qh] using hm)).2;have hrun:=run_append_nil (P:=P) X.w t ty e i z ht he.hi he.hz ad m.length c news (by rw[f1.1,he.size,hsh]) f2 hml (by omega) (by omega);have hge:=grownCap_ge X.w m.length 0 e;have hcm:=grownCap_le_maxLen X.w m.length 0 e (by unfold maxLen;omega);have hsz:(news.toArray++Builtin.zeroCells z.cells (grownCap X.w m.length 0 e-m.length)).size=grownCap X.w m.length 0 e*sh.length:=by have:=qb8 (es:=P.cellsOf e) (n:=m.length) (cap:=grownCap X.w m.length 0 e) (xs:=[]) (ys:=news) (z:=z) (by rw[qyq,qym,f1.1,hsh]) he.zs hge;rw[hsh,<-this];simp
  have hpw:PushW X (some X.w.heap.size) (X.w.drew.alloc (.cells (news.toArray++Builtin.zeroCells z.cells (grownCap X.w m.length 0 e-m.length)) e)):=
   ⟨fun _ h=>zz X.w.drew _ h,by simp,rfl,rfl,rfl,fun m h=>by cases h;exact qxC _⟩
  have hx:=Ctx.push_ext hs (.vec e sh m) hpw;have hnew:=zy X.w.drew (.cells (news.toArray++Builtin.zeroCells z.cells (grownCap X.w m.length 0 e-m.length)) e);refine⟨_,_,X.pushW (.vec e sh m) (some X.w.heap.size) _,?_,.inl rfl,qkB (n:=X.w.heap.size) hge hcm hnew hsz,hs.push hpw (.inr ⟨X.w.heap.size,_,by simp[Ctx.pushW],hnew,?_⟩),rfl,hx⟩
  ·rw[qxF,hrun];rfl
  ·have:=qd9.rowsC (c:=news.toArray++Builtin.zeroCells z.cells (grownCap X.w m.length 0 e-m.length)) f1 ⟨_,by simp;rfl⟩;exact this.mono hx.M hx.w
theorem qgi {b n cap:Nat}{w':World}{c:Array Value}{T:TypeId}{fr:Nat×Nat}(hb:b<X.h.length)(h1:l.length<=cap)(h2:cap<=maxLen)(h3:w'.heap[n]?=some (.cells c T fr)) (h4:c.size=cap*sh.length):Rep (X.repl b (some n) (.vec e sh l) w') (.vec b) (.slice (some ⟨n,0,none⟩) l.length cap):=by
 refine .vec _ _ _ _ (by simpa[Ctx.repl] using hb) fun sh' m ⟨e',l',q1,q2⟩=>?_;have:(X.repl b (some n) (.vec e sh l) w').h[b]?=some (.vec e sh l):=by simp[Ctx.repl,hb,Blk.ren]
 rw[this] at q1;rcases q1 with q1|q1<;>cases q1;subst q2;unfold qmm;simp only[Ctx.repl,if_true];exact⟨cap,rfl,h1,h2,c,T,fr,h3,h4⟩
theorem qai (hs:HSim B X){t e ty:TypeId}{l m:R}{b:Nat}{v vs:Value}{i:TypeInfo}{z:Value}(ht:P.underlying t=some (.slice e))(hp:0<P.cellsOf e)(hsh:sh.length=P.cellsOf e) {rm:Int} (he:ElemOk rm P e (P.cellsOf e) i z) (hb:X.h[b]?=some (.vec e sh l)) (hv:Rep X (.vec b) vs) (hsrc:Src P X sh m v) (hm:qh l+qh m<=rm) :qz P B X (do pure (.value (<-Builtin.append_ #[t,t] ty #[vs,v]))) (.vec b,X.h.set b (.vec e sh (q1i l m)),some b):=by
 have hbl:=qj hb;have hroom:((l.length+m.length:Nat):Int)<=rm:=by simpa[qh] using hm
 have hroom':l.length+m.length<=140737488355328:=(he.by_ _ hroom).2;have hren:∀k:R,(Blk.vec e sh k).ren (q7u b)=.vec e sh k:=fun _=>rfl;have hvl:(q1i l m).length=l.length+m.length:=by simp[q1i]
 cases hv with
 | vec _ p n cap hlt hvv=>
  have hvv:=hvv sh l.length ⟨e,l,.inl hb,rfl⟩;unfold qmm at hvv;rcases hs.blk b _ hb with⟨e1,rfl⟩|⟨n0,c0,e1,e2,e3⟩
  ·
   rw[e1] at hvv;obtain⟨p',hvv⟩:=hvv;cases hvv;by_cases h0:m=[]
   ·subst h0;have hv:∃q d,v=.slice q 0 d:=by rcases hsrc.nil with⟨rfl,_⟩|⟨ad,c,rfl,_⟩<;>exact⟨_,_,rfl⟩
    obtain⟨q,d,rfl⟩:=hv;have hw:ReplW X b none X.w:=⟨fun _ _ _=>rfl,fun _ c T fr _ h=>⟨c,T,fr,h,rfl⟩,qxC _,rfl,rfl,rfl,.inl e1.symm⟩;refine⟨.value (.slice p 0 0),_,X.repl b none (.vec e sh (q1i [] [])) X.w,?_,.inl rfl,?_,hs.repl hb hw (.inl ⟨by simp[Ctx.repl],rfl⟩),rfl,Ctx.repl_move hs hb hw⟩
    ·rw[qxF,jL ht hp (qxC 0)];rfl
    ·exact .vec _ _ _ _ (by simpa[Ctx.repl] using hbl) fun sh' m' _=>by unfold qmm;simp[Ctx.repl]
   ·rcases hsrc.nil with⟨_,h⟩|⟨ad,c,rfl,hsp,hr⟩
    ·exact absurd h h0
    obtain⟨news,f1,f2,f3⟩:=q3W (by omega) hsp hr;have hml:0<m.length:=qyM.2 h0;simp only[qyq,qym] at hroom hroom';have hby:=(he.by_ _ hroom).1;have hrun:(Builtin.append_ #[t,t] ty #[.slice p 0 0,.slice (some ad) m.length c]).run P X.w=.ok (.slice (some ⟨X.w.heap.size,0,none⟩) m.length (grownCap X.w m.length 0 e)) (X.w.drew.alloc (.cells (news.toArray++Builtin.zeroCells z.cells (grownCap X.w m.length 0 e-m.length)) e)):=by
     cases p with
     | none=>exact run_append_nil (P:=P) X.w t ty e i z ht he.hi he.hz ad m.length c news (by rw[f1.1,he.size,hsh]) f2 hml (by omega) (by omega)
     | some ad0=>
      have:=run_append_grow (P:=P) X.w t ty e i z ht he.hi he.hz ad0 0 0 [] (by simp) (fun j u hu=>by simp at hu) ad m.length c news (by rw[f1.1,he.size,hsh]) f2 (by omega) (by omega) (growslice_fits (by omega) (by simpa using hby));simpa using this
    have hge:=grownCap_ge X.w m.length 0 e;have hcm:=grownCap_le_maxLen X.w m.length 0 e (by unfold maxLen;omega);have hsz:(news.toArray++Builtin.zeroCells z.cells (grownCap X.w m.length 0 e-m.length)).size=grownCap X.w m.length 0 e*sh.length:=by have:=qb8 (es:=P.cellsOf e) (n:=m.length) (cap:=grownCap X.w m.length 0 e) (xs:=[]) (ys:=news) (z:=z) (by rw[qyq,qym,f1.1,hsh]) he.zs hge;rw[hsh,<-this];simp
    have hnew:=zy X.w.drew (.cells (news.toArray++Builtin.zeroCells z.cells (grownCap X.w m.length 0 e-m.length)) e);have hw:ReplW X b (some X.w.heap.size) (X.w.drew.alloc (.cells (news.toArray++Builtin.zeroCells z.cells (grownCap X.w m.length 0 e-m.length)) e)):=
     ⟨fun _ h _=>zz X.w.drew _ h,fun m0 _ _ _ h _=>(by rw[e1] at h;cases h),by simp,rfl,rfl,rfl,.inr fun m h=>by cases h;exact qxC _⟩
    have hx:=Ctx.repl_move hs hb (k':=.vec e sh (q1i [] m)) hw;have hrl:q1i [] m=m:=rfl;rw[hrl] at hx ⊢;refine⟨_,_,X.repl b (some X.w.heap.size) (.vec e sh m) _,?_,.inl rfl,qgi (n:=X.w.heap.size) hbl hge hcm hnew hsz,hs.repl hb hw (.inr ⟨X.w.heap.size,_,by simp[Ctx.repl],hnew,?_⟩),rfl,hx⟩
    ·rw[qxF,hrun];rfl
    ·have:=qd9.rowsC (c:=news.toArray++Builtin.zeroCells z.cells (grownCap X.w m.length 0 e-m.length)) f1 ⟨_,by simp;rfl⟩;exact this.mono hx.M hx.w
  ·rw[e1] at hvv;obtain⟨cap',q1,q2,q3,c1,T1,fr1,q4,q5⟩:=hvv;cases q1;rw[e2] at q4;cases q4;have hflat:=qkW e3 q5 q2;by_cases h0:m=[]
   ·subst h0;have hv:∃q d,v=.slice q 0 d:=by rcases hsrc.nil with⟨rfl,_⟩|⟨ad,c,rfl,_⟩<;>exact⟨_,_,rfl⟩
    obtain⟨q,d,rfl⟩:=hv;have hrl:q1i l []=l:=by simp[q1i]
    have hw:ReplW X b (some n0) X.w:=⟨fun _ _ _=>rfl,fun _ c T fr _ h=>⟨c,T,fr,h,rfl⟩,qxC _,rfl,rfl,rfl,.inl e1.symm⟩;have hx:=Ctx.repl_move hs hb (k':=.vec e sh l) hw;rw[hrl];refine⟨.value (.slice (some ⟨n0,0,none⟩) l.length cap),_,X.repl b (some n0) (.vec e sh l) X.w,?_,.inl rfl,qgi hbl q2 q3 e2 q5,hs.repl hb hw (.inr ⟨n0,_,by simp[Ctx.repl],e2,e3.mono hx.M hx.w⟩),rfl,hx⟩;rw[qxF,jL ht hp q2];rfl
   ·rcases hsrc.nil with⟨_,h⟩|⟨ad,c,rfl,hsp,hr⟩
    ·exact absurd h h0
    obtain⟨news,f1,f2,f3⟩:=q3W (by omega) hsp hr;have hml:0<m.length:=qyM.2 h0;have hby:=(he.by_ _ hroom).1;have happ:=hflat.app f1;by_cases hfit:l.length+m.length<=cap
    ·
     have hfitc:l.length*i.size+news.length<=c0.size:=by rw[he.size,f1.1,<-hsh,q5,<-qy2];exact qy8 _ hfit
     have hrun:=run_append_room (P:=P) X.w t ty e i ht he.hi n0 l.length cap c0 e2 ad m.length c news (by rw[f1.1,he.size,hsh]) f2 f3 hfit hfitc;have hsz:((c0.toList.take (l.length*i.size)++news++c0.toList.drop (l.length*i.size+news.length)).toArray).size=c0.size:=by simp;omega
     have hup:=UpdW.setRow (X:=X) (c':=(c0.toList.take (l.length*i.size)++news++c0.toList.drop (l.length*i.size+news.length)).toArray) e2 hsz;have hw:ReplW X b (some n0) (X.w.setRow n0 (c0.toList.take (l.length*i.size)++news++c0.toList.drop (l.length*i.size+news.length)).toArray):=
      ⟨fun m' _ hne=>hup.other m' (fun e=>hne (by rw[e];exact e1)),fun m' c' T' fr' hm' hc'=>by rw[e1] at hm';cases hm';rw[e2] at hc';cases hc';exact⟨_,_,_,hup.new,hsz⟩,by simp,rfl,rfl,rfl,.inl e1.symm⟩
     have hx:=Ctx.repl_move hs hb (k':=.vec e sh (q1i l m)) hw;have hrep:=qgi (X:=X) (e:=e) (l:=q1i l m) (n:=n0) (cap:=cap) (w':=X.w.setRow n0 (c0.toList.take (l.length*i.size)++news++c0.toList.drop (l.length*i.size+news.length)).toArray) hbl (by rw[hvl];exact hfit) q3 hup.new (by rw[hsz];exact q5);rw[hvl] at hrep;refine⟨_,_,X.repl b (some n0) (.vec e sh (q1i l m)) _,?_,.inl rfl,hrep,hs.repl hb hw (.inr ⟨n0,_,by simp[Ctx.repl],hup.new,?_⟩),rfl,hx⟩
     ·rw[qxF,hrun];rfl
     ·have:=qd9.rowsC (c:=(c0.toList.take (l.length*i.size)++news++c0.toList.drop (l.length*i.size+news.length)).toArray) happ ⟨c0.toList.drop (l.length*i.size+news.length),by rw[he.size,<-hsh]⟩;exact this.mono hx.M hx.w
    ·
     have holds:∀j u,(c0.toList.take (l.length*sh.length))[j]?=some u->X.w.cell? ((⟨n0,0,none⟩:Addr).add j)=some u:=by
      intro j u hu;rw[qyj] at hu;split at hu
      ·rw[qy7,zu e2];simpa using hu
      ·cases hu
     have hrun:=run_append_grow (P:=P) X.w t ty e i z ht he.hi he.hz ⟨n0,0,none⟩ l.length cap (c0.toList.take (l.length*sh.length)) (by rw[hflat.1,he.size,hsh]) holds ad m.length c news (by rw[f1.1,he.size,hsh]) f2 (by omega) (by omega) (growslice_fits (by omega) hby);have hge:=grownCap_ge X.w (l.length+m.length) cap e;have hcm:=grownCap_le_maxLen X.w (l.length+m.length) cap e (by unfold maxLen;omega);have hsz:=qb8 (es:=P.cellsOf e) (n:=l.length+m.length) (cap:=grownCap X.w (l.length+m.length) cap e) (xs:=c0.toList.take (l.length*sh.length)) (ys:=news) (z:=z) (by rw[hflat.1,f1.1,hsh,<-qy2]) he.zs hge;rw[<-hsh] at hsz;have hnew:=zy X.w.drew (.cells ((c0.toList.take (l.length*sh.length)).toArray++news.toArray++Builtin.zeroCells z.cells (grownCap X.w (l.length+m.length) cap e-(l.length+m.length))) e);have hw:ReplW X b (some X.w.heap.size) (X.w.drew.alloc (.cells ((c0.toList.take (l.length*sh.length)).toArray++news.toArray++Builtin.zeroCells z.cells (grownCap X.w (l.length+m.length) cap e-(l.length+m.length))) e)):=
      ⟨fun _ h _=>zz X.w.drew _ h,fun m0 c' T' fr' h hc'=>⟨c',T',fr',by rw[zz X.w.drew _ (qxI.1 hc').1];exact hc',rfl⟩,by simp,rfl,rfl,rfl,.inr fun m h=>by cases h;exact qxC _⟩
     have hx:=Ctx.repl_move hs hb (k':=.vec e sh (q1i l m)) hw;have hrep:=qgi (X:=X) (e:=e) (l:=q1i l m) hbl (by rw[hvl];exact hge) hcm hnew hsz;rw[hvl] at hrep;refine⟨_,_,X.repl b (some X.w.heap.size) (.vec e sh (q1i l m)) _,?_,.inl rfl,hrep,hs.repl hb hw (.inr ⟨X.w.heap.size,_,by simp[Ctx.repl],hnew,?_⟩),rfl,hx⟩
     ·rw[qxF,hrun];rfl
     ·have:=qd9.rowsC (c:=(c0.toList.take (l.length*sh.length)).toArray++news.toArray++Builtin.zeroCells z.cells (grownCap X.w (l.length+m.length) cap e-(l.length+m.length))) happ ⟨_,by simp;rfl⟩;exact this.mono hx.M hx.w
theorem qgd (hs:HSim B X){t e ty:TypeId}{p:Option Addr}(ht:P.underlying t=some (.slice e))(hp:0<P.cellsOf e)(hsrc:Src P X sh [] v):qz P B X (do pure (.value (<-Builtin.append_ #[t,t] ty #[.slice p 0 0,v]))) (.vec X.h.length,X.h++[.vec e sh []],none):=by
 have hv:∃q d,v=.slice q 0 d:=by rcases hsrc.nil with⟨rfl,_⟩|⟨ad,c,rfl,_⟩<;>exact⟨_,_,rfl⟩
 obtain⟨q,d,rfl⟩:=hv;have hpw:=PushW.same X;refine⟨.value (.slice p 0 0),_,X.pushW (.vec e sh []) none X.w,?_,.inl rfl,?_,hs.push hpw (.inl ⟨by simp[Ctx.pushW],rfl⟩),rfl,Ctx.push_ext hs _ hpw⟩
 ·rw[qxF,jL ht hp (qxC 0)];rfl
 ·exact .vec _ _ _ _ (by simp[Ctx.pushW]) fun sh' m' _=>by unfold qmm;simp[Ctx.pushW]
theorem qg8 (hs:HSim B X){t e ty:TypeId}{l m:R}{p:Option Addr}{n:Nat}{i:TypeInfo}{z:Value}(ht:P.underlying t=some (.slice e))(hp:0<P.cellsOf e)(hsh:sh.length=P.cellsOf e) {rm:Int} (he:ElemOk rm P e (P.cellsOf e) i z) (hv:q8A X.w X.M sh l (.slice p n n)) (hsrc:Src P X sh m v) (h0:0<qh m) (hm:qh l+qh m<=rm) :qz P B X (do pure (.value (<-Builtin.append_ #[t,t] ty #[.slice p n n,v]))) (.vec X.h.length,X.h++[.vec e sh (q1i l m)],none):=by
 rcases hv with⟨h1,rfl⟩|⟨ad0,cap,h1,hsp0,hcap,hr0⟩
 ·cases h1;exact qaM hs ht hp hsh he hsrc (m:=m) (by simpa[qh] using hm)
 ·cases h1;rcases hsrc.nil with⟨_,h⟩|⟨ad,c,rfl,hsp,hr⟩
  ·subst h;simp[qh] at h0
  obtain⟨olds,k1,k2,k3⟩:=q3W (by omega) hsp0 hr0;obtain⟨news,f1,f2,f3⟩:=q3W (by omega) hsp hr;have hml:0<m.length:=by simp only[qh] at h0;omega
  have hroom:((l.length+m.length:Nat):Int)<=rm:=by simpa[qh] using hm
  have hroom':l.length+m.length<=140737488355328:=(he.by_ _ hroom).2;have hby:=(he.by_ _ hroom).1;have happ:=k1.app f1;have hvl:(q1i l m).length=l.length+m.length:=by simp[q1i]
  have hrun:=run_append_grow (P:=P) X.w t ty e i z ht he.hi he.hz ad0 l.length l.length olds (by rw[k1.1,he.size,hsh]) k2 ad m.length c news (by rw[f1.1,he.size,hsh]) f2 (by omega) (by omega) (growslice_fits (by omega) hby);have hge:=grownCap_ge X.w (l.length+m.length) l.length e;have hcm:=grownCap_le_maxLen X.w (l.length+m.length) l.length e (by unfold maxLen;omega);have hsz:=qb8 (es:=P.cellsOf e) (n:=l.length+m.length) (cap:=grownCap X.w (l.length+m.length) l.length e) (xs:=olds) (ys:=news) (z:=z) (by rw[k1.1,f1.1,hsh,<-qy2]) he.zs hge;rw[<-hsh] at hsz;have hpw:PushW X (some X.w.heap.size) (X.w.drew.alloc (.cells (olds.toArray++news.toArray++Builtin.zeroCells z.cells (grownCap X.w (l.length+m.length) l.length e-(l.length+m.length))) e)):=
   ⟨fun _ h=>zz X.w.drew _ h,by simp,rfl,rfl,rfl,fun m h=>by cases h;exact qxC _⟩
  have hx:=Ctx.push_ext hs (.vec e sh (q1i l m)) hpw;have hnew:=zy X.w.drew (.cells (olds.toArray++news.toArray++Builtin.zeroCells z.cells (grownCap X.w (l.length+m.length) l.length e-(l.length+m.length))) e);have hrep:=qkB (X:=X) (e:=e) (l:=q1i l m) (n:=X.w.heap.size) (by rw[hvl];exact hge) hcm hnew hsz;rw[hvl] at hrep;refine⟨_,_,X.pushW (.vec e sh (q1i l m)) (some X.w.heap.size) _,?_,.inl rfl,hrep,hs.push hpw (.inr ⟨X.w.heap.size,_,by simp[Ctx.pushW],hnew,?_⟩),rfl,hx⟩
  ·rw[qxF,hrun];rfl
  ·have:=qd9.rowsC (c:=olds.toArray++news.toArray++Builtin.zeroCells z.cells (grownCap X.w (l.length+m.length) l.length e-(l.length+m.length))) happ ⟨_,by simp;rfl⟩;exact this.mono hx.M hx.w
end Go.Eng

namespace Go.Eng
variable {B:Base}{E:Env}{P:Program}{X:Ctx}{r:Res}
theorem qq0 (hs:HSim B X){x:AV}{vx:Value}(hx:Rep X x vx){sh:List Sh}{l:R}(h:wn X.h x=some (sh,l)) :(vx=.slice none 0 0/\l=[])\/∃a cap,vx=.slice (some a) l.length cap/\(0<l.length->a.spot=none) /\∀r j (hj:j<sh.length),r<l.length->∃v,X.w.cell? ⟨a.block,a.off+r*sh.length+j,none⟩=some v/\RepU X.w X.M sh[j] (wv l r j) v:=by
 cases hx with
 | imm sh' l' v himm=>
  simp only[wn,qxB,qxX] at h;obtain⟨rfl,rfl⟩:=h;rcases himm with h|⟨a,cap,h1,h2,_,h3⟩
  ·exact .inl h
  ·exact .inr ⟨a,cap,h1,h2,fun r j hj hr=>(h3 r j hj hr).2⟩
 | vec b p n c hb hv=>
  obtain⟨e,hh⟩:=q8g h;have hvv:=hv sh l.length ⟨e,l,hh,rfl⟩;unfold qmm at hvv;rcases hs.rows hh with⟨e1,rfl⟩|⟨n0,c0,e1,e2,e3⟩
  ·rw[e1] at hvv;obtain⟨p',hvv⟩:=hvv;cases p' with
   | none=>exact .inl ⟨hvv,rfl⟩
   | some a=>exact .inr ⟨a,0,hvv,fun h=>absurd h (Nat.lt_irrefl 0),fun r j hj hr=>absurd hr (Nat.not_lt_zero r)⟩
  ·rw[e1] at hvv;obtain⟨cap,q1,_⟩:=hvv;refine .inr ⟨⟨n0,0,none⟩,cap,q1,fun _=>rfl,fun r j hj hr=>?_⟩;obtain⟨v,g1,g2⟩:=e3 r j hj hr;exact⟨v,by rw[zu e2];simpa using g1,g2⟩
 | _=>simp[wn] at h
theorem qj7 {sh:List Sh}(h:qcI sh=true):sh=[.int .u8]:=by
 unfold qcI at h;split at h
 ·rfl
 ·cases h
theorem qhS:∀(ns:List Int) (r:ByteArray),ns.foldl (fun r n=>r.push (UInt8.ofNat n.toNat)) r=⟨r.data++(ns.map fun n=>UInt8.ofNat n.toNat).toArray⟩
 | [],r=>by simp
 | n::ns,r=>by
  simp only[qz7,qyp];rw[qhS ns];simp[ByteArray.push]
theorem qkT (hE:E.tok P)(hs:HSim B X){src dst e:TypeId}{es:Nat}(h1:(E.ty src).d=.slice e es)(h2:(E.ty dst).d=.str){a:AV}{v:Value}(hv:Rep X a v)(h:(qhJ E X.h e a).run=some r):∃av u,r=(av,X.h,none)/\(convert src dst v).run P X.w=.ok u X.w/\Rep X av u:=by
 unfold qhJ at h;cases hd:(E.ty e).d with
 | int k=>
  rw[hd] at h;cases k<;>first|(cases h;done)|skip
  simp only at h;cases hr:wn X.h a with
  | none=>rw[hr] at h;cases h
  | some q=>
   obtain⟨sh,l⟩:=q;rw[hr] at h;simp only at h;split at h
   ·rename_i hb;cases h;have hsh:=qj7 hb;subst hsh;have e1:=(uq hE h1).1;have e2:=q9t hE h2;have e3:=qhF hE hd;refine⟨_,.string ⟨(qvP l).toArray⟩,rfl,?_,.str _⟩;rcases qq0 hs hv hr with⟨rfl,rfl⟩|⟨ad,cap,rfl,hsp,hc⟩
    ·rw[run_convert_bytes_string X.w src dst e none 0 0 e1 e3 e2];simp[Conv.bytesToString,qvP];rfl
    ·rw[run_convert_bytes_string X.w src dst e (some ad) l.length cap e1 e3 e2];have hl:=run_loadCells_list (P:=P) X.w ad (((List.range l.length).map fun r:Nat=>(wv l r 0).toI).map (Value.int .u8)) (fun j v hj=>by
      have hj':j<l.length:=by have:=(qzm.1 hj).1;simpa using this
      obtain⟨u,g1,g2⟩:=hc j 0 (by simp) hj';simp only[List.map_map,qxZ,qz8 hj',qy0,qxB] at hj;have hs0:=hsp (by omega);have hadd:ad.add j=⟨ad.block,ad.off+j,none⟩:=by obtain⟨b,o,s⟩:=ad;simp only at hs0;subst hs0;unfold Addr.add;split<;>simp_all
      rw[hadd];simp only[qy9,qyq,qym,Nat.mul_one,qyd] at g1;rw[g1];cases g2;rw[<-hj];rfl)
     simp only[qz9,List.length_range] at hl;rw[run_bytesToString X.w ad l.length cap _ hl,qhS];congr 3;have he0:ByteArray.empty.data=#[]:=rfl;rw[he0];rw[Array.empty_append];congr 1;unfold qvP;apply qyc;intro i;by_cases hi:i<l.length
     ·simp[hi,wv]
     ·simp[hi]
   ·cases h
 | _=>rw[hd] at h;cases h
theorem qjQ (hE:E.tok P)(hs:HSim B X){src dst:TypeId}{a:AV}{v:Value}(hv:Rep X a v)(h:(qaR E X.h src dst a).run=some r) :∃av u,r=(av,X.h,none)/\(convert src dst v).run P X.w=.ok u X.w/\Rep X av u:=by
 unfold qaR at h;split at h
 ·rename_i e es h1;split at h
  ·rename_i h2;exact qkT hE hs h1 h2 hv h
  ·cases h
 ·exact qlS hE hv h
theorem qlO (v:Value)(b:Nat):vh v≠.vec b:=by unfold vh;split<;>simp
theorem qaz{h:List Blk}{sh:List Sh}{zs:List AV}{us:List U}(hu:qgq h sh zs=some us)(hl:zs.length=sh.length):∀n,qbK h sh n (List.replicate n zs).flatten=some (List.replicate n us)
 | 0=>by simp[qbK]
 | n+1=>by
  simp only[qyQ,qzi,qbK];have h2:=qaz hu hl n;rw[<-hl,List.take_left,List.drop_left,hu];simp only[h2]
theorem qnl (hE:E.tok P)(hs:HSim B X){t:TypeId}{x y:AV}{vx vy:Value}(hx:Rep X x vx)(hy:Rep X y vy)(h:(qr7 E X.h t x y).run=some r) :qz P B X (do pure (.value (<-Instr.makeSlice t vx vy))) r:=by
 unfold qr7 at h;cases hd:(E.ty t).d<;>rw[hd] at h<;>try (cases h;done)
 rename_i e es;obtain⟨ht,rfl⟩:=uq hE hd;cases h1:asI x with
 | none=>rw[h1] at h;cases h
 | some p=>
  obtain⟨k,n⟩:=p;cases h2:asI y with
  | none=>rw[h1,h2] at h;cases h
  | some q=>
   obtain⟨k',m⟩:=q;rw[h1,h2] at h;simp only at h;obtain rfl:=q0O hx h1;obtain rfl:=q0O hy h2;cases hsh:E.shape 16 e with
   | none=>rw[hsh] at h;cases h
   | some sh=>
    rw[hsh] at h;simp only at h;by_cases hc:sh.length=P.cellsOf e/\0<P.cellsOf e/\(E.ty e).zero.length=P.cellsOf e
    ·rw[if_pos hc] at h;obtain⟨hc1,hc2,hc3⟩:=hc;cases hu:qgq X.h sh ((E.ty e).zero.map vh) with
     | none=>rw[hu] at h;cases h
     | some us=>
      rw[hu] at h;obtain⟨g1,g2⟩:=wZ h;obtain⟨g3,g4⟩:=wZ g2;cases g4;have hnm:n=m:=by simpa[ieq] using g1
      subst hnm;obtain⟨q1,q2⟩:=yI g3;obtain⟨i,z,he⟩:=qqV hE hc2 hc3;obtain⟨b1,b2⟩:=he.by_ n.toNat (by rw[qyX q1];exact q2);have hzz:(E.ty e).zero.map vh=z.cells.toList.map vh:=by obtain⟨z',z1,z2,i',hi',hz'⟩:=q90 hE (t:=e) (by omega) X.w;rw[he.hi] at hi';cases hi';rw[he.hz] at hz';cases hz';rw[z2]
      have hrun:=run_make (P:=P) X.w t e i z ht he.hi he.hz k k' n n q1 (qxT _) (by
       have:(i.bytes:Int)*n=((n.toNat*i.bytes:Nat):Int):=by rw[Int.natCast_mul,qyX q1,qyY]
       rw[this];omega) (by omega)
      have hmk:madeCells z.cells (n.toNat*i.size)=(Array.range (n.toNat*z.cells.size)).map (z.cells[·%z.cells.size]!):=by rw[he.size,<-he.zs];rfl
      have hini:RepL X (List.replicate n.toNat ((E.ty e).zero.map vh)).flatten (madeCells z.cells (n.toNat*i.size)).toList:=by rw[hmk,qoV,hzz];exact q7j (vE X _) _
      have hzl:((E.ty e).zero.map vh).length=sh.length:=by rw[qz9,hc3,hc1]
      obtain⟨f1,f2⟩:=qcJ hs (Ext.refl X) n.toNat (qaz hu hzl n.toNat) (fun a ha b e sh l hab _=>by exfalso;obtain⟨l',hl',ha'⟩:=List.mem_flatten.1 ha;rw[(List.mem_replicate.1 hl').2] at ha';obtain⟨v,_,hv⟩:=qyy.1 ha';exact qlO v b (hv.trans hab)) hini;have hpw:=PushW.alloc X (.cells (madeCells z.cells (n.toNat*i.size)) e);have hx2:=Ctx.push_ext hs (.vec e sh (q31 n us)) hpw;have hsz:(madeCells z.cells (n.toNat*i.size)).size=n.toNat*sh.length:=by rw[size_madeCells,he.size,hc1]
      have hvec:=qkB (X:=X) (e:=e) (sh:=sh) (l:=q31 n us) (n:=X.w.heap.size) (cap:=n.toNat) (w':=X.w.alloc (.cells (madeCells z.cells (n.toNat*i.size)) e)) (Nat.le_of_eq f1) (by unfold maxLen;omega) (zy _ _) hsz;have hvl:(q31 n us).length=n.toNat:=f1;rw[hvl] at hvec;refine⟨.value (.slice (some ⟨X.w.heap.size,0,none⟩) n.toNat n.toNat),_,X.pushW (.vec e sh (q31 n us)) (some X.w.heap.size) _,?_,.inl rfl,hvec,hs.push hpw ?_,rfl,hx2⟩
      ·rw[qxF,hrun];rfl
      ·refine .inr ⟨X.w.heap.size,_,by simp[Ctx.pushW],zy _ _,fun r j hj hr=>?_⟩;obtain⟨v,w1,w2⟩:=f2.2 r j hj hr;exact⟨v,by simpa using w1,w2.mono hx2.M hx2.w⟩
    ·rw[if_neg hc] at h;cases h
theorem qod (hE:E.tok P)(hs:HSim B X){ts:List TypeId}{azz:List AV}{vs:List Value}(hv:RepL X azz vs)(h:(qmT E X.h ts azz).run=some r)(ty:TypeId) :qz P B X (do pure (.value (<-Builtin.copy_ ts.toArray ty vs.toArray))) r:=by
 unfold qmT at h;split at h
 ·rename_i t t' b i s;cases hd:(E.ty t).d<;>rw[hd] at h<;>try (cases h;done)
  rename_i e0 es;obtain⟨ht,rfl⟩:=uq hE hd;cases hb:X.h[b]? with
  | none=>rw[hb] at h;cases h
  | some kb=>
   rw[hb] at h;cases kb with
   | vec e sh l=>
    simp only at h;split at h
    ·rename_i hc;obtain⟨hc1,hc2⟩:=hc;have hsh:=qj7 hc1;subst hsh;obtain⟨g1,g2⟩:=wZ h;cases g2;have hle:(s.length:Int)<=(l.length:Int)-i:=of_decide_eq_true g1;cases hv with
     | cons hv1 hv=>cases hv with
      | cons hv2 hv=>cases hv with
       | nil=>
        obtain rfl:=qmW hv2;cases hv1 with
        | vsub _ _ n k m c hbl hσ hk=>
         obtain⟨q1,q2,q3,q4⟩:=hk _ _ ⟨e,l,.inl hb,rfl⟩;simp only[qy9,qyq,qym,Nat.mul_one] at q3;subst q4;rcases hs.blk b _ hb with⟨e1,_⟩|⟨n',cc,e1,e2,e3⟩
         ·rw[hσ] at e1;cases e1
         rw[hσ] at e1;cases e1;have hsl:i.toNat+s.length<=l.length:=by omega
         have hlast:l.length<=cc.size:=by
          rcases qyx l.length with h0|h0
          ·omega
          ·obtain⟨v',w1,_⟩:=e3 (l.length-1) 0 (by simp) (by omega);have:=(qxI.1 w1).1;simp at this;omega
         have hk2:k=i.toNat\/(s=[]/\k=0):=by
          rcases q3 with h1|⟨h1,h2⟩
          ·exact .inl h1
          ·exact .inr ⟨List.eq_nil_of_length_eq_zero (by omega),h2⟩
         let cs:List Value:=s.map fun c=>Value.int .u8 (c.toNat:Int)
         have hcl:cs.length=s.length:=by simp[cs]
         have hkl:k+s.length<=cc.size:=by
          rcases hk2 with h1|⟨h1,h2⟩
          ·omega
          ·rw[h1,h2];simp
         have hst:=run_storeCells_at P n k e cs 0 cc X.w e2 (by rw[hcl];omega) (fun v hv=>by obtain⟨c,_,hc⟩:=qyy.1 hv;rw[<-hc];rfl);rw[qyd,hcl] at hst;have hup:=UpdW.setRow (X:=X) (c':=(cc.toList.take k++cs++cc.toList.drop (k+s.length)).toArray) e2 (by simp[hcl];omega);have hown:X.own b n:=⟨hσ,_,hb,rfl⟩;have hrl:(qph l i s).length=l.length:=by simp[qph];omega
         have hkk:q9D (.vec e [.int .u8] l) (.vec e [.int .u8] (qph l i s)):=⟨rfl,rfl,hrl.symm⟩;have hx:=Ctx.upd_ext hs hb hown hup hkk;have hinfo:(P.info? e0).map (·.size)=some 1:=by obtain⟨ii,w1,w2⟩:=qnA (P:=P) (e:=e0) (by omega);rw[w1,qy0,w2,<-hc2]
         have hmin:Nat.min s.length (l.length-i.toNat)=s.length:=qyB (by omega);have hcsE:(((ByteArray.mk s.toArray).extract 0 s.length).data.map fun b=>Value.int .u8 (b.toNat:Int)).toList=cs:=by
          have:((ByteArray.mk s.toArray).extract 0 s.length).data=s.toArray:=by simp
          rw[this];simp[cs]
         refine⟨.value (goInt s.length),goInt s.length,X.upd b (.vec e [.int .u8] (qph l i s)) (X.w.setRow n _),?_,.inl rfl,?_,hs.upd hb hown hup hkk ?_,rfl,hx⟩
         ·cases hq:P.info? e0 with
          | none=>rw[hq] at hinfo;cases hinfo
          | some ii=>
           have hsize:ii.size=1:=by rw[hq] at hinfo;simpa using hinfo
           have hsz:(ByteArray.mk s.toArray).size=s.length:=rfl;have hcopy:(Builtin.copy_ (List.toArray [t,t']) ty (List.toArray [.slice (some ⟨n,k,none⟩) (l.length-i.toNat) c,.string ⟨s.toArray⟩])).run P X.w =
             .ok (goInt s.length) (X.w.setRow n (cc.toList.take k++cs++cc.toList.drop (k+s.length)).toArray):=by
            have htk:List.take s.length (List.map (fun b:UInt8=>Value.int IntKind.u8 (b.toNat:Int)) s)=cs:=by rw[List.take_of_length_le (by simp)]
            simp[Builtin.copy_,run_underlying ht,Builtin.lenOf,Builtin.firstCells,sizeOf,typeInfo,hq,hsz,hmin];rw[htk,hst];simp[Result.andThen]
           rw[qxF,hcopy];rfl
         ·have:goInt s.length=.int .i64 (zG s):=rfl;rw[this];exact .int _ _
         ·refine .inr ⟨n,_,hσ,hup.new,fun r j hj hr=>?_⟩;rw[hrl] at hr;have hj0:j=0:=by simpa using hj
          subst hj0;obtain⟨v,w1,w2⟩:=e3 r 0 hj hr;simp only[qy9,qyq,qym,Nat.mul_one,qyd] at w1 ⊢;have hcu:∀(f:R) (k:Nat),wv f (k:Int) 0=(f[k]?.getD []).getD 0 (.i 0):=fun f k=>by unfold wv;rw[qy1,qxE (l:=f)]
          rw[List.getElem?_toArray];rcases hk2 with hki|⟨hs0,hk0⟩
          ·subst hki;have hcl2:(cc.toList.take i.toNat).length=i.toNat:=by simp;omega
           have hll:(l.take i.toNat).length=i.toNat:=by simp;omega
           rcases qxG r i.toNat with hlt|hge
           ·refine⟨v,?_,?_⟩
            ·rw[qyb,qxK (by omega),qyj,if_pos hlt];simpa using w1
            ·have:wv (qph l i s) r 0=wv l r 0:=by rw[hcu,hcu];unfold qph;rw[qyb,qxK (by omega),qyj,if_pos hlt]
             rw[this];exact w2.mono hx.M hx.w
           ·rcases qxG r (i.toNat+s.length) with hlt2|hge2
            ·have hrs:r-i.toNat<s.length:=by omega
             refine⟨.int .u8 (s[r-i.toNat].toNat:Int),?_,?_⟩
             ·rw[qyb,qxU (by omega),hcl2,qxK (by rw[hcl];omega)];simp[cs,hrs]
             ·have:wv (qph l i s) r 0=.i (s[r-i.toNat].toNat:Int):=by rw[hcu];unfold qph;rw[qyb,qxU (by omega),hll,qxK (by simp;omega)];simp[hrs]
              rw[this];exact .int .u8 (.i _)
            ·refine⟨v,?_,?_⟩
             ·rw[qxU (by simp[hcl2,hcl];omega)];simp only[qyL,hcl2,hcl,qyl];rw[show i.toNat+s.length+(r-(i.toNat+s.length))=r by omega];simpa using w1
             ·have:wv (qph l i s) r 0=wv l r 0:=by rw[hcu,hcu];unfold qph;rw[qxU (by simp;omega),qyl];simp only[qyL,hll,qz9];rw[show i.toNat+s.length+(r-(i.toNat+s.length))=r by omega]
              rw[this];exact w2.mono hx.M hx.w
          ·subst hs0 hk0;refine⟨v,by simpa[cs] using w1,?_⟩;have:qph l i []=l:=by simp[qph]
           rw[this];exact w2.mono hx.M hx.w
    ·cases h
   | _=>cases h
 ·cases h
end Go.Eng

namespace Go.Eng
variable {B:Base}{E:Env}{P:Program}{X:Ctx}{l:R}{n:Nat}{r:Res}{t:TypeId}{v:Value}{vs:List Value}{w:World}
theorem qwn {k:IntKind}(h:isZ k v=true):v=.int k 0:=by
 unfold isZ at h;split at h
 ·simp only[qxL,decide_eq_true_eq] at h;rw[h.1,h.2]
 ·cases h
theorem qbj {o n:Nat}{k:IntKind}(h:qpW E t=some (o,k,n)) :(E.ty t).zero.length=o+n/\(E.ty t).size=o+n/\32<=n/\(E.ty t).zero.drop o=List.replicate n (.int k 0)/\∃fs,(E.ty t).d=.struct fs:=by
 unfold qpW at h;split at h
 ·rename_i fs hd;split at h
  ·rename_i o' ty sz hl;split at h
   ·rename_i n' e es ha;split at h
    ·rename_i k' hk;split at h
     ·rename_i hc;cases h;simp only[qxL,Nat.ble_eq,Nat.beq_eq,qxV] at hc;obtain⟨⟨⟨c1,c2⟩,c3⟩,c4⟩:=hc;refine⟨c2,c3,c1,?_,fs,hd⟩;apply List.eq_replicate_iff.2;exact⟨by simp[c2],fun v hv=>qwn (c4 v hv)⟩
     ·cases h
    ·cases h
   ·cases h
  ·cases h
 ·cases h
theorem qpa (k:IntKind)(n:Nat):uE k (q31 n [.i 0])=List.replicate n (.int k 0):=by simp[uE,q31,U.toI]
theorem qgQ (n:Nat)(r:List U):(q31 n r).length=n:=by simp[q31]
theorem qf1 {o n:Nat}{k:IntKind}(h:qpW E t=some (o,k,n)):(E.ty t).zero=(E.ty t).zero.take o++uE k (q31 n [.i 0]):=by obtain⟨h1,h2,h3,h4,_⟩:=qbj h;rw[qpa,<-h4,qza]
theorem qtT (hs:HSim B X){cs:List AV}{k:IntKind}{c:Array Value}{T:TypeId}(hr:RepL X cs vs)(hc:c.toList=vs++uE k l)(hl:l.length=n) :HSim B (X.pushW (.big cs k n l) (some X.w.heap.size) (X.w.alloc (.cells c T))):=by have hw:=PushW.alloc X (.cells c T);exact hs.push hw ⟨X.w.heap.size,c,T,vs,by simp[Ctx.pushW],zy _ _,hr.ext (Ctx.push_ext hs _ hw),hc,hl⟩
theorem qgG (hs:HSim B X){cs:List AV}{k:IntKind}(hr:RepL X cs vs)(hc:v.cells.toList=vs++uE k l)(hl:l.length=n){m:Sem Value}(hm:m.run P X.w=.ok (.pointer (some ⟨X.w.heap.size,0,none⟩)) (X.w.alloc (.cells v.cells t))) :qz P B X (do pure (.value (<-m))) (.ptr X.h.length 0,X.h++[.big cs k n l],none):=
 ⟨.value (.pointer (some ⟨X.w.heap.size,0,none⟩)),_,X.pushW (.big cs k n l) (some X.w.heap.size) (X.w.alloc (.cells v.cells t)),by simp[hm];rfl,.inl rfl,qoT,qtT hs hr hc hl,rfl,
  Ctx.push_ext hs _ (PushW.alloc X _)⟩
theorem qjG {h:List Blk}{k:Option Blk}(hr:(qsr h k).run=some r):∃z,k=some z/\r=(.ptr h.length 0,h++[z],none):=by
 cases k with
 | none=>cases hr
 | some z=>cases hr;exact⟨z,rfl,rfl⟩
theorem qrX (hs:HSim B X){a:AV}(hv:Rep X a v){z:Blk}(hz:qqU a=some z) :qz P B X (do pure (.value (<-Instr.box t v))) (.ptr X.h.length 0,X.h++[z],none):=by
 unfold qqU at hz;split at hz
 ·rename_i cs k n l;split at hz
  ·cases hz;cases hv with
   | bagg _ _ _ _ vs h hl=>exact qgG (t:=t) (v:=.agg (vs++uE k l).toArray) hs h (by simp[Value.cells]) hl (by simp[Instr.box,q5e])
  ·cases hz
 ·split at hz
  ·rename_i hc;cases hz;exact qu5 hs hv hc
  ·cases hz
theorem qoc (hE:E.tok P)(hs:HSim B X){z:Blk}(hz:q92 E t=some z) :qz P B X (do pure (.value (<-Instr.alloc t true (.tuple #[])))) (.ptr X.h.length 0,X.h++[z],none):=by
 unfold q92 at hz;split at hz
 ·rename_i o k n hb;split at hz
  ·cases hz;obtain⟨b1,b2,b3,b4,_⟩:=qbj hb;obtain⟨v,h1,h2,_⟩:=q90 hE (t:=t) (by omega) X.w;refine qgG (t:=t) (v:=v) (vs:=(E.ty t).zero.take o) hs (vE X _) ?_ (qgQ _ _) ?_
   ·rw[h2];exact qf1 hb
   ·simp[Instr.alloc,h1,q5e]
  ·cases hz
 ·split at hz
  ·rename_i hc;cases hz;exact qqp hE hs hc.2
  ·cases hz
theorem qke {k:IntKind}{c:Array Value}(hc:c.toList=vs++uE k l){j:Nat}(hj:j<l.length):c[vs.length+j]?=some (.int k (cI l j 0)):=by
 have:c.toList[vs.length+j]?=some (.int k (cI l j 0)):=by rw[hc,qxU (by omega),Nat.add_sub_cancel_left,qa9 hj]
 simpa using this
theorem qt6 (l:R){i:Int}(h:0<=i)(j:Nat):cI l ((i.toNat:Nat):Int) j=cI l i j:=by rw[qyX h]
theorem qnr (hE:E.tok P)(hs:HSim B X){b off n0:Nat}(hσ:X.σ b=some n0){cs:List AV}{k:IntKind}(hh:X.h[b]?=some (.big cs k n l))(h:(qrG E X.h t off cs k n l).run=some r):∃av u,r=(av,X.h,none)/\(Instr.loadAt t (.pointer (some ⟨n0,off,none⟩))).run P X.w=.ok u X.w/\Rep X av u:=by
 obtain⟨n1,c,T,vs,e1,e2,e3,e4,e5⟩:=hs.blk b _ hh;rw[hσ] at e1;cases e1;have hlen:=e3.length;have hcl:c.size=vs.length+n:=by
  have:c.toList.length=(vs++uE k l).length:=by rw[e4]
  simpa[jy,e5] using this
 unfold qrG at h;by_cases hk:(E.ty t).d.known=false
 ·rw[if_pos hk] at h;cases h
 rw[if_neg hk] at h;have hk':(E.ty t).d.known=true:=by simpa using hk
 simp only[Instr.loadAt,Instr.sureAddr,qxF,qxW,qxH];unfold loadVar;rw[qxF,q7H hE hk',qxH];cases ha:(E.ty t).d.isAgg with
 | true=>
  rw[ha] at h;simp only[if_true] at h ⊢;split at h
  ·rename_i hc;obtain⟨rfl,hc2⟩:=hc;cases h;refine⟨_,.agg (vs++uE k l).toArray,rfl,?_,.bagg _ _ _ _ vs e3 e5⟩;have:=run_loadCells_list (P:=P) X.w ⟨n0,0,none⟩ (vs++uE k l) (fun j v hj=>by rw[qy7,zu e2,qym];rw[<-e4] at hj;simpa using hj);have hl:(vs++uE k l).length=(E.ty t).size:=by simp[jy];omega
   rw[hl] at this;simp[qbi hE hk',this]
  ·cases h
 | false=>
  rw[ha] at h;simp only[qy5,if_false] at h ⊢;split at h
  ·rename_i v hv;cases h;obtain⟨u,g1,g2⟩:=e3.get off v hv;have h2:X.w.cell? ⟨n0,off,none⟩=some u:=by
    rw[zu e2];have:c.toList[off]?=some u:=by rw[e4,qxK (qj g1)];exact g1
    simpa using this
   exact⟨_,u,rfl,by simp[h2],g2⟩
  ·rename_i hv;have hge:cs.length<=off:=by
    rcases qxG off cs.length with hlt|hge
    ·rw[qxO hlt] at hv;cases hv
    ·exact hge
   split at h
   ·rename_i hlt;cases h;have h2:X.w.cell? ⟨n0,off,none⟩=some (.int k (cI l ((off-cs.length:Nat):Int) 0)):=by
     rw[zu e2];have:=qke e4 (j:=off-cs.length) (by omega)
     rwa [show vs.length+(off-cs.length)=off by omega] at this
    exact⟨_,_,rfl,by simp[h2],.int _ _⟩
   ·cases h
theorem qk8 (hE:E.tok P)(hs:HSim B X){p:AV}(hv:Rep X p v)(h:(q79 E X.h t p).run=some r):∃av u,r=(av,X.h,none)/\(Instr.loadAt t v).run P X.w=.ok u X.w/\Rep X av u:=by
 unfold q79 at h;split at h
 ·rename_i b off;split at h
  ·rename_i cs k n l hh;cases hv with
   | ptr _ _ n0 hb hσ=>exact qnr hE hs hσ hh h
  ·exact qaf hE hs hv h
 ·rename_i b o i;split at h
  ·rename_i cs k n l hh;split at h
   ·rename_i hc;obtain⟨hc1,hc2,hc3⟩:=hc;obtain⟨g1,g2⟩:=wZ h;cases g2;obtain⟨g3,g4⟩:=qcN g1;cases hv with
    | aptr _ _ _ n0 hb hσ h0=>
     obtain⟨n1,c,T,vs,e1,e2,e3,e4,e5⟩:=hs.blk b _ hh;rw[hσ] at e1;cases e1;have hlen:=e3.length;have h2:X.w.cell? ⟨n0,o+i.toNat,none⟩=some (.int k (cI l i 0)):=by
      rw[zu e2];have:=qke e4 (j:=i.toNat) (by omega);rw[qt6 l g3] at this
      rwa [show vs.length+i.toNat=o+i.toNat by omega] at this
     refine⟨_,_,rfl,?_,.int _ _⟩;simp only[Instr.loadAt,Instr.sureAddr,qxF,qxW,qxH];unfold loadVar;rw[qxF,q7H hE hc1,qxH,hc2];simp[h2]
   ·cases h
  ·cases h
 ·exact qaf hE hs hv h
theorem qrv (k:IntKind)(l:R)(j:Nat)(x:Int):uE k (q9e l (j:Int) 0 [.i x])=(uE k l).set j (.int k x):=by
 apply qyc;intro i;have hl:(q9e l (j:Int) 0 [.i x]).length=l.length:=by simp[q9e]
 by_cases hi:i<l.length
 ·rw[qa9 (by omega)];by_cases hij:i=j
  ·subst hij;rw[qxN (by rw[jy];exact hi)];have:=qat (l:=l) (i:=(i:Int)) (off:=0) (us:=[.i x]) (by simpa using hi) (j:=0);simp only[cI,this];rfl
  ·rw[qxD (qxS hij),qa9 hi];have:=q9s (l:=l) (i:=(j:Int)) (off:=0) (us:=[.i x]) (r:=i) (by simpa using hij) (j:=0);simp only[cI,this]
 ·rw[qxR (by rw[jy];omega),qxR (by simp[jy];omega)]
theorem qoY (hE:E.tok P)(hs:HSim B X){b n0 j:Nat}(hσ:X.σ b=some n0){cs:List AV}{k:IntKind}(hh:X.h[b]?=some (.big cs k n l))(hj:j<n) (hsz:(E.ty t).size=1) (x:Int):qz P B X (do Instr.storeAt t (.pointer (some ⟨n0,cs.length+j,none⟩)) (.int k x);pure .skip) (.skip,X.h.set b (.big cs k n (q9e l (j:Int) 0 [.i x])),none):=by
 obtain⟨n1,c,T,vs,e1,e2,e3,e4,e5⟩:=hs.blk b _ hh;rw[hσ] at e1;cases e1;have hlen:=e3.length;have hcl:c.size=vs.length+n:=by
  have:c.toList.length=(vs++uE k l).length:=by rw[e4]
  simpa[jy,e5] using this
 have hsz':(sizeOf t).run P X.w=.ok (Value.int k x).cells.size X.w:=q4Y hE (by rw[hsz];rfl) (by show 1≠0;omega) X.w;have hrun:=kL (P:=P) (t:=t) (o:=cs.length+j) (v:=.int k x) e2 hsz' (by show cs.length+j+1<=_;omega) (fun u hu=>by
  have:u=.int k x:=by simpa[Value.cells] using hu
  rw[this];rfl)
 have hc':c.toList.take (cs.length+j)++(Value.int k x).cells.toList++c.toList.drop (cs.length+j+(Value.int k x).cells.size)=vs++uE k (q9e l (j:Int) 0 [.i x]):=by
  rw[qrv,e4];have h1:(Value.int k x).cells.toList=[.int k x]:=rfl;have h2:(Value.int k x).cells.size=1:=rfl;rw[h1,h2];apply qyc;intro i;have hsp:=q8a (c:=vs++uE k l) (vs:=[Value.int k x]) (o:=cs.length+j) (k:=i) (by simp[jy];omega);simp only[qy9,qyq,qym] at hsp;rw[hsp];by_cases hi:i=cs.length+j
  ·subst hi;rw[if_pos (by omega),qxU (by omega),show cs.length+j-vs.length=j by omega,qxN (by rw[jy];omega)];simp
  ·rw[if_neg (by omega)];rcases qxG i vs.length with hlt|hge
   ·rw[qxK hlt,qxK hlt]
   ·rw[qxU hge,qxU hge,qxD (by omega)]
 have hup:=UpdW.setRow (X:=X) (c':=(c.toList.take (cs.length+j)++(Value.int k x).cells.toList++c.toList.drop (cs.length+j+(Value.int k x).cells.size)).toArray) e2 (by have h1:(Value.int k x).cells.toList=[.int k x]:=rfl;have h2:(Value.int k x).cells.size=1:=rfl;rw[h1,h2];simp;omega);have hown:X.own b n0:=⟨hσ,_,hh,rfl⟩;have hkk:q9D (.big cs k n l) (.big cs k n (q9e l (j:Int) 0 [.i x])):=trivial;have hx:=Ctx.upd_ext hs hh hown hup hkk;refine⟨.skip,Go.undef,X.upd b (.big cs k n (q9e l (j:Int) 0 [.i x])) (X.w.setRow n0 _),?_,.inr ⟨rfl,rfl⟩,.skip,hs.upd hh hown hup hkk ?_,rfl,hx⟩
 ·simp[Instr.storeAt,Instr.sureAddr,hrun];rfl
 ·exact⟨n0,_,T,vs,hσ,hup.new,e3.ext hx,by rw[<-hc'],by simp[q9e,e5]⟩
theorem qpz (hE:E.tok P)(hs:HSim B X){b off n0:Nat}(hσ:X.σ b=some n0){cs:List AV}{k:IntKind}(hh:X.h[b]?=some (.big cs k n l)){a:AV} {v:Value} (hv:Rep X a v) {r:Res} (h:(qkg E X.h t b off cs k n l a).run=some r):qz P B X (do Instr.storeAt t (.pointer (some ⟨n0,off,none⟩)) v;pure .skip) r:=by
 obtain⟨n1,c,T,vs,e1,e2,e3,e4,e5⟩:=hs.blk b _ hh;rw[hσ] at e1;cases e1;have hlen:=e3.length;have hcl:c.size=vs.length+n:=by
  have:c.toList.length=(vs++uE k l).length:=by rw[e4]
  simpa[jy,e5] using this
 have hown:X.own b n0:=⟨hσ,_,hh,rfl⟩;unfold qkg at h;split at h
 ·rename_i cs' k' n' l';split at h
  ·rename_i hc;obtain⟨rfl,rfl,rfl,c1,c2,c3,c4⟩:=hc;cases h;cases hv with
   | bagg _ _ _ _ vs' h' hl'=>
    have hlen':=h'.length;have hcs:(Value.agg (vs'++uE k l').toArray).cells.toList=vs'++uE k l':=by simp[Value.cells]
    have hcz:(Value.agg (vs'++uE k l').toArray).cells.size=c.size:=by simp[Value.cells,jy];omega
    have hsz':(sizeOf t).run P X.w=.ok (Value.agg (vs'++uE k l').toArray).cells.size X.w:=q4Y hE (by rw[hcz];omega) (by rw[hcz];omega) X.w;have hrun:=kL (P:=P) (t:=t) (o:=0) (v:=.agg (vs'++uE k l').toArray) e2 hsz' (by omega) (fun u hu=>by
     rw[hcs] at hu;rcases qxY.1 hu with hu|hu
     ·exact q6x h' c4 u hu
     ·unfold uE at hu;obtain⟨row,_,hr⟩:=qyy.1 hu;rw[<-hr];rfl)
    have hup:=UpdW.setRow (X:=X) (c':=(c.toList.take 0++(Value.agg (vs'++uE k l').toArray).cells.toList++c.toList.drop (0+(Value.agg (vs'++uE k l').toArray).cells.size)).toArray) e2 (by rw[hcs];simp[hcz,jy];omega);have hkk:q9D (.big cs k n l) (.big cs' k n l'):=trivial;have hx:=Ctx.upd_ext hs hh hown hup hkk;refine⟨.skip,Go.undef,X.upd b (.big cs' k n l') (X.w.setRow n0 _),?_,.inr ⟨rfl,rfl⟩,.skip,hs.upd hh hown hup hkk ?_,rfl,hx⟩
    ·simp only[Instr.storeAt,Instr.sureAddr,qxF,qxW,qxH,hrun];rfl
    ·refine⟨n0,_,T,vs',hσ,hup.new,h'.ext hx,?_,hl'⟩;rw[hcs];simp[hcz]
  ·cases h
 ·rename_i hnb;split at h
  ·rename_i hc;obtain⟨c1,c2,c3⟩:=hc;split at h
   ·rename_i hle;have hle':off+a.cells.length<=cs.length:=Nat.le_of_ble_eq_true hle;cases h;have hrl:=qav hv c2;have hlenv:v.cells.size=a.cells.length:=by have:=hrl.length;simpa using this.symm
    have hone:=q6x hrl c2;have hsz:(sizeOf t).run P X.w=.ok v.cells.size X.w:=by rw[hlenv];exact q4Y hE c1 c3 X.w
    have hrun:=kL (P:=P) (t:=t) (o:=off) (v:=v) e2 hsz (by omega) hone;have hup:=UpdW.setRow (X:=X) (c':=(c.toList.take off++v.cells.toList++c.toList.drop (off+v.cells.size)).toArray) e2 (by simp;omega);have hkk:q9D (.big cs k n l) (.big (qfo cs off a.cells) k n l):=trivial;have hx:=Ctx.upd_ext hs hh hown hup hkk;refine⟨.skip,Go.undef,X.upd b (.big (qfo cs off a.cells) k n l) (X.w.setRow n0 _),?_,.inr ⟨rfl,rfl⟩,.skip,hs.upd hh hown hup hkk ?_,rfl,hx⟩
    ·simp[Instr.storeAt,Instr.sureAddr,hrun];rfl
    ·refine⟨n0,_,T,vs.take off++v.cells.toList++vs.drop (off+a.cells.length),hσ,hup.new,(q8Y e3 hrl off).ext hx,?_,e5⟩;show c.toList.take off++v.cells.toList++c.toList.drop (off+v.cells.size)=_;rw[e4,hlenv,List.take_append_of_le_length (by omega),List.drop_append_of_le_length (by omega)];simp
   ·split at h
    ·rename_i k' x hx;split at h
     ·rename_i hc2;obtain⟨rfl,d1,d2⟩:=hc2;cases h;obtain rfl:=q0O hv hx;have hone:a.cells.length=1:=by cases a<;>simp[asI] at hx<;>rfl
      have:=qoY (P:=P) hE hs hσ hh (j:=off-cs.length) (by omega) (t:=t) (by omega) x
      rwa [show cs.length+(off-cs.length)=off by omega] at this
     ·cases h
    ·cases h
  ·cases h
theorem qjR (hE:E.tok P)(hs:HSim B X){p a:AV}{vp v:Value}(hp:Rep X p vp)(hv:Rep X a v)(h:(yE E X.h t p a).run=some r):qz P B X (do Instr.storeAt t vp v;pure .skip) r:=by
 unfold yE at h;split at h
 ·rename_i b off;split at h
  ·rename_i cs k n l hh;cases hp with
   | ptr _ _ n0 hb hσ=>exact qpz hE hs hσ hh hv h
  ·exact qfF hE hs hp hv h
 ·rename_i b o i;split at h
  ·rename_i cs k n l hh;split at h
   ·rename_i k' x hx;split at h
    ·rename_i hc;obtain⟨rfl,rfl,hc3⟩:=hc;obtain⟨g1,g2⟩:=wZ h;cases g2;obtain⟨g3,g4⟩:=qcN g1;obtain rfl:=q0O hv hx;cases hp with
     | aptr _ _ _ n0 hb hσ h0=>
      have:=qoY (P:=P) hE hs hσ hh (j:=i.toNat) (by omega) (t:=t) hc3 x
      rwa [qyX h0] at this
    ·cases h
   ·cases h
  ·cases h
 ·exact qfF hE hs hp hv h
theorem qej (hE:E.tok P)(hs:HSim B X){a ai:AV}{v vi:Value}(hv:Rep X a v)(hi:Rep X ai vi)(h:(um E X.h t a ai).run=some r):∃av u,r=(av,X.h,none)/\(Instr.indexAt t v vi).run P X.w=.ok u X.w/\Rep X av u:=by
 unfold um at h;split at h
 ·rename_i n e es hd;split at h
  ·split at h
   ·rename_i b off;split at h
    ·rename_i k i;split at h
     ·rename_i hes;obtain⟨ht,hce⟩:=q3B hE hd;obtain⟨g1,g2⟩:=wZ h;cases g2;obtain⟨g3,g4⟩:=qcN g1;obtain rfl:=q0O hi rfl;cases hv with
      | ptr _ _ n0 hb hσ=>
       refine⟨_,_,rfl,yY ht (by omega) g3 g4,?_⟩;rw[qy7,<-hce,hes,Nat.mul_one];exact .aptr b off i n0 hb hσ g3
     ·cases h
    ·exact q0b hE hs hv hi h
   ·exact q0b hE hs hv hi h
  ·exact q0b hE hs hv hi h
 ·exact q0b hE hs hv hi h
theorem qbV{X:Ctx}{place:Nat->Option (Nat×Nat)}(tl:List Value):∀{parts:List (Nat×AV)} {vparts:List (Nat×Value)} {cells cs:List AV} {vc:Array Value} {vs:List Value},
  q7O place cells parts=some cs->RepP X parts vparts->RepL X cells vs->vc.toList=vs++tl->∃vc' vs',Instr.fill place vc vparts=some vc'/\RepL X cs vs'/\vc'.toList=vs'++tl
 | [],_,cells,cs,vc,vs,h,hp,hr,hv=>by
  cases hp;simp only[q7O,qxB] at h;subst h;exact⟨vc,vs,rfl,hr,hv⟩
 | (i,a)::rest,_,cells,cs,vc,vs,h,hp,hr,hv=>by
  cases hp with
  | cons ha ht=>
  rename_i v m;simp only[q7O] at h;cases hpl:place i with
  | none=>rw[hpl] at h;cases h
  | some q=>
   obtain⟨off,size⟩:=q;rw[hpl] at h;simp only at h;by_cases hc:a.cells.length=size/\off+a.cells.length<=cells.length/\jc a.cells=true
   ·rw[if_pos hc] at h;have hrl:=qav ha hc.2.2;have hlen:v.cells.size=a.cells.length:=by have:=hrl.length;simpa using this.symm
    have hvs:cells.length=vs.length:=hr.length;have hvc:vc.size=vs.length+tl.length:=by
     have:vc.toList.length=(vs++tl).length:=by rw[hv]
     simpa using this
    have hnot:¬(v.cells.size≠size\/off+v.cells.size>vc.size):=by omega
    have hf:=qjD v.cells vc off (by omega);obtain⟨vc',vs',h1,h2,h3⟩:=qbV tl (vc:=v.cells.zipIdx.foldl (fun cs (x:Value×Nat)=>cs.setIfInBounds (off+x.2) x.1) vc) (vs:=vs.take off++v.cells.toList++vs.drop (off+a.cells.length)) h ht (q8Y hr hrl off) (by rw[hf,hlen,hv,List.take_append_of_le_length (by omega),List.drop_append_of_le_length (by omega)];simp);refine⟨vc',vs',?_,h2,h3⟩;simp only[Instr.fill,hpl];rw[if_neg (by simpa using hnot)];exact h1
   ·rw[if_neg hc] at h;cases h
theorem qiz (hE:E.tok P){parts:List (Nat×AV)}{vparts:Array (Nat×Value)}(hp:RepP X parts vparts.toList)(h:(q6O E X.h t parts).run=some r):∃av u,r=(av,X.h,none)/\(Instr.build t vparts).run P X.w=.ok u X.w/\Rep X av u:=by
 unfold q6O at h;split at h
 ·rename_i o k n hb;obtain⟨b1,b2,b3,b4,_⟩:=qbj hb;split at h
  ·rename_i fs hd;split at h
   ·rename_i hok;obtain⟨z,z1,z2,_⟩:=q90 hE (t:=t) (by omega) X.w;obtain⟨fields,e1,e2⟩:=q41 hE hd;have hinfo:∀f∈fields.toList,(P.info? f.type).isSome=true:=by have hk:=yD hE (t:=t) (by rw[hd];rfl);rw[hk.1] at hok;unfold qlw at hok;obtain⟨_,i,dd,h1,_⟩:=hk;rw[h1] at hok;simpa only [e1,qxV] using hok
    cases hf:q7O (fun i=>(fs[i]?).map fun (f:Nat×TypeId×Nat)=>(f.1,f.2.2)) (((E.ty t).zero.take o).map vh) parts with
    | none=>rw[hf] at h;cases h
    | some cs=>
     rw[hf] at h;cases h;have hpl:(fun i:Nat=>(fs[i]?).map fun (f:Nat×TypeId×Nat)=>(f.1,f.2.2))=fun i:Nat=>(fields.map fun f=>(f.offset,P.cellsOf f.type))[i]?:=by funext i;rw[e2];simp only[qxZ,qzf,Array.getElem?_map,Option.map_map];rfl
     rw[hpl] at hf;obtain⟨vc,vs',f1,f2,f3⟩:=qbV (uE k (q31 n [.i 0])) (vc:=z.cells) (vs:=(E.ty t).zero.take o) hf hp (vE X _) (by rw[z2];exact qf1 hb);have:Rep X (.bagg cs k n (q31 n [.i 0])) (.agg (vs'++uE k (q31 n [.i 0])).toArray):=.bagg _ _ _ _ _ f2 (qgQ _ _);rw[<-f3] at this;refine⟨_,.agg vc,rfl,?_,by simpa using this⟩;have hm:=qoF (P:=P) (f:=fun f:Field=>(do pure (f.offset,<-sizeOf f.type):Sem (Nat×Nat))) (g:=fun f=>(f.offset,P.cellsOf f.type)) fields (fun f hf w=>by
      have:=hinfo f hf;cases hi:P.info? f.type with
      | none=>rw[hi] at this;cases this
      | some i=>simp[sizeOf,typeInfo,hi,Program.cellsOf]) X.w
     simp only[Instr.build,qxF,z1,qxH,run_underlying e1];rw[hm];simp only[qxH,f1];rfl
   ·cases h
  ·cases h
 ·exact qk6 hE hp h
theorem q8b {t e:TypeId}{ad:Addr}{vlo vhi:Option Value}{a b:Nat}(ht:P.underlying t=some (.array n e))(hp:0<P.cellsOf e)(hb:(Instr.sliceBounds false n n vlo vhi none).run P w=.ok (a,b,n) w) :(Instr.sliceAt t (.pointer (some ad)) vlo vhi none).run P w=.ok (.slice (some (if n=a then ad else ad.add (a*P.cellsOf e))) (b-a) (n-a)) w:=by simp[Instr.sliceAt,run_underlying ht,Instr.sureAddr,hb,za hp]
theorem qdn {t e:TypeId}{ad:Addr}{vlo vhi vmx:Option Value}{a b:Nat}(ht:P.underlying t=some (.array n e))(hp:0<P.cellsOf e)(hb:(Instr.sliceBounds false n n vlo vhi vmx).run P w=.ok (a,b,b) w) :(Instr.sliceAt t (.pointer (some ad)) vlo vhi vmx).run P w=.ok (.slice (some (if b=a then ad else ad.add (a*P.cellsOf e))) (b-a) (b-a)) w:=by simp[Instr.sliceAt,run_underlying ht,Instr.sureAddr,hb,za hp]
theorem Sh.beq_eq1 {s t:Sh}(h:Sh.beq s t=true):s=t:=by
 have:Sh.beqL [s] [t]=true:=by simp[Sh.beqL,h]
 have:=Sh.beqL_eq _ _ this;cases this;rfl
theorem qmU {M:Nat->Prop}{sh:List Sh}{i:Int}{off n:Nat}{s:Sh}{rows:R}(h:qns sh l i off n=some (s,rows)){a:Addr}(_:a.spot=none)(hr:Rows w M sh l a) :rows.length=n/\i=0/\q8A w M [s] rows (.slice (some ⟨a.block,a.off+i.toNat*sh.length+off,none⟩) n n):=by
 unfold qns at h;split at h
 ·rename_i s' row hs;split at h
  ·rename_i hc;obtain⟨⟨rfl,c1⟩,c2,c3⟩:=hc;cases h;have hl:(((row.drop off).take n).map fun u=>[u]).length=n:=by simp;omega
   refine⟨hl,rfl,.inr ⟨_,n,by rw[hl],fun _=>rfl,by rw[hl];exact qxC n,fun r j hj hrn=>?_⟩⟩;rw[hl] at hrn;have hj0:j=0:=by simpa using hj
   subst hj0;have hlt:off+r<sh.length:=by omega
   obtain⟨g1,v,g2,g3⟩:=hr 0 (off+r) hlt (by simp);refine⟨g1,v,?_,?_⟩
   ·rw[<-g2];show World.cell? w ⟨a.block,a.off+(0:Int).toNat*sh.length+off+r*1+0,none⟩=_;congr 2;simp;omega
   ·have e1:sh[off+r]=s:=by
     have hm:sh[off+r]∈(sh.drop off).take n:=by rw[List.mem_iff_getElem];refine⟨r,by simp;omega,by simp⟩
     exact(Sh.beq_eq1 (qxV.1 c2 _ hm)).symm
    have e2:wv [row] ((0:Nat):Int) (off+r)=wv (((row.drop off).take n).map fun u=>[u]) (r:Int) 0:=by
     unfold wv;have h1:(((row.drop off).take n).map fun u=>[u]).getD ((r:Nat):Int).toNat []=[row.getD (off+r) (.i 0)]:=by rw[qy1,qxE,qxZ,qyj,if_pos hrn,qyl,qxE,qxO (show off+r<row.length by omega)];rfl
     rw[h1];rfl
    rw[e1] at g3;rw[<-e2];exact g3
  ·cases h
 ·cases h
theorem qgP {lo:Option AV}{vlo:Option Value}(hlo:RepO X lo vlo){k k':IntKind}{a b:Int}(h1:q8j lo 0=some a) (hb:b<=n) (ha0:0<=a) (ha:a<=b) (w:World) :(Instr.sliceBounds false n n vlo (some (.int k b)) (some (.int k' b))).run P w=.ok (a.toNat,b.toNat,b.toNat) w:=by
 have hb0:0<=b:=by omega
 have hba:a<=(b.toNat:Nat):=by omega
 have hbb:b<=(b.toNat:Nat):=by omega
 rcases qdy hlo h1 with⟨rfl,rfl⟩|⟨k,rfl⟩
 ·simp[Instr.sliceBounds,qT hb0 hb,qT hb0 hbb]
 ·simp[Instr.sliceBounds,qT hb0 hb,qT hb0 hbb,qT ha0 hba]
theorem qnk (hs:HSim B X){t e:TypeId}(hta:P.underlying t=some (.array n e))(hce:P.cellsOf e=1){ad:Addr}{s:Sh}{rows:R}(hl:rows.length=n)(himm:q8A X.w X.M [s] rows (.slice (some ad) n n)) {lo hi mx:Option AV} {vlo vhi vmx:Option Value} (hlo:RepO X lo vlo) (hhi:RepO X hi vhi) (hmx:RepO X mx vmx) {r:Res}(h:(qms X.h n s rows lo hi mx).run=some r):qz P B X (do pure (.value (<-Instr.sliceAt t (.pointer (some ad)) vlo vhi vmx))) r:=by
 have hrl:qh rows=(n:Int):=by unfold qh;rw[hl]
 unfold qms at h;cases mx with
 | none=>
  cases hmx;simp only at h;cases h1:q8j lo 0 with
  | none=>rw[h1] at h;cases h
  | some x=>
   cases h2:q8j hi n with
   | none=>rw[h1,h2] at h;cases h
   | some y=>
    rw[h1,h2] at h;obtain⟨g1,g2⟩:=wZ h;obtain⟨g3,g4⟩:=wZ g2;cases g4;obtain⟨q1,q2⟩:=yI g1;obtain⟨q3,q4⟩:=yI g3;have hrun:=q8b (P:=P) (w:=X.w) (ad:=ad) hta (by omega) (uf hlo hhi h1 h2 rfl q1 (by omega) q3 q4 _);refine qz.ofV hs hrun ?_;obtain⟨_,_,w3⟩:=qi9 himm q3 q4 (by rw[hrl];exact q2);refine .imm _ _ _ ?_;rw[hce];have e0:(if n=x.toNat then some ad else (some ad).map (·.add (x.toNat*[s].length)))=some (if n=x.toNat then ad else ad.add (x.toNat*1)):=by split<;>rfl
    rw[e0] at w3;exact w3
 | some m=>
  simp only at h;cases h1:q8j lo 0 with
  | none=>rw[h1] at h;cases h
  | some x=>
   cases hi with
   | none=>rw[h1] at h;cases h
   | some y=>
   rw[h1] at h;simp only[qy3] at h;cases h2:asI y with
   | none=>rw[h2] at h;cases h
   | some p=>
    obtain⟨k1,c⟩:=p;cases h3:asI m with
    | none=>rw[h2,h3] at h;cases h
    | some p'=>
     obtain⟨k2,d⟩:=p';rw[h2,h3] at h;obtain⟨g1,g2⟩:=wZ h;obtain⟨g3,g4⟩:=wZ g2;obtain⟨g5,g6⟩:=wZ g4;cases g6;obtain⟨q1,q2⟩:=yI g1;obtain⟨q3,q4⟩:=yI g3;have hcd:c=d:=of_decide_eq_true g5;subst hcd;cases hhi with
     | some hy=>
      cases hmx with
      | some hm=>
       obtain⟨k3,rfl⟩:=qkf hy h2;obtain⟨k4,rfl⟩:=qkf hm h3;have hrun:=qdn (P:=P) (w:=X.w) (ad:=ad) hta (by omega) (qgP (k:=k3) (k':=k4) hlo h1 q2 q3 q4 _);refine qz.ofV hs hrun ?_;obtain⟨_,w3⟩:=qjn himm q3 q4 (by rw[hrl];exact q2);rw[hce];have e0:(if c.toNat=x.toNat then some ad else (some ad).map (·.add (x.toNat*[s].length)))=some (if c.toNat=x.toNat then ad else ad.add (x.toNat*1)):=by split<;>rfl
       rw[e0] at w3;exact .full _ _ _ _ w3
theorem qka (hE:E.tok P)(hs:HSim B X){a:AV}{lo hi mx:Option AV}{vlo vhi vmx:Option Value}(hv:Rep X a v)(hlo:RepO X lo vlo) (hhi:RepO X hi vhi) (hmx:RepO X mx vmx) {r:Res} (h:(jE E X.h t a lo hi mx).run=some r) :qz P B X (do pure (.value (<-Instr.sliceAt t v vlo vhi vmx))) r:=by
 unfold jE at h;split at h
 ·rename_i n e es hd;obtain⟨hta,hce⟩:=q3B hE hd;split at h
  ·rename_i sh l i off;split at h
   ·rename_i hes;split at h
    ·rename_i s rows har;cases hv with
     | eptr _ _ _ _ a hsp h0 h1 hr=>
      obtain⟨hl,hi0,himm⟩:=qmU har hsp hr;exact qnk hs hta (by omega) hl himm hlo hhi hmx h
    ·cases h
   ·cases h
  ·rename_i b off;split at h
   ·cases hmx
    ·split at h
     ·rename_i hes;unfold qtS at h;cases h1:q8j lo 0 with
      | none=>rw[h1] at h;cases h
      | some x=>
       cases h2:q8j hi n with
       | none=>rw[h1,h2] at h;cases h
       | some y=>
        rw[h1,h2] at h;obtain⟨g1,g2⟩:=wZ h;obtain⟨g3,g4⟩:=wZ g2;cases g4;obtain⟨q1,q2⟩:=yI g1;obtain⟨q3,q4⟩:=yI g3;cases hv with
        | ptr _ _ n0 hb hσ=>
         have hrun:=q8b (P:=P) (w:=X.w) (ad:=⟨n0,off,none⟩) hta (by omega) (uf hlo hhi h1 h2 rfl q1 (by omega) q3 q4 _);refine qz.ofV hs hrun ?_;have he1:P.cellsOf e=1:=by omega
         have hk:(if n=x.toNat then (⟨n0,off,none⟩:Addr) else Addr.add ⟨n0,off,none⟩ (x.toNat*P.cellsOf e))=⟨n0,if n=x.toNat then off else off+x.toNat,none⟩:=by
          split
          ·rfl
          ·rw[qy7,he1,Nat.mul_one]
         rw[hk];have hyx:qqv y x=y-x:=rfl;have hn:y.toNat-x.toNat=(qqv y x).toNat:=by rw[hyx];omega
         rw[hn];refine .asub b off n x (qqv y x) n0 _ _ hb hσ q3 (by rw[hyx];omega) (by rw[hyx];omega) ?_;split
         ·right;rw[hyx];omega
         ·exact .inl rfl
     ·cases h
   ·cases h
  ·cases h
 ·exact qmE hE hs hv hlo hhi hmx h
theorem qsi {l l':R}{i i' c:Int}(h0:0<=i)(h0':0<=i')(hc:0<=c)(h1:i+c<=l.length)(h2:i'+c<=l'.length):(qdI l i l' i' c).length=l.length:=by simp[qdI];omega
theorem qlY (hE:E.tok P)(hs:HSim B X){ts:List TypeId}{azz:List AV}(hv:RepL X azz vs)(h:(qki E X.h ts azz).run=some r)(ty:TypeId) :qz P B X (do pure (.value (<-Builtin.copy_ ts.toArray ty vs.toArray))) r:=by
 unfold qki at h;split at h
 ·rename_i t t' b o n i m b' o' n' i' m';split at h
  ·rename_i e es hd;obtain⟨ht,hce⟩:=uq hE hd;split at h
   ·rename_i cs k N l hb;split at h
    ·rename_i cs' k' N' l' hb';split at h
     ·rename_i hc;obtain⟨hes,rfl,rfl,rfl,rfl,rfl⟩:=hc;cases h;cases hv with
      | cons hv1 hv=>cases hv with
       | cons hv2 hv=>cases hv with
        | nil=>
         cases hv1 with
         | asub _ _ _ _ _ n0 k0 c0 hbl hσ i0 m0 im hk=>
          cases hv2 with
          | asub _ _ _ _ _ n1 k1 c1 hbl' hσ' i0' m0' im' hk'=>
           obtain⟨q,c,T,us,e1,e2,e3,e4,e5⟩:=hs.blk b _ hb;rw[hσ] at e1;cases e1;obtain⟨q',c',T',us',f1,f2,f3,f4,f5⟩:=hs.blk b' _ hb';rw[hσ'] at f1;cases f1;have hlen:=e3.length;have hlen':=f3.length;have hcl:c.size=us.length+n:=by
            have:c.toList.length=(us++uE k l).length:=by rw[e4]
            simpa[jy,e5] using this
           obtain⟨d,hd0,hd1⟩:∃d:Int,d=qd7 m' m/\0<=d/\d<=m/\d<=m':=by refine⟨_,rfl,?_⟩;unfold qd7;split<;>omega
           rw[<-hd0];have hdn:d.toNat=Nat.min m'.toNat m.toNat:=by rw[hd0];unfold qd7;show _=min m'.toNat m.toNat;split<;>omega
           let ws:List Value:=(List.range d.toNat).map fun j:Nat=>Value.int k (cI l' ((i'.toNat+j:Nat):Int) 0)
           have hwl:ws.length=d.toNat:=by simp[ws]
           have hcell:∀j v,ws[j]?=some v->X.w.cell? (Addr.add ⟨n1,k1,none⟩ j)=some v:=by
            intro j v hj;have hjd:j<d.toNat:=by have:=qj hj;omega
            simp only[ws,qxZ,qz8 hjd,qy0,qxB] at hj;rw[qy7,zu f2,<-hj];rcases hk' with hk'|hk'
            ·rw[hk',show cs'.length+i'.toNat+j=us'.length+(i'.toNat+j) by omega];exact qke f4 (by omega)
            ·omega
           have hone:∀v∈ws,v.oneCell'=true:=by intro v hv;obtain⟨j,_,hj⟩:=qyy.1 hv;rw[<-hj];rfl
           have hkd:k0=cs.length+i.toNat\/ws=[]:=by
            rcases hk with hk|hk
            ·exact .inl hk
            ·exact .inr (List.eq_nil_of_length_eq_zero (by omega))
           have hinfo:(P.info? e).map (·.size)=some 1:=by obtain⟨ii,w1,w2⟩:=qnA (P:=P) (e:=e) (by omega);rw[w1,qy0,w2,<-hce,hes]
           have hmin:ws.length=Nat.min m'.toNat m.toNat:=by omega
           have hown:X.own b n0:=⟨hσ,_,hb,rfl⟩;have hkk:q9D (.big cs k n l) (.big cs k n (qdI l i l' i' d)):=trivial;have hrl:(qdI l i l' i' d).length=l.length:=qsi i0 i0' hd1.1 (by omega) (by omega);have hint:uE k (qdI l i l' i' d)=(uE k l).take i.toNat++ws++(uE k l).drop (i.toNat+d.toNat):=by
            apply qyc;intro j;have hsp:=q8a (c:=uE k l) (vs:=ws) (o:=i.toNat) (k:=j) (by rw[hwl,jy];omega);rw[hwl] at hsp;rw[hsp];by_cases hj:j<l.length
            ·rw[qa9 (by omega)];have hli:(l.take i.toNat).length=i.toNat:=by simp;omega
             have hld:((l'.drop i'.toNat).take d.toNat).length=d.toNat:=by simp;omega
             have hcu:∀(f:R) (k:Nat),cI f (k:Int) 0=((f[k]?.getD []).getD 0 (.i 0)).toI:=fun f k=>by unfold cI wv;rw[qy1,qxE (l:=f)]
             split
             ·rename_i hin;simp only[ws,qxZ,qz8 (show j-i.toNat<d.toNat by omega),qy0,qxB];congr 1;rw[hcu,hcu];unfold qdI;rw[qyb,qxU (by omega),hli,qxK (by omega),qyj,if_pos (by omega),qyl]
             ·rename_i hout;rw[qa9 hj];congr 2;rw[hcu,hcu];unfold qdI;rcases qxG j i.toNat with hlt|hge
              ·rw[qyb,qxK (by omega),qyj,if_pos hlt]
              ·rw[qxU (by simp only[qyL];omega),qyl];simp only[qyL,hli,hld];rw[show i.toNat+d.toNat+(j-(i.toNat+d.toNat))=j by omega]
            ·rw[qxR (by rw[jy];omega)];rw[if_neg (by omega),qxR (by rw[jy];omega)]
           have hrow:c.toList.take k0++ws++c.toList.drop (k0+ws.length)=us++uE k (qdI l i l' i' d):=by
            rw[hint];rcases hkd with hkd|hkd
            ·rw[e4,hkd,hwl,hlen,List.take_append,List.drop_append,List.take_of_length_le (by omega),qzj (show us.length<=us.length+i.toNat+d.toNat by omega)];rw[show us.length+i.toNat-us.length=i.toNat by omega,show us.length+i.toNat+d.toNat-us.length=i.toNat+d.toNat by omega];simp
            ·have hd00:d.toNat=0:=by rw[<-hwl,hkd];rfl
             rw[hkd,hd00];simp[e4]
           have hfit:k0+ws.length<=c.size\/ws=[]:=by
            rcases hkd with hkd|hkd
            ·left;omega
            ·exact .inr hkd
           rcases hfit with hfit|hfit
           ·have hrun:=run_copy_row (P:=P) X.w t t' ty e n0 k0 m.toNat c0 ⟨n1,k1,none⟩ m'.toNat c1 c T ws ht hinfo e2 hmin hcell hfit hone;have hup:=UpdW.setRow (X:=X) (c':=(c.toList.take k0++ws++c.toList.drop (k0+ws.length)).toArray) e2 (by simp;omega);have hx:=Ctx.upd_ext hs hb hown hup hkk;refine⟨.value (goInt ws.length),goInt ws.length,X.upd b (.big cs k n (qdI l i l' i' d)) (X.w.setRow n0 _),?_,.inl rfl,?_,hs.upd hb hown hup hkk ?_,rfl,hx⟩
            ·rw[qxF];have:(#[Value.slice (some ⟨n0,k0,none⟩) m.toNat c0,Value.slice (some ⟨n1,k1,none⟩) m'.toNat c1]:Array Value)=List.toArray [.slice (some ⟨n0,k0,none⟩) m.toNat c0,.slice (some ⟨n1,k1,none⟩) m'.toNat c1]:=rfl;rw[<-this];have h2:(#[t,t']:Array TypeId)=List.toArray [t,t']:=rfl;rw[<-h2,hrun];rfl
            ·have:goInt ws.length=.int .i64 d:=by show Value.int .i64 (ws.length:Int)=_;rw[hwl,qyX hd1.1]
             rw[this];exact .int _ _
            ·exact⟨n0,_,T,us,hσ,hup.new,e3.ext hx,by rw[<-hrow],by rw[hrl];exact e5⟩
           ·
            have hd00:d.toNat=0:=by rw[<-hwl,hfit];rfl
            have hrun:(Builtin.copy_ (List.toArray [t,t']) ty (List.toArray [.slice (some ⟨n0,k0,none⟩) m.toNat c0,.slice (some ⟨n1,k1,none⟩) m'.toNat c1])).run P X.w=.ok (goInt 0) X.w:=by
             have hl:=run_loadCells_list (P:=P) X.w ⟨n1,k1,none⟩ ws hcell;cases hq:P.info? e with
             | none=>rw[hq] at hinfo;cases hinfo
             | some ii=>
              have hsize:ii.size=1:=by rw[hq] at hinfo;simpa using hinfo
              have hmz:Nat.min m'.toNat m.toNat=0:=by omega
              rw[hfit] at hl;simp only[qyq] at hl;simp[Builtin.copy_,run_underlying ht,Builtin.lenOf,Builtin.firstCells,sizeOf,typeInfo,hq,hmz,hl,storeCells]
            have hw:X.w=X.w.setRow n0 c:=(setRow_self X.w n0 c T (0,0) e2).symm;have hup:UpdW X n0 c c T X.w:=⟨e2,e2,rfl,fun _ _=>rfl,rfl,rfl,rfl,rfl⟩;have hx:=Ctx.upd_ext hs hb hown hup hkk;refine⟨.value (goInt 0),goInt 0,X.upd b (.big cs k n (qdI l i l' i' d)) X.w,?_,.inl rfl,?_,hs.upd hb hown hup hkk ?_,rfl,hx⟩
            ·rw[qxF,hrun];rfl
            ·have:goInt 0=.int .i64 d:=by show Value.int .i64 (0:Int)=_;congr 1;omega
             rw[this];exact .int _ _
            ·refine⟨n0,c,T,us,hσ,e2,e3.ext hx,?_,by rw[hrl];exact e5⟩;rw[<-hrow,hfit];simp
     ·cases h
    ·cases h
   ·cases h
  ·cases h
 ·exact qod hE hs hv h ty
end Go.Eng

namespace Go.Eng
variable {B:Base}{E:Env}{P:Program}{X:Ctx}{a:Act}{r:Res}{st:St}
theorem Move.transl {X Y Z:Ctx}{f:Nat->Option Nat}(h:Ext X Y)(k:Move Y Z f):Move X Z f:=by refine Move.of (fun n hn=>k.M n (h.M n hn)) (fun a ha=>(k.w a (h.M _ ha)).trans (h.w a ha)) (fun b1 b2 hb1 hf=>?_) (k.y.trans h.y) (k.kept.trans h.kept);have k1:=h.b b1 b1 hb1 rfl;have k2:=k.b b1 b2 k1.lt hf;refine⟨k2.lt,k2.σ.trans k1.σ,fun sh m hv=>k1.vec sh m (k2.vec sh m hv),fun sh m hv n hn c T fr hc=>?_⟩;obtain⟨c1,T1,fr1,e1,e2⟩:=k1.size sh m (k2.vec sh m hv) n hn c T fr hc;obtain⟨c2,T2,fr2,e3,e4⟩:=k2.size sh m hv n (by rw[k1.σ];exact hn) c1 T1 fr1 e1;exact⟨c2,T2,fr2,e3,e4.trans e2⟩
theorem qz.frozen {X X1:Ctx}{h':List Blk}{m:Sem Next}(fz:Frozen B X X1 h')(h:qz P B X1 m r):qz P B X m r:=by
 obtain⟨nx,v,X',g1,g2,g3,g4,g5⟩:=h;refine⟨nx,v,X',by rw[<-fz.w];exact g1,g2,g3,g4,?_⟩;cases hn:r.2.2 with
 | none=>rw[hn] at g5;exact⟨g5.1,fz.ext.trans g5.2⟩
 | some b=>rw[hn] at g5;exact⟨g5.1,Move.transl fz.ext g5.2⟩
theorem qvK (hs:HSim B X){x:AV}{vx:Value}(h2:Rep X x vx){sh:List Sh}{m:R}(hm:wn X.h x=some (sh,m)) :∃X1,Frozen B X X1 (j6 X.h x)/\Src P X1 sh m vx:=by
 cases h2 with
 | imm sh' l v himm=>
  simp only[wn,qxB,qxX] at hm;obtain⟨rfl,rfl⟩:=hm;exact⟨X,⟨rfl,rfl,rfl,hs,Ext.refl X⟩,qj8 himm⟩
 | vec b p n c hb hv=>
  obtain⟨e0,hh⟩:=q8g hm;obtain⟨X1,fz⟩:=qaI hs b;have hfr:X1.h[b]?=some (.frz e0 sh m):=by rw[fz.h];exact qaO hh
  exact⟨X1,fz,qj8 (qbg fz.hs hfr ((Rep.vec b p n c hb hv).ext fz.ext))⟩
 | _=>simp[wn] at hm
theorem q8l (hs:HSim B X){t e ty:TypeId}{sh:List Sh}{s x:AV}{vs vx:Value}{i:TypeInfo}{z:Value}(ht:P.underlying t=some (.slice e))(hc2:0<P.cellsOf e)(hc1:sh.length=P.cellsOf e) {rm:Int} (he:ElemOk rm P e (P.cellsOf e) i z) (h1:Rep X s vs) (h2:Rep X x vx) {r:Res} (hh:(qed rm X.h e sh s x).run=some r) :qz P B X (do pure (.value (<-Builtin.append_ #[t,t] ty #[vs,vx]))) r:=by
 unfold qed at hh;cases hr:wn X.h x with
 | none=>rw[hr] at hh;cases hh
 | some q=>
  obtain⟨sh',m⟩:=q;rw[hr] at hh;simp only at hh;by_cases hbq:Sh.beqL sh sh'=true
  ·rw[if_pos hbq] at hh;obtain rfl:=Sh.beqL_eq _ _ hbq;obtain⟨X1,fz,hsrc⟩:=qvK (P:=P) hs h2 hr;have hlen:X1.h.length=X.h.length:=by rw[fz.h];cases x<;>simp[j6,q74]
   cases h1 with
   | nils=>
    simp only at hh;obtain⟨g1,g2⟩:=wZ hh;cases g2;have:=qaM (ty:=ty) fz.hs ht hc2 hc1 he hsrc (of_decide_eq_true g1);rw[hlen,fz.h] at this;exact this.frozen fz
   | vec b p n c hb hv=>
    simp only at hh;cases hbk:X.h[b]? with
    | none=>rw[hbk] at hh;cases hh
    | some k=>
     rw[hbk] at hh;cases k<;>try (cases hh)
     rename_i e' sh'' l;simp only at hh;by_cases hq:Sh.beqL sh sh''=true/\e=e'
     ·rw[if_pos hq] at hh;obtain rfl:=Sh.beqL_eq _ _ hq.1;obtain rfl:=hq.2;have hrep:Rep X (.vec b) (.slice p n c):=.vec b p n c hb hv;by_cases hxv:∃b',x=AV.vec b'
      ·obtain⟨b',rfl⟩:=hxv;simp only[qr1] at hh;by_cases hbb:b=b'
       ·rw[if_pos hbb] at hh;cases hh
       rw[if_neg hbb] at hh;obtain⟨g1,g2⟩:=wZ hh;cases g2;have hb1:X1.h[b]?=some (.vec e sh l):=by
        rw[fz.h];simp only[j6,zm];split
        ·rw[qxD (qxS hbb)];exact hbk
        ·exact hbk
       have:=qai (ty:=ty) fz.hs ht hc2 hc1 he hb1 (hrep.ext fz.ext) hsrc (of_decide_eq_true g1);rw[fz.h] at this;exact this.frozen fz
      ·have hh':(Tree.br (ile (qh l+qh m) rm) (.leaf ((.vec b,X.h.set b (.vec e sh (q1i l m)),some b):Res)) .fail).run=some r:=by cases x<;>first|exact hh|exact absurd ⟨_,rfl⟩ hxv
       obtain⟨g1,g2⟩:=wZ hh';cases g2;have hx1:X1.h=X.h:=by rw[fz.h];cases x<;>first|rfl|exact absurd ⟨_,rfl⟩ hxv
       have:=qai (ty:=ty) fz.hs ht hc2 hc1 he (by rw[hx1];exact hbk) (hrep.ext fz.ext) hsrc (of_decide_eq_true g1);rw[hx1] at this;exact this.frozen fz
     ·rw[if_neg hq] at hh;cases hh
   | full sh'' l p n himm=>
    simp only at hh;by_cases hq:Sh.beqL sh sh''=true
    ·rw[if_pos hq] at hh;obtain rfl:=Sh.beqL_eq _ _ hq;have hrep:=(Rep.full (X:=X) sh l p n himm).ext fz.ext;cases hrep with
     | full _ _ _ _ himm'=>
      cases hlt:ilt 0 (qh m) with
      | true=>
       rw[hlt] at hh;obtain⟨g3,g4⟩:=wZ (show (Tree.br _ _ _).run=some r from hh);cases g4;have:=qg8 (ty:=ty) fz.hs ht hc2 hc1 he himm' hsrc (of_decide_eq_true hlt) (of_decide_eq_true g3);rw[hlen,fz.h] at this;exact this.frozen fz
      | false=>
       rw[hlt] at hh;obtain⟨g3,g4⟩:=wZ (show (Tree.br _ _ _).run=some r from hh);cases g4;have hm0:m=[]:=by have:¬(0:Int)<qh m:=of_decide_eq_false hlt;unfold qh at this;exact List.eq_nil_of_length_eq_zero (by omega)
       subst hm0;have hn0:n=0:=by
        have hl0:qh l<=0:=of_decide_eq_true g3;unfold qh at hl0;rcases himm' with⟨q1,_⟩|⟨_,_,q1,_⟩
        ·cases q1;rfl
        ·cases q1;omega
       subst hn0;have:=qgd (ty:=ty) fz.hs ht hc2 hsrc (p:=p);rw[hlen,fz.h] at this;exact this.frozen fz
    ·rw[if_neg hq] at hh;cases hh
   | _=>simp only at hh;cases hh
  ·rw[if_neg hbq] at hh;cases hh
theorem qkV (hE:E.tok P)(hs:HSim B X){t ty:TypeId}{s x:AV}{vs vx:Value}(h1:Rep X s vs)(h2:Rep X x vx)(h:(qk7 E X.h t s x).run=some r):qz P B X (do pure (.value (<-Builtin.append_ #[t,t] ty #[vs,vx]))) r:=by
 unfold qk7 at h;cases hd:(E.ty t).d<;>rw[hd] at h<;>try (cases h)
 rename_i e es;obtain⟨ht,rfl⟩:=uq hE hd;simp only at h;cases hsh:E.shape 16 e with
 | none=>rw[hsh] at h;cases h
 | some sh=>
  rw[hsh] at h;simp only at h;by_cases hc:sh.length=P.cellsOf e/\0<P.cellsOf e/\(E.ty e).zero.length=P.cellsOf e
  ·rw[if_pos hc] at h;obtain⟨hc1,hc2,hc4⟩:=hc;obtain⟨i,z,he⟩:=qqV hE hc2 hc4;cases x with
   | nils=>
    simp only at h;cases h1<;>simp only[okv] at h<;>cases h;cases h2;exact qz.ofV hs (jL ht hc2 (qxC 0)) .nils
   | _=>exact q8l hs ht hc2 hc1 he h1 h2 h
  ·rw[if_neg hc] at h;cases h
inductive RepLL (X:Ctx):List (List AV)->List (List Value)->Prop
 | nil:RepLL X [] []
 | cons {a:List AV} {v:List Value} {l:List (List AV)} {m:List (List Value)} (h:RepL X a v) (t:RepLL X l m):RepLL X (a::l) (v::m)
theorem RepLL.ren {X X':Ctx}{f:Nat->Option Nat}(hm:Move0 X X' f):∀{l:List (List AV)} {m:List (List Value)},RepLL X l m->RepLL X' (l.map (AV.renL f)) m
 | _,_,.nil=>.nil
 | _,_,.cons h t=>.cons (h.ren hm) (t.ren hm)
theorem RepLL.ext {X X':Ctx}(hm:Ext X X'):∀{l:List (List AV)} {m:List (List Value)},RepLL X l m->RepLL X' l m
 | _,_,.nil=>.nil
 | _,_,.cons h t=>.cons (h.ext hm) (t.ext hm)
theorem RepLL.ext0 {X X':Ctx}(hm:Move0 X X' some):∀{l:List (List AV)} {m:List (List Value)},RepLL X l m->RepLL X' l m
 | _,_,.nil=>.nil
 | _,_,.cons h t=>.cons (h.ext0 hm) (t.ext0 hm)
def qcg(D:Nat):Deferred:={ target:=.collected D,args:=#[] }
def qnM(kept pin:List (Nat×Obj))(ds:List Deferred):Prop:=∃Ds:List Nat,ds=Ds.map qcg/\Ds.Nodup/\∀D,D∈Ds->(D,.deferred (some []))∈kept/\∀p,p∈pin->p.1≠D
theorem qnM.nil {kept pin:List (Nat×Obj)}:qnM kept pin []:=⟨[],rfl,.nil,fun _ h=>by cases h⟩
def AV.span:AV->Nat
 | .eptr sh l _ _=>sh.length*l.length
 | _=>0
def qtH(X:Ctx)(x:Nat×AV):Prop:=Rep X x.2 (.pointer (some ⟨x.1,0,none⟩))/\X.M x.1/\X.w.cell? ⟨x.1,x.2.span,none⟩=none
theorem qtH.move {X X':Ctx}{x:Nat×AV}(h:qtH X x)(hM:∀n,X.M n->X'.M n)(hw:∀a:Addr,X.M a.block->X'.w.cell? a=X.w.cell? a)(hr:Rep X' x.2 (.pointer (some ⟨x.1,0,none⟩))):qtH X' x:=⟨hr,hM _ h.2.1,by rw[hw _ h.2.1];exact h.2.2⟩
def q5o(gl:List (Nat×AV))(X:Ctx):Prop:=∀x,x∈gl->(∃sh l i off,x.2=.eptr sh l i off)/\qtH X x
structure Sim (E:Env) (B:Base) (X:Ctx) (st:St) (a:Act):Prop where
 hs:HSim B X
 h:X.h=st.h
 t:RepL X st.t a.tmps.toList
 fs:RepLL X st.fs B.fs
 glob:∀x,x∈E.glob->(∃sh l i off,x.2=.eptr sh l i off)/\qtH X x
 df:qnM X.kept (B.pin st.pend) a.defers
 ni:B.imps.length<=E.nimp
 y:X.y=B.y
 pin:∀p,p∈B.pin st.pend->p∈X.kept
theorem q4d (hs:Sim E B X st a)(x:Operand):Rep X (E.opd st.t x) (a.eval x):=by
 cases x with
 | tmp i=>
  have:=hs.t.getD i;simpa[Env.opd,Act.eval,qyz,qxE] using this
 | const v=>exact qvC X v
 | global g=>
  simp only[Env.opd,Act.eval];cases hg:E.glob.find? fun x=>x.1==g with
  | none=>exact .undef _
  | some x=>
   have h1:=qyv hg;have h2:x.1=g:=by simpa using h1
   have:=(hs.glob x (qyi hg)).2.1;rw[h2] at this;exact this
 | func f=>exact .fn f [] [] [] [] .nil .nil
theorem q12{E:Env}{B:Base}{X:Ctx}{st:St}{a:Act}(hs:Sim E B X st a):∀l:List Operand,RepL X (l.map (E.opd st.t)) (l.map a.eval)
 | []=>.nil
 | x::l=>.cons (q4d hs x) (q12 hs l)
theorem qgT{E:Env}{B:Base}{X:Ctx}{st:St}{a:Act}(hs:Sim E B X st a):∀l:List (Nat×Operand),RepP X (l.map fun p=>(p.1,E.opd st.t p.2)) (l.map fun p=>(p.1,a.eval p.2))
 | []=>.nil
 | (_,x)::l=>.cons (q4d hs x) (qgT hs l)
theorem ql5 (hs:Sim E B X st a)(x:Option Operand):RepO X (x.map (E.opd st.t)) (x.map a.eval):=by
 cases x with
 | none=>exact .none
 | some x=>exact .some (q4d hs x)
theorem qjm (hs:HSim B X){f:Int->Int->Int}{g:Value->Value->Sem Value}(hg:∀k k' x y w,(g (.int k x) (.int k' y)).run P w=.ok (.int k (f x y)) w){azz:List AV} {vs:List Value} (hv:RepL X azz vs) {r:Res} (h:(qkk f X.h azz).run=some r) {m:Sem Value} (hm:∀x rest,vs=x::rest->m=rest.foldlM g x):qz P B X (do pure (.value (<-m))) r:=by
 cases hv with
 | nil=>cases h
 | cons hx ht=>
  rename_i a v azz vs;simp only[qkk] at h;cases h1:asI a with
  | none=>rw[h1] at h;cases h
  | some p=>
   obtain⟨k,n⟩:=p;rw[h1] at h;simp only at h;cases h2:qnJ f k n azz with
   | none=>rw[h2] at h;cases h
   | some q=>
    rw[h2] at h;simp only at h;obtain rfl:=q0O hx h1;have hr:=qgB (P:=P) hg k azz n q vs h2 ht;rw[hm _ _ rfl];split at h<;>cases h
    ·exact qz.ofV hs hr (.ilit _ _)
    ·exact qz.ofV hs hr (.int _ _)
theorem qiB (hE:E.tok P)(hs:HSim B X){b:Builtin}{ts:Array TypeId}{azz:List AV}{vs:List Value}(hv:RepL X azz vs)(h:(q3T E X.h b ts.toList azz).run=some r) (ty:TypeId) (cs:Array Bool):qz P B X (builtin b ts ty cs vs.toArray) r:=by
 obtain⟨ts⟩:=ts;cases b with
 | append=>
  simp only[q3T] at h;unfold qlk at h;split at h
  ·rename_i t t' s x;by_cases htt:t=t'
   ·subst htt;rw[if_pos rfl] at h;cases hv with
    | cons h1 hv=>cases hv with
     | cons h2 hv=>cases hv;exact qkV hE hs h1 h2 h
   ·rw[if_neg htt] at h;cases h
  ·cases h
 | len=>
  simp only[q3T] at h;unfold qh7 at h;split at h
  ·rename_i t rest x;cases hv with
   | cons h1 hv=>
    cases hv;obtain⟨av,u,rfl,g1,g2⟩:=qmO (P:=P) (t:=t) (ty:=ty) (ts:=(t::rest:List TypeId).toArray) hE hs (by simp) h1 h;exact qz.ofV hs g1 g2
  ·cases h
 | max=>
  simp only[q3T] at h;exact qjm hs (f:=qlt) (g:=Builtin.max2) (fun _ _ _ _ _=>qtz) hv h (m:=Builtin.max_ ts.toArray ty vs.toArray) (fun x rest e=>by subst e;rfl)
 | min=>
  simp only[q3T] at h;exact qjm hs (f:=qd7) (g:=Builtin.min2) (fun _ _ _ _ _=>qtp) hv h (m:=Builtin.min_ ts.toArray ty vs.toArray) (fun x rest e=>by subst e;rfl)
 | copy=>
  simp only[q3T] at h;exact qlY hE hs hv h ty
 | _=>simp only[q3T] at h;cases h
theorem qdR (hE:E.tok P)(hs:Sim E B X st a){o:Oper}(h:(qgl E st.h (E.opd st.t) o.op).run=some r):qz P B X (execOp a.eval o) r:=by
 have ro:=q4d hs;rw[<-hs.h] at h;unfold qgl at h;unfold execOp;cases hop:o.op with
 | move x=>rw[hop] at h;cases h;exact qz.val hs.hs rfl (ro x)
 | assign x=>rw[hop] at h;cases h;exact qz.val hs.hs rfl (ro x)
 | pick c x y=>
  rw[hop] at h;simp only at h ⊢;have hc:=ro c;generalize E.opd st.t c=ac at *;generalize a.eval c=vc at *;cases hc<;>simp only at h<;>try (cases h)
  ·rename_i b;refine qz.val hs.hs (v:=if b then a.eval x else a.eval y) rfl ?_;cases b<;>exact ro _
  ·rename_i b;cases b
   ·cases h;exact qz.val hs.hs (v:=a.eval y) rfl (ro y)
   ·cases h;exact qz.val hs.hs (v:=a.eval x) rfl (ro x)
 | box t x=>
  rw[hop] at h;simp only at h ⊢;obtain⟨z,hz,rfl⟩:=qjG h;exact qrX hs.hs (ro x) hz
 | alloc t=>
  rw[hop] at h;simp only at h ⊢;obtain⟨z,hz,rfl⟩:=qjG h;exact qoc hE hs.hs hz
 | load t x=>
  rw[hop] at h;obtain⟨av,u,rfl,g1,g2⟩:=qk8 hE hs.hs (ro x) h;exact qz.ofV hs.hs g1 g2
 | store t x y=>rw[hop] at h;exact qjR hE hs.hs (ro x) (ro y) h
 | build t parts=>
  rw[hop] at h;obtain⟨av,u,rfl,g1,g2⟩:=qiz (vparts:=parts.map fun p=>(p.1,a.eval p.2)) hE (by simpa using qgT hs parts.toList) h;exact qz.ofV hs.hs g1 g2
 | buildSlice t len parts=>
  rw[hop] at h;have h:(q3U E X.h t len (parts.toList.map fun p=>(p.1,E.opd st.t p.2))).run=some r:=h;have hp:RepP X (parts.toList.map fun p=>(p.1,E.opd st.t p.2)) (parts.map fun p=>(p.1,a.eval p.2)).toList:=by rw[Array.toList_map];exact qgT hs parts.toList
  have hg:=qeM hE hs.hs hp h;exact hg
 | nilCheck x=>
  rw[hop] at h;simp only at h ⊢;have hx:=ro x;generalize E.opd st.t x=ax at *;generalize a.eval x=vx at *;cases hx<;>simp only at h<;>try (cases h)
  ·rename_i b off n hb hσ;split at h
   ·cases h;exact qz.val hs.hs rfl (.ptr b off n hb hσ)
   ·cases h;exact qz.val hs.hs rfl (.ptr b off n hb hσ)
   ·cases h
  ·rename_i sh l i off ad h1 h2 h3 h4;exact qz.val hs.hs rfl (.eptr sh l i off ad h1 h2 h3 h4)
  ·rename_i sh l i off ad h1 h2 h3 h4;exact qz.val hs.hs rfl (.eptr sh l i off ad h1 h2 h3 h4)
 | binOp op t x y ty=>
  rw[hop] at h;simp only at h ⊢;have hx:=ro x;have hy:=ro y;generalize E.opd st.t x=ax at *;generalize E.opd st.t y=ay at *;unfold qcm at h;split at h
  ·obtain⟨av,u,rfl,g1,g2⟩:=ql1 (x:=x) (y:=y) hE hx hy h;exact qz.ofV hs.hs g1 g2
  ·obtain⟨av,u,rfl,g1,g2⟩:=qo2 (x:=x) (y:=y) hE hs.hs hx hy h;exact qz.ofV hs.hs g1 g2
 | unOp op t x=>
  rw[hop] at h;obtain⟨av,u,rfl,g1,g2⟩:=qpA (P:=P) (ro x) h;exact qz.ofV hs.hs g1 g2
 | convert s d x=>
  rw[hop] at h;obtain⟨av,u,rfl,g1,g2⟩:=qjQ hE hs.hs (ro x) h;exact qz.ofV hs.hs g1 g2
 | makeSlice t n m=>rw[hop] at h;exact qnl hE hs.hs (ro n) (ro m) h
 | makeFunc fn first caps=>
  rw[hop] at h;simp only at h ⊢;cases fn<;>simp only at h<;>try (cases h)
  rename_i f;have:Rep X (.fn f (first.toList.map (E.opd st.t)) (caps.toList.map (E.opd st.t))) (.func (.func f) (first.toList.map a.eval).toArray (caps.toList.map a.eval).toArray):=
   .fn f _ _ _ _ (q12 hs _) (q12 hs _)
  refine qz.val hs.hs (v:=.func (.func f) (first.map a.eval) (caps.map a.eval)) rfl ?_;have e1:(first.toList.map a.eval).toArray=first.map a.eval:=by apply qyo;simp
  have e2:(caps.toList.map a.eval).toArray=caps.map a.eval:=by apply qyo;simp
  rwa [e1,e2] at this
 | slice t x lo hi mx=>
  rw[hop] at h;exact qka hE hs.hs (ro x) (ql5 hs lo) (ql5 hs hi) (ql5 hs mx) h
 | fieldAddr s x f=>
  rw[hop] at h;obtain⟨av,u,rfl,g1,g2⟩:=qez hE (ro x) h;exact qz.ofV hs.hs g1 g2
 | field s x f=>
  rw[hop] at h;obtain⟨av,u,rfl,g1,g2⟩:=qkj hE (ro x) h;exact qz.ofV hs.hs g1 g2
 | indexAddr t x i=>
  rw[hop] at h;obtain⟨av,u,rfl,g1,g2⟩:=qej hE hs.hs (ro x) (ro i) h;exact qz.ofV hs.hs g1 g2
 | index t x i=>
  rw[hop] at h;obtain⟨av,u,rfl,g1,g2⟩:=qk4 hE (ro x) (ro i) h;exact qz.ofV hs.hs g1 g2
 | extract x i=>
  rw[hop] at h;simp only at h ⊢;have hx:=ro x;generalize E.opd st.t x=ax at *;generalize a.eval x=vx at *;cases hx<;>simp only at h<;>try (cases h)
  rename_i vs us hv;cases hi:vs[i]? with
  | none=>rw[hi] at h;cases h
  | some v=>
   rw[hi] at h;cases h;obtain⟨u,g1,g2⟩:=hv.get i v hi;refine qz.ofV hs.hs (v:=u) ?_ g2;simp[Instr.extract,g1]
 | call c=>
  rw[hop] at h;obtain⟨callee,args,argTypes⟩:=c;cases callee with
  | value x=>simp only at h;cases h
  | invoke x n=>simp only at h;cases h
  | builtin b=>
   simp only at h ⊢;have hargs:=q12 hs args.toList;have hrun:∀ty,(do let d <-resolve a.eval { callee:=.builtin b,args,argTypes } ty;invoke d.target d.args:Sem Next) =
     builtin b argTypes ty (args.map fun|.const _=>true|_=>false) (args.map a.eval):=by
    intro ty;rfl
   rw[hrun];have hA:args.map a.eval=(args.toList.map a.eval).toArray:=by apply qyo;simp
   rw[hA];generalize args.toList.map (E.opd st.t)=als at *;generalize args.toList.map a.eval=avs at *;exact qiB hE hs.hs hargs h _ _
 | _=>rw[hop] at h;simp only at h;cases h
end Go.Eng

namespace Go.Eng
variable {P:Program}{n:Nat}{w:World}
def q1C(ro:Option Nat):Fence:={ Fence.wide with round:=ro }
theorem q8u (ro:Option Nat):(q1C ro).depth.isSome=true->1<=n:=fun h=>by simp[q1C,Fence.wide] at h
theorem qs9 {ro:Option Nat}{f:FuncId}{args:Array Value}{R:Ending->World->Prop}:CallsIn (q1C ro) n P f args w R↔Calls P f args w R:=(callsIn_wide (n:=n))
theorem qx8 {ro:Option Nat}{row:String}{args:Array Value}{R:Value->World->Prop}(h:Go.Rows P row args w R):RowsIn (q1C ro) n P row args w R:=by intro c cs _;obtain⟨v,w',h1,h2⟩:=h c cs;exact⟨v,w',h1,stepsIn_wide.2 h2⟩
theorem qil (ro:Option Nat)(n:Nat){o:Oper}{a:Act}{next:Act->World->Prop}{Q:Exit->Act->World->Prop}(h:o.wp P a w next Q)(hd:∀c,o.op≠.defer c) :o.wpIn (q1C ro) n P a w next Q:=by
 refine⟨fun _ _=>trivial,?_⟩;rw[show (q1C ro).round=ro from rfl,Oper.semAt_eq _ _ _ hd];unfold Oper.wp at h;generalize (execOp a.eval o).run P w=r at h;cases r with
 | ok x w'=>
  cases x with
  | value v=>exact h
  | skip=>exact h
  | defer d=>exact h
  | enter f args=>exact⟨q8u ro,qs9.2 h⟩
  | row row args=>exact⟨q8u ro,qx8 h⟩
  | round l f tmps assign body=>exact h.elim
  | _=>exact h
 | halt x w'=>cases x<;>exact h
end Go.Eng

namespace Go.Eng
variable {B:Base}{E:Env}{X:Ctx}{a:Act}{o:Oper}{st:St}{v:Value}
structure CallOK (E:Env) (P:Program) (callH:q4j) (B:Base):Prop where
 fn:∀(f:FuncId) (args:List AV) (st:St) (r:AV×St) (X:Ctx) (a:Act) (vargs:List Value),Sim E B X st a->RepL X args vargs->(callH (some f) args st).run=some r ->
  (∀w,(callFunc f vargs.toArray).run P w=.ok (.enter f vargs.toArray) w) /\
  Calls P f vargs.toArray X.w fun e w'=>∃v X',e=.returned v/\X'.w=w'/\Rep X' r.1 v/\Sim E B X' r.2 a
 yld:∀(args:List AV) (st:St) (r:AV×St) (X:Ctx) (a:Act) (vargs:List Value),Sim E B X st a->RepL X args vargs->(callH none args st).run=some r ->
  ∃(l:Nat) (f:FuncId) (tmps:Array Value) (assign body:Code),(Instr.yield X.y vargs.toArray).run P X.w=.ok (.round l f tmps assign body) X.w /\
  ∀n,RoundIn (q1C B.ro) n P l f tmps assign body X.w fun e w'=>∃v X',e=.returned v/\X'.w=w'/\Rep X' r.1 v/\Sim E B X' r.2 a
theorem qon {t:List AV}(h:RepL X t a.tmps.toList){av:AV}(hv:Rep X av v)(dst:Option Tmp):RepL X (qbY t dst av) (a.put dst v).tmps.toList:=by
 cases dst with
 | none=>exact h
 | some d=>
  simp only[qbY,Act.put,Array.toList_setIfInBounds];exact RepL.set hv h d
theorem qj2 (a:Act)(dst:Option Tmp)(v:Value):(a.put dst v).defers=a.defers:=by cases dst<;>rfl
theorem Sim.put (hs:Sim E B X st a){av:AV}(hv:Rep X av v)(dst:Option Tmp) :Sim E B X { st with t:=qbY st.t dst av } (a.put dst v):=⟨hs.hs,hs.h,qon hs.t hv dst,hs.fs,hs.glob,by rw[qj2];exact hs.df,hs.ni,hs.y,hs.pin⟩
theorem Sim.ext {X X':Ctx}(hs:Sim E B X st a)(hx:Ext X X')(hs':HSim B X'):Sim E B X' { st with h:=X'.h } a:=⟨hs',rfl,hs.t.ext hx,hs.fs.ext hx,fun x hx'=>⟨(hs.glob x hx').1,(hs.glob x hx').2.move hx.M hx.w ((hs.glob x hx').2.1.ext hx)⟩,hx.kept▸hs.df,hs.ni,hx.y.trans hs.y,fun p hp=>hx.kept▸hs.pin p hp⟩
theorem Sim.apply {X X':Ctx}(hs:Sim E B X st a){r:Res}(hv:Rep X' r.1 v)(hs':HSim B X')(hm:match r.2.2 with|none=>X'.h=r.2.1/\Ext X X'|some b=>X'.h=r.2.1.map (Blk.ren (q7u b))/\Move X X' (q7u b)) (dst:Option Tmp) :Sim E B X' (st.apply dst r) (a.put dst v):=by
 unfold St.apply;cases hn:r.2.2 with
 | none=>
  rw[hn] at hm;obtain⟨h1,h2⟩:=hm;have:=(hs.ext h2 hs').put hv dst;rw[h1] at this;exact this
 | some b=>
  rw[hn] at hm;obtain⟨h1,h2⟩:=hm;refine⟨hs',h1,qon (hs.t.ren h2.toMove0) hv dst,hs.fs.ren h2.toMove0,fun x hx=>?_,by rw[qj2];exact h2.kept▸hs.df,hs.ni,h2.y.trans hs.y,fun p hp=>h2.kept▸hs.pin p hp⟩;obtain⟨⟨sh,l,i,off,he⟩,hr⟩:=hs.glob x hx;refine⟨⟨sh,l,i,off,he⟩,hr.move h2.M h2.w ?_⟩;have:=hr.1.ren h2.toMove0;rw[he] at this ⊢;exact this
theorem qiK {callH:q4j}{st s:St}(h:(qig E callH o st).run=some s):∀c,o.op≠.defer c:=by intro c hc;unfold qig at h;rw[hc] at h;simp[qgl,Tree.bind,Tree.run] at h
theorem qfA {P:Program}(hE:E.tok P){callH:q4j}(hc:CallOK E P callH B){st st':St}(hs:Sim E B X st a)(h:(qig E callH o st).run=some st') {next:Act->World->Prop} {Q:Exit->Act->World->Prop} (hq:∀X' a',Sim E B X' st' a'->next a' X'.w) {n:Nat}:o.wpIn (q1C B.ro) n P a X.w next Q:=by
 have hnd:=qiK h;have plain:∀(_:((qgl E st.h (E.opd st.t) o.op).bind fun r=>.leaf (st.apply o.dst r)).run=some st'),o.wp P a X.w next Q:=by
  intro hh;obtain⟨r,h1,h2⟩:=bind_some hh;cases h2;obtain⟨nx,v,X',g1,g2,g3,g4,g5⟩:=qdR hE hs h1;unfold Oper.wp;rw[g1];rcases g2 with rfl|⟨rfl,rfl⟩
  ·exact hq X' _ (hs.apply g3 g4 g5 o.dst)
  ·exact hq X' _ (hs.apply g3 g4 g5 o.dst)
 unfold qig at h;split at h
 ·rename_i x args tys hop;cases hx:E.opd st.t x with
  | fn f first caps=>
   rw[hx] at h;obtain⟨r,h1,h2⟩:=bind_some h;cases h2;have hv:=q4d hs x;rw[hx] at hv;generalize hev:a.eval x=vx at hv;cases hv with
   | fn _ _ _ vf vc q1 q2=>
    have hargs:=q12 hs args.toList;have hall:RepL X (first++args.toList.map (E.opd st.t)++caps) (vf++args.toList.map a.eval++vc):=(q1.append hargs).append q2;obtain⟨g1,g2⟩:=hc.fn f _ st r X a _ hs hall h1;refine qil B.ro n ?_ hnd;unfold Oper.wp;have hrun:(execOp a.eval o).run P X.w=.ok (.enter f (vf++args.toList.map a.eval++vc).toArray) X.w:=by
     simp only[execOp,hop,resolve,hev,Deferred.ofValue,qxF,qxW,qxH,invoke];have:vf.toArray++args.map a.eval++vc.toArray=(vf++args.toList.map a.eval++vc).toArray:=by apply qyo;simp
     rw[this];exact g1 X.w
    rw[hrun];refine g2.mono fun e w' ⟨v,X',e1,e2,e3,e4⟩=>?_;subst e1 e2;exact hq X' _ (e4.put e3 o.dst)
  | yld=>
   rw[hx] at h;obtain⟨r,h1,h2⟩:=bind_some h;cases h2;have hv:=q4d hs x;rw[hx] at hv;generalize hev:a.eval x=vx at hv;cases hv;obtain⟨l,f,tmps,assign,body,g1,g2⟩:=hc.yld _ st r X a _ hs (q12 hs args.toList) h1;refine⟨fun _ _=>trivial,?_⟩;rw[Oper.semAt_eq _ _ _ hnd];have hrun:(execOp a.eval o).run P X.w=.ok (.round l f tmps assign body) X.w:=by
    simp only[execOp,hop,resolve,hev,Deferred.ofValue,qxF,qxW,qxH,invoke];have:#[]++args.map a.eval=(args.toList.map a.eval).toArray:=by apply qyo;simp
    rw[this];exact g1
   rw[hrun];refine⟨q8u B.ro,(g2 (n-1)).mono fun e w' ⟨v,X',e1,e2,e3,e4⟩=>?_⟩;subst e1 e2;exact hq X' _ (e4.put e3 o.dst)
  | _=>rw[hx] at h;cases h
 ·exact qil B.ro n (plain h) hnd
theorem Sim.lit (hs:Sim E B X st a){d:Nat}{b:Bool}(hd:st.t[d]?=some (.bool b)):Sim E B X { st with t:=st.t.set d (.blit b) } a:=by
 refine⟨hs.hs,hs.h,?_,hs.fs,hs.glob,hs.df,hs.ni,hs.y,hs.pin⟩;obtain⟨v,h1,h2⟩:=hs.t.get d _ hd;have hv:v=.bool b:=by cases h2;rfl
 subst hv;have:=RepL.set (X:=X) (a:=.blit b) (v:=.bool b) (.blit b) hs.t d;have e:a.tmps.toList.set d (.bool b)=a.tmps.toList:=by
  apply qyc;intro i;by_cases hi:i=d
  ·subst hi;rw[qxN (qj h1),h1]
  ·rw[qxD (qxS hi)]
 rwa [e] at this
theorem qhE {st st':St}(hs:Sim E B X st a){all:Array Oper}{k:Nat}(h:(qiS all k o st).run=some st'):Sim E B X st' a:=by
 unfold qiS at h;split at h
 ·split at h
  ·rename_i d _;split at h
   ·rename_i b hd;cases b
    ·cases h;exact hs.lit hd
    ·cases h;exact hs.lit hd
   ·cases h;exact hs
  ·cases h;exact hs
 ·cases h;exact hs
theorem q4P {t:List AV}(ht:RepL X t a.tmps.toList){all:Array Oper}{b:Bool}(h:q2o all o t=some b):Region.wanted o (yielded all a.tmps)=b:=by
 unfold q2o at h;unfold Region.wanted;cases hg:o.guard with
 | none=>rw[hg] at h;cases h;rfl
 | some p=>
  obtain⟨j,want⟩:=p;rw[hg] at h;simp only at h ⊢;cases hj:(all[j]?).bind (·.dst) with
  | none=>rw[hj] at h;cases h
  | some d=>
   rw[hj] at h;simp only at h;unfold yielded;rw[hj,qy3];split at h
   ·rename_i c hd;cases h;obtain⟨v,h1,h2⟩:=ht.get d _ hd;have h1':a.tmps[d]?=some v:=by simpa using h1
    cases h2;rw[h1'];cases c<;>cases want<;>rfl
   ·rename_i hd;cases h;obtain⟨v,h1,h2⟩:=ht.get d _ hd;have h1':a.tmps[d]?=some v:=by simpa using h1
    cases h2;rw[h1'];rfl
   ·cases h
theorem qcz{E:Env}{P:Program}(hE:E.tok P){callH:q4j}{B:Base}(hc:CallOK E P callH B){all:Array Oper}{st':St}{Q:Exit->Act->World->Prop}{n:Nat}
  (hq:∀X' a',Sim E B X' st' a'->Q .normal a' X'.w):∀(l:List Oper) (k:Nat) {X:Ctx} {st:St} {a:Act},Sim E B X st a->(qcH E callH all k l st).run=some st'->wpListIn (q1C B.ro) n P all Q l a X.w
 | [],k,X,st,a,hs,h=>by
  simp only[qcH,Tree.run,qxB] at h;subst h;exact hq X a hs
 | o::rest,k,X,st,a,hs,h=>by
  simp only[qcH] at h;simp only[wpListIn];cases hw:q2o all o st.t with
  | none=>rw[hw] at h;cases h
  | some b=>
   rw[hw] at h;rw[q4P hs.t hw];cases b with
   | true=>
    simp only[if_true];obtain⟨s1,h1,h2⟩:=bind_some h;obtain⟨s2,h3,h4⟩:=bind_some h2;refine qfA hE hc hs h1 fun X' a' hs'=>?_;exact qcz hE hc hq rest (k+1) (qhE hs' h3) h4
   | false=>
    simp only[qy5,if_false];exact⟨fun _ _=>trivial,qcz hE hc hq rest (k+1) (hs.put (av:=.skip) .skip o.dst) h⟩
theorem qiE {P:Program}(hE:E.tok P){callH:q4j}(hc:CallOK E P callH B){id:Nat}{ops:Array Oper}{st st':St}(hs:Sim E B X st a)(h:(qcH E callH ops 0 ops.toList st).run=some st') {Q:Exit->Act->World->Prop} {n:Nat} (hq:∀X' a',Sim E B X' st' a'->Q .normal a' X'.w):(Code.region id ops false).wpIn (q1C B.ro) n P Q a X.w:=wpIn_region_list (qcz hE hc hq ops.toList 0 hs h)
end Go.Eng

