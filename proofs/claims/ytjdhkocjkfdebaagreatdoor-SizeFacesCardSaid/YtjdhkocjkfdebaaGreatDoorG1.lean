/- Texts of the proof, merged: what the code computes, and plain laws. No statement stands here. -/
import Derived.Calls
import Derived.Orders
import Derived.Laws.AppendOwn
import Derived.Laws.Entries
import Derived.Laws.Cells
import Derived.Laws.Slices
import Derived.Laws.Build
import Derived.Laws.StructEq
import Derived.Laws.Rows
import Derived.Laws.CopyRow
import Derived.ChangeKeysEq
import Derived.Laws.MakeOwn
import Derived.Laws.BytesString
import Derived.Laws.IdiomStrings
namespace Go.Eng
theorem qNY:type_of%@Option.some.injEq:=@Option.some.injEq
theorem qNZ:type_of%@List.getD_eq_getElem?_getD:=@List.getD_eq_getElem?_getD
theorem qO0:type_of%@Nat.le_refl:=@Nat.le_refl
theorem qO1:type_of%@List.getElem?_set_ne:=@List.getElem?_set_ne
theorem qO2:type_of%@Nat.le_trans:=@Nat.le_trans
theorem qO3:type_of%@Sem.run_bind:=@Sem.run_bind
theorem qO4:type_of%@Array.getElem?_eq_some_iff:=@Array.getElem?_eq_some_iff
theorem qO5:type_of%@List.getElem?_eq_getElem:=@List.getElem?_eq_getElem
theorem qO6:type_of%@Nat.lt_or_ge:=@Nat.lt_or_ge
theorem qO7:type_of%@List.length_map:=@List.length_map
theorem qO8:type_of%@List.getElem?_map:=@List.getElem?_map
theorem qO9:type_of%@Int.toNat_natCast:=@Int.toNat_natCast
theorem qOa:type_of%@Result.andThen_ok:=@Result.andThen_ok
theorem qOb:type_of%@List.getElem?_append_left:=@List.getElem?_append_left
theorem qOc:type_of%@List.getElem?_set_self:=@List.getElem?_set_self
theorem qOd:type_of%@Bool.and_eq_true:=@Bool.and_eq_true
theorem qOe:type_of%@List.set_cons_zero:=@List.set_cons_zero
theorem qOf:type_of%@Nat.add_mul:=@Nat.add_mul
theorem qOg:type_of%@List.set_cons_succ:=@List.set_cons_succ
theorem qOh:type_of%@List.length_append:=@List.length_append
theorem qOi:type_of%@List.getElem?_append_right:=@List.getElem?_append_right
theorem qOj:type_of%@List.mem_cons:=@List.mem_cons
theorem qOk:type_of%@List.map_append:=@List.map_append
theorem qOl:type_of%@List.getElem?_eq_none:=@List.getElem?_eq_none
theorem qOm:type_of%@List.mem_cons_self:=@List.mem_cons_self
theorem qOn:type_of%@List.mem_append:=@List.mem_append
theorem qOo:type_of%@List.mem_cons_of_mem:=@List.mem_cons_of_mem
theorem qOp:type_of%@Option.bind_some:=@Option.bind_some
theorem qOq:type_of%@Nat.mul_le_mul_right:=@Nat.mul_le_mul_right
theorem qOr:type_of%@Ne.symm:=@Ne.symm
theorem qOs:type_of%@List.mem_singleton:=@List.mem_singleton
theorem qOt:type_of%@List.length_cons:=@List.length_cons
theorem qOu:type_of%@List.append_assoc:=@List.append_assoc
theorem qOv:type_of%@List.length_range:=@List.length_range
theorem qOw:type_of%@Sem.run_pure:=@Sem.run_pure
theorem qOx:type_of%@Prod.mk.injEq:=@Prod.mk.injEq
theorem qOy:type_of%@List.all_eq_true:=@List.all_eq_true
theorem qOz:type_of%@Option.map_some:=@Option.map_some
theorem qOA:type_of%@Classical.byContradiction:=@Classical.byContradiction
theorem qOB:type_of%@Nat.mul_le_mul:=@Nat.mul_le_mul
theorem qOC:type_of%@Bool.false_eq_true:=@Bool.false_eq_true
theorem qOD:type_of%@List.getElem?_range:=@List.getElem?_range
theorem qOE:type_of%@Option.some.inj:=@Option.some.inj
theorem qOF:type_of%@Int.le_refl:=@Int.le_refl
theorem qOG:type_of%@Nat.lt_of_lt_of_le:=@Nat.lt_of_lt_of_le
theorem qOH:type_of%@List.mem_append_right:=@List.mem_append_right
theorem qOI:type_of%@List.getElem_mem:=@List.getElem_mem
theorem qOJ:type_of%@List.length_nil:=@List.length_nil
theorem qOK:type_of%@Nat.sub_self:=@Nat.sub_self
theorem qOL:type_of%@Addr.add_lit:=@Addr.add_lit
theorem qOM:type_of%@Int.natCast_mul:=@Int.natCast_mul
theorem qON:type_of%@List.mem_of_getElem?:=@List.mem_of_getElem?
theorem qOO:type_of%@List.range_succ:=@List.range_succ
theorem qOP:type_of%@List.mem_map:=@List.mem_map
theorem qOQ:type_of%@Nat.add_zero:=@Nat.add_zero
theorem qOR:type_of%@List.ext_getElem?:=@List.ext_getElem?
theorem qOS:type_of%@Nat.zero_add:=@Nat.zero_add
theorem qOT:type_of%@List.mem_append_left:=@List.mem_append_left
theorem qOU:type_of%@List.mem_of_find?_eq_some:=@List.mem_of_find?_eq_some
theorem qOV:type_of%@List.mem_range:=@List.mem_range
theorem qOW:type_of%@Option.getD_some:=@Option.getD_some
theorem qOX:type_of%@List.length_take:=@List.length_take
theorem qOY:type_of%@Nat.min_eq_left:=@Nat.min_eq_left
theorem qOZ:type_of%@List.append_nil:=@List.append_nil
theorem qP0:type_of%@Nat.eq_of_beq_eq_true:=@Nat.eq_of_beq_eq_true
theorem qP1:type_of%@List.getElem?_cons_succ:=@List.getElem?_cons_succ
theorem qP2:type_of%@World.cell?_of_block:=@World.cell?_of_block
theorem qP3:type_of%@List.getElem?_take:=@List.getElem?_take
theorem qP4:type_of%@List.getElem?_drop:=@List.getElem?_drop
theorem qP5:type_of%@List.map_cons:=@List.map_cons
theorem qP6:type_of%@Nat.eq_zero_or_pos:=@Nat.eq_zero_or_pos
theorem qP7:type_of%@Int.mul_comm:=@Int.mul_comm
theorem qP8:type_of%@World.block_lt_of_cell?:=@World.block_lt_of_cell?
theorem qP9:type_of%@List.take_length:=@List.take_length
theorem qPa:type_of%@List.map_congr_left:=@List.map_congr_left
theorem qPb:type_of%@List.length_set:=@List.length_set
theorem qPc:type_of%@Int.natAbs_mul:=@Int.natAbs_mul
theorem qPd:type_of%@List.find?_some:=@List.find?_some
theorem qPe:type_of%@Array.ext':=@Array.ext'
theorem qPf:type_of%@List.getElem?_cons_zero:=@List.getElem?_cons_zero
theorem qPg:type_of%@Nat.mod_lt:=@Nat.mod_lt
theorem qPh:type_of%@Array.getD_eq_getD_getElem?:=@Array.getD_eq_getD_getElem?
theorem qPi:type_of%@List.nil_append:=@List.nil_append
theorem qPj:type_of%@Int.one_mul:=@Int.one_mul
theorem qPk:type_of%@Rat.mul_nonneg:=@Rat.mul_nonneg
theorem qPl:type_of%@Nat.zero_le:=@Nat.zero_le
theorem qPm:type_of%@Nat.pow_succ:=@Nat.pow_succ
theorem qPn:type_of%@List.replicate_succ:=@List.replicate_succ
theorem qPo:type_of%@List.cons_append:=@List.cons_append
theorem qPp:type_of%@Bool.or_eq_true:=@Bool.or_eq_true
theorem qPq:type_of%@Option.bind_eq_some_iff:=@Option.bind_eq_some_iff
theorem qPr:type_of%@List.getD_cons_zero:=@List.getD_cons_zero
theorem qPs:type_of%@Nat.pow_le_pow_right:=@Nat.pow_le_pow_right
theorem qPt:type_of%@Nat.gcd_comm:=@Nat.gcd_comm
theorem qPu:type_of%@List.eq_nil_of_length_eq_zero:=@List.eq_nil_of_length_eq_zero
theorem qPv:type_of%@Nat.add_assoc:=@Nat.add_assoc
theorem qPw:type_of%@Int.lt_trichotomy:=@Int.lt_trichotomy
theorem qPx:type_of%@Nat.eq_or_lt_of_le:=@Nat.eq_or_lt_of_le
theorem qPy:type_of%@Bool.not_eq_true':=@Bool.not_eq_true'
theorem qPz:type_of%@Nat.one_mul:=@Nat.one_mul
theorem qPA:type_of%@List.length_pos_iff:=@List.length_pos_iff
theorem qPB:type_of%@List.getElem?_eq_some_iff:=@List.getElem?_eq_some_iff
theorem qPC:type_of%@Nat.mul_one:=@Nat.mul_one
theorem qPD:type_of%@List.drop_eq_nil_of_le:=@List.drop_eq_nil_of_le
theorem qPE:type_of%@Array.getElem?_eq_getElem:=@Array.getElem?_eq_getElem
theorem qPF:type_of%@List.cons.injEq:=@List.cons.injEq
theorem qPG:type_of%@Option.map_eq_some_iff:=@Option.map_eq_some_iff
theorem qPH:type_of%@Int.mul_nonneg:=@Int.mul_nonneg
theorem qPI:type_of%@Int.mul_ediv_cancel:=@Int.mul_ediv_cancel
theorem qPJ:type_of%@Rat.intCast_mul:=@Rat.intCast_mul
theorem qPK:type_of%@Classical.not_imp:=@Classical.not_imp
theorem qPL:type_of%@Rat.mul_pos:=@Rat.mul_pos
theorem qPM:type_of%@Nat.lt_succ_self:=@Nat.lt_succ_self
theorem qPN:type_of%@List.foldl_cons:=@List.foldl_cons
theorem qPO:type_of%@Nat.not_lt_zero:=@Nat.not_lt_zero
theorem qPP:type_of%@Int.toNat_of_nonneg:=@Int.toNat_of_nonneg
theorem qPQ:type_of%@Nat.lt_of_le_of_lt:=@Nat.lt_of_le_of_lt
theorem qPR:type_of%@Int.natCast_add:=@Int.natCast_add
theorem qPS:type_of%@Nat.div_le_self:=@Nat.div_le_self
theorem qPT:type_of%@Int.mul_le_mul_of_nonneg_right:=@Int.mul_le_mul_of_nonneg_right
theorem qPU:type_of%@Rat.intCast_sub:=@Rat.intCast_sub
theorem qPV:type_of%@Rat.mul_inv_cancel:=@Rat.mul_inv_cancel
theorem qPW:type_of%@List.mem_flatMap:=@List.mem_flatMap
theorem qPX:type_of%@List.length_drop:=@List.length_drop
theorem qPY:type_of%@List.all_cons:=@List.all_cons
theorem qPZ:type_of%@Nat.div_add_mod:=@Nat.div_add_mod
theorem qQ0:type_of%@Array.toList_append:=@Array.toList_append
theorem qQ1:type_of%@UInt8.toNat_inj:=@UInt8.toNat_inj
theorem qQ2:type_of%@Int.natAbs_ediv_le_natAbs:=@Int.natAbs_ediv_le_natAbs
theorem qQ3:type_of%@Int.neg_mul_neg:=@Int.neg_mul_neg
theorem qQ4:type_of%@Classical.not_forall:=@Classical.not_forall
theorem qQ5:type_of%@Array.getElem?_toList:=@Array.getElem?_toList
theorem qQ6:type_of%@List.mem_of_mem_take:=@List.mem_of_mem_take
theorem qQ7:type_of%@List.mem_of_mem_drop:=@List.mem_of_mem_drop
theorem qQ8:type_of%@List.flatten_cons:=@List.flatten_cons
theorem qQ9:type_of%@List.mem_replicate:=@List.mem_replicate
theorem qQa:type_of%@List.take_append_drop:=@List.take_append_drop
theorem qQb:type_of%@List.getElem?_of_mem:=@List.getElem?_of_mem
theorem qQc:type_of%@Option.isSome_some:=@Option.isSome_some
theorem qQd:type_of%@Nat.add_sub_cancel:=@Nat.add_sub_cancel
theorem qQe:type_of%@List.mem_or_eq_of_mem_set:=@List.mem_or_eq_of_mem_set
theorem qQf:type_of%@Int.natAbs_sign_of_ne_zero:=@Int.natAbs_sign_of_ne_zero
theorem qQg:type_of%@Int.mul_le_mul_of_nonneg_left:=@Int.mul_le_mul_of_nonneg_left
abbrev qNX:=List UInt8
def su:Nat->(Nat->Rat)->Rat
 | 0,_=>0
 | n+1,f=>su n f+f n
theorem qk:∀{n:Nat} {f g:Nat->Rat},(∀i,i<n->f i=g i)->su n f=su n g
 | 0,_,_,_=>rfl
 | n+1,f,g,h=>by simp only[su];rw[qk (fun i hi=>h i (by omega)),h n (by omega)]
theorem q3U:∀(n:Nat) (f g:Nat->Rat),su n (fun i=>f i+g i)=su n f+su n g
 | 0,_,_=>by show (0:Rat)=0+0;grind
 | n+1,f,g=>by simp only[su];rw[q3U n f g];grind
theorem wz:∀(n:Nat) (a:Rat) (f:Nat->Rat),su n (fun i=>a*f i)=a*su n f
 | 0,a,_=>by simp[su]
 | n+1,a,f=>by simp only[su];rw[wz n a f];grind
theorem q8a(n:Nat)(f g:Nat->Rat):su n (fun i=>f i-g i)=su n f-su n g:=by have h:=q3U n f (fun i=>(-1)*g i);rw[wz] at h;rw[qk (g:=fun i=>f i+(-1)*g i) (fun i _=>by grind),h];grind
theorem q8P:∀(n:Nat),su n (fun _=>0)=0
 | 0=>rfl
 | n+1=>by simp only[su];rw[q8P n];grind
theorem qIN:∀{n:Nat} {f:Nat->Rat},(∀i,i<n->0<=f i)->0<=su n f
 | 0,_,_=>Rat.le_refl
 | n+1,f,h=>by
  have a:=qIN (n:=n) (f:=f) (fun i hi=>h i (by omega));have b:=h n (by omega);simp only[su];grind
theorem qC8:∀(m n:Nat) (f:Nat->Nat->Rat),su m (fun i=>su n (f i))=su n (fun j=>su m (fun i=>f i j))
 | 0,n,f=>by simp only[su];rw[q8P]
 | m+1,n,f=>by simp only[su];rw[qC8 m n f,q3U]
theorem q8b:∀{n k:Nat} (f:Nat->Rat),k<n->(∀i,i<n->i≠k->f i=0)->su n f=f k
 | 0,k,f,h,_=>by omega
 | n+1,k,f,h,hz=>by
  simp only[su];by_cases hk:k=n
  ·subst hk;rw[qk (g:=fun _=>0) (fun i hi=>hz i (by omega) (by omega)),q8P];grind
  ·rw[q8b f (by omega:k<n) (fun i hi hne=>hz i (by omega) hne),hz n (by omega) (by omega)];grind
theorem qw1:∀{n:Nat} {f:Nat->Rat},su n f≠0->∃i,i<n/\f i≠0
 | 0,_,h=>absurd rfl h
 | n+1,f,h=>by
  by_cases hn:f n=0
  ·obtain⟨i,hi,h'⟩:=qw1 (n:=n) (f:=f) (by simp only[su] at h;rw[hn] at h;grind);exact⟨i,by omega,h'⟩
  ·exact⟨n,by omega,hn⟩
def qkE(m n:Nat)(M:Nat->Nat->Rat)(b x:Nat->Rat):Prop:=∀i,i<m->su n (fun j=>M i j*x j)=b i
def qL3(m n:Nat)(M:Nat->Nat->Rat)(b y:Nat->Rat):Prop:=(∀j,j<n->su m (fun i=>y i*M i j)=0)/\su m (fun i=>y i*b i)≠0
theorem qwO(m:Nat):∀(n:Nat) (M:Nat->Nat->Rat) (b:Nat->Rat),(∃x,qkE m n M b x)\/∃y,qL3 m n M b y
 | 0,M,b=>by
  by_cases h:∀i,i<m->b i=0
  ·exact .inl ⟨fun _=>0,fun i hi=>(h i hi).symm⟩
  ·right;obtain⟨k,hk⟩:=qQ4.1 h;obtain⟨hk,hb⟩:=qPK.1 hk;refine⟨fun i=>if i=k then 1 else 0,fun j hj=>by omega,?_⟩;rw[q8b _ hk (fun i _ hne=>by simp[hne])];simpa using hb
 | n+1,M,b=>by
  by_cases h:∀i,i<m->M i n=0
  ·rcases qwO m n M b with⟨x,hx⟩|⟨y,h1,h2⟩
   ·refine .inl ⟨fun j=>if j=n then 0 else x j,fun i hi=>?_⟩;simp only[su];rw[<-hx i hi,h i hi,qk (g:=fun j=>M i j*x j) (fun j hj=>by rw[if_neg (by omega)])];grind
   ·refine .inr ⟨y,fun j hj=>?_,h2⟩;by_cases hjn:j=n
    ·subst hjn;rw[qk (g:=fun _=>0) (fun i hi=>by rw[h i hi];grind),q8P]
    ·exact h1 j (by omega)
  ·obtain⟨k,hk⟩:=qQ4.1 h;obtain⟨hk,ha⟩:=qPK.1 hk;have inv:M k n*(M k n)⁻¹=1:=qPV _ ha;rcases qwO m n (fun i j=>M i j-M i n*(M k n)⁻¹*M k j) (fun i=>b i-M i n*(M k n)⁻¹*b k) with⟨x,hx⟩|⟨y,h1,h2⟩
   ·refine .inl ⟨fun j=>if j=n then (M k n)⁻¹*(b k-su n (fun j=>M k j*x j)) else x j,fun i hi=>?_⟩;have e:=hx i hi;simp only[su,if_true];rw[qk (g:=fun j=>M i j*x j) (fun j hj=>by rw[if_neg (by omega)])];have e2:su n (fun j=>(M i j-M i n*(M k n)⁻¹*M k j)*x j)=su n (fun j=>M i j*x j)-M i n*(M k n)⁻¹*su n (fun j=>M k j*x j):=by rw[<-wz,<-q8a];exact qk fun j _=>by grind
    rw[e2] at e;grind
   ·refine .inr ⟨fun i=>y i-(if i=k then su m (fun i=>y i*M i n)*(M k n)⁻¹ else 0),fun j hj=>?_,?_⟩
    ·have e1:su m (fun i=>(y i-(if i=k then su m (fun i=>y i*M i n)*(M k n)⁻¹ else 0))*M i j)=su m (fun i=>y i*M i j)-su m (fun i=>y i*M i n)*(M k n)⁻¹*M k j:=by have s:=q8b (n:=m) (k:=k) (fun i=>(if i=k then su m (fun i=>y i*M i n)*(M k n)⁻¹ else 0)*M i j) hk (fun i _ hne=>by simp[hne]);simp only[if_true] at s;rw[<-s,<-q8a];exact qk fun i _=>by grind
     rw[e1];by_cases hjn:j=n
     ·subst hjn;grind
     ·have:=h1 j (by omega);have e2:su m (fun i=>y i*(M i j-M i n*(M k n)⁻¹*M k j))=su m (fun i=>y i*M i j)-su m (fun i=>y i*M i n)*((M k n)⁻¹*M k j):=by rw[show su m (fun i=>y i*M i n)*((M k n)⁻¹*M k j)=((M k n)⁻¹*M k j)*su m (fun i=>y i*M i n) from by grind,<-wz,<-q8a];exact qk fun i _=>by grind
      rw[e2] at this;grind
    ·have e1:su m (fun i=>(y i-(if i=k then su m (fun i=>y i*M i n)*(M k n)⁻¹ else 0))*b i)=su m (fun i=>y i*b i)-su m (fun i=>y i*M i n)*(M k n)⁻¹*b k:=by have s:=q8b (n:=m) (k:=k) (fun i=>(if i=k then su m (fun i=>y i*M i n)*(M k n)⁻¹ else 0)*b i) hk (fun i _ hne=>by simp[hne]);simp only[if_true] at s;rw[<-s,<-q8a];exact qk fun i _=>by grind
     rw[e1];have e2:su m (fun i=>y i*(b i-M i n*(M k n)⁻¹*b k))=su m (fun i=>y i*b i)-su m (fun i=>y i*M i n)*((M k n)⁻¹*b k):=by rw[show su m (fun i=>y i*M i n)*((M k n)⁻¹*b k)=((M k n)⁻¹*b k)*su m (fun i=>y i*M i n) from by grind,<-wz,<-q8a];exact qk fun i _=>by grind
     rw[e2] at h2;intro h0;apply h2;grind
variable {n:Nat}
structure V3 where
 x:Rat
 y:Rat
 z:Rat
def qaN(a b:V3):Rat:=a.x*b.x+a.y*b.y+a.z*b.z
def d2(a b:V3):Rat:=(a.x-b.x)*(a.x-b.x)+(a.y-b.y)*(a.y-b.y)+(a.z-b.z)*(a.z-b.z)
theorem qAz (a b:V3):d2 a b=qaN a a-2*qaN a b+qaN b b:=by unfold d2 qaN;grind
theorem qtf (a:Rat):0<=a*a:=by
 rcases Rat.le_total (a:=0) (b:=a) with h|h
 ·exact qPk h h
 ·have:=qPk (show 0<=-a by grind) (show 0<=-a by grind);grind
theorem qED (a b:V3):0<=d2 a b:=by have h1:=qtf (a.x-b.x);have h2:=qtf (a.y-b.y);have h3:=qtf (a.z-b.z);unfold d2;grind
theorem qyl {a:Rat}(h:a*a<=0):a=0:=by
 have h1:=qtf a;have h2:a*a=0:=by grind
 rcases Rat.mul_eq_zero.1 h2 with h|h<;>exact h
theorem qBl {a b:V3}(h:d2 a b<=0):a=b:=by have h1:=qtf (a.x-b.x);have h2:=qtf (a.y-b.y);have h3:=qtf (a.z-b.z);unfold d2 at h;have e1:=qyl (a:=a.x-b.x) (by grind);have e2:=qyl (a:=a.y-b.y) (by grind);have e3:=qyl (a:=a.z-b.z) (by grind);cases a;cases b;simp only[V3.mk.injEq];refine⟨?_,?_,?_⟩<;>simp only at e1 e2 e3<;>grind
def cen(n:Nat)(w:Nat->Rat)(p:Nat->V3):V3:=⟨su n fun i=>w i*(p i).x,su n fun i=>w i*(p i).y,su n fun i=>w i*(p i).z⟩
theorem qDy (n:Nat)(w:Nat->Rat)(p:Nat->V3)(c:V3):su n (fun i=>w i*qaN c (p i))=qaN c (cen n w p):=by unfold qaN cen;simp only;rw[<-wz,<-wz,<-wz,<-q3U,<-q3U];exact qk fun i _=>by grind
theorem qL4 (n:Nat)(w:Nat->Rat)(p:Nat->V3)(c:V3):su n (fun i=>w i*d2 c (p i))=qaN c c*su n w-2*qaN c (cen n w p)+su n (fun i=>w i*qaN (p i) (p i)):=by rw[<-qDy,<-wz,<-wz,<-q8a,<-q3U];exact qk fun i _=>by rw[qAz];grind
def en(n:Nat)(p:Nat->V3)(w:Nat->Rat):Rat:=su n fun i=>w i*d2 (cen n w p) (p i)
theorem qvX {w:Nat->Rat}(p:Nat->V3)(h:su n w=1)(c:V3):su n (fun i=>w i*d2 c (p i))=en n p w+d2 c (cen n w p):=by unfold en;rw[qL4,qL4,h,qAz];grind
structure Wt (n:Nat) (w:Nat->Rat):Prop where
 nn:∀i,i<n->0<=w i
 one:su n w=1
def qAW(n:Nat)(p:Nat->V3)(w:Nat->Rat)(s:Rat):Prop:=Wt n w/\∀i,i<n->w i≠0->d2 (cen n w p) (p i)=s
theorem qjK {w f:Nat->Rat}{s:Rat}(h1:su n w=1)(h:∀i,i<n->w i≠0->f i=s):su n (fun i=>w i*f i)=s:=by
 rw[qk (g:=fun i=>s*w i) (fun i hi=>by
  by_cases hw:w i=0
  ·rw[hw];grind
  ·rw[h i hi hw];grind),wz,h1];grind
theorem qAW.en {p:Nat->V3}{w:Nat->Rat}{s:Rat}(h:qAW n p w s):en n p w=s:=qjK h.1.one h.2
def cnt:Nat->(Nat->Rat)->Nat
 | 0,_=>0
 | n+1,w=>cnt n w+if w n=0 then 0 else 1
theorem qJI:∀{n:Nat} {w v:Nat->Rat},(∀i,i<n->w i=0->v i=0)->cnt n v<=cnt n w
 | 0,_,_,_=>qO0 _
 | n+1,w,v,h=>by
  have a:=qJI (n:=n) (w:=w) (v:=v) fun i hi=>h i (by omega);have b:=h n (by omega);simp only[cnt];by_cases hw:w n=0
  ·rw[if_pos hw,if_pos (b hw)];omega
  ·rw[if_neg hw];split<;>omega
theorem qCC:∀{n:Nat} {w v:Nat->Rat} {k:Nat},(∀i,i<n->w i=0->v i=0)->k<n->w k≠0->v k=0->cnt n v<cnt n w
 | 0,_,_,_,_,hk,_,_=>by omega
 | n+1,w,v,k,h,hk,hw,hv=>by
  simp only[cnt];by_cases e:k=n
  ·subst e;have a:=qJI (n:=k) (w:=w) (v:=v) fun i hi=>h i (by omega);rw[if_neg hw,if_pos hv];omega
  ·have a:=qCC (n:=n) (w:=w) (v:=v) (k:=k) (fun i hi=>h i (by omega)) (by omega) hw hv;have b:=h n (by omega);by_cases hwn:w n=0
   ·rw[if_pos hwn,if_pos (b hwn)];omega
   ·rw[if_neg hwn];split<;>omega
theorem qzk:∀(n:Nat) (w v:Nat->Rat),(∀i,i<n->v i<0->0<w i)->(∃k,k<n/\v k<0)->∃t,0<t/\∃k,k<n/\v k<0/\w k+t*v k=0/\∀i,i<n->v i<0->0<=w i+t*v i
 | 0,_,_,_,⟨k,hk,_⟩=>by omega
 | n+1,w,v,h,⟨k,hk,hv⟩=>by
  have own:v n<0->0<w n*(-(v n))⁻¹/\w n+(w n*(-(v n))⁻¹)*v n=0:=fun hn=>by
   have h1:0 < -(v n):=by grind
   have h2:-(v n)*(-(v n))⁻¹=1:=qPV _ (by grind);exact⟨qPL (h n (by omega) hn) (Rat.inv_pos.2 h1),by grind⟩
  by_cases hex:∃k,k<n/\v k<0
  ·obtain⟨t,t0,k,hk,hv,hz,hall⟩:=qzk n w v (fun i hi=>h i (by omega)) hex;by_cases hn:v n<0/\w n+t*v n<0
   ·obtain⟨o1,o2⟩:=own hn.1;refine⟨w n*(-(v n))⁻¹,o1,n,by omega,hn.1,o2,fun i hi hvi=>?_⟩;by_cases e:i=n
    ·subst e;rw[o2];exact Rat.le_refl
    ·have a:=hall i (by omega) hvi;have lt:w n*(-(v n))⁻¹<t:=by apply qOA;intro hh;have:=qPk (show 0<=w n*(-(v n))⁻¹-t by grind) (show 0<=-(v n) by grind);grind
     have:=qPk (show 0<=t-w n*(-(v n))⁻¹ by grind) (show 0<=-(v i) by grind);grind
   ·refine⟨t,t0,k,by omega,hv,hz,fun i hi hvi=>?_⟩;by_cases e:i=n
    ·subst e;apply qOA;intro hh;exact hn ⟨hvi,by grind⟩
    ·exact hall i (by omega) hvi
  ·have e:k=n:=by apply qOA;intro hh;exact hex ⟨k,by omega,hv⟩
   subst e;obtain⟨o1,o2⟩:=own hv;refine⟨_,o1,k,by omega,hv,o2,fun i hi hvi=>?_⟩;have:i=k:=by apply qOA;intro hh;exact hex ⟨i,by omega,hvi⟩
   subst this;rw[o2];exact Rat.le_refl
theorem qFZ {w v:Nat->Rat}(hw:Wt n w)(h0:su n v=0)(hz:∀i,i<n->w i=0->v i=0)(hk:∃k,k<n/\v k<0) :∃t,0<t/\Wt n (fun i=>w i+t*v i)/\cnt n (fun i=>w i+t*v i)<cnt n w/\∀i,i<n->w i=0->w i+t*v i=0:=by
 obtain⟨t,t0,k,hk,hv,he,hall⟩:=qzk n w v (fun i hi hv=>by
  have a:=hw.nn i hi;have b:w i≠0:=fun e=>by rw[hz i hi e] at hv;exact absurd hv (by grind)
  grind) hk
 have zz:∀i,i<n->w i=0->w i+t*v i=0:=fun i hi e=>by rw[e,hz i hi e];grind
 refine⟨t,t0,⟨fun i hi=>?_,?_⟩,qCC zz hk (fun e=>?_) he,zz⟩
 ·by_cases hvi:v i<0
  ·exact hall i hi hvi
  ·have:=qPk (show 0<=t by grind) (show 0<=v i by grind);have:=hw.nn i hi;grind
 ·rw[q3U,wz,h0,hw.one];grind
 ·rw[hz k hk e] at hv;exact absurd hv (by grind)
theorem qpr:∀{n:Nat} {f:Nat->Rat},(∀i,i<n->0<=f i)->su n f=0->∀i,i<n->f i=0
 | 0,_,_,_,i,hi=>by omega
 | n+1,f,h,hs,i,hi=>by
  have a:=qIN (n:=n) (f:=f) (fun i hi=>h i (by omega));have b:=h n (by omega);simp only[su] at hs;by_cases e:i=n
  ·subst e;grind
  ·exact qpr (n:=n) (f:=f) (fun i hi=>h i (by omega)) (by grind) i (by omega)
theorem qrh (n:Nat)(w v:Nat->Rat)(t:Rat)(p:Nat->V3):cen n (fun i=>w i+t*v i) p=⟨(cen n w p).x+t*(cen n v p).x,(cen n w p).y+t*(cen n v p).y,(cen n w p).z+t*(cen n v p).z⟩:=by unfold cen;simp only[V3.mk.injEq];refine⟨?_,?_,?_⟩<;>rw[<-wz,<-q3U]<;>exact qk fun i _=>by grind
end Go.Eng

namespace Go.Eng
variable {n:Nat}{p:Nat->V3}
theorem qKq {v:Nat->Rat}{S:Nat->Prop}(hv:∀i,i<n->¬S i->v i=0){r:Rat}(h0:su n v=0)(h:∀j,j<n->S j->2*qaN (cen n v p) (p j)+r=0):cen n v p=⟨0,0,0⟩:=by
 have e:su n (fun j=>v j*(2*qaN (cen n v p) (p j)+r))=0:=by
  rw[qk (g:=fun _=>0) (fun j hj=>by
   by_cases hs:S j
   ·rw[h j hj hs];grind
   ·rw[hv j hj hs];grind),q8P]
 have e2:su n (fun j=>v j*(2*qaN (cen n v p) (p j)+r))=2*qaN (cen n v p) (cen n v p)+r*su n v:=by rw[<-qDy,<-wz,<-wz,<-q3U];exact qk fun i _=>by grind
 rw[e2,h0] at e;have:d2 (cen n v p) ⟨0,0,0⟩<=0:=by rw[qAz];unfold qaN at *;simp only at *;grind
 exact qBl this
theorem qFF (n:Nat)(p:Nat->V3)(w:Nat->Rat)(h1:su n w=1) :(∃x s,su n x=1/\(∀i,i<n->w i=0->x i=0)/\∀i,i<n->w i≠0->d2 (cen n x p) (p i)=s) \/∃v,(∀i,i<n->w i=0->v i=0)/\su n v=0/\cen n v p=⟨0,0,0⟩/\0<su n (fun i=>v i*qaN (p i) (p i)):=by
 rcases qwO (n+1) (n+1) (fun i j=>if i=n then (if j=n then 0 else 1) else if w i=0 then (if j=i then 1 else 0) else if j=n then 1 else 2*qaN (p i) (p j))
  (fun i=>if i=n then 1 else if w i=0 then 0 else qaN (p i) (p i)) with⟨x,hx⟩|⟨y,h2,h3⟩
 ·left;have xz:∀i,i<n->w i=0->x i=0:=fun i hi hw=>by have:=hx i (by omega);simp only[show ¬i=n by omega,if_false,hw,if_true] at this;rw[q8b (k:=i) _ (by omega) (fun j _ hne=>by rw[if_neg hne];grind)] at this;simpa using this
  have x1:su n x=1:=by have:=hx n (by omega);simp only[if_true,su] at this;rw[qk (g:=x) (fun j hj=>by rw[if_neg (by omega)];grind)] at this;grind
  refine⟨x,qaN (cen n x p) (cen n x p)+x n,x1,xz,fun i hi hw=>?_⟩;have:=hx i (by omega);simp only[show ¬i=n by omega,if_false,hw,su,if_true] at this;rw[qk (g:=fun j=>2*(x j*qaN (p i) (p j))) (fun j hj=>by rw[if_neg (by omega)];grind),wz,qDy] at this;rw[qAz];have sym:qaN (cen n x p) (p i)=qaN (p i) (cen n x p):=by unfold qaN;grind
  rw[sym];grind
 ·right;obtain⟨m,hm⟩:∃m:Nat->Rat,m=fun i=>if w i=0 then 0 else y i:=⟨_,rfl⟩
  have mz:∀i,i<n->w i=0->m i=0:=fun i _ hw=>by rw[hm];simp[hw]
  have m0:su n m=0:=by
   have:=h2 n (by omega);simp only[su,if_true] at this;rw[qk (g:=m) (fun i hi=>by
    rw[hm];by_cases hw:w i=0
    ·simp only[show ¬i=n by omega,show ¬n=i by omega,if_false,hw,if_true];grind
    ·simp only[show ¬i=n by omega,if_false,hw];grind)] at this
   grind
  have md:∀j,j<n->w j≠0->2*qaN (cen n m p) (p j)+y n=0:=fun j hj hw=>by
   have:=h2 j (by omega);simp only[su,if_true,show ¬j=n by omega,if_false] at this;rw[qk (g:=fun i=>2*(m i*qaN (p j) (p i))) (fun i hi=>by
    rw[hm];by_cases hw':w i=0
    ·have hne:¬j=i:=fun e=>hw (e▸hw');simp only[show ¬i=n by omega,if_false,hw',if_true,hne];grind
    ·simp only[show ¬i=n by omega,if_false,hw'];unfold qaN;grind),wz,qDy] at this
   have sym:qaN (cen n m p) (p j)=qaN (p j) (cen n m p):=by unfold qaN;grind
   rw[sym];grind
  have mc:cen n m p=⟨0,0,0⟩:=qKq (S:=fun i=>w i≠0) (r:=y n) (fun i hi hs=>mz i hi (Classical.not_not.1 hs)) m0 md;have yn:y n=0:=by obtain⟨j,hj,hw⟩:=qw1 (n:=n) (f:=w) (by rw[h1];decide);have:=md j hj hw;rw[mc] at this;unfold qaN at this;grind
  have mk:su n (fun i=>m i*qaN (p i) (p i))≠0:=by
   intro e;apply h3;simp only[su,if_true,yn];rw[qk (g:=fun i=>m i*qaN (p i) (p i)) (fun i hi=>by
    rw[hm];by_cases hw:w i=0
    ·simp only[show ¬i=n by omega,if_false,hw,if_true];grind
    ·simp only[show ¬i=n by omega,if_false,hw]),e]
   grind
  by_cases pos:0<su n (fun i=>m i*qaN (p i) (p i))
  ·exact⟨m,mz,m0,mc,pos⟩
  ·refine⟨fun i=>(-1)*m i,fun i hi hw=>by show (-1)*m i=0;rw[mz i hi hw];grind,by rw[wz,m0];grind,?_,?_⟩
   ·have:cen n (fun i=>(-1)*m i) p=⟨(-1)*(cen n m p).x,(-1)*(cen n m p).y,(-1)*(cen n m p).z⟩:=by unfold cen;simp only[V3.mk.injEq];refine⟨?_,?_,?_⟩<;>rw[<-wz]<;>exact qk fun i _=>by grind
    rw[this,mc];simp only[V3.mk.injEq];refine⟨?_,?_,?_⟩<;>grind
   ·rw[qk (g:=fun i=>(-1)*(m i*qaN (p i) (p i))) (fun i _=>by grind),wz];grind
theorem qM4 (n:Nat)(w:Nat->Rat)(p:Nat->V3)(h:su n w=1):en n p w=su n (fun i=>w i*qaN (p i) (p i))-qaN (cen n w p) (cen n w p):=by unfold en;rw[qL4,h];grind
theorem qJZ (n:Nat)(p:Nat->V3):∀(c:Nat) (w:Nat->Rat),Wt n w->cnt n w<=c->∃w' s,qAW n p w' s/\en n p w<=s/\∀i,i<n->w i=0->w' i=0:=by
 intro c;induction c with
 | zero=>
  intro w hw hc;obtain⟨j,hj,hne⟩:=qw1 (n:=n) (f:=w) (by rw[hw.one];decide);have:=qCC (n:=n) (w:=w) (v:=fun _=>0) (k:=j) (fun _ _ _=>rfl) hj hne rfl;omega
 | succ c ih=>
  intro w hw hc;have again:∀v:Nat->Rat,su n v=0->(∀i,i<n->w i=0->v i=0)->(∃k,k<n/\v k<0)->(∀t:Rat,0<t->Wt n (fun i=>w i+t*v i)->en n p w<=en n p (fun i=>w i+t*v i)) ->
    ∃w' s,qAW n p w' s/\en n p w<=s/\∀i,i<n->w i=0->w' i=0:=by
   intro v v0 vz hk he;obtain⟨t,t0,a1,a2,a3⟩:=qFZ hw v0 vz hk;obtain⟨w',s,g1,g2,g3⟩:=ih _ a1 (by omega);exact⟨w',s,g1,Rat.le_trans (he t t0 a1) g2,fun i hi hz=>g3 i hi (a3 i hi hz)⟩
  rcases qFF n p w hw.one with⟨x,s,x1,xz,xs⟩|⟨v,vz,v0,vc,vp⟩
  ·have sw:su n (fun i=>w i*d2 (cen n x p) (p i))=s:=qjK hw.one xs;have e1:=qvX p hw.one (cen n x p);rw[sw] at e1;have dn:=qED (cen n x p) (cen n w p);by_cases hx:∀i,i<n->0<=x i
   ·refine⟨x,s,⟨⟨hx,x1⟩,fun i hi hne=>xs i hi fun e=>hne (xz i hi e)⟩,by grind,xz⟩
   ·obtain⟨k,hk⟩:=qQ4.1 hx;obtain⟨hk,hneg⟩:=qPK.1 hk;refine again (fun i=>x i-w i) (by rw[q8a,x1,hw.one];grind) (fun i hi e=>by rw[xz i hi e,e];grind) ⟨k,hk,by have:=hw.nn k hk;grind⟩ fun t t0 ht=>?_;have t1:t<=1:=by have a:=ht.nn k hk;have b:=hw.nn k hk;apply qOA;intro hh;have c1:=qPk (show 0<=t-1 by grind) b;have c2:=qPL t0 (show 0 < -(x k) by grind);grind
    have sw':su n (fun i=>(w i+t*(x i-w i))*d2 (cen n x p) (p i))=s:=qjK (w:=fun i=>w i+t*(x i-w i)) ht.one fun i hi hne=>xs i hi fun e=>hne (by rw[e,xz i hi e];grind);have e2:=qvX p ht.one (cen n x p);rw[sw'] at e2;have cm:=qrh n w (fun i=>x i-w i) t p;have cx:cen n (fun i=>x i-w i) p=⟨(cen n x p).x-(cen n w p).x,(cen n x p).y-(cen n w p).y,(cen n x p).z-(cen n w p).z⟩:=by unfold cen;simp only[V3.mk.injEq];refine⟨?_,?_,?_⟩<;>rw[<-q8a]<;>exact qk fun i _=>by grind
    have dd:d2 (cen n x p) (cen n (fun i=>w i+t*(x i-w i)) p)=(1-t)*(1-t)*d2 (cen n x p) (cen n w p):=by rw[cm,cx];unfold d2;grind
    rw[dd] at e2;have f1:=qPk (show 0<=t by grind) (show 0<=2-t by grind);have f2:=qPk f1 dn;grind
  ·refine again v v0 vz ?_ fun t t0 ht=>?_
   ·apply qOA;intro hh;have all:∀i,i<n->0<=v i:=fun i hi=>by apply qOA;intro h';exact hh ⟨i,hi,by grind⟩
    have z:=qpr all v0;rw[qk (g:=fun _=>0) (fun i hi=>by rw[z i hi];grind),q8P] at vp;exact absurd vp (by decide)
   ·rw[qM4 n w p hw.one,qM4 n _ p ht.one,qrh,vc];have:su n (fun i=>(w i+t*v i)*qaN (p i) (p i))=su n (fun i=>w i*qaN (p i) (p i))+t*su n (fun i=>v i*qaN (p i) (p i)):=by rw[<-wz,<-q3U];exact qk fun i _=>by grind
    rw[this];have f:=qPL t0 vp;unfold qaN at *;simp only;grind
structure Least (n:Nat) (p:Nat->V3) (w:Nat->Rat) (s:Rat):Prop where
 good:qAW n p w s
 all:∀i,i<n->d2 (cen n w p) (p i)<=s
theorem qGu {w v:Nat->Rat}{s t:Rat}(hw:qAW n p w s)(hv:qAW n p v t)(h:∀i,i<n->(w i=0↔v i=0)):s=t:=by have a:su n (fun i=>w i*d2 (cen n v p) (p i))=t:=qjK hw.1.one fun i hi hne=>hv.2 i hi fun e=>hne ((h i hi).2 e);have b:su n (fun i=>v i*d2 (cen n w p) (p i))=s:=qjK hv.1.one fun i hi hne=>hw.2 i hi fun e=>hne ((h i hi).1 e);rw[qvX p hw.1.one,hw.en] at a;rw[qvX p hv.1.one,hv.en] at b;have:=qED (cen n v p) (cen n w p);have:=qED (cen n w p) (cen n v p);grind
theorem qCU {w:Nat->Rat}{s:Rat}(hw:Least n p w s){c:V3}{r:Rat}(h:∀i,i<n->d2 c (p i)<=r):s+d2 c (cen n w p)<=r:=by
 have a:=qvX p hw.good.1.one c;rw[hw.good.en] at a;have b:0<=su n (fun i=>w i*(r-d2 c (p i))):=qIN fun i hi=>qPk (hw.good.1.nn i hi) (by have:=h i hi;grind);have e:su n (fun i=>w i*(r-d2 c (p i)))=r-su n (fun i=>w i*d2 c (p i)):=by rw[qk (g:=fun i=>r*w i-w i*d2 c (p i)) (fun i _=>by grind),q8a,wz,hw.good.1.one];grind
 grind
theorem qEv {w v:Nat->Rat}{s t:Rat}(hw:Least n p w s)(hv:Least n p v t):s=t/\cen n w p=cen n v p:=by have a:=qCU hw (c:=cen n v p) (r:=t) hv.all;have b:=qCU hv (c:=cen n w p) (r:=s) hw.all;have d1:=qED (cen n v p) (cen n w p);have d3:=qED (cen n w p) (cen n v p);exact⟨by grind,qBl (by grind)⟩
end Go.Eng

namespace Go.Eng
def qNa:Nat->List (Nat->Bool)
 | 0=>[fun _=>false]
 | n+1=>(qNa n).flatMap fun f=>[fun i=>if i=n then true else f i,fun i=>if i=n then false else f i]
theorem qx7:∀(n:Nat) (w:Nat->Rat),∃b∈qNa n,∀i,i<n->(b i=true↔w i≠0)
 | 0,_=>⟨_,qOs.2 rfl,fun i hi=>by omega⟩
 | n+1,w=>by
  obtain⟨b,hb,h⟩:=qx7 n w;by_cases hw:w n=0
  ·refine⟨fun i=>if i=n then false else b i,qPW.2 ⟨b,hb,by simp⟩,fun i hi=>?_⟩;by_cases e:i=n
   ·subst e;simp[hw]
   ·simp only[e,if_false];exact h i (by omega)
  ·refine⟨fun i=>if i=n then true else b i,qPW.2 ⟨b,hb,by simp⟩,fun i hi=>?_⟩;by_cases e:i=n
   ·subst e;simp[hw]
   ·simp only[e,if_false];exact h i (by omega)
theorem qwF(n:Nat)(p:Nat->V3):∀L:List (Nat->Bool),(∃w s,qAW n p w s/\∃b∈L,∀i,i<n->(b i=true↔w i≠0)) ->
  ∃w s,qAW n p w s/\∀w' s',qAW n p w' s'->(∃b∈L,∀i,i<n->(b i=true↔w' i≠0))->s'<=s
 | [],⟨_,_,_,b,hb,_⟩=>by cases hb
 | b::L,⟨w0,s0,g0,b0,hb0,h0⟩=>by
  have same:∀w s w' s',qAW n p w s->qAW n p w' s'->(∀i,i<n->(b i=true↔w i≠0))->(∀i,i<n->(b i=true↔w' i≠0))->s=s':=fun w s w' s' g g' h h'=>qGu g g' fun i hi=>by
   have a:=h i hi;have c:=h' i hi;by_cases e:b i=true
   ·exact⟨fun z=>absurd z (a.1 e),fun z=>absurd z (c.1 e)⟩
   ·exact⟨fun _=>Classical.not_not.1 fun z=>e (c.2 z),fun _=>Classical.not_not.1 fun z=>e (a.2 z)⟩
  by_cases hB:∃w s,qAW n p w s/\∀i,i<n->(b i=true↔w i≠0)
  ·obtain⟨w1,s1,g1,h1⟩:=hB;by_cases hL:∃w s,qAW n p w s/\∃b∈L,∀i,i<n->(b i=true↔w i≠0)
   ·obtain⟨w2,s2,g2,h2⟩:=qwF n p L hL;rcases Rat.le_total (a:=s1) (b:=s2) with hle|hle
    ·refine⟨w2,s2,g2,fun w' s' g' ⟨c,hc,hp⟩=>?_⟩;rcases qOj.1 hc with rfl|hc
     ·rw[<-same w1 s1 w' s' g1 g' h1 hp];exact hle
     ·exact h2 w' s' g' ⟨c,hc,hp⟩
    ·refine⟨w1,s1,g1,fun w' s' g' ⟨c,hc,hp⟩=>?_⟩;rcases qOj.1 hc with rfl|hc
     ·rw[<-same w1 s1 w' s' g1 g' h1 hp];exact Rat.le_refl
     ·exact Rat.le_trans (h2 w' s' g' ⟨c,hc,hp⟩) hle
   ·refine⟨w1,s1,g1,fun w' s' g' ⟨c,hc,hp⟩=>?_⟩;rcases qOj.1 hc with rfl|hc
    ·rw[<-same w1 s1 w' s' g1 g' h1 hp];exact Rat.le_refl
    ·exact absurd ⟨w',s',g',c,hc,hp⟩ hL
  ·have hL:∃w s,qAW n p w s/\∃b∈L,∀i,i<n->(b i=true↔w i≠0):=by
    rcases qOj.1 hb0 with rfl|hb0
    ·exact absurd ⟨w0,s0,g0,h0⟩ hB
    ·exact⟨w0,s0,g0,b0,hb0,h0⟩
   obtain⟨w2,s2,g2,h2⟩:=qwF n p L hL;refine⟨w2,s2,g2,fun w' s' g' ⟨c,hc,hp⟩=>?_⟩;rcases qOj.1 hc with rfl|hc
   ·exact absurd ⟨w',s',g',hp⟩ hB
   ·exact h2 w' s' g' ⟨c,hc,hp⟩
theorem qI6{n k:Nat}(p:Nat->V3)(hk:k<n):cen n (fun i=>if i=k then 1 else 0) p=p k:=by unfold cen;rw[q8b (k:=k) _ hk (fun i _ h=>by simp[h]),q8b (k:=k) _ hk (fun i _ h=>by simp[h]),q8b (k:=k) _ hk (fun i _ h=>by simp[h])];simp only[if_true];rcases hp:p k with⟨x,y,z⟩;simp only[V3.mk.injEq];refine⟨?_,?_,?_⟩<;>grind
theorem qF2{n:Nat}(p:Nat->V3)(hn:0<n):∃w s,Least n p w s:=by
 have unit:∀k,k<n->su n (fun i=>if i=k then (1:Rat) else 0)=1:=fun k hk=>by rw[q8b (k:=k) _ hk (fun i _ h=>by rw[if_neg h])];simp
 have w0:Wt n (fun i=>if i=0 then (1:Rat) else 0):=⟨fun i _=>by
  show (0:Rat)<=if i=0 then 1 else 0
  split<;>decide,unit 0 hn⟩
 obtain⟨w1,s1,g1,_⟩:=qJZ n p _ _ w0 (qO0 _);obtain⟨b,hb,h⟩:=qx7 n w1;obtain⟨w,s,g,hmax⟩:=qwF n p (qNa n) ⟨w1,s1,g1,b,hb,h⟩;refine⟨w,s,g,fun k hk=>?_⟩;apply qOA;intro hh;have hD:s<d2 (cen n w p) (p k):=by grind
 obtain⟨D,eD⟩:∃D,D=d2 (cen n w p) (p k):=⟨_,rfl⟩;rw[<-eD] at hD;have s0:0<=s:=by obtain⟨j,hj,hne⟩:=qw1 (n:=n) (f:=w) (by rw[g.1.one];decide);rw[<-g.2 j hj hne];exact qED _ _
 have Dp:0<D:=by grind
 have inv:(2*D)*(2*D)⁻¹=1:=qPV _ (by grind);have ip:0<(2*D)⁻¹:=Rat.inv_pos.2 (by grind);obtain⟨t,et⟩:∃t,t=(D-s)*(2*D)⁻¹:=⟨_,rfl⟩;have t0:0<t:=by rw[et];exact qPL (by grind) ip
 have tD:t*D*2=D-s:=by rw[et];grind
 have t1:t<=1:=by apply qOA;intro h1;have:=qPL (show 0<t-1 by grind) Dp;grind
 have W:Wt n (fun i=>w i+t*((if i=k then 1 else 0)-w i)):=by
  refine⟨fun i hi=>?_,?_⟩
  ·have a:=qPk (show 0<=1-t by grind) (g.1.nn i hi);by_cases e:i=k
   ·simp only[e,if_true];rw[e] at a;grind
   ·simp only[e,if_false];grind
  ·rw[q3U,wz,q8a,unit k hk,g.1.one];grind
 have e1:=qvX p W.one (cen n w p);have lhs:su n (fun i=>(w i+t*((if i=k then 1 else 0)-w i))*d2 (cen n w p) (p i))=s+t*(D-s):=by
  have a:=qjK (f:=fun i=>d2 (cen n w p) (p i)) g.1.one g.2;have c:su n (fun i=>(if i=k then 1 else 0)*d2 (cen n w p) (p i))=D:=by rw[q8b (k:=k) _ hk (fun i _ h=>by rw[if_neg h];grind),eD];simp
  rw[qk (g:=fun i=>w i*d2 (cen n w p) (p i)+t*((if i=k then 1 else 0)*d2 (cen n w p) (p i)-w i*d2 (cen n w p) (p i))) (fun i _=>by grind),q3U,wz,q8a,a,c]
 have cm:=qrh n w (fun i=>(if i=k then 1 else 0)-w i) t p;have cx:cen n (fun i=>(if i=k then 1 else 0)-w i) p=⟨(p k).x-(cen n w p).x,(p k).y-(cen n w p).y,(p k).z-(cen n w p).z⟩:=by have u:=qI6 p hk;have ux:=congrArg V3.x u;have uy:=congrArg V3.y u;have uz:=congrArg V3.z u;rw[<-ux,<-uy,<-uz];unfold cen;simp only[V3.mk.injEq];refine⟨?_,?_,?_⟩<;>rw[<-q8a]<;>exact qk fun i _=>by grind
 have dd:d2 (cen n w p) (cen n (fun i=>w i+t*((if i=k then 1 else 0)-w i)) p)=t*t*D:=by rw[cm,cx,eD];unfold d2;grind
 rw[lhs,dd] at e1;obtain⟨w',s',g',h',_⟩:=qJZ n p _ _ W (qO0 _);obtain⟨b',hb',hp'⟩:=qx7 n w';have:=hmax w' s' g' ⟨b',hb',hp'⟩;have gain:=qPL t0 (show 0<D-s by grind);have:t*t*D*2=t*(D-s):=by rw[<-tD];grind
 grind
def qLs(n:Nat)(p:Nat->V3)(w:Nat->Rat):Prop:=∀v:Nat->Rat,(∀i,i<n->w i=0->v i=0)->su n v=0->cen n v p=⟨0,0,0⟩->∀i,i<n->v i=0
theorem qBQ{n:Nat}{p:Nat->V3}:∀(c:Nat) {w:Nat->Rat} {s:Rat},Least n p w s->cnt n w<=c->∃w',Least n p w' s/\qLs n p w':=by
 intro c;induction c with
 | zero=>
  intro w s hw hc;obtain⟨j,hj,hne⟩:=qw1 (n:=n) (f:=w) (by rw[hw.good.1.one];decide);have:=qCC (n:=n) (w:=w) (v:=fun _=>0) (k:=j) (fun _ _ _=>rfl) hj hne rfl;omega
 | succ c ih=>
  intro w s hw hc;by_cases hi:qLs n p w
  ·exact⟨w,hw,hi⟩
  ·unfold qLs at hi;obtain⟨v,hv⟩:=qQ4.1 hi;obtain⟨vz,hv⟩:=qPK.1 hv;obtain⟨v0,hv⟩:=qPK.1 hv;obtain⟨vc,hv⟩:=qPK.1 hv;have neg:∃k,k<n/\v k<0:=by apply qOA;intro hh;exact hv (qpr (fun i hi=>by apply qOA;intro h';exact hh ⟨i,hi,by grind⟩) v0)
   obtain⟨t,t0,a1,a2,a3⟩:=qFZ hw.good.1 v0 vz neg;have cs:cen n (fun i=>w i+t*v i) p=cen n w p:=by rw[qrh,vc];rcases hcw:cen n w p with⟨x,y,z⟩;simp only[V3.mk.injEq];refine⟨?_,?_,?_⟩<;>grind
   refine ih (w:=fun i=>w i+t*v i) (s:=s) ⟨⟨a1,fun i hi hne=>?_⟩,fun i hi=>?_⟩ (by omega)
   ·rw[cs];exact hw.good.2 i hi fun e=>hne (a3 i hi e)
   ·rw[cs];exact hw.all i hi
variable {p:Nat->V3}
theorem kernel:∀(m n:Nat) (M:Nat->Nat->Rat),m<n->∃x:Nat->Rat,(∃j,j<n/\x j≠0)/\∀i,i<m->su n (fun j=>M i j*x j)=0
 | 0,n,_,h=>⟨fun _=>1,⟨0,h,by decide⟩,fun i hi=>by omega⟩
 | m+1,0,_,h=>by omega
 | m+1,n+1,M,h=>by
  by_cases hz:∀i,i<m+1->M i n=0
  ·refine⟨fun j=>if j=n then 1 else 0,⟨n,by omega,by simp⟩,fun i hi=>?_⟩;rw[q8b (k:=n) _ (by omega) (fun j _ hne=>by simp[hne])];simp[hz i hi]
  ·obtain⟨k,hk⟩:=qQ4.1 hz;obtain⟨hk,ha⟩:=qPK.1 hk;have inv:M k n*(M k n)⁻¹=1:=qPV _ ha;obtain⟨x,⟨j,hj,hx⟩,he⟩:=kernel m n (fun i j=>M (if i=k then m else i) j-M (if i=k then m else i) n*(M k n)⁻¹*M k j) (by omega);refine⟨fun j=>if j=n then -((M k n)⁻¹*su n (fun j=>M k j*x j)) else x j,⟨j,by omega,by simpa[show j≠n by omega] using hx⟩,fun i hi=>?_⟩;simp only[su,if_true];rw[qk (g:=fun j=>M i j*x j) (fun j hj=>by rw[if_neg (by omega)])];by_cases hik:i=k
   ·subst hik;grind
   ·have e:∃i',i'<m/\(if i'=k then m else i')=i:=by
     by_cases him:i=m
     ·exact⟨k,by omega,by simp[him]⟩
     ·exact⟨i,by omega,by simp[hik]⟩
    obtain⟨i',hi',e⟩:=e;have q:=he i' hi';simp only[e] at q;rw[qk (g:=fun j=>M i j*x j-M i n*(M k n)⁻¹*(M k j*x j)) (fun j _=>by grind),q8a,wz] at q;grind
theorem qxw {n q:Nat}{L:Nat->Nat}(hL:∀j,j<q->L j<n)(u f:Nat->Rat):su n (fun i=>su q (fun j=>if L j=i then u j else 0)*f i)=su q (fun j=>u j*f (L j)):=by rw[qk (g:=fun i=>su q (fun j=>(if L j=i then u j else 0)*f i)) (fun i _=>by rw[show su q (fun j=>if L j=i then u j else 0)*f i=f i*su q (fun j=>if L j=i then u j else 0) from by grind,<-wz];exact qk fun j _=>by grind),qC8];refine qk fun j hj=>?_;rw[q8b (k:=L j) _ (hL j hj) (fun i _ hne=>by simp[show ¬L j=i from fun e=>hne e.symm])];simp
theorem qxU {n q:Nat}{L:Nat->Nat}(hL:∀j,j<q->L j<n)(u:Nat->Rat):su n (fun i=>su q (fun j=>if L j=i then u j else 0))=su q u:=by have:=qxw hL u (fun _=>1);rw[qk (g:=fun i=>su q (fun j=>if L j=i then u j else 0)) (fun i _=>by grind)] at this;rw[this];exact qk fun j _=>by grind
theorem qMY {q:Nat}{L:Nat->Nat}(inj:∀j k,j<q->k<q->L j=L k->j=k)(u:Nat->Rat){k:Nat}(hk:k<q):su q (fun j=>if L j=L k then u j else 0)=u k:=by rw[q8b (k:=k) _ hk (fun j hj hne=>by rw[if_neg fun e=>hne (inj j k hj hk e)])];simp
theorem qr2 {n q:Nat}{L:Nat->Nat}(hL:∀j,j<q->L j<n)(u:Nat->Rat)(p:Nat->V3):cen n (fun i=>su q (fun j=>if L j=i then u j else 0)) p=cen q u (fun j=>p (L j)):=by unfold cen;rw[qxw hL,qxw hL,qxw hL]
def qNC(q:Nat)(p:Nat->V3)(L:Nat->Nat):Prop:=∀u:Nat->Rat,su q u=0->cen q u (fun j=>p (L j))=⟨0,0,0⟩->∀j,j<q->u j=0
theorem qJg {q:Nat}{L:Nat->Nat}(h:qNC q p L):q<=4:=by
 apply qOA;intro hq;obtain⟨u,⟨j,hj,hne⟩,he⟩:=kernel 4 q (fun i j=>if i=0 then 1 else if i=1 then (p (L j)).x else if i=2 then (p (L j)).y else (p (L j)).z) (by omega);refine hne (h u ?_ ?_ j hj)
 ·have:=he 0 (by omega);simp only[if_true] at this;rw[<-this];exact qk fun i _=>by grind
 ·have e1:=he 1 (by omega);have e2:=he 2 (by omega);have e3:=he 3 (by omega);simp only[show ¬(1=0) by omega,show ¬(2=0) by omega,show ¬(3=0) by omega,show ¬(2=1) by omega,show ¬(3=1) by omega,show ¬(3=2) by omega,if_true,if_false] at e1 e2 e3;unfold cen;simp only[V3.mk.injEq];refine⟨?_,?_,?_⟩
  ·rw[<-e1];exact qk fun i _=>by grind
  ·rw[<-e2];exact qk fun i _=>by grind
  ·rw[<-e3];exact qk fun i _=>by grind
theorem qHy {q:Nat}{L:Nat->Nat}(h:qNC q p L)(hz:∀j,j<q->(p (L j)).z=0):q<=3:=by
 apply qOA;intro hq;obtain⟨u,⟨j,hj,hne⟩,he⟩:=kernel 3 q (fun i j=>if i=0 then 1 else if i=1 then (p (L j)).x else (p (L j)).y) (by omega);refine hne (h u ?_ ?_ j hj)
 ·have:=he 0 (by omega);simp only[if_true] at this;rw[<-this];exact qk fun i _=>by grind
 ·have e1:=he 1 (by omega);have e2:=he 2 (by omega);simp only[show ¬(1=0) by omega,show ¬(2=0) by omega,show ¬(2=1) by omega,if_true,if_false] at e1 e2;unfold cen;simp only[V3.mk.injEq];refine⟨?_,?_,?_⟩
  ·rw[<-e1];exact qk fun i _=>by grind
  ·rw[<-e2];exact qk fun i _=>by grind
  ·rw[qk (g:=fun _=>0) (fun i hi=>by rw[hz i hi];grind),q8P]
def Asc(q:Nat)(L:Nat->Nat):Prop:=∀j k,j<k->k<q->L j<L k
theorem Asc.inj {q:Nat}{L:Nat->Nat}(h:Asc q L):∀j k,j<q->k<q->L j=L k->j=k:=fun j k hj hk e=>by
 rcases Nat.lt_trichotomy j k with hh|hh|hh
 ·have:=h j k hh hk;omega
 ·exact hh
 ·have:=h k j hh hj;omega
theorem qq8:∀(n:Nat) (w:Nat->Rat),∃(q:Nat) (L:Nat->Nat),q<=n/\Asc q L/\(∀j,j<q->L j<n/\w (L j)≠0)/\∀i,i<n->w i≠0->∃j,j<q/\L j=i
 | 0,_=>⟨0,fun _=>0,by omega,fun j k _ hk=>by omega,fun j hj=>by omega,fun i hi=>by omega⟩
 | n+1,w=>by
  obtain⟨q,L,h0,h1,h2,h3⟩:=qq8 n w;by_cases hw:w n=0
  ·refine⟨q,L,by omega,h1,fun j hj=>⟨by have:=(h2 j hj).1;omega,(h2 j hj).2⟩,fun i hi hne=>?_⟩;by_cases e:i=n
   ·subst e;exact absurd hw hne
   ·exact h3 i (by omega) hne
  ·refine⟨q+1,fun j=>if j=q then n else L j,by omega,fun j k hjk hk=>?_,fun j hj=>?_,fun i hi hne=>?_⟩
   ·simp only[show ¬j=q by omega,if_false];by_cases e:k=q
    ·simp only[e,if_true];exact(h2 j (by omega)).1
    ·simp only[e,if_false];exact h1 j k hjk (by omega)
   ·by_cases e:j=q
    ·simp only[e,if_true];exact⟨by omega,hw⟩
    ·simp only[e,if_false];have:=h2 j (by omega);exact⟨by omega,this.2⟩
   ·by_cases e:i=n
    ·exact⟨q,by omega,by simp[e]⟩
    ·obtain⟨j,hj,hL⟩:=h3 i (by omega) hne;exact⟨j,by omega,by simp only[show ¬j=q by omega,if_false];exact hL⟩
structure Sup (n:Nat) (p:Nat->V3) (q:Nat) (L:Nat->Nat) (u:Nat->Rat) (s:Rat):Prop where
 lt:∀j,j<q->L j<n
 asc:Asc q L
 ind:qNC q p L
 one:su q u=1
 eq:∀j,j<q->d2 (cen q u fun j=>p (L j)) (p (L j))=s
 nn:∀j,j<q->0<=u j
 all:∀i,i<n->d2 (cen q u fun j=>p (L j)) (p i)<=s
theorem Sup.least {n q:Nat}{L:Nat->Nat}{u:Nat->Rat}{s:Rat}(h:Sup n p q L u s):Least n p (fun i=>su q (fun j=>if L j=i then u j else 0)) s:=by
 have c:=qr2 h.lt u p;refine⟨⟨⟨fun i _=>qIN fun j hj=>?_,by rw[qxU h.lt];exact h.one⟩,fun i hi hne=>?_⟩,fun i hi=>by rw[c];exact h.all i hi⟩
 ·show (0:Rat)<=if L j=i then u j else 0
  split
  ·exact h.nn j hj
  ·exact Rat.le_refl
 ·rw[c];obtain⟨j,hj,hz⟩:=qw1 hne;by_cases e:L j=i
  ·rw[<-e];exact h.eq j hj
  ·exact absurd (if_neg e) hz
theorem qMg {n:Nat}(p:Nat->V3)(hn:0<n):∃q L u s,Sup n p q L u s/\0<q:=by
 obtain⟨w0,s,h0⟩:=qF2 p hn;obtain⟨w,hw,hi⟩:=qBQ _ h0 (qO0 _);obtain⟨q,L,_,h1,h2,h3⟩:=qq8 n w;have e:∀i,i<n->su q (fun j=>if L j=i then w (L j) else 0)=w i:=fun i hi=>by
  by_cases hz:w i=0
  ·rw[qk (g:=fun _=>0) (fun j hj=>by
    by_cases e:L j=i
    ·rw[e,hz];simp
    ·rw[if_neg e]),q8P,hz]
  ·obtain⟨k,hk,hL⟩:=h3 i hi hz;rw[<-hL,qMY h1.inj (fun j=>w (L j)) hk]
 have lt:∀j,j<q->L j<n:=fun j hj=>(h2 j hj).1;have c:cen q (fun j=>w (L j)) (fun j=>p (L j))=cen n w p:=by rw[<-qr2 lt (fun j=>w (L j)) p];unfold cen;simp only[V3.mk.injEq];refine⟨?_,?_,?_⟩<;>exact qk fun i hi=>by rw[e i hi]
 have one:su q (fun j=>w (L j))=1:=by rw[<-qxU lt (fun j=>w (L j)),qk e,hw.good.1.one]
 refine⟨q,L,fun j=>w (L j),s,⟨lt,h1,fun u hu hc j hj=>?_,one,fun j hj=>by rw[c];exact hw.good.2 _ (lt j hj) (h2 j hj).2,fun j hj=>hw.good.1.nn _ (lt j hj),fun i hi=>by rw[c];exact hw.all i hi⟩,?_⟩
 ·have:=hi (fun i=>su q (fun j=>if L j=i then u j else 0)) (fun i _ hz=>by rw[qk (g:=fun _=>0) (fun j hj=>by rw[if_neg (fun e:L j=_=>(h2 j hj).2 (by rw[e];exact hz))]),q8P]) (by rw[qxU lt,hu]) (by rw[qr2 lt,hc]) (L j) (lt j hj);rw[qMY h1.inj u hj] at this;exact this
 ·apply Nat.pos_of_ne_zero;intro hq;subst hq;have z:(0:Rat)=1:=one;exact absurd z (by decide)
end Go.Eng

namespace Go.Eng
theorem Sup.cen_eq{n:Nat}{p:Nat->V3}{q:Nat}{L:Nat->Nat}{u:Nat->Rat}{s:Rat}(h:Sup n p q L u s):cen n (fun i=>su q (fun j=>if L j=i then u j else 0)) p=cen q u fun j=>p (L j):=qr2 h.lt u p
theorem qJk{n:Nat}{p:Nat->V3}{q q':Nat}{L L':Nat->Nat}{u u':Nat->Rat}{s s':Rat}(h:Sup n p q L u s)(h':Sup n p q' L' u' s'):s=s'/\cen q u (fun j=>p (L j))=cen q' u' (fun j=>p (L' j)):=by have:=qEv h.least h'.least;rw[h.cen_eq,h'.cen_eq] at this;exact this
def wts(t:Nat->Rat)(k:Nat):Nat->Rat:=fun j=>if j=0 then 1-su k t else t (j-1)
theorem qcg:∀(k:Nat) (f:Nat->Rat),su (k+1) f=f 0+su k (fun j=>f (j+1))
 | 0,f=>by simp only[su];grind
 | k+1,f=>by
  rw[su,qcg k f];simp only[su];grind
theorem qMm(t:Nat->Rat)(k:Nat):su (k+1) (wts t k)=1:=by rw[qcg];unfold wts;rw[qk (g:=t) (fun j _=>by simp)];simp only[if_true];grind
def qve(c:Nat->V3)(i k:Nat):Rat:=2*qaN ⟨(c (i+1)).x-(c 0).x,(c (i+1)).y-(c 0).y,(c (i+1)).z-(c 0).z⟩ ⟨(c (k+1)).x-(c 0).x,(c (k+1)).y-(c 0).y,(c (k+1)).z-(c 0).z⟩
theorem qKx(t:Nat->Rat)(k:Nat)(c:Nat->V3):cen (k+1) (wts t k) c=⟨(c 0).x+su k (fun j=>t j*((c (j+1)).x-(c 0).x)),(c 0).y+su k (fun j=>t j*((c (j+1)).y-(c 0).y)),(c 0).z+su k (fun j=>t j*((c (j+1)).z-(c 0).z))⟩:=by
 have key:∀f:Nat->Rat,su (k+1) (fun j=>wts t k j*f j)=f 0+su k (fun j=>t j*(f (j+1)-f 0)):=fun f=>by
  rw[qcg,qk (g:=fun j=>t j*f (j+1)) (fun j _=>by unfold wts;simp)];have e:su k (fun j=>t j*(f (j+1)-f 0))=su k (fun j=>t j*f (j+1))-f 0*su k t:=by rw[<-wz,<-q8a];exact qk fun j _=>by grind
  rw[e];unfold wts;simp only[if_true];grind
 unfold cen;rw[key fun j=>(c j).x,key fun j=>(c j).y,key fun j=>(c j).z]
theorem qDu(t:Nat->Rat)(k:Nat)(c:Nat->V3)(i:Nat):su k (fun j=>qve c i j*t j)=d2 (c 0) (c (i+1))+d2 (cen (k+1) (wts t k) c) (c 0)-d2 (cen (k+1) (wts t k) c) (c (i+1)):=by
 rw[qKx];have e:su k (fun j=>qve c i j*t j)=2*(((c (i+1)).x-(c 0).x)*su k (fun j=>t j*((c (j+1)).x-(c 0).x))+((c (i+1)).y-(c 0).y)*su k (fun j=>t j*((c (j+1)).y-(c 0).y))+((c (i+1)).z-(c 0).z)*su k (fun j=>t j*((c (j+1)).z-(c 0).z))):=by rw[<-wz,<-wz,<-wz,<-q3U,<-q3U,<-wz];exact qk fun j _=>by unfold qve qaN;grind
 rw[e];unfold d2;simp only;grind
theorem qCI(t:Nat->Rat)(k:Nat)(c:Nat->V3):(∀i,i<k->su k (fun j=>qve c i j*t j)=d2 (c 0) (c (i+1)))↔∀j,j<k+1->d2 (cen (k+1) (wts t k) c) (c j)=d2 (cen (k+1) (wts t k) c) (c 0):=by
 constructor
 ·intro h j hj;cases j with
  | zero=>rfl
  | succ i=>
   have:=h i (by omega);rw[qDu] at this;grind
 ·intro h i hi;have:=h (i+1) (by omega);rw[qDu,this];grind
def swI(a b i:Nat):Nat:=if i=a then b else if i=b then a else i
theorem qwe{a b i k:Nat}(ha:a<k)(hb:b<k)(hi:i<k):swI a b i<k:=by unfold swI;split<;>(try split)<;>omega
theorem qHD(a b i:Nat):swI a b (swI a b i)=i:=by
 unfold swI;by_cases h1:i=a
 ·subst h1;by_cases h2:b=i
  ·simp[h2]
  ·simp[h2]
 ·by_cases h2:i=b
  ·subst h2;simp[h1]
  ·simp[h1,h2]
def gs(c i0:Nat)(M:Nat->Nat->Rat):Nat->Nat->Rat:=fun i j=>if i=c then M i0 j*(M i0 c)⁻¹ else M (swI c i0 i) j-M (swI c i0 i) c*(M i0 j*(M i0 c)⁻¹)
def gsb(c i0:Nat)(M:Nat->Nat->Rat)(b:Nat->Rat):Nat->Rat:=fun i=>if i=c then b i0*(M i0 c)⁻¹ else b (swI c i0 i)-M (swI c i0 i) c*(b i0*(M i0 c)⁻¹)
theorem qFX(k c i0:Nat)(M:Nat->Nat->Rat)(x:Nat->Rat)(i:Nat):su k (fun j=>gs c i0 M i j*x j)=gsb c i0 M (fun i=>su k fun j=>M i j*x j) i:=by
 unfold gs gsb;by_cases h:i=c
 ·simp only[h,if_true];rw[qk (g:=fun j=>(M i0 c)⁻¹*(M i0 j*x j)) (fun j _=>by grind),wz];grind
 ·simp only[h,if_false];rw[qk (g:=fun j=>M (swI c i0 i) j*x j-(M (swI c i0 i) c*(M i0 c)⁻¹)*(M i0 j*x j)) (fun j _=>by grind),q8a,wz];grind
theorem qKa{k c i0:Nat}{M:Nat->Nat->Rat}{b x:Nat->Rat}(hc:c<k)(hi0:i0<k)(hp:M i0 c≠0):qkE k k (gs c i0 M) (gsb c i0 M b) x↔qkE k k M b x:=by
 have inv:M i0 c*(M i0 c)⁻¹=1:=qPV _ hp;constructor
 ·intro h;have h0:su k (fun j=>M i0 j*x j)=b i0:=by have:=h c hc;rw[qFX] at this;unfold gsb at this;simp only[if_true] at this;grind
  intro i hi;by_cases e:i=i0
  ·rw[e];exact h0
  ·have:=h (swI c i0 i) (qwe hc hi0 hi);rw[qFX] at this;unfold gsb at this;have ne:swI c i0 i≠c:=by intro z;have:=qHD c i0 i;rw[z] at this;unfold swI at this;simp at this;exact e this.symm
   simp only[ne,if_false,qHD] at this;rw[h0] at this;grind
 ·intro h i hi;rw[qFX];unfold gsb;have h0:=h i0 hi0;by_cases e:i=c
  ·simp only[e,if_true];rw[h0]
  ·simp only[e,if_false];rw[h0,h _ (qwe hc hi0 hi)]
def qvz(k c:Nat)(M:Nat->Nat->Rat):Prop:=∀i j,i<k->j<c->M i j=if i=j then 1 else 0
theorem qFU{k c i0:Nat}{M:Nat->Nat->Rat}(h:qvz k c M)(hc:c<k)(hci:c<=i0)(hi0:i0<k)(hp:M i0 c≠0):qvz k (c+1) (gs c i0 M):=by
 have inv:M i0 c*(M i0 c)⁻¹=1:=qPV _ hp;intro i j hi hj;unfold gs;by_cases e:j=c
 ·subst e;by_cases ei:i=j
  ·simp only[ei,if_true];exact inv
  ·simp only[ei,if_false];grind
 ·have hj':j<c:=by omega
  have z0:M i0 j=0:=by rw[h i0 j hi0 hj',if_neg (by omega)]
  by_cases ei:i=c
  ·simp only[ei,if_true];rw[z0,if_neg (by omega)];grind
  ·simp only[ei,if_false];rw[z0,h _ j (qwe hc hi0 hi) hj'];unfold swI;by_cases e0:i=i0
   ·subst e0;simp only[ei,if_false,if_true];rw[if_neg (show ¬c=j by omega),if_neg (show ¬i=j by omega)];grind
   ·simp only[ei,e0,if_false];grind
def q4n(k:Nat)(pv:Nat->(Nat->Nat->Rat)->Option Nat):Nat->Nat->(Nat->Nat->Rat)->Option (Nat->Nat->Rat)
 | 0,_,M=>some M
 | m+1,c,M=>match pv c M with
  | none=>none
  | some i0=>q4n k pv m (c+1) (gs c i0 M)
structure Pivots (k:Nat) (pv:Nat->(Nat->Nat->Rat)->Option Nat):Prop where
 some:∀c M i,c<k->pv c M=some i->c<=i/\i<k/\M i c≠0
 none:∀c M i,pv c M=none->c<=i->i<k->M i c=0
theorem qjI{k:Nat}{pv:Nat->(Nat->Nat->Rat)->Option Nat}(hpv:Pivots k pv):∀(m c:Nat) (M N:Nat->Nat->Rat),c+m=k->qvz k c M->q4n k pv m c M=some N ->
  qvz k k N/\∀r x,qkE k k N (fun i=>N i r) x↔qkE k k M (fun i=>M i r) x
 | 0,c,M,N,hc,hu,h=>by
  simp only[q4n,qNY] at h;subst h;have:c=k:=by omega
  subst this;exact⟨hu,fun _ _=>Iff.rfl⟩
 | m+1,c,M,N,hc,hu,h=>by
  simp only[q4n] at h;cases hp:pv c M with
  | none=>rw[hp] at h;cases h
  | some i0=>
   rw[hp] at h;obtain⟨p1,p2,p3⟩:=hpv.some c M i0 (by omega) hp;obtain⟨q1,q2⟩:=qjI hpv m (c+1) _ N (by omega) (qFU hu (by omega) p1 p2 p3) h;refine⟨q1,fun r x=>(q2 r x).trans ?_⟩;exact qKa (b:=fun i=>M i r) (by omega) p2 p3
theorem qp0{k:Nat}{pv:Nat->(Nat->Nat->Rat)->Option Nat}(hpv:Pivots k pv):∀(m c:Nat) (M:Nat->Nat->Rat),c+m=k->qvz k c M->q4n k pv m c M=none ->
  ∃x:Nat->Rat,(∃j,j<k/\x j≠0)/\qkE k k M (fun _=>0) x
 | 0,c,M,hc,hu,h=>by simp only[q4n] at h;cases h
 | m+1,c,M,hc,hu,h=>by
  simp only[q4n] at h;cases hp:pv c M with
  | none=>
   refine⟨fun j=>(if j<c then -(M j c) else 0)+(if j=c then 1 else 0),⟨c,by omega,by show (if c<c then -(M c c) else 0)+(if c=c then 1 else 0)≠(0:Rat);rw[if_neg (by omega),if_pos rfl];intro z;grind⟩,fun i hi=>?_⟩;show su k (fun j=>M i j*((if j<c then -(M j c) else 0)+(if j=c then 1 else 0)))=0;rw[qk (g:=fun j=>M i j*(if j<c then -(M j c) else 0)+M i j*(if j=c then 1 else 0)) (fun j _=>by grind),q3U];have e2:su k (fun j=>M i j*(if j=c then 1 else 0))=M i c:=by rw[q8b (k:=c) _ (by omega) (fun j _ hne=>by simp[hne])];simp
   rw[e2];by_cases h3:i<c
   ·rw[q8b (k:=i) _ hi (fun j hj hne=>by
     by_cases hj':j<c
     ·rw[hu i j hi hj',if_neg (fun z=>hne z.symm)];grind
     ·rw[if_neg hj'];grind),if_pos h3,hu i i hi h3,if_pos rfl];grind
   ·rw[qk (g:=fun _=>0) (fun j hj=>by
     by_cases hj':j<c
     ·rw[hu i j hi hj',if_neg (by omega)];grind
     ·rw[if_neg hj'];grind),q8P,hpv.none c M i hp (by omega) hi];grind
  | some i0=>
   rw[hp] at h;obtain⟨p1,p2,p3⟩:=hpv.some c M i0 (by omega) hp;obtain⟨x,hx,hs⟩:=qp0 hpv m (c+1) _ (by omega) (qFU hu (by omega) p1 p2 p3) h;refine⟨x,hx,(qKa (b:=fun _=>0) (by omega) p2 p3).1 ?_⟩;intro i hi;rw[hs i hi];unfold gsb;split<;>grind
theorem qaA{k:Nat}{N:Nat->Nat->Rat}(h:qvz k k N)(b x:Nat->Rat):qkE k k N b x↔∀i,i<k->x i=b i:=by
 have e:∀i,i<k->su k (fun j=>N i j*x j)=x i:=fun i hi=>by rw[q8b (k:=i) _ hi (fun j hj hne=>by rw[h i j hi hj,if_neg (fun z=>hne z.symm)];grind),h i i hi hi,if_pos rfl];grind
 constructor
 ·intro hs i hi;rw[<-e i hi];exact hs i hi
 ·intro hs i hi;rw[e i hi];exact hs i hi
variable {k:Nat}
def Ind(q:Nat)(c:Nat->V3):Prop:=∀u:Nat->Rat,su q u=0->cen q u c=⟨0,0,0⟩->∀j,j<q->u j=0
def dif(c:Nat->V3)(t:Nat->Rat)(k:Nat):V3:=⟨su k fun j=>t j*((c (j+1)).x-(c 0).x),su k fun j=>t j*((c (j+1)).y-(c 0).y),su k fun j=>t j*((c (j+1)).z-(c 0).z)⟩
theorem qCD (c:Nat->V3)(t:Nat->Rat)(k i:Nat):su k (fun j=>qve c i j*t j)=2*(((c (i+1)).x-(c 0).x)*(dif c t k).x+((c (i+1)).y-(c 0).y)*(dif c t k).y+((c (i+1)).z-(c 0).z)*(dif c t k).z):=by unfold dif;simp only;rw[<-wz,<-wz,<-wz,<-q3U,<-q3U,<-wz];exact qk fun j _=>by unfold qve qaN;grind
theorem qGF (c:Nat->V3)(u:Nat->Rat)(k:Nat)(h:su (k+1) u=0):cen (k+1) u c=dif c (fun j=>u (j+1)) k:=by
 have key:∀f:Nat->Rat,su (k+1) (fun j=>u j*f j)=su k (fun j=>u (j+1)*(f (j+1)-f 0)):=fun f=>by
  have e:su k (fun j=>u (j+1)*(f (j+1)-f 0))=su k (fun j=>u (j+1)*f (j+1))-f 0*su k (fun j=>u (j+1)):=by rw[<-wz,<-q8a];exact qk fun j _=>by grind
  rw[qcg] at h;rw[qcg,e];grind
 unfold cen dif;rw[key fun j=>(c j).x,key fun j=>(c j).y,key fun j=>(c j).z]
theorem qad {c:Nat->V3}:Ind (k+1) c↔∀t:Nat->Rat,(∀i,i<k->su k (fun j=>qve c i j*t j)=0)->∀j,j<k->t j=0:=by
 constructor
 ·intro h t ht j hj;obtain⟨u,hu⟩:∃u:Nat->Rat,u=fun j=>if j=0 then -(su k t) else t (j-1):=⟨_,rfl⟩
  have us:(fun j=>u (j+1))=t:=by funext j;rw[hu];simp
  have u0:su (k+1) u=0:=by rw[qcg,us,hu];simp;try grind
  have dz:dif c t k=⟨0,0,0⟩:=by
   have e:su k (fun i=>t i*su k (fun j=>qve c i j*t j))=0:=by rw[qk (g:=fun _=>0) (fun i hi=>by rw[ht i hi];grind),q8P]
   have e2:su k (fun i=>t i*su k (fun j=>qve c i j*t j))=2*qaN (dif c t k) (dif c t k):=by rw[qk (g:=fun i=>2*((dif c t k).x*(t i*((c (i+1)).x-(c 0).x))+(dif c t k).y*(t i*((c (i+1)).y-(c 0).y))+(dif c t k).z*(t i*((c (i+1)).z-(c 0).z)))) (fun i _=>by rw[qCD];grind),wz,q3U,q3U,wz,wz,wz];unfold qaN dif;grind
   rw[e2] at e;have:d2 (dif c t k) ⟨0,0,0⟩<=0:=by rw[qAz];unfold qaN at *;simp only at *;grind
   exact qBl this
  have:=h u u0 (by rw[qGF c u k u0,us,dz]) (j+1) (by omega);rw[hu] at this;simpa using this
 ·intro h u u0 hc j hj;have d:dif c (fun j=>u (j+1)) k=⟨0,0,0⟩:=by rw[<-qGF c u k u0,hc]
  have z:=h (fun j=>u (j+1)) fun i _=>by rw[qCD,d];grind
  cases j with
  | zero=>
   rw[qcg,qk (g:=fun _=>0) (fun j hj=>z j hj),q8P] at u0;grind
  | succ j=>exact z j (by omega)
structure Bl (k:Nat) (c:Nat->V3) (t:Nat->Rat):Prop where
 ind:Ind (k+1) c
 eq:∀i,i<k->su k (fun j=>qve c i j*t j)=d2 (c 0) (c (i+1))
theorem qLb {c:Nat->V3}{t t':Nat->Rat}(h:Bl k c t)(h':Bl k c t'):∀j,j<k->t j=t' j:=fun j hj=>by have:=qad.1 h.ind (fun j=>t j-t' j) (fun i hi=>by rw[qk (g:=fun j=>qve c i j*t j-qve c i j*t' j) (fun j _=>by grind),q8a,h.eq i hi,h'.eq i hi];grind) j hj;grind
def qtR(c:Nat->V3)(k:Nat):Nat->Nat->Rat:=fun i j=>if j=k then d2 (c 0) (c (i+1)) else qve c i j
theorem qyg (c:Nat->V3)(k i:Nat)(x:Nat->Rat):su k (fun j=>qtR c k i j*x j)=su k (fun j=>qve c i j*x j):=qk fun j hj=>by unfold qtR;rw[if_neg (by omega)]
theorem qG6 {c:Nat->V3}{pv:Nat->(Nat->Nat->Rat)->Option Nat}(hpv:Pivots k pv){N:Nat->Nat->Rat}(h:q4n k pv k 0 (qtR c k)=some N):Bl k c fun i=>N i k:=by
 obtain⟨h1,h2⟩:=qjI hpv k 0 _ N (by omega) (fun i j _ hj=>by omega) h;have sol:qkE k k (qtR c k) (fun i=>qtR c k i k) (fun i=>N i k):=(h2 k _).1 ((qaA h1 _ _).2 fun i _=>rfl);refine⟨qad.2 fun t ht j hj=>?_,fun i hi=>?_⟩
 ·have s2:qkE k k (qtR c k) (fun i=>qtR c k i k) (fun i=>N i k+t i):=fun i hi=>by have a:=sol i hi;have b:=ht i hi;rw[<-qyg] at b;rw[qk (g:=fun j=>qtR c k i j*N j k+qtR c k i j*t j) (fun j _=>by grind),q3U,b,a];grind
  have:=(qaA h1 _ _).1 ((h2 k _).2 s2) j hj;grind
 ·have:=sol i hi;rw[qyg] at this;rw[this];unfold qtR;simp
theorem qF7 {c:Nat->V3}{pv:Nat->(Nat->Nat->Rat)->Option Nat}(hpv:Pivots k pv)(h:q4n k pv k 0 (qtR c k)=none):¬Ind (k+1) c:=by obtain⟨x,⟨j,hj,hne⟩,hs⟩:=qp0 hpv k 0 _ (by omega) (fun i j _ hj=>by omega) h;intro hi;exact hne (qad.1 hi x (fun i hi=>by rw[<-qyg];exact hs i hi) j hj)
theorem qIM {n:Nat}{p:Nat->V3}{L:Nat->Nat}{u:Nat->Rat}{s:Rat}(h:Sup n p (k+1) L u s):Bl k (fun j=>p (L j)) (fun j=>u (j+1))/\∀j,j<k+1->u j=wts (fun j=>u (j+1)) k j:=by
 have e:∀j,j<k+1->u j=wts (fun j=>u (j+1)) k j:=fun j hj=>by
  have:=h.one;rw[qcg] at this;unfold wts;cases j with
  | zero=>simp only[if_true];grind
  | succ j=>simp
 refine⟨⟨h.ind,(qCI _ k _).2 fun j hj=>?_⟩,e⟩;have c:cen (k+1) (wts (fun j=>u (j+1)) k) (fun j=>p (L j))=cen (k+1) u fun j=>p (L j):=by unfold cen;simp only[V3.mk.injEq];refine⟨?_,?_,?_⟩<;>exact qk fun i hi=>by rw[<-e i hi]
 rw[c,h.eq j hj,h.eq 0 (by omega)]
theorem qIv {n:Nat}{p:Nat->V3}{L:Nat->Nat}{t:Nat->Rat}(h:Bl k (fun j=>p (L j)) t)(lt:∀j,j<k+1->L j<n)(asc:Asc (k+1) L)(nn:∀j,j<k+1->0<=wts t k j)(all:∀i,i<n->d2 (cen (k+1) (wts t k) fun j=>p (L j)) (p i)<=d2 (cen (k+1) (wts t k) fun j=>p (L j)) (p (L 0))) :Sup n p (k+1) L (wts t k) (d2 (cen (k+1) (wts t k) fun j=>p (L j)) (p (L 0))):=⟨lt,asc,h.ind,qMm t k,(qCI t k _).1 h.eq,nn,all⟩
end Go.Eng

namespace Go.Eng
variable {n:Nat}
def nxL(l:List Nat):Nat:=match l.getLast? with
 | none=>0
 | some a=>a+1
def exL(n:Nat)(l:List Nat):List (List Nat):=(List.range' (nxL l) (n-nxL l)).map fun i=>l++[i]
def lsN(n:Nat):Nat->List (List Nat)
 | 0=>[[]]
 | k+1=>(lsN n k).flatMap (exL n)
theorem qHa (l:List Nat)(i:Nat):nxL (l++[i])=i+1:=by unfold nxL;rw[List.getLast?_concat]
theorem qGQ {l:List Nat}(h:∀a,a∈l->a<n):nxL l<=n:=by
 unfold nxL;cases e:l.getLast? with
 | none=>exact qPl _
 | some a=>exact h a (List.mem_of_getLast? e)
theorem qMx {l:List Nat}(h:l.Pairwise (·<·)):∀a,a∈l->a<nxL l:=by
 intro a ha;rcases List.eq_nil_or_concat l with e|⟨l',b,e⟩
 ·subst e;cases ha
 ·rw[List.concat_eq_append] at e;subst e;rw[qHa];rcases qOn.1 ha with q|q
  ·have:=(List.pairwise_append.1 h).2.2 a q b (qOs.2 rfl);omega
  ·rw[qOs.1 q];omega
theorem qH8 {l L:List Nat}:L∈exL n l↔∃i,nxL l<=i/\i<n/\L=l++[i]:=by
 unfold exL;rw[qOP];constructor
 ·rintro ⟨i,hi,e⟩;rw[List.mem_range'] at hi;obtain⟨j,h1,h2⟩:=hi;exact⟨i,by omega,by omega,e.symm⟩
 ·rintro ⟨i,h1,h2,e⟩;exact⟨i,by rw[List.mem_range'];exact⟨i-nxL l,by omega,by omega⟩,e.symm⟩
theorem qld{n:Nat}:∀{k:Nat} {L:List Nat},L∈lsN n k↔L.length=k/\(∀a,a∈L->a<n)/\L.Pairwise (·<·)
 | 0,L=>by
  unfold lsN;rw[qOs];constructor
  ·intro e;subst e;exact⟨rfl,(fun a h=>by cases h),List.Pairwise.nil⟩
  ·intro h;exact qPu h.1
 | k+1,L=>by
  unfold lsN;rw[qPW];constructor
  ·rintro ⟨l,hl,hL⟩;obtain⟨h1,h2,h3⟩:=qld.1 hl;obtain⟨i,i1,i2,e⟩:=qH8.1 hL;subst e;refine⟨by rw[qOh,h1];rfl,fun a ha=>?_,List.pairwise_append.2 ⟨h3,List.pairwise_singleton _ _,fun a ha b hb=>?_⟩⟩
   ·rcases qOn.1 ha with q|q
    ·exact h2 a q
    ·rw[qOs.1 q];exact i2
   ·rw[qOs.1 hb];have:=qMx h3 a ha;omega
  ·rintro ⟨h1,h2,h3⟩;rcases List.eq_nil_or_concat L with e|⟨l,i,e⟩
   ·subst e;cases h1
   ·rw[List.concat_eq_append] at e;subst e;have hp:=List.pairwise_append.1 h3;refine⟨l,qld.2 ⟨by rw[qOh] at h1;exact Nat.succ.inj h1,fun a ha=>h2 a (qOT _ ha),hp.1⟩,qH8.2 ⟨i,?_,h2 i (qOH _ (qOs.2 rfl)),rfl⟩⟩;refine qGQ fun a ha=>hp.2.2 a ha i (qOs.2 rfl)
theorem qBZ (n:Nat)(l:List Nat):(exL n l).length<=n:=by unfold exL;rw[qO7,List.length_range'];omega
theorem qqY{α β:Type}(f:α->List β)(n:Nat)(h:∀a,(f a).length<=n):∀l:List α,(l.flatMap f).length<=l.length*n
 | []=>by simp
 | a::l=>by
  rw[List.flatMap_cons,qOh,qOt,Nat.succ_mul];have:=qqY f n h l;have:=h a;omega
theorem qBu(n:Nat):∀k,(lsN n k).length<=n^k
 | 0=>by unfold lsN;simp
 | k+1=>by
  unfold lsN;refine qO2 (qqY _ n (qBZ n) _) ?_;rw[qPm];exact qOq _ (qBu n k)
def qgt(P:List Nat->Bool)(n:Nat):Nat->Nat->Option (List Nat)
 | _,0=>none
 | k,m+1=>match (lsN n k).find? P with
  | some L=>some L
  | none=>qgt P n (k+1) m
theorem qsG{P:List Nat->Bool}{n:Nat}:∀{m k:Nat} {L:List Nat},qgt P n k m=some L->P L=true/\∃j,k<=j/\j<k+m/\L∈lsN n j
 | 0,k,L,h=>by cases h
 | m+1,k,L,h=>by
  unfold qgt at h;split at h
  ·next L' e=>cases h;exact⟨qPd e,k,qO0 _,by omega,qOU e⟩
  ·obtain⟨h1,j,h2,h3,h4⟩:=qsG h;exact⟨h1,j,by omega,by omega,h4⟩
theorem qsI{P:List Nat->Bool}{n:Nat}:∀{m k:Nat},qgt P n k m=none->∀j,k<=j->j<k+m->∀L,L∈lsN n j->P L=false
 | 0,k,_,j,h1,h2,_,_=>by omega
 | m+1,k,h,j,h1,h2,L,hL=>by
  unfold qgt at h;split at h
  ·cases h
  ·next e=>
   by_cases q:j=k
   ·subst q;exact(Bool.not_eq_true _).mp (List.find?_eq_none.1 e L hL)
   ·exact qsI h j (by omega) (by omega) L hL
theorem qIj {q:Nat}{f:Nat->Nat}(h:Asc q f):((List.range q).map f).Pairwise (·<·):=by rw[List.pairwise_iff_getElem];intro i j hi hj hij;rw[qO7,qOv] at hi hj;rw[List.getElem_map,List.getElem_map,List.getElem_range,List.getElem_range];exact h i j hij hj
theorem qJq {L:List Nat}(h:L.Pairwise (·<·))(d:Nat):Asc L.length (fun j=>L.getD j d):=fun i j hij hj=>by show L.getD i d<L.getD j d;rw[qNZ,qNZ,qO5 hj,qO5 (by omega)];exact List.pairwise_iff_getElem.1 h i j (by omega) hj hij
theorem qEw {q:Nat}{f:Nat->Nat}{d j:Nat}(h:j<q):((List.range q).map f).getD j d=f j:=by rw[qNZ,qO8,qOD h];rfl
theorem qKu {q:Nat}{u:Nat->Rat}{c c':Nat->V3}(h:∀j,j<q->c j=c' j):cen q u c=cen q u c':=by unfold cen;simp only[V3.mk.injEq];refine⟨?_,?_,?_⟩<;>exact qk fun i hi=>by rw[h i hi]
theorem Sup.congr {p:Nat->V3}{q:Nat}{f g:Nat->Nat}{u:Nat->Rat}{s:Rat}(h:Sup n p q f u s)(e:∀j,j<q->f j=g j):Sup n p q g u s:=by
 have ec:∀v:Nat->Rat,(cen q v fun j=>p (g j))=cen q v fun j=>p (f j):=fun v=>qKu fun j hj=>by rw[e j hj]
 refine⟨fun j hj=>by rw[<-e j hj];exact h.lt j hj,fun j k hjk hk=>by rw[<-e j (by omega),<-e k hk];exact h.asc j k hjk hk,fun v h1 h2=>h.ind v h1 (by rw[<-ec];exact h2),h.one,fun j hj=>?_,h.nn,fun i hi=>?_⟩
 ·rw[ec,<-e j hj];exact h.eq j hj
 ·rw[ec];exact h.all i hi
theorem qJc (p:Nat->V3)(hn:0<n)(d:Nat):∃L:List Nat,∃u s,0<L.length/\L.length<=4/\((∀i,i<n->(p i).z=0)->L.length<=3)/\(∀a,a∈L->a<n)/\L.Pairwise (·<·)/\Sup n p L.length (fun j=>L.getD j d) u s:=by
 obtain⟨q,f,u,s,h,hq⟩:=qMg p hn;refine⟨(List.range q).map f,u,s,by rw[qO7,qOv];exact hq,by rw[qO7,qOv];exact qJg h.ind,fun hz=>by rw[qO7,qOv];exact qHy h.ind fun j hj=>hz _ (h.lt j hj),fun a ha=>?_,qIj h.asc,?_⟩
 ·obtain⟨j,hj,e⟩:=qOP.1 ha;rw[<-e];exact h.lt j (qOV.1 hj)
 ·rw[qO7,qOv];exact h.congr fun j hj=>(qEw hj).symm
end Go.Eng

namespace Go.Eng
inductive Sh where
 | int (k:IntKind)|bool|str|sl (row:List Sh)
inductive U where
 | i (n:Int)|b (x:Bool)|s (l:qNX)|l (rows:List (List U))
abbrev R:=List (List U)
def U.toI:U->Int|.i n=>n|_=>0
def U.toB:U->Bool|.b x=>x|_=>false
def U.toS:U->List UInt8|.s x=>x|_=>[]
def U.toR:U->R|.l x=>x|_=>[]
def zH(l:R)(i:Int)(j:Nat):U:=(l.getD i.toNat []).getD j (.i 0)
def cI(l:R)(i:Int)(j:Nat):Int:=(zH l i j).toI
def cB(l:R)(i:Int)(j:Nat):Bool:=(zH l i j).toB
def cS(l:R)(i:Int)(j:Nat):List UInt8:=(zH l i j).toS
def cR(l:R)(i:Int)(j:Nat):R:=(zH l i j).toR
def qg(l:R):Int:=(l.length:Int)
def zD(l m:R):R:=l++m
def qAp(row:List U)(off:Nat)(us:List U):List U:=(List.range (max row.length (off+us.length))).map fun j=>if off<=j/\j<off+us.length then us.getD (j-off) (.i 0) else row.getD j (.i 0)
def qaz(l:R)(i:Int)(off:Nat)(us:List U):R:=l.set i.toNat (qAp (l.getD i.toNat []) off us)
def qB2(l:R)(lo hi:Int):R:=(l.take hi.toNat).drop lo.toNat
def qu(s:qNX):Int:=(s.length:Int)
def sat(s:qNX)(i:Int):Int:=((s.getD i.toNat 0).toNat:Int)
def qdh(s:qNX)(lo hi:Int):List UInt8:=(s.take hi.toNat).drop lo.toNat
def qeJ(s t:qNX):List UInt8:=s++t
def seq(s t:qNX):Bool:=s==t
def slt(s t:qNX):Bool:=Op.bytesLess s t
def qm(k:IntKind)(x y:Int):Int:=k.wrap (x+y)
def zY(k:IntKind)(x y:Int):Int:=k.wrap (x-y)
def wL(k:IntKind)(x y:Int):Int:=k.wrap (x*y)
def qcl(k:IntKind)(x y:Int):Int:=k.wrap (x.tdiv y)
def qby(x y:Int):Int:=x.tmod y
def q2I(k:IntKind)(x:Int):Int:=k.wrap x
def ieq(x y:Int):Bool:=x==y
def ine(x y:Int):Bool:=x != y
def ilt(x y:Int):Bool:=decide (x<y)
def ile(x y:Int):Bool:=decide (x<=y)
def quL(x y:Int):Int:=if y>x then y else x
def qjL(x y:Int):Int:=if y<x then y else x
def inb(i n:Int):Bool:=decide (0<=i)&&decide (i<n)
def q6E(i n:Int):Bool:=decide (0<=i)&&decide (i<=n)
def beq(x y:Bool):Bool:=x==y
def ql7(l:List Int)(i:Int):Int:=l.getD i.toNat 0
def qDL(x y:Bool):Bool:=x&&y
inductive Ex where
 | normal|exit (id:Nat)|ret
inductive AV where
 | undef|skip|yld
 | blit (b:Bool)|bool (b:Bool)
 | ilit (k:IntKind) (n:Int)|int (k:IntKind) (n:Int)
 | str (s:qNX)
 | nilp|ptr (b off:Nat)
 | eptr (sh:List Sh) (l:R) (i:Int) (off:Nat)
 | mptr (c:Bool) (sh:List Sh) (l:R) (i:Int) (off:Nat)
 | vptr (b:Nat) (i:Int) (off:Nat)
 | vsub (b:Nat) (i:Int)
 | aptr (b o:Nat) (i:Int)
 | asub (b o n:Nat) (i m:Int)
 | nils|imm (sh:List Sh) (l:R)|full (sh:List Sh) (l:R)|vec (b:Nat)
 | nilf|fn (f:FuncId) (first caps:List AV)
 | agg (cs:List AV)|tuple (vs:List AV)
 | bagg (cs:List AV) (k:IntKind) (n:Nat) (l:R)
inductive Blk where
 | cells (cs:List AV)|big (cs:List AV) (k:IntKind) (n:Nat) (l:R)|vec (e:TypeId) (sh:List Sh) (l:R)|frz (e:TypeId) (sh:List Sh) (l:R)|dead
structure St where
 t:List AV
 fs:List (List AV)
 h:List Blk
 pend:Option Ex:=none
inductive Tree (α:Type) where
 | leaf (a:α)|br (b:Bool) (t e:Tree α)|fail
def Tree.bind{α β:Type}:Tree α->(α->Tree β)->Tree β
 | .leaf a,f=>f a
 | .br b t e,f=>.br b (t.bind f) (e.bind f)
 | .fail,_=>.fail
def Tree.run{α:Type}:Tree α->Option α
 | .leaf a=>some a
 | .br b t e=>match b with|true=>t.run|false=>e.run
 | .fail=>none
def Tree.holds{α:Type}:Tree α->(α->Prop)->Prop
 | .leaf a,Q=>Q a
 | .br b t e,Q=>(b=true->t.holds Q)/\(b=false->e.holds Q)
 | .fail,_=>False
inductive TD where
 | none|bool|int (k:IntKind)|str|slice (e:TypeId) (es:Nat)|array (n:Nat) (e:TypeId) (es:Nat)
 | struct (fs:List (Nat×TypeId×Nat))|ptr (e:TypeId)|func
structure TI where
 d:TD
 size:Nat
 zero:List Value
 bytes:Nat
 eqok:Bool
 fok:Bool
def qHZ(P:Program):TypeDesc->TD
 | .bool=>.bool
 | .int k=>.int k
 | .string=>.str
 | .slice e=>.slice e (P.cellsOf e)
 | .array n e=>.array n e (P.cellsOf e)
 | .struct fs=>.struct (fs.toList.map fun f=>(f.offset,f.type,P.cellsOf f.type))
 | .pointer e=>.ptr e
 | .func _ _ _=>.func
 | _=>.none
def qAu(P:Program)(t:TypeId):TI :=
  match P.info? t with
  | some i => { d := match P.underlying t with | some d => qHZ P d | none => .none, size := i.size, zero := match i.zero with | some v => v.cells.toList | none => [], bytes := i.bytes,
                eqok:=match P.underlying t with|some (.struct fs)=>!P.stoodInHeld t&&!P.eqGuardType P.depth t&&fs.toList.all (fun f=>f.name != "_")|_=>false,
                fok:=match P.underlying t with|some (.struct fs)=>fs.toList.all (fun f=>(P.info? f.type).isSome)|_=>false }
  | none=>{ d:=.none,size:=0,zero:=[],bytes:=0,eqok:=false,fok:=false }
structure Env where
 tt:List (TypeId×TI)
 glob:List (Nat×AV)
 spec:List (FuncId×(List AV->List Blk->Tree (AV×List Blk)))
 body:List (FuncId×Func)
 loops:List ((FuncId×Nat)×(St->Tree (Ex×St)))
 nimp:Nat
 iter:List (FuncId×FuncId×Nat):=[]
 raws:List FuncId:=[]
 dels:List (FuncId×TypeId):=[]
def qN2:TI:={ d:=.none,size:=0,zero:=[],bytes:=0,eqok:=false,fok:=false }
def Env.ty(E:Env)(t:TypeId):TI:=((E.tt.find? fun x=>x.1==t).map (·.2)).getD qN2
def TD.known:TD->Bool
 | .none=>false
 | _=>true
def TD.isAgg:TD->Bool
 | .struct _|.array _ _ _=>true
 | _=>false
def Env.shape(E:Env):Nat->TypeId->Option (List Sh)
 | 0,_=>none
 | n+1,t=>match (E.ty t).d with
  | .bool=>some [.bool]
  | .int k=>some [.int k]
  | .str=>some [.str]
  | .slice e _=>(E.shape n e).map fun r=>[.sl r]
  | .array m e _=>(E.shape n e).map fun r=>(List.replicate m r).flatten
  | .struct fs=>(fs.mapM fun f=>E.shape n f.2.1).map List.flatten
  | _=>none
mutual
def Sh.beq:Sh->Sh->Bool
 | .int k,.int k'=>decide (k=k')
 | .bool,.bool=>true
 | .str,.str=>true
 | .sl r,.sl r'=>Sh.beqL r r'
 | _,_=>false
def Sh.beqL:List Sh->List Sh->Bool
 | [],[]=>true
 | a::l,b::m=>a.beq b&&Sh.beqL l m
 | _,_=>false
end
def jg:Value->AV
 | .bool b=>.blit b
 | .int k n=>.ilit k n
 | .string s=>.str s.data.toList
 | .pointer none=>.nilp
 | .slice none 0 0=>.nils
 | .nilFunc=>.nilf
 | _=>.undef
def ofV:Value->AV
 | .agg cs=>.agg (cs.toList.map jg)
 | v=>jg v
def AV.cells:AV->List AV
 | .agg cs=>cs
 | v=>[v]
def AV.isCell:AV->Bool
 | .undef|.skip|.agg _|.tuple _|.bagg _ _ _ _=>false
 | _=>true
mutual
def AV.ren(f:Nat->Option Nat):AV->AV
 | .ptr b off=>match f b with|some b'=>.ptr b' off|none=>.undef
 | .vptr b i off=>match f b with|some b'=>.vptr b' i off|none=>.undef
 | .vec b=>match f b with|some b'=>.vec b'|none=>.undef
 | .vsub b i=>match f b with|some b'=>.vsub b' i|none=>.undef
 | .aptr b o i=>match f b with|some b'=>.aptr b' o i|none=>.undef
 | .asub b o n i m=>match f b with|some b'=>.asub b' o n i m|none=>.undef
 | .bagg cs k n l=>.bagg (AV.renL f cs) k n l
 | .fn g first caps=>.fn g (AV.renL f first) (AV.renL f caps)
 | .agg cs=>.agg (AV.renL f cs)
 | .tuple vs=>.tuple (AV.renL f vs)
 | v=>v
def AV.renL(f:Nat->Option Nat):List AV->List AV
 | []=>[]
 | a::l=>a.ren f::AV.renL f l
end
mutual
def AV.noY:AV->Bool
 | .yld=>false
 | .fn _ first caps=>AV.noYL first&&AV.noYL caps
 | .agg cs=>AV.noYL cs
 | .bagg cs _ _ _=>AV.noYL cs
 | .tuple vs=>AV.noYL vs
 | _=>true
def AV.noYL:List AV->Bool
 | []=>true
 | a::l=>a.noY&&AV.noYL l
end
def Blk.noY:Blk->Bool
 | .cells cs=>AV.noYL cs
 | .big cs _ _ _=>AV.noYL cs
 | _=>true
def Blk.ren(f:Nat->Option Nat):Blk->Blk
 | .cells cs=>.cells (AV.renL f cs)
 | .big cs k n l=>.big (AV.renL f cs) k n l
 | b=>b
mutual
def AV.men:AV->List Nat
 | .ptr b _=>[b]
 | .vptr b _ _=>[b]
 | .vsub b _=>[b]
 | .aptr b _ _=>[b]
 | .asub b _ _ _ _=>[b]
 | .bagg cs _ _ _=>AV.menL cs
 | .vec b=>[b]
 | .fn _ first caps=>AV.menL first++AV.menL caps
 | .agg cs=>AV.menL cs
 | .tuple vs=>AV.menL vs
 | _=>[]
def AV.menL:List AV->List Nat
 | []=>[]
 | a::l=>a.men++AV.menL l
end
def asI:AV->Option (IntKind×Int)
 | .ilit k n=>some (k,n)
 | .int k n=>some (k,n)
 | _=>none
def asB:AV->Option Bool
 | .blit b=>some b
 | .bool b=>some b
 | _=>none
def qgZ(sh:List Sh)(l:R)(i:Int)(j:Nat):Option AV:=
 match sh[j]? with
 | some (.int k)=>some (.int k (cI l i j))
 | some .bool=>some (.bool (cB l i j))
 | some .str=>some (.str (cS l i j))
 | some (.sl row)=>some (.imm row (cR l i j))
 | none=>none
def qal(sh:List Sh)(l:R)(i:Int):Nat->Nat->Option (List AV)
 | _,0=>some []
 | off,n+1=>match qgZ sh l i off,qal sh l i (off+1) n with
  | some a,some r=>some (a::r)
  | _,_=>none
def vq(h:List Blk):AV->Option (List Sh×R)
 | .imm sh l=>some (sh,l)
 | .vec b=>match h[b]? with
  | some (.vec _ sh l)=>some (sh,l)
  | some (.frz _ sh l)=>some (sh,l)
  | _=>none
 | _=>none
def toU(h:List Blk):Sh->AV->Option U
 | .int k,.ilit k' n=>if k=k' then some (.i n) else none
 | .int k,.int k' n=>if k=k' then some (.i n) else none
 | .bool,.blit b=>some (.b b)
 | .bool,.bool b=>some (.b b)
 | .str,.str s=>some (.s s)
 | .sl _,.nils=>some (.l [])
 | .sl row,.imm row' l=>if Sh.beqL row row' then some (.l l) else none
 | .sl row,.vec b=>match h[b]? with
  | some (.vec _ row' l)=>if Sh.beqL row row' then some (.l l) else none
  | some (.frz _ row' l)=>if Sh.beqL row row' then some (.l l) else none
  | _=>none
 | _,_=>none
def qrd(h:List Blk):List Sh->List AV->Option (List U)
 | [],[]=>some []
 | s::sh,a::azz=>match toU h s a,qrd h sh azz with
  | some u,some us=>some (u::us)
  | _,_=>none
 | _,_=>none
def zE(h:List Blk)(b:Nat):List Blk:=
 match h[b]? with
 | some (.vec e sh l)=>h.set b (.frz e sh l)
 | _=>h
def qb5(h:List Blk):List AV->List Blk
 | []=>h
 | .vec b::l=>qb5 (zE h b) l
 | _::l=>qb5 h l
def qjT(h:List Blk)(sh:List Sh):Nat->List AV->Option R
 | 0,[]=>some []
 | 0,_=>none
 | n+1,cs=>match qrd h sh (cs.take sh.length),qjT h sh n (cs.drop sh.length) with
  | some u,some r=>some (u::r)
  | _,_=>none
abbrev Res:=AV×List Blk×Option Nat
def okv(h:List Blk)(v:AV):Tree Res:=.leaf (v,h,none)
def okb(h:List Blk)(b:Bool):Tree Res:=.leaf (.bool b,h,none)
def yl(l:List AV):Bool:=l.all AV.isCell
def qpK(cs:List AV)(off:Nat)(vs:List AV):List AV:=cs.take off++vs++cs.drop (off+vs.length)
def qfY(E:Env)(h:List Blk)(t:TypeId)(p:AV):Tree Res:=
 let ti:=E.ty t
 if ti.d.known=false then .fail else
 match p with
 | .ptr b off=>match h[b]? with
  | some (.cells cs)=>
   if ti.d.isAgg then (if off+ti.size<=cs.length then okv h (.agg ((cs.drop off).take ti.size)) else .fail)
   else match cs[off]? with|some v=>okv h v|none=>.fail
  | _=>.fail
 | .eptr sh l i off=>
  if ti.d.isAgg then (match qal sh l i off ti.size with|some cs=>okv h (.agg cs)|none=>.fail)
  else (match qgZ sh l i off with|some v=>okv h v|none=>.fail)
 | .vptr b i off=>match vq h (.vec b) with
  | some (sh,l)=>
   if ti.d.isAgg then (match qal sh l i off ti.size with|some cs=>okv h (.agg cs)|none=>.fail)
   else (match qgZ sh l i off with|some v=>okv h v|none=>.fail)
  | none=>.fail
 | _=>.fail
def qeS(E:Env)(h:List Blk)(t:TypeId)(p v:AV):Tree Res:=
 let cs':=v.cells
 if cs'.length=(E.ty t).size/\yl cs'=true/\cs'.length≠0 then
  match p with
  | .ptr b off=>match h[b]? with
   | some (.cells cs)=>if off+cs'.length<=cs.length then .leaf (.skip,h.set b (.cells (qpK cs off cs')),none) else .fail
   | _=>.fail
  | .vptr b i off=>match h[b]? with
   | some (.vec e sh l)=>if (AV.menL cs').isEmpty then (match qrd h ((sh.drop off).take cs'.length) cs' with
    | some us=>.leaf (.skip,h.set b (.vec e sh (qaz l i off us)),none)
    | none=>.fail) else .fail
   | _=>.fail
  | _=>.fail
 else .fail
def qdP(place:Nat->Option (Nat×Nat))(cells:List AV):List (Nat×AV)->Option (List AV)
 | []=>some cells
 | (i,v)::rest=>match place i with
  | none=>none
  | some (off,size)=>
   if v.cells.length=size/\off+v.cells.length<=cells.length/\yl v.cells=true then qdP place (qpK cells off v.cells) rest else none
def qif(E:Env)(h:List Blk)(t:TypeId)(parts:List (Nat×AV)):Tree Res:=
 if (E.ty t).zero.length=0 then .fail else
 match (E.ty t).d with
 | .struct fs=>if (E.ty t).fok then (match qdP (fun i=>(fs[i]?).map fun f=>(f.1,f.2.2)) ((E.ty t).zero.map jg) parts with
  | some cs=>okv h (.agg cs)
  | none=>.fail) else .fail
 | .array _ _ es=>if es=0 then .fail else match qdP (fun i=>some (i*es,es)) ((E.ty t).zero.map jg) parts with
  | some cs=>okv h (.agg cs)
  | none=>.fail
 | _=>.fail
def q7Z(E:Env)(h:List Blk)(t:TypeId)(len:Nat)(parts:List (Nat×AV)):Tree Res:=
 match (E.ty t).d with
 | .slice e es=>
  if len*es<=16777216/\0<es/\(E.ty e).zero.length=es then
   match qdP (fun i=>some (i*es,es)) ((List.replicate len ((E.ty e).zero.map jg)).flatten) parts,E.shape 16 e with
   | some cs,some sh=>if sh.length=es then (match qjT h sh len cs with
    | some l=>.leaf (.vec h.length,qb5 h cs++[.vec e sh l],none)
    | none=>.fail) else .fail
   | _,_=>.fail
  else .fail
 | _=>.fail
def q2a(E:Env)(h:List Blk)(s:TypeId)(x:AV)(f:Nat):Tree Res:=
 match (E.ty s).d with
 | .struct fs=>match fs[f]? with
  | some (o,_,sz)=>if sz=0 then .fail else
   match x with
   | .ptr b off=>okv h (.ptr b (off+o))
   | .eptr sh l i off=>okv h (.eptr sh l i (off+o))
   | .vptr b i off=>okv h (.vptr b i (off+o))
   | _=>.fail
  | none=>.fail
 | _=>.fail
def qgV(E:Env)(t:TypeId)(cs:List AV)(off:Nat):Option AV:=
 let ti:=E.ty t
 if ti.d.known=false then none else
 if ti.d.isAgg then (if off+ti.size<=cs.length then some (.agg ((cs.drop off).take ti.size)) else none)
 else cs[off]?
def qhs(E:Env)(h:List Blk)(t:TypeId)(cs:List AV)(off:Nat):Tree Res:=
 match qgV E t cs off with
 | some v=>okv h v
 | none=>.fail
def qiE(E:Env)(h:List Blk)(s:TypeId)(x:AV)(f:Nat):Tree Res:=
 match (E.ty s).d,x with
 | .struct fs,.agg cs=>match fs[f]? with
  | some (o,t,_)=>qhs E h t cs o
  | none=>.fail
 | _,_=>.fail
def qhE(h:List Blk)(i:Int)(f:Nat->AV):Nat->Tree Res
 | 0=>.fail
 | m+1=>.br (ieq i m) (okv h (f m)) (qhE h i f m)
def yL(E:Env)(h:List Blk)(t:TypeId)(x ix:AV):Tree Res:=
 match (E.ty t).d,x,asI ix with
 | .slice _ es,.imm sh l,some (_,i)=>if sh.length=es/\0<es then .br (inb i (qg l)) (okv h (.eptr sh l i 0)) .fail else .fail
 | .slice _ es,.vec b,some (_,i)=>match vq h (.vec b) with
  | some (sh,l)=>if sh.length=es/\0<es then .br (inb i (qg l)) (okv h (.vptr b i 0)) .fail else .fail
  | none=>.fail
 | .array n _ es,.ptr b off,_=>match ix with
  | .ilit _ i=>if 0<=i/\i<n/\0<es then okv h (.ptr b (off+i.toNat*es)) else .fail
  | .int _ i=>if n<=16/\0<es then qhE h i (fun m=>.ptr b (off+m*es)) n else .fail
  | _=>.fail
 | .array n _ es,.eptr sh l i0 off,_=>match ix with
  | .ilit _ i=>if 0<=i/\i<n/\0<es then okv h (.eptr sh l i0 (off+i.toNat*es)) else .fail
  | .int _ i=>if n<=16/\0<es then qhE h i (fun m=>.eptr sh l i0 (off+m*es)) n else .fail
  | _=>.fail
 | _,_,_=>.fail
def qnT(k:IntKind):List AV->Option (List Int)
 | []=>some []
 | a::l=>match asI a,qnT k l with
  | some (k',n),some r=>if k=k' then some (n::r) else none
  | _,_=>none
def qpW(E:Env)(h:List Blk)(e:TypeId)(cs:List AV)(es:Nat)(i:Int):Nat->Nat->Tree Res
 | _,0=>.fail
 | j,m+1=>.br (ieq i (j:Int)) (qhs E h e cs (j*es)) (qpW E h e cs es i (j+1) m)
def qiA(E:Env)(h:List Blk)(t:TypeId)(x ix:AV):Tree Res:=
 match (E.ty t).d,x,asI ix with
 | .array n e es,.agg cs,some (_,i)=>match ix with
  | .ilit _ i=>if 0<=i/\i<n/\0<es then qhs E h e cs (i.toNat*es) else .fail
  | _=>match (E.ty e).d with
   | .int k=>if es=1/\cs.length=n then (match qnT k cs with
    | some l=>.br (inb i n) (okv h (.int k (ql7 l i))) .fail
    | none=>.fail) else .fail
   | .slice _ _=>if 0<es then (match Nat.ble n 4 with|true=>qpW E h e cs es i 0 n|false=>.fail) else .fail
   | _=>.fail
 | .str,.str s,some (_,i)=>.br (inb i (qu s)) (okv h (.int .u8 (sat s i))) .fail
 | _,_,_=>.fail
def q6G(h:List Blk)(k:IntKind)(f:Int->Int->Int)(lit:Bool)(x y:Int):Tree Res:=if lit then okv h (.ilit k (f x y)) else okv h (.int k (f x y))
def qEW(h:List Blk)(f:Int->Int->Bool)(lit:Bool)(x y:Int):Tree Res:=if lit then okv h (.blit (f x y)) else okv h (.bool (f x y))
def qKD:AV->Bool
 | .ilit _ _=>true
 | _=>false
def qzO(d:TD)(h:List Blk)(op:BinOp)(x y:AV):Tree Res:=
 match asI x,asI y with
 | some (k,a),some (k',b)=>
  if k=k' then
   let lit:=qKD x&&qKD y
   match op with
   | .add=>q6G h k (qm k) lit a b
   | .sub=>q6G h k (zY k) lit a b
   | .mul=>q6G h k (wL k) lit a b
   | .quo=>match y with
    | .ilit _ c=>if c=0 then .fail else q6G h k (qcl k) lit a b
    | _=>.br (ine b 0) (q6G h k (qcl k) lit a b) .fail
   | .rem=>match y with
    | .ilit _ c=>if c=0 then .fail else q6G h k qby lit a b
    | _=>.br (ine b 0) (q6G h k qby lit a b) .fail
   | .eql=>qEW h ieq lit a b
   | .neq=>qEW h ine lit a b
   | .lss=>qEW h ilt lit a b
   | .leq=>qEW h ile lit a b
   | .gtr=>qEW h (fun u v=>ilt v u) lit a b
   | .geq=>qEW h (fun u v=>ile v u) lit a b
   | _=>.fail
  else .fail
 | _,_=>
  match asB x,asB y with
  | some a,some b=>(match d with
   | .bool=>(match op with
    | .eql=>okb h (Eng.beq a b)
    | .neq=>okb h (!(Eng.beq a b))
    | _=>.fail)
   | _=>.fail)
  | _,_=>match x,y with
   | .str a,.str b=>match op with
    | .eql=>okb h (Eng.seq a b)
    | .neq=>okb h (!(Eng.seq a b))
    | .lss=>okb h (slt a b)
    | .leq=>okb h (slt a b||Eng.seq a b)
    | .gtr=>okb h (!(slt a b||Eng.seq a b))
    | .geq=>okb h (!(slt a b))
    | .add=>.br (ile (qu a+qu b) 140737488355328) (okv h (.str (qeJ a b))) .fail
    | _=>.fail
   | .nilp,.nilp=>(match d with
    | .ptr _=>(match op with|.eql=>okv h (.blit true)|.neq=>okv h (.blit false)|_=>.fail)
    | _=>.fail)
   | .ptr b _,.nilp=>(match d,h[b]? with
    | .ptr _,some (.cells _)=>(match op with|.eql=>okv h (.blit false)|.neq=>okv h (.blit true)|_=>.fail)
    | _,_=>.fail)
   | .eptr _ _ _ _,.nilp=>(match d with
    | .ptr _=>(match op with|.eql=>okv h (.blit false)|.neq=>okv h (.blit true)|_=>.fail)
    | _=>.fail)
   | .imm _ l,.nils=>(match d with
    | .slice _ _=>(match op with|.eql=>.br (ilt 0 (qg l)) (okv h (.blit false)) .fail|.neq=>.br (ilt 0 (qg l)) (okv h (.blit true)) .fail|_=>.fail)
    | _=>.fail)
   | .mptr c _ _ _ _,.nilp=>(match d with
    | .ptr _=>(match op with|.eql=>okb h (!c)|.neq=>okb h c|_=>.fail)
    | _=>.fail)
   | _,_=>.fail
def qz9(E:Env)(e:TypeId)(c:Nat)(xs ys:List AV):List Nat->Option Bool
 | []=>some true
 | i::is=>match qgV E e xs (i*c),qgV E e ys (i*c),qz9 E e c xs ys is with
  | some (.str a),some (.str b),some r=>some (qDL (Eng.seq a b) r)
  | _,_,_=>none
mutual
def eqT(E:Env):Nat->TypeId->AV->AV->Option Bool
 | 0,_,_,_=>none
 | n+1,t,x,y=>match (E.ty t).d with
  | .int _=>match asI x,asI y with
   | some (k,a),some (k',b)=>if k=k' then some (ieq a b) else none
   | _,_=>none
  | .bool=>match asB x,asB y with
   | some a,some b=>some (Eng.beq a b)
   | _,_=>none
  | .str=>match x,y with
   | .str a,.str b=>some (Eng.seq a b)
   | _,_=>none
  | .struct fs=>if (E.ty t).eqok then (match x,y with
   | .agg xs,.agg ys=>qLm E n fs xs ys
   | _,_=>none) else none
  | .array m e es=>(match n,(E.ty e).d,x,y with
   | _+1,.str,.agg xs,.agg ys=>qz9 E e es xs ys (List.range m)
   | _,_,_,_=>none)
  | _=>none
def qLm(E:Env):Nat->List (Nat×TypeId×Nat)->List AV->List AV->Option Bool
 | _,[],_,_=>some true
 | 0,_,_,_=>none
 | n+1,f::fs,xs,ys=>match qgV E f.2.1 xs f.1,qgV E f.2.1 ys f.1 with
  | some a,some b=>match eqT E n f.2.1 a b,qLm E n fs xs ys with
   | some r,some s=>some (qDL r s)
   | _,_=>none
  | _,_=>none
end
def qtd(E:Env)(h:List Blk)(op:BinOp)(t:TypeId)(x y:AV):Tree Res:=
 match eqT E 32 t x y with
 | some r=>(match op with|.eql=>okb h r|.neq=>okb h (!r)|_=>.fail)
 | none=>.fail
def qm0(E:Env)(h:List Blk)(op:BinOp)(t:TypeId)(x y:AV):Tree Res:=
 match x,y with
 | .agg xs,.agg ys=>qtd E h op t (.agg xs) (.agg ys)
 | a,b=>qzO (E.ty t).d h op a b
def qLl(h:List Blk)(op:UnOp)(x:AV):Tree Res:=
 match op,x with
 | .not,.blit b=>okv h (.blit (!b))
 | .not,.bool b=>okv h (.bool (!b))
 | .neg,.ilit k n=>okv h (.ilit k (zY k 0 n))
 | .neg,.int k n=>okv h (.int k (zY k 0 n))
 | _,_=>.fail
def qpz(E:Env)(h:List Blk)(src dst:TypeId)(x:AV):Tree Res:=
 match (E.ty src).d,(E.ty dst).d,x with
 | .int _,.int k,.ilit _ n=>okv h (.ilit k (q2I k n))
 | .int _,.int k,.int _ n=>okv h (.int k (q2I k n))
 | .str,.str,.str s=>okv h (.str s)
 | _,_,_=>.fail
def qeI:Option AV->Int->Option Int
 | none,d=>some d
 | some a,_=>(asI a).map (·.2)
def qlt:List Sh->Bool
 | [.int .u8]=>true
 | _=>false
def qwB(sh:List Sh)(hi:Option AV):Bool:=match hi with
 | none=>qlt sh
 | some _=>false
def qp2(l:R):List UInt8:=l.map fun row=>UInt8.ofNat (row.getD 0 (.i 0)).toI.toNat
def q3f(n:Int)(row:List U):R:=List.replicate n.toNat row
def qAC(l:R)(i:Int)(s:qNX):R:=l.take i.toNat++s.map (fun c=>[.i (c.toNat:Int)])++l.drop (i.toNat+s.length)
def qB6(x y:Int):Int:=x-y
def qsB(E:Env)(h:List Blk)(e:TypeId)(x:AV):Tree Res:=
 match (E.ty e).d with
 | .int .u8=>(match vq h x with
  | some (sh,l)=>if qlt sh then okv h (.str (qp2 l)) else .fail
  | none=>.fail)
 | _=>.fail
def qiF(E:Env)(h:List Blk)(src dst:TypeId)(x:AV):Tree Res:=
 match (E.ty src).d with
 | .slice e _=>(match (E.ty dst).d with
  | .str=>qsB E h e x
  | _=>.fail)
 | _=>qpz E h src dst x
def qcE(E:Env)(h:List Blk)(t:TypeId)(x:AV)(lo hi mx:Option AV):Tree Res:=
 match mx with
 | some m=>(match (E.ty t).d,x,hi with
  | .slice _ es,.imm sh l,some y=>(match qeI lo 0,asI y,asI m with
   | some a,some (_,b),some (_,c)=>if sh.length=es/\0<es then .br (q6E b (qg l)) (.br (q6E a b) (.br (ieq b c) (okv h (.full sh (qB2 l a b))) .fail) .fail) .fail else .fail
   | _,_,_=>.fail)
  | _,_,_=>.fail)
 | none=>match (E.ty t).d,x with
  | .str,.str s=>match qeI lo 0,qeI hi (qu s) with
   | some l,some r=>.br (q6E r (qu s)) (.br (q6E l r) (okv h (.str (qdh s l r))) .fail) .fail
   | _,_=>.fail
  | .slice _ es,.imm sh l=>match qeI lo 0,qeI hi (qg l) with
   | some a,some b=>if sh.length=es/\0<es then .br (q6E b (qg l)) (.br (q6E a b) (okv h (.imm sh (qB2 l a b))) .fail) .fail else .fail
   | _,_=>.fail
  | .slice _ es,.vec b=>match h[b]? with
   | some (.vec _ sh l)=>(match qwB sh hi with
    | true=>(match qeI lo 0 with
     | some a=>if es=1 then .br (ilt 0 (qg l)) (.br (q6E a (qg l)) (okv h (.vsub b a)) .fail) .fail else .fail
     | none=>.fail)
    | false=>(match qeI lo 0,qeI hi (qg l) with
     | some a,some c=>if sh.length=es/\0<es then .br (q6E c (qg l)) (.br (q6E a c) (.leaf (.imm sh (qB2 l a c),zE h b,none)) .fail) .fail else .fail
     | _,_=>.fail))
   | some (.frz _ sh l)=>(match qeI lo 0,qeI hi (qg l) with
    | some a,some c=>if sh.length=es/\0<es then .br (q6E c (qg l)) (.br (q6E a c) (okv h (.imm sh (qB2 l a c))) .fail) .fail else .fail
    | _,_=>.fail)
   | _=>.fail
  | _,_=>.fail
def quq(b:Nat):Int:=((140737488355328/(if b=0 then 1 else b):Nat):Int)
def jY(h:List Blk)(x:AV):List Blk:=
 match x with
 | .vec b=>zE h b
 | _=>h
def qGI(rm:Int)(h:List Blk)(e:TypeId)(sh:List Sh)(l m:R)(b:Nat)(x:AV):Tree Res:=
 match x with
 | .vec b'=>if b=b' then .fail else
   .br (ile (qg l+qg m) rm) (.leaf (.vec b,(zE h b').set b (.vec e sh (zD l m)),some b)) .fail
 | _=>.br (ile (qg l+qg m) rm) (.leaf (.vec b,h.set b (.vec e sh (zD l m)),some b)) .fail
def qmf(rm:Int)(h:List Blk)(e:TypeId)(sh:List Sh)(s x:AV):Tree Res:=
 match vq h x with
 | some (sh',m)=>if Sh.beqL sh sh' then
  (match s with
  | .nils=>.br (ile (qg m) rm) (.leaf (.vec h.length,jY h x++[.vec e sh m],none)) .fail
  | .vec b=>match h[b]? with
   | some (.vec e' sh'' l)=>if Sh.beqL sh sh''/\e=e' then qGI rm h e sh l m b x else .fail
   | _=>.fail
  | .full sh'' l=>if Sh.beqL sh sh'' then .br (ilt 0 (qg m)) (.br (ile (qg l+qg m) rm) (.leaf (.vec h.length,jY h x++[.vec e sh (zD l m)],none)) .fail) (.br (ile (qg l) 0) (.leaf (.vec h.length,jY h x++[.vec e sh []],none)) .fail) else .fail
  | _=>.fail) else .fail
 | none=>.fail
def qyn(E:Env)(h:List Blk)(t:TypeId)(s x:AV):Tree Res:=
 match (E.ty t).d with
 | .slice e es=>match E.shape 16 e with
  | some sh=>if sh.length=es/\0<es/\(E.ty e).zero.length=es then
    (match x with
    | .nils=>(match s with
     | .nils=>okv h .nils
     | _=>.fail)
    | x=>qmf (quq (E.ty e).bytes) h e sh s x) else .fail
  | none=>.fail
 | _=>.fail
def qHM(E:Env)(h:List Blk)(t:TypeId)(x:AV):Tree Res:=
 match (E.ty t).d,x with
 | .str,.str s=>okv h (.int .i64 (qu s))
 | .array n _ _,_=>okv h (.ilit .i64 n)
 | .slice _ _,.nils=>okv h (.ilit .i64 0)
 | .slice _ _,x=>match vq h x with
  | some (_,l)=>okv h (.int .i64 (qg l))
  | none=>.fail
 | _,_=>.fail
def qBf(f:Int->Int->Int)(k:IntKind):Int->List AV->Option Int
 | a,[]=>some a
 | a,x::l=>match asI x with
  | some (k',b)=>if k=k' then qBf f k (f a b) l else none
  | none=>none
def qGv(E:Env)(h:List Blk)(t:TypeId)(x y:AV):Tree Res:=
 match (E.ty t).d,asI x,asI y with
 | .slice e es,some (_,n),some (_,m)=>(match E.shape 16 e with
  | some sh=>if sh.length=es/\0<es/\(E.ty e).zero.length=es then
    (match qrd h sh ((E.ty e).zero.map jg) with
    | some us=>.br (ieq n m) (.br (q6E n (quq (E.ty e).bytes)) (.leaf (.vec h.length,h++[.vec e sh (q3f n us)],none)) .fail) .fail
    | none=>.fail) else .fail
  | none=>.fail)
 | _,_,_=>.fail
def qCd(E:Env)(h:List Blk):List TypeId->List AV->Tree Res
 | [t,_],[.vsub b i,.str s]=>(match (E.ty t).d with
  | .slice _ es=>(match h[b]? with
   | some (.vec e' sh l)=>if qlt sh/\es=1 then .br (ile (qu s) (qB6 (qg l) i)) (.leaf (.int .i64 (qu s),h.set b (.vec e' sh (qAC l i s)),none)) .fail else .fail
   | _=>.fail)
  | _=>.fail)
 | _,_=>.fail
def isZ(k:IntKind):Value->Bool
 | .int k' n=>decide (k=k')&&decide (n=0)
 | _=>false
def qEy(E:Env)(t:TypeId):Option (Nat×IntKind×Nat):=
 match (E.ty t).d with
 | .struct fs=>(match fs.getLast? with
  | some (o,ty,_)=>(match (E.ty ty).d with
   | .array n e _=>(match (E.ty e).d with
    | .int k=>if Nat.ble 32 n&&Nat.beq (E.ty t).zero.length (o+n)&&Nat.beq (E.ty t).size (o+n)&&((E.ty t).zero.drop o).all (isZ k) then some (o,k,n) else none
    | _=>none)
   | _=>none)
  | none=>none)
 | _=>none
def qfL(E:Env)(t:TypeId):Option Blk:=match qEy E t with
 | some (o,k,n)=>if yl (((E.ty t).zero.take o).map jg)=true then some (.big (((E.ty t).zero.take o).map jg) k n (q3f n [.i 0])) else none
 | none=>if yl ((E.ty t).zero.map jg)=true/\((E.ty t).zero.map jg).length≠0 then some (.cells ((E.ty t).zero.map jg)) else none
def qFK(x:AV):Option Blk:=match x with
 | .bagg cs k n l=>if yl cs=true then some (.big cs k n l) else none
 | x=>if yl x.cells=true then some (.cells x.cells) else none
def qF5(h:List Blk)(k:Option Blk):Tree Res:=match k with
 | some k=>.leaf (.ptr h.length 0,h++[k],none)
 | none=>.fail
def qH5(E:Env)(h:List Blk)(t:TypeId)(off:Nat)(cs:List AV)(k:IntKind)(n:Nat)(l:R):Tree Res:=
 if (E.ty t).d.known=false then .fail else
 if (E.ty t).d.isAgg=true then (if off=0/\(E.ty t).size=cs.length+n then okv h (.bagg cs k n l) else .fail)
 else (match cs[off]? with
  | some v=>okv h v
  | none=>if off<cs.length+n then okv h (.int k (cI l ((off-cs.length:Nat):Int) 0)) else .fail)
def qdb(E:Env)(h:List Blk)(t:TypeId)(p:AV):Tree Res:=
 match p with
 | .ptr b off=>(match h[b]? with
  | some (.big cs k n l)=>qH5 E h t off cs k n l
  | _=>qfY E h t (.ptr b off))
 | .aptr b o i=>(match h[b]? with
  | some (.big cs k n l)=>if (E.ty t).d.known=true/\(E.ty t).d.isAgg=false/\o=cs.length then .br (inb i n) (okv h (.int k (cI l i 0))) .fail else .fail
  | _=>.fail)
 | p=>qfY E h t p
def qyD(E:Env)(h:List Blk)(t:TypeId)(b off:Nat)(cs:List AV)(k:IntKind)(n:Nat)(l:R)(v:AV):Tree Res:=
 match v with
 | .bagg cs' k' n' l'=>if off=0/\k=k'/\n=n'/\cs.length=cs'.length/\(E.ty t).size=cs.length+n/\0<n/\yl cs'=true then .leaf (.skip,h.set b (.big cs' k n l'),none) else .fail
 | v=>if v.cells.length=(E.ty t).size/\yl v.cells=true/\v.cells.length≠0 then
   (match Nat.ble (off+v.cells.length) cs.length with
   | true=>.leaf (.skip,h.set b (.big (qpK cs off v.cells) k n l),none)
   | false=>(match asI v with
    | some (k',x)=>if k=k'/\cs.length<=off/\off<cs.length+n then .leaf (.skip,h.set b (.big cs k n (qaz l ((off-cs.length:Nat):Int) 0 [.i x])),none) else .fail
    | none=>.fail))
   else .fail
def kz(E:Env)(h:List Blk)(t:TypeId)(p v:AV):Tree Res:=
 match p with
 | .ptr b off=>(match h[b]? with
  | some (.big cs k n l)=>qyD E h t b off cs k n l v
  | _=>qeS E h t (.ptr b off) v)
 | .aptr b o i=>(match h[b]? with
  | some (.big cs k n l)=>(match asI v with
   | some (k',x)=>if k=k'/\o=cs.length/\(E.ty t).size=1 then .br (inb i n) (.leaf (.skip,h.set b (.big cs k n (qaz l i 0 [.i x])),none)) .fail else .fail
   | none=>.fail)
  | _=>.fail)
 | p=>qeS E h t p v
def q0o(E:Env)(h:List Blk)(t:TypeId)(x ix:AV):Tree Res:=
 match (E.ty t).d with
 | .array n _ es=>(match Nat.blt 16 n with
  | true=>(match x with
   | .ptr b off=>(match ix with
    | .int _ i=>if es=1 then .br (inb i n) (okv h (.aptr b off i)) .fail else .fail
    | _=>yL E h t x ix)
   | _=>yL E h t x ix)
  | false=>yL E h t x ix)
 | _=>yL E h t x ix
def qc9(E:Env)(h:List Blk)(t:TypeId)(parts:List (Nat×AV)):Tree Res:=
 match qEy E t with
 | some (o,k,n)=>(match (E.ty t).d with
  | .struct fs=>if (E.ty t).fok=true then (match qdP (fun i=>(fs[i]?).map fun f=>(f.1,f.2.2)) (((E.ty t).zero.take o).map jg) parts with
   | some cs=>okv h (.bagg cs k n (q3f n [.i 0]))
   | none=>.fail) else .fail
  | _=>.fail)
 | none=>qif E h t parts
def qJa(h:List Blk)(b off n:Nat)(lo hi:Option AV):Tree Res:=
 match qeI lo 0,qeI hi n with
 | some a,some c=>.br (q6E c n) (.br (q6E a c) (okv h (.asub b off n a (qB6 c a))) .fail) .fail
 | _,_=>.fail
def qBc(sh:List Sh)(l:R)(i:Int)(off n:Nat):Option (Sh×R):=
 match sh[off]?,l with
 | some s,[row]=>if (i=0/\off+n<=sh.length)/\((sh.drop off).take n).all (Sh.beq s)=true/\off+n<=row.length then some (s,((row.drop off).take n).map fun u=>[u]) else none
 | _,_=>none
def qyY(h:List Blk)(n:Nat)(s:Sh)(l:R)(lo hi mx:Option AV):Tree Res:=
 match mx with
 | none=>(match qeI lo 0,qeI hi n with
  | some a,some c=>.br (q6E c n) (.br (q6E a c) (okv h (.imm [s] (qB2 l a c))) .fail) .fail
  | _,_=>.fail)
 | some m=>(match qeI lo 0,hi.bind asI,asI m with
  | some a,some (_,c),some (_,d)=>.br (q6E c n) (.br (q6E a c) (.br (ieq c d) (okv h (.full [s] (qB2 l a c))) .fail) .fail) .fail
  | _,_,_=>.fail)
def yT(E:Env)(h:List Blk)(t:TypeId)(x:AV)(lo hi mx:Option AV):Tree Res:=
 match (E.ty t).d with
 | .array n _ es=>(match x with
  | .eptr sh l i off=>if es=1 then (match qBc sh l i off n with
   | some (s,rows)=>qyY h n s rows lo hi mx
   | none=>.fail) else .fail
  | .ptr b off=>(match mx with
   | none=>if es=1 then qJa h b off n lo hi else .fail
   | some _=>.fail)
  | _=>.fail)
 | _=>qcE E h t x lo hi mx
def qmH(l:R)(i:Int)(l':R)(i' c:Int):R:=l.take i.toNat++(l'.drop i'.toNat).take c.toNat++l.drop (i.toNat+c.toNat)
def qyo(E:Env)(h:List Blk):List TypeId->List AV->Tree Res
 | [t,_],[.asub b o n i m,.asub b' o' n' i' m']=>(match (E.ty t).d with
  | .slice _ es=>(match h[b]? with
   | some (.big cs k N l)=>(match h[b']? with
    | some (.big cs' k' N' l')=>if es=1/\o=cs.length/\n=N/\o'=cs'.length/\n'=N'/\k=k' then
      .leaf (.int .i64 (qjL m' m),h.set b (.big cs k N (qmH l i l' i' (qjL m' m))),none) else .fail
    | _=>.fail)
   | _=>.fail)
  | _=>.fail)
 | ts,azz=>qCd E h ts azz
def qz1(E:Env)(h:List Blk):List TypeId->List AV->Tree Res
 | [t,t'],[s,x]=>if t=t' then qyn E h t s x else .fail
 | _,_=>.fail
def qrB(E:Env)(h:List Blk):List TypeId->List AV->Tree Res
 | t::_,[x]=>qHM E h t x
 | _,_=>.fail
def qxe(f:Int->Int->Int)(h:List Blk):List AV->Tree Res
 | x::l=>match asI x with
  | some (k,n)=>(match qBf f k n l with
   | some m=>if (x::l).all qKD then okv h (.ilit k m) else okv h (.int k m)
   | none=>.fail)
  | none=>.fail
 | []=>.fail
def q85(E:Env)(h:List Blk)(b:Builtin)(argTypes:List TypeId)(args:List AV):Tree Res:=
 match b with
 | .append=>qz1 E h argTypes args
 | .len=>qrB E h argTypes args
 | .max=>qxe quL h args
 | .min=>qxe qjL h args
 | .copy=>qyo E h argTypes args
 | _=>.fail
def qr9(E:Env)(h:List Blk)(ev:Operand->AV)(op:Op):Tree Res:=
 match op with
 | .move x=>okv h (ev x)
 | .assign x=>okv h (ev x)
 | .pick c a b=>(match ev c with
  | .blit t=>okv h (if t then ev a else ev b)
  | .bool t=>.br t (okv h (ev a)) (okv h (ev b))
  | _=>.fail)
 | .box _ x=>qF5 h (qFK (ev x))
 | .alloc t=>qF5 h (qfL E t)
 | .load t a=>qdb E h t (ev a)
 | .store t a x=>kz E h t (ev a) (ev x)
 | .build t parts=>qc9 E h t (parts.toList.map fun p=>(p.1,ev p.2))
 | .buildSlice t len parts=>q7Z E h t len (parts.toList.map fun p=>(p.1,ev p.2))
 | .nilCheck x=>(match ev x with
  | .ptr b o=>(match h[b]? with
   | some (.cells _)=>okv h (.ptr b o)
   | some (.big _ _ _ _)=>okv h (.ptr b o)
   | _=>.fail)
  | .eptr sh l i o=>okv h (.eptr sh l i o)
  | .mptr c sh l i o=>.br c (okv h (.eptr sh l i o)) .fail
  | _=>.fail)
 | .binOp op t x y _=>qm0 E h op t (ev x) (ev y)
 | .unOp op _ x=>qLl h op (ev x)
 | .convert s d x=>qiF E h s d (ev x)
 | .makeSlice t n m=>qGv E h t (ev n) (ev m)
 | .makeFunc (.func f) first caps=>okv h (.fn f (first.toList.map ev) (caps.toList.map ev))
 | .slice t x lo hi mx=>yT E h t (ev x) (lo.map ev) (hi.map ev) (mx.map ev)
 | .fieldAddr s x f=>q2a E h s (ev x) f
 | .field s x f=>qiE E h s (ev x) f
 | .indexAddr t x i=>q0o E h t (ev x) (ev i)
 | .index t x i=>qiA E h t (ev x) (ev i)
 | .extract x i=>(match ev x with
  | .tuple vs=>(match vs[i]? with|some v=>okv h v|none=>.fail)
  | _=>.fail)
 | .call { callee:=.builtin b,args,argTypes }=>q85 E h b argTypes.toList (args.toList.map ev)
 | _=>.fail
def Env.opd(E:Env)(t:List AV):Operand->AV
 | .tmp i=>t.getD i .undef
 | .const v=>ofV v
 | .global g=>((E.glob.find? fun x=>x.1==g).map (·.2)).getD .undef
 | .func f=>.fn f [] []
def qkf(t:List AV):Option Tmp->AV->List AV
 | some d,v=>t.set d v
 | none,_=>t
def St.renAll(st:St)(f:Nat->Option Nat):St:={ t:=AV.renL f st.t,fs:=st.fs.map (AV.renL f),h:=st.h.map (Blk.ren f),pend:=st.pend }
def qcA(b:Nat):Nat->Option Nat:=fun x=>if x=b then none else some x
def St.apply(st:St)(dst:Option Tmp)(r:Res):St:=
 match r.2.2 with
 | none=>{ st with t:=qkf st.t dst r.1,h:=r.2.1 }
 | some b=>let s:=({ st with h:=r.2.1 }:St).renAll (qcA b)
  { s with t:=qkf s.t dst r.1 }
abbrev q8q:=Option FuncId->List AV->St->Tree (AV×St)
abbrev qEF:=List AV->St->Tree (AV×St)
abbrev qdW:=FuncId->qEF->List AV->St->Tree (AV×St)
def qIq(y:qEF)(callH:q8q):q8q
 | none=>y
 | some f=>callH (some f)
def qs1(E:Env)(callH:q8q)(o:Oper)(st:St):Tree St:=
 match o.op with
 | .call { callee:=.value x,args,argTypes:=_ }=>(match E.opd st.t x with
  | .fn f first caps=>(callH (some f) (first++args.toList.map (E.opd st.t)++caps) st).bind fun r=>
    .leaf { r.2 with t:=qkf r.2.t o.dst r.1 }
  | .yld=>(callH none (args.toList.map (E.opd st.t)) st).bind fun r=>
    .leaf { r.2 with t:=qkf r.2.t o.dst r.1 }
  | _=>.fail)
 | op=>(qr9 E st.h (E.opd st.t) op).bind fun r=>.leaf (st.apply o.dst r)
def qH0(o:Oper)(st:St):St:={ st with t:=qkf st.t o.dst .skip }
def qAQ(all:Array Oper)(k:Nat):Bool:=all.toList.any fun o=>match o.guard with|some (j,_)=>j==k|none=>false
def qv9(all:Array Oper)(k:Nat)(o:Oper)(st:St):Tree St:=
 if qAQ all k then (match o.dst with
  | some d=>match st.t[d]? with
   | some (.bool b)=>.br b (.leaf { st with t:=st.t.set d (.blit true) }) (.leaf { st with t:=st.t.set d (.blit false) })
   | _=>.leaf st
  | none=>.leaf st)
 else .leaf st
def q66(all:Array Oper)(o:Oper)(t:List AV):Option Bool:=
 match o.guard with
 | none=>some true
 | some (j,want)=>match (all[j]?).bind (·.dst) with
  | none=>none
  | some d=>match t[d]? with
   | some (.blit b)=>some (decide (b=want))
   | some .skip=>some false
   | _=>none
def ql3(E:Env)(callH:q8q)(all:Array Oper):Nat->List Oper->St->Tree St
 | _,[],st=>.leaf st
 | k,o::rest,st=>match q66 all o st.t with
  | some true=>(qs1 E callH o st).bind fun s=>(qv9 all k o s).bind (ql3 E callH all (k+1) rest)
  | some false=>ql3 E callH all (k+1) rest (qH0 o st)
  | none=>.fail
def qm2:List Nat->List Nat
 | []=>[]
 | a::l=>if (qm2 l).contains a then qm2 l else a::qm2 l
def qFg(l:List Nat)(b:Nat):Option Nat:=let i:=l.findIdx (·==b);if i<l.length then some i else none
mutual
def AV.lend(h:List Blk):AV->AV
 | .vec b=>match h[b]? with|some (.frz _ sh l)=>.imm sh l|_=>.undef
 | .agg cs=>.agg (AV.lendL h cs)
 | .tuple cs=>.tuple (AV.lendL h cs)
 | v=>v
def AV.lendL(h:List Blk):List AV->List AV
 | []=>[]
 | a::l=>a.lend h::AV.lendL h l
end
def zP:AV->List Nat
 | .vec b=>[b]
 | .agg cs=>cs.filterMap fun|.vec b=>some b|_=>none
 | _=>[]
def Blk.plain:Blk->Bool
 | .cells cs=>(AV.menL cs).isEmpty
 | .big cs _ _ _=>(AV.menL cs).isEmpty
 | _=>false
def q6i(h:List Blk):List Nat->Option (List Blk)
 | []=>some []
 | b::l=>match h[b]?,q6i h l with
  | some k,some r=>if k.plain=true then some (k::r) else none
  | _,_=>none
def q0M(h:List Blk):List Nat->List Blk->Option (List Blk)
 | [],_=>some h
 | b::l,k::r=>if k.plain=true then (q0M h l r).map fun h'=>h'.set b k else none
 | _::_,[]=>none
def qq7(fp:List Nat)(n:Nat):Nat->Option Nat:=fun k=>if k<fp.length then fp[k]? else some (n+(k-fp.length))
abbrev za:=List AV->List Blk->Tree (AV×List Blk)
def qF(h:List Blk):List Nat->List Blk
 | []=>h
 | b::l=>qF (zE h b) l
def qbM(h:List Blk):List Nat->List Blk
 | []=>h
 | b::l=>match h[b]? with
  | some (.cells cs)=>qbM (h.set b (.cells (AV.lendL h cs))) l
  | _=>qbM h l
def q7Q(h:List Blk):List Nat->List Nat
 | []=>[]
 | b::l=>match h[b]? with
  | some (.cells cs)=>cs.flatMap zP++q7Q h l
  | _=>q7Q h l
def vg(h:List Blk)(args:List AV):List Blk:=
 let h1:=qF h (args.flatMap zP)
 let fp:=AV.menL (AV.lendL h1 args)
 qbM (qF h1 (q7Q h1 fp)) fp
def q0F(G:za)(args:List AV)(st:St):Tree (AV×St):=
 let h1:=vg st.h args
 let args1:=AV.lendL h1 args
 let fp:=qm2 (AV.menL args1)
 match q6i h1 fp with
 | none=>.fail
 | some hin=>(G (AV.renL (qFg fp) args1) hin).bind fun r=>
   match q0M h1 fp r.2 with
   | none=>.fail
   | some h2=>.leaf (r.1.ren (qq7 fp h1.length),{ st with h:=h2++(r.2.drop fp.length).map (Blk.ren (qq7 fp h1.length)) })
def qlq(h:List Blk)(b:Nat):Bool:=match h[b]? with|some (.frz _ _ _)=>true|_=>false
def qdC(E:Env):Op->Bool
 | .move _|.assign _|.pick _ _ _|.load _ _|.build _ _|.nilCheck _|.binOp _ _ _ _ _|.unOp _ _ _|.convert _ _ _
 | .fieldAddr _ _ _|.field _ _ _|.indexAddr _ _ _|.index _ _ _|.extract _ _=>true
 | .slice t _ _ _ mx=>match (E.ty t).d with|.str=>true|.array _ _ _=>true|.slice _ _=>mx.isSome|_=>false
 | .makeFunc _ _ _=>true
 | .call { callee:=.builtin .len,.. }=>true
 | .call { callee:=.builtin .max,.. }=>true
 | .call { callee:=.builtin .min,.. }=>true
 | _=>false
abbrev q7b:=FuncId->List AV->Tree AV
def qGp:AV->Bool
 | .vec _=>false
 | _=>true
def qk9(E:Env)(h:List Blk)(ev:Operand->AV)(op:Op):Tree (AV×Blk):=
 match op with
 | .buildSlice t len parts=>(match (E.ty t).d with
  | .slice e es=>
   if len*es<=16777216/\0<es/\(E.ty e).zero.length=es then
    (match qdP (fun i=>some (i*es,es)) ((List.replicate len ((E.ty e).zero.map jg)).flatten) (parts.toList.map fun p=>(p.1,ev p.2)),E.shape 16 e with
    | some cs,some sh=>if sh.length=es/\cs.all qGp=true then (match qjT h sh len cs with
     | some l=>.leaf (.vec h.length,.vec e sh l)
     | none=>.fail) else .fail
    | _,_=>.fail)
   else .fail
  | _=>.fail)
 | _=>.fail
def qcS(E:Env)(callS:q7b)(h:List Blk)(ev:Operand->AV)(op:Op):Tree AV:=
 match op with
 | .call { callee:=.value x,args,argTypes:=_ }=>(match ev x with
  | .fn f first caps=>callS f (first++args.toList.map ev++caps)
  | _=>.fail)
 | op=>if qdC E op then (qr9 E h ev op).bind fun r=>.leaf r.1 else .fail
def qh6(ops:List Oper):List Nat:=ops.foldl (fun acc o=>acc++[o.after.toList.foldl (fun s e=>if Region.binds .any e then s ||| 2^e.on ||| acc.getD e.on 0 else s) 0]) []
def qDP(all:Array Oper)(o:Oper):List Tmp :=
  (o.op.operands.toList.filterMap fun|.tmp t=>some t|_=>none) ++
  (match o.guard with
   | some (g,_)=>((all[g]?).bind (·.dst)).toList
   | none=>[])
def qFu(all:Array Oper):Bool:=
 let ops:=all.toList
 let anc:=qh6 ops
 let n:=ops.length
 (List.range n).all fun i=>
  match ops[i]? with
  | none=>false
  | some oi=>
   (oi.after.toList.all fun e=>!Region.binds .any e||decide (e.on<i)) &&
   (List.range n).all fun j=>j==i ||
    match ops[j]? with
    | none=>false
    | some oj=>match oj.dst with
     | none=>true
     | some t=>oi.dst != some t&&(!(qDP all oi).contains t||(anc.getD i 0).testBit j||(anc.getD j 0).testBit i)
def Blk.menB:Blk->List Nat
 | .cells cs=>AV.menL cs
 | .big cs _ _ _=>AV.menL cs
 | _=>[]
def qd5:List Blk->List Nat
 | []=>[]
 | k::h=>k.menB++qd5 h
def qnV:List (List AV)->List Nat
 | []=>[]
 | a::l=>AV.menL a++qnV l
def qoA:Op->Bool
 | .store _ _ _=>true
 | _=>false
def qhQ(E:Env)(f:FuncId):Option za:=(E.spec.find? fun x=>x.1==f).map (·.2)
def jr(ev:Operand->AV)(op:Op):Option (FuncId×List AV):=
 match op with
 | .call { callee:=.value x,args,argTypes:=_ }=>(match ev x with
  | .fn f first caps=>some (f,first++args.toList.map ev++caps)
  | _=>none)
 | _=>none
def qhq(op:Op):Bool:=
 match op with
 | .call { callee:=.value _,args:=_,argTypes:=_ }=>true
 | _=>false
def qmE(E:Env)(h:List Blk)(ev:Operand->AV)(op:Op):Bool:=
 match qhq op with
 | true=>(match jr ev op with
  | some (f,args)=>(match qhQ E f with
   | some _=>E.raws.contains f||(!(args.flatMap zP).all (qlq h)||!(AV.menL (AV.lendL h args)).isEmpty)
   | none=>false)
  | none=>false)
 | false=>qoA op
def qq0(h:List Blk)(args:List AV):List Nat:=
 let h1:=qF h (args.flatMap zP)
 let fp:=AV.menL (AV.lendL h1 args)
 args.flatMap zP++q7Q h1 fp++fp
def qBL(h:List Blk)(ev:Operand->AV)(op:Op):List Nat:=
 match jr ev op with
 | some (_,args)=>qq0 h args
 | none=>(match op with
  | .store _ x _=>(ev x).men
  | _=>[])
def qFe(op:Op):Bool:=
 match op with
 | .move _|.assign _|.extract _ _|.fieldAddr _ _ _|.makeFunc _ _ _|.pick _ _ _|.build _ _=>false
 | _=>true
def qLB(E:Env)(ev:Operand->AV)(op:Op):Option (List Nat):=
 match qhq op with
 | true=>(match jr ev op with
  | some (f,args)=>(match qhQ E f with
   | some _=>some (AV.menL args)
   | none=>none)
  | none=>none)
 | false=>(match qFe op with
  | true=>some (AV.menL (op.operands.toList.map ev))
  | false=>some [])
def qv6(ev:Operand->AV)(op:Op):List Nat:=
 match jr ev op with
 | some (_,args)=>AV.menL args
 | none=>AV.menL (op.operands.toList.map ev)
def qAT(h:List Blk):List Nat->List Nat
 | []=>[]
 | b::l=>(match h[b]? with|some k=>k.menB|none=>[])++qAT h l
def qGr(h:List Blk)(ev:Operand->AV)(op:Op):List Nat:=
 match jr ev op with
 | some (_,args)=>
  let h1:=qF h (args.flatMap zP)
  AV.menL args++qAT h1 (AV.menL (AV.lendL h1 args))
 | none=>AV.menL (op.operands.toList.map ev)
def qoM(E:Env)(h:List Blk)(ev:Operand->AV)(op:Op):Tree (AV×List Blk):=
 match jr ev op with
 | some (f,args)=>(match qhQ E f with
  | some G=>(q0F G args { t:=[],fs:=[],h:=h,pend:=none }).bind fun r=>.leaf (r.1,r.2.h)
  | none=>.fail)
 | none=>(match qoA op with
  | true=>(qr9 E h ev op).bind fun r=>(match r.2.2 with
   | none=>.leaf (r.1,r.2.1)
   | some _=>.fail)
  | false=>.fail)
def qMo(anc:List Nat)(i j:Nat):Bool:=(anc.getD i 0).testBit j
def kl(all:Array Oper):Nat:=
 let ops:=all.toList
 let anc:=qh6 ops
 ((List.range ops.length).find? fun m=>(List.range ops.length).all fun j=>decide (j<m)||(List.range j).all fun i=>(anc.getD j 0).testBit i).getD ops.length
structure LDesc where
 s:Option Nat
 r:Option (List Nat)
 w:List Nat
 v:List Nat
def qNi(op:Op):Bool:=
 match op with
 | .call { callee:=.builtin .append,args:=_,argTypes:=_ }=>true
 | _=>false
def qoU(op:Op):Option (FuncId×List Operand):=
 match op with
 | .call { callee:=.value (.func f),args:=args,argTypes:=_ }=>some (f,args.toList)
 | _=>none
def qLv(E:Env)(f:FuncId):Option TypeId:=(E.dels.find? fun x=>x.1==f).map (·.2)
def quB(E:Env)(op:Op):Bool:=
 match op with
 | .buildSlice _ _ _=>true
 | .alloc _=>true
 | op=>qNi op||(match qoU op with
  | some (f,_)=>E.raws.contains f||(qLv E f).isSome
  | none=>false)
def qCJ(b:Nat):AV->Bool
 | .vec b'=>!Nat.beq b' b
 | _=>true
def qw8(_:Env)(_:List Blk)(_:TypeId)(_:List AV)(_:Nat):Tree (AV×List Blk):=.fail
def qHz(E:Env)(h:List Blk)(f:FuncId)(args:List AV)(k:Nat):Tree (AV×List Blk):=
 match E.spec.find? fun x=>x.1==f with
 | some G=>(match (AV.menL (AV.lendL (qF h (args.flatMap zP)) args)).isEmpty with
  | true=>(G.2 (AV.lendL (qF h (args.flatMap zP)) args) []).bind fun r=>(match r with
   | (.vec 0,[.vec e sh l])=>.leaf (.vec k,(qF h (args.flatMap zP)).set k (.vec e sh l))
   | _=>.fail)
  | false=>.fail)
 | none=>.fail
def qwP(E:Env)(h:List Blk)(t:TypeId)(k:Nat):Tree (AV×List Blk):=
 match qfL E t with
 | some z=>(match z.menB.isEmpty with
  | true=>.leaf (.ptr k 0,h.set k z)
  | false=>.fail)
 | none=>.fail
def qzs(E:Env)(h:List Blk)(t:TypeId)(s x:AV)(k:Nat):Tree (AV×List Blk) :=
  match (E.ty t).d with
  | .slice e es=>(match E.shape 16 e,vq h x with
    | some sh,some (sh',m) =>
      if (sh.length = es /\ 0 < es /\ (E.ty e).zero.length = es) /\ Sh.beqL sh sh' = true then
        (match s with
        | .nils=>.br (ile (qg m) (quq (E.ty e).bytes)) (.leaf (.vec k,(jY h x).set k (.vec e sh m))) .fail
        | .vec b=>(match h[b]? with
          | some (.vec e' sh'' l)=>if (Sh.beqL sh sh''=true/\e=e')/\qCJ b x=true then
              .br (ile (qg l+qg m) (quq (E.ty e).bytes)) (.leaf (.vec k,((jY h x).set b .dead).set k (.vec e sh (zD l m)))) .fail else .fail
          | _=>.fail)
        | .full sh'' l=>if Sh.beqL sh sh''=true then
            .br (ilt 0 (qg m)) (.br (ile (qg l+qg m) (quq (E.ty e).bytes)) (.leaf (.vec k,(jY h x).set k (.vec e sh (zD l m)))) .fail) .fail else .fail
        | _=>.fail) else .fail
    | _,_=>.fail)
  | _=>.fail
def qw2:Option Blk->Bool
 | some .dead=>true
 | _=>false
def qAS(E:Env)(h:List Blk)(ts:List TypeId)(azz:List AV)(k:Nat):Tree (AV×List Blk):=
 match ts,azz with
 | [t,t'],[s,x]=>if t=t' then qzs E h t s x k else .fail
 | _,_=>.fail
def qxz(E:Env)(h:List Blk)(ev:Operand->AV)(op:Op)(k:Nat):Tree (AV×List Blk):=
 match qoU op with
 | some (f,xs)=>(match qLv E f with
  | some e=>qw8 E h e (xs.map ev) k
  | none=>qHz E h f (xs.map ev) k)
 | none=>.fail
def q4w(E:Env)(callS:List Blk->q7b)(h:List Blk)(ev:Operand->AV)(op:Op)(k:Nat):Tree (AV×List Blk):=
 match quB E op with
 | false=>(match qmE E h ev op with
  | true=>(qoM E h ev op).bind fun r=>(match Nat.beq r.2.length h.length with
   | true=>.leaf r
   | false=>.fail)
  | false=>(qcS E (callS h) h ev op).bind fun v=>.leaf (v,h))
 | true=>(match qw2 h[k]? with
  | true=>(match op with
   | .buildSlice _ _ _=>(qk9 E h ev op).bind fun r=>.leaf (.vec k,h.set k r.2)
   | .alloc t=>qwP E h t k
   | .call { callee:=.builtin .append,args:=args,argTypes:=tys }=>qAS E h tys.toList (args.toList.map ev) k
   | op=>qxz E h ev op k)
  | false=>.fail)
def vC(E:Env)(h:List Blk)(ev:Operand->AV)(op:Op)(k:Nat)(v:AV)(g:List Blk):LDesc:=
 match quB E op with
 | true=>⟨some k,some (k::qv6 ev op),k::qv6 ev op,v.men++qAT g (k::qv6 ev op)⟩
 | false=>(match qmE E h ev op with
  | true=>⟨none,some (qGr h ev op++qBL h ev op),qBL h ev op,v.men++qAT g (qBL h ev op)⟩
  | false=>⟨none,qLB E ev op,[],v.men⟩)
def qIa(w:List Nat)(r:Option (List Nat)):Bool:=
 match w with
 | []=>true
 | w=>(match r with
  | some l=>w.all fun b=>!l.contains b
  | none=>false)
def qN5(s:Option Nat)(v:List Nat):Bool:=
 match s with
 | some k=>v.contains k
 | none=>false
def qib(anc:List Nat)(x:Nat×LDesc)(k:Nat)(d:LDesc):Bool:=!qN5 d.s x.2.v&&(qMo anc k x.1||(!qN5 x.2.s d.v&&(qIa x.2.w d.r&&qIa d.w x.2.r)))
def qAE(E:Env)(callS:List Blk->q7b)(all:Array Oper)(anc:List Nat):Nat->List Oper->Nat->List (Nat×LDesc)->St->Tree St
 | _,[],_,_,st=>.leaf st
 | k,o::rest,c,ds,st=>match q66 all o st.t with
  | some true=>(q4w E callS st.h (E.opd st.t) o.op c).bind fun r=>
    (match ((vC E st.h (E.opd st.t) o.op c r.1 r.2).v.all fun b=>Nat.blt b st.h.length)&&ds.all fun x=>qib anc x k (vC E st.h (E.opd st.t) o.op c r.1 r.2) with
    | true=>(qv9 all k o { st with t:=qkf st.t o.dst r.1,h:=r.2 }).bind (qAE E callS all anc (k+1) rest (match quB E o.op with|true=>c+1|false=>c) (ds++[(k,vC E st.h (E.opd st.t) o.op c r.1 r.2)]))
    | false=>.fail)
  | some false=>qAE E callS all anc (k+1) rest c ds (qH0 o st)
  | none=>.fail
def qNE(E:Env)(l:List Oper):Nat:=(l.filter fun o=>quB E o.op).length
def qG1(E:Env)(callH:q8q)(callS:List Blk->q7b)(all:Array Oper)(st:St):Tree St:=
 if qFu all=false then .fail else
 (qAE E callS all (qh6 all.toList) 0 (all.toList.take (kl all)) st.h.length [] { st with h:=st.h++List.replicate (qNE E (all.toList.take (kl all))) .dead }).bind fun r=>
  ql3 E callH all (kl all) (all.toList.drop (kl all)) r
def zx:Code->Nat
 | .seq a b=>1+zx a+zx b
 | .cond _ a b=>zx a+zx b
 | .block _ c=>zx c
 | .scope c=>zx c
 | .loop c=>1+zx c
 | .rangeFunc _ _ a b=>1+zx a+zx b
 | _=>0
def q9K(l:List ((Nat×Nat)×(St->Tree (Ex×St))))(f k:Nat):Option (St->Tree (Ex×St)):=
 match l with
 | []=>none
 | x::l=>if Nat.beq x.1.1 f&&Nat.beq x.1.2 k then some x.2 else q9K l f k
def qjv(l:List (FuncId×FuncId×Nat))(g:Nat):Option (FuncId×Nat):=
 match l with
 | []=>none
 | x::l=>if Nat.beq x.1 g then some x.2 else qjv l g
def qvC(l:List (FuncId×FuncId×Nat))(g f k:Nat):Bool:=match qjv l g with
 | some y=>Nat.beq y.1 f&&Nat.beq y.2 k
 | none=>false
def q80(l:List (FuncId×FuncId×Nat))(f:Nat):Bool:=match qjv l f with
 | some _=>false
 | none=>true
def qsU(t:List AV):List Tmp->List AV->List AV
 | d::ds,v::vs=>qsU (t.set d v) ds vs
 | _,_=>t
def qzw(evA evB:St->Tree (Ex×St))(ps:List Tmp):qEF:=fun args st=>
 match st.pend,st.fs with
 | none,ct::fs=>(match Nat.beq args.length ps.length with
  | true=>(evA { t:=qsU ct ps args,fs:=st.t::ct::fs,h:=st.h,pend:=none }).bind fun r=>(match r.1 with
   | .normal=>(evB r.2).bind fun q=>(match q.2.fs with
    | it::fs'=>(match q.1 with
     | .normal=>.leaf (.blit true,{ t:=it,fs:=fs',h:=q.2.h,pend:=none })
     | .ret=>.leaf (.blit false,{ t:=it,fs:=fs',h:=q.2.h,pend:=some .ret })
     | .exit i=>.leaf (.blit false,{ t:=it,fs:=fs',h:=q.2.h,pend:=some (.exit i) }))
    | []=>.fail)
   | _=>.fail)
  | false=>.fail)
 | _,_=>.fail
def qBv(st:St):Bool:=match st.fs,st.pend with
 | [[]],none=>AV.noYL st.t&&st.h.all Blk.noY
 | _,_=>false
def qG5(r:AV×St):Tree (Ex×St):=match qBv { r.2 with pend:=none } with
 | true=>(match r.2.pend with
  | none=>.leaf (.normal,{ r.2 with pend:=none })
  | some .ret=>.leaf (.ret,{ r.2 with pend:=none })
  | some (.exit i)=>.leaf (.exit i,{ r.2 with pend:=none })
  | some .normal=>.fail)
 | false=>.fail
def uOf:AV->Option (Sh×U)
 | .str s=>some (.str,.s s)
 | .int k n=>some (.int k,.i n)
 | .ilit k n=>some (.int k,.i n)
 | .bool b=>some (.bool,.b b)
 | .blit b=>some (.bool,.b b)
 | .imm sh l=>some (.sl sh,.l l)
 | _=>none
def qML:List AV->Option (List Sh×List U)
 | []=>some ([],[])
 | a::l=>match uOf a,qML l with
  | some (s,u),some (ss,us)=>some (s::ss,u::us)
  | _,_=>none
def qMV(b:Nat)(sh:List Sh)(row:List U):AV->AV
 | .ptr b' off=>if Nat.beq b' b then .eptr sh [row] 0 off else .ptr b' off
 | a=>a
def qHG(ni b:Nat)(st:St):St:=
 match st.h[b]? with
 | some (.cells cs)=>(match qML cs,Nat.ble ni b with
  | some (sh,row),true=>{ st with t:=st.t.map (qMV b sh row),h:=st.h.set b .dead }
  | _,_=>st)
 | _=>st
def qJP:AV->Option Nat
 | .ptr b _=>some b
 | _=>none
def qMU(o:Oper)(i:Nat):Bool:=match o.dst with
 | some j=>Nat.beq i j
 | none=>false
def qLp(E:Env)(ops:List Oper)(t:List AV):Option Nat:=
 ops.findSome? fun o=>match o.op with
  | .slice ty (.tmp i) _ _ _=>(match (E.ty ty).d with
   | .array n e _=>(match (E.ty e).d,Nat.ble n 16 with
    | .str,true=>(match ops.findSome? fun q=>if qMU q i then (match q.op with|.fieldAddr _ (.tmp j) _=>some j|_=>none) else none with
     | some j=>qJP (t.getD j .undef)
     | none=>qJP (t.getD i .undef))
    | _,_=>none)
   | _=>none)
  | _=>none
def qw4(E:Env)(ops:List Oper)(st:St):St:=
 match qLp E ops st.t with
 | some b=>qHG E.nimp b st
 | none=>st
def ye(E:Env)(callH:q8q)(callS:List Blk->q7b)(rangeH:qdW)(f:FuncId):Code->Nat->St->Tree (Ex×St)
 | .skip,_,st=>.leaf (.normal,st)
 | .label _,_,st=>.leaf (.normal,st)
 | .region _ ops draw,_,st=>((match draw with
   | true=>qG1 E callH callS ops (qw4 E ops.toList st)
   | false=>ql3 E callH ops 0 ops.toList (qw4 E ops.toList st)):Tree St).bind fun s=>.leaf (.normal,s)
 | .seq a b,k,st=>match q9K E.loops f k with
  | some L=>L st
  | none=>(ye E callH callS rangeH f a (k+1) st).bind fun r=>match r.1 with
   | .normal=>ye E callH callS rangeH f b (k+1+zx a) r.2
   | e=>.leaf (e,r.2)
 | .cond c a b,k,st=>match E.opd st.t c with
  | .blit true=>ye E callH callS rangeH f a k st
  | .blit false=>ye E callH callS rangeH f b (k+zx a) st
  | .bool x=>match c with
   | .tmp d=>.br x (ye E callH callS rangeH f a k { st with t:=st.t.set d (.blit true) }) (ye E callH callS rangeH f b (k+zx a) { st with t:=st.t.set d (.blit false) })
   | _=>.fail
  | _=>.fail
 | .block id c,k,st=>(ye E callH callS rangeH f c k st).bind fun r=>match r.1 with
  | .exit i=>if i=id then .leaf (.normal,r.2) else .leaf (.exit i,r.2)
  | e=>.leaf (e,r.2)
 | .loop _,k,st=>match q9K E.loops f k with
  | some L=>L st
  | none=>.fail
 | .exit id,_,st=>.leaf (.exit id,st)
 | .ret,_,st=>.leaf (.ret,st)
 | .rangeFunc x ps a b,k,st=>(match E.opd st.t x with
  | .fn g first caps=>(match qvC E.iter g f k&&q80 E.iter f&&qBv st with
   | true=>(rangeH g (qzw (ye E callH callS rangeH f a (k+1)) (ye E callH callS rangeH f b (k+1+zx a)) ps.toList) (first++[.yld]++caps) st).bind qG5
   | false=>.fail)
  | _=>.fail)
 | _,_,_=>.fail
def qqk(E:Env)(h:List Blk)(t:List AV):List ResultVar->Option (List AV)
 | []=>some []
 | .tmp i::l=>match qqk E h t l with|some r=>some (t.getD i .undef::r)|none=>none
 | .cell a ty::l=>match (qfY E h ty (t.getD a .undef)),qqk E h t l with
  | .leaf (v,_,_),some r=>some (v::r)
  | _,_=>none
def qGh:List AV->AV
 | [v]=>v
 | l=>.tuple l
def qIo(E:Env)(fn:Func)(r:Ex×St):Tree (AV×St):=
 match r.1 with
 | .exit _=>.fail
 | _=>match qqk E r.2.h r.2.t fn.results.toList,r.2.fs with
  | some vs,caller::fs=>.leaf (qGh vs,{ t:=caller,fs:=fs,h:=r.2.h,pend:=r.2.pend })
  | _,_=>.fail
def qDK(fn:Func)(args:List AV):List AV:=args++List.replicate (fn.ntmps-args.length) .skip
def qaf(E:Env)(h:List Blk):q7b:=fun f args=>
 match E.spec.find? fun x=>x.1==f with
 | none=>.fail
 | some G=>if (args.flatMap zP).all (qlq h)/\(AV.menL (AV.lendL h args)).isEmpty then
   (G.2 (AV.lendL h args) []).bind fun r=>match r.2 with|[]=>if (r.1.men).isEmpty then .leaf r.1 else .fail|_=>.fail
  else .fail
def qwb(E:Env)(h:List Blk)(all:Array Oper):Nat->List Oper->List AV->Tree (List AV)
 | _,[],t=>.leaf t
 | k,o::rest,t=>match q66 all o t with
  | some true=>(match qdC E o.op with
   | true=>(qr9 E h (E.opd t) o.op).bind fun r=>(qv9 all k o { t:=qkf t o.dst r.1,fs:=[],h:=h,pend:=none }).bind fun s=>qwb E h all (k+1) rest s.t
   | false=>.fail)
  | some false=>qwb E h all (k+1) rest (qkf t o.dst .skip)
  | none=>.fail
def q1M(E:Env)(h:List Blk)(f:FuncId):Code->Nat->List AV->Tree (Ex×List AV)
 | .skip,_,t=>.leaf (.normal,t)
 | .label _,_,t=>.leaf (.normal,t)
 | .region _ ops draw,_,t=>(match draw with
  | true=>.fail
  | false=>(match qLp E ops.toList t with
   | some _=>.fail
   | none=>(qwb E h ops 0 ops.toList t).bind fun t=>.leaf (.normal,t)))
 | .seq a b,k,t=>(match q9K E.loops f k with
  | some _=>.fail
  | none=>(q1M E h f a (k+1) t).bind fun r=>match r.1 with
   | .normal=>q1M E h f b (k+1+zx a) r.2
   | e=>.leaf (e,r.2))
 | .cond c a b,k,t=>(match E.opd t c with
  | .blit true=>q1M E h f a k t
  | .blit false=>q1M E h f b (k+zx a) t
  | .bool x=>(match c with
   | .tmp d=>.br x (q1M E h f a k (t.set d (.blit true))) (q1M E h f b (k+zx a) (t.set d (.blit false)))
   | _=>.fail)
  | _=>.fail)
 | .block id c,k,t=>(q1M E h f c k t).bind fun r=>match r.1 with
  | .exit i=>if i=id then .leaf (.normal,r.2) else .leaf (.exit i,r.2)
  | e=>.leaf (e,r.2)
 | .exit id,_,t=>.leaf (.exit id,t)
 | .ret,_,t=>.leaf (.ret,t)
 | _,_,_=>.fail
def qBB(E:Env)(h:List Blk)(f:FuncId)(fn:Func)(args:List AV):Tree AV:=
 match fn.body with
 | none=>.fail
 | some c=>(q1M E h f c 0 (qDK fn args)).bind fun r=>match r.1 with
  | .exit _=>.fail
  | _=>(match qqk E h r.2 fn.results.toList with
   | some vs=>.leaf (qGh vs)
   | none=>.fail)
def q8m(E:Env)(h:List Blk):q7b:=fun f args=>
 match E.spec.find? fun x=>x.1==f with
 | some _=>qaf E h f args
 | none=>(match E.body.find? fun x=>x.1==f with
  | some fn=>(match q80 E.iter f with
   | true=>qBB E h f fn.2 args
   | false=>.fail)
  | none=>.fail)
def qwV:List Blk->q7b:=fun _ _ _=>.fail
def qwW(E:Env)(callS:List Blk->q7b)(callH:q8q)(rangeH:qdW)(f:FuncId)(fn:Func)(args:List AV)(st:St):Tree (AV×St):=
 match fn.body with
 | none=>.fail
 | some c=>(ye E callH callS rangeH f c 0 { t:=qDK fn args,fs:=st.t::st.fs,h:=st.h,pend:=st.pend }).bind (qIo E fn)
def qCX(E:Env)(callH:q8q)(rangeH:qdW)(f:FuncId)(fn:Func)(args:List AV)(st:St):Tree (AV×St):=
 match fn.body with
 | none=>.fail
 | some c=>(ye E callH (q8m E) rangeH f c 0 { t:=qDK fn args,fs:=st.t::st.fs,h:=st.h,pend:=st.pend }).bind (qIo E fn)
def qxO:qdW:=fun _ _ _ _=>.fail
def qlG(E:Env)(callH:q8q):qdW:=fun g y args st=>match E.body.find? fun x=>x.1==g with
 | some fn=>qCX E (qIq y callH) qxO g fn.2 args st
 | none=>.fail
def qGZ(_:Env)(_:TypeId)(_:List AV)(_:St):Tree (AV×St):=.fail
def q9b(E:Env):Nat->q8q
  | 0=>fun _ _ _=>.fail
  | n+1=>fun o args st=>match o with
    | none=>.fail
    | some f=>match qLv E f with
     | some e=>qGZ E e args st
     | none=>match E.spec.find? fun x=>x.1==f with
      | some G=>q0F G.2 args st
      | none=>match E.body.find? fun x=>x.1==f with
        | some fn=>(match q80 E.iter f with
          | true=>(qCX E (q9b E n) (qlG E (q9b E n)) f fn.2 args st).bind fun r=>.leaf (r.1,{ t:=r.2.t,fs:=r.2.fs,h:=r.2.h,pend:=st.pend })
          | false=>.fail)
        | none=>.fail
def qCN(E:Env)(n:Nat)(f:FuncId)(fn:Func):za:=fun args h=>match q80 E.iter f with
 | true=>(qCX E (q9b E n) (qlG E (q9b E n)) f fn args { t:=[],fs:=[],h:=h,pend:=none }).bind fun r=>.leaf (r.1,r.2.h)
 | false=>.fail
variable {l:R}{sh:List Sh}{v:Value}{w:World}
theorem Tree.run_bind {α β:Type}(t:Tree α)(f:α->Tree β):(t.bind f).run=t.run.bind fun a=>(f a).run:=by
 induction t with
 | leaf a=>rfl
 | br b t e iht ihe=>cases b<;>simp[Tree.bind,Tree.run,iht,ihe]
 | fail=>rfl
theorem bind_some {α β:Type}{t:Tree α}{f:α->Tree β}{b:β}(h:(t.bind f).run=some b):∃a,t.run=some a/\(f a).run=some b:=by
 rw[Tree.run_bind] at h;cases ht:t.run with
 | none=>rw[ht] at h;cases h
 | some a=>rw[ht] at h;exact⟨a,rfl,h⟩
inductive RepU (w:World) (M:Nat->Prop):Sh->U->Value->Prop
 | int (k:IntKind) (u:U):RepU w M (.int k) u (.int k u.toI)
 | bool (u:U):RepU w M .bool u (.bool u.toB)
 | str (u:U):RepU w M .str u (.string ⟨u.toS.toArray⟩)
 | slnil (row:List Sh) (u:U) (h:u.toR=[]):RepU w M (.sl row) u (.slice none 0 0)
 | sl (row:List Sh) (u:U) (a:Addr) (cap:Nat) (vs:Nat->Nat->Value) (hsp:0<u.toR.length->a.spot=none) (hcap:u.toR.length<=cap)
   (hM:∀r j,r<u.toR.length->j<row.length->M a.block)
   (hc:∀r j,r<u.toR.length->j<row.length->w.cell? ⟨a.block,a.off+r*row.length+j,none⟩=some (vs r j))
   (hr:∀r j (hj:j<row.length),r<u.toR.length->RepU w M row[j] (zH u.toR r j) (vs r j)) :
   RepU w M (.sl row) u (.slice (some a) u.toR.length cap)
def Rows(w:World)(M:Nat->Prop)(sh:List Sh)(l:R)(a:Addr):Prop:=∀r j (hj:j<sh.length),r<l.length->M a.block/\∃v,w.cell? ⟨a.block,a.off+r*sh.length+j,none⟩=some v/\RepU w M sh[j] (zH l r j) v
def qfe(w:World)(M:Nat->Prop)(sh:List Sh)(l:R)(v:Value):Prop:=(v=.slice none 0 0/\l=[])\/∃a cap,v=.slice (some a) l.length cap/\(0<l.length->a.spot=none)/\l.length<=cap/\Rows w M sh l a
theorem qmU {M:Nat->Prop}{row:List Sh}{u:U}(h:RepU w M (.sl row) u v):qfe w M row u.toR v:=by
 cases h with
 | slnil _ _ h=>exact .inl ⟨rfl,h⟩
 | sl _ _ a cap vs hsp hcap hM hc hr=>exact .inr ⟨a,cap,rfl,hsp,hcap,fun r j hj hrr=>⟨hM r j hrr hj,vs r j,hc r j hrr hj,hr r j hj hrr⟩⟩
open Classical in
theorem q9T {M:Nat->Prop}{row:List Sh}(h:qfe w M row l v):RepU w M (.sl row) (.l l) v:=by
 rcases h with⟨rfl,rfl⟩|⟨a,cap,rfl,hsp,hcap,hr⟩
 ·exact .slnil _ _ rfl
 ·exact .sl row (.l l) a cap (fun r j=>if h:∃hj:j<row.length,r<l.length then Classical.choose (hr r j h.1 h.2).2 else undef) hsp hcap
   (fun r j h1 h2=>(hr r j h2 h1).1)
   (fun r j h1 h2=>by rw[dif_pos ⟨h2,h1⟩];exact(Classical.choose_spec (hr r j h2 h1).2).1)
   (fun r j h2 h1=>by rw[dif_pos ⟨h2,h1⟩];exact(Classical.choose_spec (hr r j h2 h1).2).2)
theorem RepU.mono {w w':World}{M M':Nat->Prop}{s:Sh}{u:U}(h:RepU w M s u v)(hM:∀n,M n->M' n) (hw:∀a:Addr,M a.block->w'.cell? a=w.cell? a):RepU w' M' s u v:=by
 induction h with
 | int=>exact .int _ _
 | bool=>exact .bool _
 | str=>exact .str _
 | slnil row u h=>exact .slnil _ _ h
 | sl row u a cap vs hsp hcap h1 hc hr ih=>
  exact .sl row u a cap vs hsp hcap (fun r j h2 h3=>hM _ (h1 r j h2 h3)) (fun r j h2 h3=>by rw[hw ⟨a.block,a.off+r*row.length+j,none⟩ (h1 r j h2 h3)];exact hc r j h2 h3) ih
theorem Rows.mono {w w':World}{M M':Nat->Prop}{a:Addr}(h:Rows w M sh l a)(hM:∀n,M n->M' n) (hw:∀a:Addr,M a.block->w'.cell? a=w.cell? a):Rows w' M' sh l a:=by intro r j hj hr;obtain⟨h1,v,h2,h3⟩:=h r j hj hr;exact⟨hM _ h1,v,by rw[hw ⟨a.block,_,none⟩ h1];exact h2,h3.mono hM hw⟩
theorem qfe.mono {w w':World}{M M':Nat->Prop}(h:qfe w M sh l v)(hM:∀n,M n->M' n) (hw:∀a:Addr,M a.block->w'.cell? a=w.cell? a):qfe w' M' sh l v:=by
 rcases h with h|⟨a,cap,h1,h2,hc,h3⟩
 ·exact .inl h
 ·exact .inr ⟨a,cap,h1,h2,hc,h3.mono hM hw⟩
structure Ctx where
 σ:Nat->Option Nat
 h:List Blk
 w:World
 M:Nat->Prop
 kept:List (Nat×Obj):=[]
 y:Nat:=0
def Ctx.isVec(X:Ctx)(b:Nat)(sh:List Sh)(n:Nat):Prop:=∃e l,(X.h[b]?=some (.vec e sh l)\/X.h[b]?=some (.frz e sh l))/\l.length=n
def qyG(X:Ctx)(b:Nat)(sh:List Sh)(m:Nat)(v:Value):Prop:=
 match X.σ b with
 | none=>∃p,v=.slice p 0 0
 | some n=>∃cap,v=.slice (some ⟨n,0,none⟩) m cap/\m<=cap/\cap<=maxLen/\∃c T fr,X.w.heap[n]?=some (.cells c T fr)/\c.size=cap*sh.length
def q0P(k:IntKind)(l:R):List Value:=l.map fun row=>.int k (row.getD 0 (.i 0)).toI
theorem yH (k:IntKind)(l:R):(q0P k l).length=l.length:=by simp[q0P]
theorem qjd {k:IntKind}{i:Nat}(h:i<l.length):(q0P k l)[i]?=some (.int k (cI l i 0)):=by simp[q0P,cI,zH,h]
mutual
inductive Rep (X:Ctx):AV->Value->Prop
 | undef (v:Value):Rep X .undef v
 | skip:Rep X .skip Go.undef
 | yld:Rep X .yld (.func (.yield X.y) #[] #[])
 | blit (b:Bool):Rep X (.blit b) (.bool b)
 | bool (b:Bool):Rep X (.bool b) (.bool b)
 | ilit (k:IntKind) (n:Int):Rep X (.ilit k n) (.int k n)
 | int (k:IntKind) (n:Int):Rep X (.int k n) (.int k n)
 | str (s:qNX):Rep X (.str s) (.string ⟨s.toArray⟩)
 | nilp:Rep X .nilp (.pointer none)
 | ptr (b off n:Nat) (hb:b<X.h.length) (hσ:X.σ b=some n):Rep X (.ptr b off) (.pointer (some ⟨n,off,none⟩))
 | eptr (sh:List Sh) (l:R) (i:Int) (off:Nat) (a:Addr) (hsp:a.spot=none) (h0:0<=i) (h1:i.toNat<l.length) (hr:Rows X.w X.M sh l a) :
   Rep X (.eptr sh l i off) (.pointer (some ⟨a.block,a.off+i.toNat*sh.length+off,none⟩))
 | mnil (sh:List Sh) (l:R) (i:Int) (off:Nat):Rep X (.mptr false sh l i off) (.pointer none)
 | mptr (sh:List Sh) (l:R) (i:Int) (off:Nat) (a:Addr) (hsp:a.spot=none) (h0:0<=i) (h1:i.toNat<l.length) (hr:Rows X.w X.M sh l a) :
   Rep X (.mptr true sh l i off) (.pointer (some ⟨a.block,a.off+i.toNat*sh.length+off,none⟩))
 | vptr (b:Nat) (i:Int) (off n k:Nat) (hb:b<X.h.length) (hσ:X.σ b=some n)
   (h:∀sh m,X.isVec b sh m->0<=i/\i.toNat<m/\k=i.toNat*sh.length):Rep X (.vptr b i off) (.pointer (some ⟨n,k+off,none⟩))
 | vsub (b:Nat) (i:Int) (n k m c:Nat) (hb:b<X.h.length) (hσ:X.σ b=some n)
   (h:∀sh m',X.isVec b sh m'->0<=i/\i.toNat<=m'/\(k=i.toNat*sh.length\/(m=0/\k=0))/\m=m'-i.toNat):Rep X (.vsub b i) (.slice (some ⟨n,k,none⟩) m c)
 | aptr (b o:Nat) (i:Int) (n:Nat) (hb:b<X.h.length) (hσ:X.σ b=some n) (h0:0<=i):Rep X (.aptr b o i) (.pointer (some ⟨n,o+i.toNat,none⟩))
 | asub (b o N:Nat) (i m:Int) (n k c:Nat) (hb:b<X.h.length) (hσ:X.σ b=some n) (h0:0<=i) (h1:0<=m) (h2:i+m<=N) (hk:k=o+i.toNat\/m=0):Rep X (.asub b o N i m) (.slice (some ⟨n,k,none⟩) m.toNat c)
 | nils:Rep X .nils (.slice none 0 0)
 | imm (sh:List Sh) (l:R) (v:Value) (h:qfe X.w X.M sh l v):Rep X (.imm sh l) v
 | full (sh:List Sh) (l:R) (p:Option Addr) (n:Nat) (h:qfe X.w X.M sh l (.slice p n n)):Rep X (.full sh l) (.slice p n n)
 | vec (b:Nat) (p:Option Addr) (n c:Nat) (hb:b<X.h.length) (h:∀sh m,X.isVec b sh m->qyG X b sh m (.slice p n c)):Rep X (.vec b) (.slice p n c)
 | nilf:Rep X .nilf .nilFunc
 | fn (f:FuncId) (first caps:List AV) (vf vc:List Value) (h1:RepL X first vf) (h2:RepL X caps vc):Rep X (.fn f first caps) (.func (.func f) vf.toArray vc.toArray)
 | agg (cs:List AV) (vs:List Value) (h:RepL X cs vs):Rep X (.agg cs) (.agg vs.toArray)
 | tuple (cs:List AV) (vs:List Value) (h:RepL X cs vs):Rep X (.tuple cs) (.tuple vs.toArray)
 | bagg (cs:List AV) (k:IntKind) (n:Nat) (l:R) (vs:List Value) (h:RepL X cs vs) (hl:l.length=n):Rep X (.bagg cs k n l) (.agg (vs++q0P k l).toArray)
inductive RepL (X:Ctx):List AV->List Value->Prop
 | nil:RepL X [] []
 | cons {a:AV} {v:Value} {azz:List AV} {vs:List Value} (h:Rep X a v) (t:RepL X azz vs):RepL X (a::azz) (v::vs)
end
structure MoveB (X X':Ctx) (b b':Nat):Prop where
 lt:b'<X'.h.length
 σ:X'.σ b'=X.σ b
 vec:∀sh m,X'.isVec b' sh m->X.isVec b sh m
 size:∀sh m,X'.isVec b' sh m->∀n,X.σ b=some n->∀c T fr,X.w.heap[n]?=some (.cells c T fr)->∃c' T' fr',X'.w.heap[n]?=some (.cells c' T' fr')/\c'.size=c.size
structure Move0 (X X':Ctx) (f:Nat->Option Nat):Prop where
 M:∀n,X.M n->X'.M n
 w:∀a:Addr,X.M a.block->X'.w.cell? a=X.w.cell? a
 b:∀b b',b<X.h.length->f b=some b'->MoveB X X' b b'
 y:X'.y=X.y
structure Move (X X':Ctx) (f:Nat->Option Nat):Prop extends Move0 X X' f where
 kept:X'.kept=X.kept
theorem Move.of {X X':Ctx}{f:Nat->Option Nat}(M:∀n,X.M n->X'.M n)(w:∀a:Addr,X.M a.block->X'.w.cell? a=X.w.cell? a)(b:∀b b',b<X.h.length->f b=some b'->MoveB X X' b b') (y:X'.y=X.y:=by rfl) (k:X'.kept=X.kept:=by rfl):Move X X' f:=⟨⟨M,w,b,y⟩,k⟩
mutual
theorem Rep.ren{X X':Ctx}{f:Nat->Option Nat}(hm:Move0 X X' f):∀{av:AV} {v:Value},Rep X av v->Rep X' (av.ren f) v
 | _,_,.undef v=>.undef v
 | _,_,.skip=>.skip
 | _,_,.yld=>by rw[<-hm.y];exact .yld
 | _,_,.blit b=>.blit b
 | _,_,.bool b=>.bool b
 | _,_,.ilit k n=>.ilit k n
 | _,_,.int k n=>.int k n
 | _,_,.str s=>.str s
 | _,_,.nilp=>.nilp
 | _,_,.ptr b off n hb hσ=>by
  unfold AV.ren;cases hf:f b with
  | none=>exact .undef _
  | some b'=>exact .ptr b' off n (hm.b b b' hb hf).lt (by rw[(hm.b b b' hb hf).σ];exact hσ)
 | _,_,.eptr sh l i off a hsp h0 h1 hr=>.eptr sh l i off a hsp h0 h1 (hr.mono hm.M hm.w)
 | _,_,.mnil sh l i off=>.mnil sh l i off
 | _,_,.mptr sh l i off a hsp h0 h1 hr=>.mptr sh l i off a hsp h0 h1 (hr.mono hm.M hm.w)
 | _,_,.vptr b i off n k hb hσ h=>by
  unfold AV.ren;cases hf:f b with
  | none=>exact .undef _
  | some b'=>exact .vptr b' i off n k (hm.b b b' hb hf).lt (by rw[(hm.b b b' hb hf).σ];exact hσ) fun sh m hv=>h sh m ((hm.b b b' hb hf).vec sh m hv)
 | _,_,.vsub b i n k m c hb hσ h=>by
  unfold AV.ren;cases hf:f b with
  | none=>exact .undef _
  | some b'=>exact .vsub b' i n k m c (hm.b b b' hb hf).lt (by rw[(hm.b b b' hb hf).σ];exact hσ) fun sh m' hv=>h sh m' ((hm.b b b' hb hf).vec sh m' hv)
 | _,_,.aptr b o i n hb hσ h0=>by
  unfold AV.ren;cases hf:f b with
  | none=>exact .undef _
  | some b'=>exact .aptr b' o i n (hm.b b b' hb hf).lt (by rw[(hm.b b b' hb hf).σ];exact hσ) h0
 | _,_,.asub b o N i m n k c hb hσ h0 h1 h2 hk=>by
  unfold AV.ren;cases hf:f b with
  | none=>exact .undef _
  | some b'=>exact .asub b' o N i m n k c (hm.b b b' hb hf).lt (by rw[(hm.b b b' hb hf).σ];exact hσ) h0 h1 h2 hk
 | _,_,.nils=>.nils
 | _,_,.imm sh l v h=>.imm sh l v (h.mono hm.M hm.w)
 | _,_,.full sh l p n h=>.full sh l p n (h.mono hm.M hm.w)
 | _,_,.vec b p nn cc hb h=>by
  unfold AV.ren;cases hf:f b with
  | none=>exact .undef _
  | some b'=>
   refine .vec b' p nn cc (hm.b b b' hb hf).lt fun sh m hv=>?_;have h1:=h sh m ((hm.b b b' hb hf).vec sh m hv);unfold qyG at *;rw[(hm.b b b' hb hf).σ];cases hs:X.σ b with
   | none=>rw[hs] at h1;exact h1
   | some n=>
    rw[hs] at h1;obtain⟨cap,e1,e2,e2',c,T,fr,e3,e4⟩:=h1;obtain⟨c',T',fr',e5,e6⟩:=(hm.b b b' hb hf).size sh m hv n hs c T fr e3;exact⟨cap,e1,e2,e2',c',T',fr',e5,e6.trans e4⟩
 | _,_,.nilf=>.nilf
 | _,_,.fn g first caps vf vc h1 h2=>.fn g _ _ vf vc (RepL.ren hm h1) (RepL.ren hm h2)
 | _,_,.agg cs vs h=>.agg _ vs (RepL.ren hm h)
 | _,_,.tuple cs vs h=>.tuple _ vs (RepL.ren hm h)
 | _,_,.bagg cs k n l vs h hl=>.bagg _ k n l vs (RepL.ren hm h) hl
theorem RepL.ren{X X':Ctx}{f:Nat->Option Nat}(hm:Move0 X X' f):∀{av:List AV} {v:List Value},RepL X av v->RepL X' (AV.renL f av) v
 | _,_,.nil=>.nil
 | _,_,.cons h t=>.cons (Rep.ren hm h) (RepL.ren hm t)
end
mutual
theorem AV.ren_some:∀av:AV,av.ren some=av
 | .undef|.skip|.yld|.blit _|.bool _|.ilit _ _|.int _ _|.str _|.nilp|.eptr _ _ _ _|.mptr _ _ _ _ _|.nils|.imm _ _|.full _ _|.nilf=>rfl
 | .ptr _ _=>rfl
 | .vptr _ _ _=>rfl
 | .vsub _ _=>rfl
 | .aptr _ _ _=>rfl
 | .asub _ _ _ _ _=>rfl
 | .vec _=>rfl
 | .fn g first caps=>by simp[AV.ren,AV.renL_some first,AV.renL_some caps]
 | .agg cs=>by simp[AV.ren,AV.renL_some cs]
 | .tuple cs=>by simp[AV.ren,AV.renL_some cs]
 | .bagg cs k n l=>by simp[AV.ren,AV.renL_some cs]
theorem AV.renL_some:∀l:List AV,AV.renL some l=l
 | []=>rfl
 | a::l=>by simp[AV.renL,AV.ren_some a,AV.renL_some l]
end
abbrev Ext(X X':Ctx):Prop:=Move X X' some
theorem Rep.ext {X X':Ctx}(hm:Ext X X'){av:AV}(h:Rep X av v):Rep X' av v:=by have:=h.ren hm.toMove0;rwa [AV.ren_some] at this
theorem RepL.ext {X X':Ctx}(hm:Ext X X'){av:List AV}{v:List Value}(h:RepL X av v):RepL X' av v:=by have:=h.ren hm.toMove0;rwa [AV.renL_some] at this
theorem RepL.length{X:Ctx}:∀{azz:List AV} {vs:List Value},RepL X azz vs->azz.length=vs.length
 | _,_,.nil=>rfl
 | _,_,.cons _ t=>by simp[RepL.length t]
theorem RepL.get{X:Ctx}:∀{azz:List AV} {vs:List Value} (_:RepL X azz vs) (i:Nat) (a:AV),azz[i]?=some a->∃v,vs[i]?=some v/\Rep X a v
 | _,_,.nil,i,a,h=>by simp at h
 | _,_,.cons h _,0,a,e=>by simp at e;subst e;exact⟨_,by simp,h⟩
 | _,_,.cons _ t,i+1,a,e=>by
  obtain⟨v,h1,h2⟩:=RepL.get t i a (by simpa using e);exact⟨v,by simpa using h1,h2⟩
theorem RepL.getD {X:Ctx}{azz:List AV}{vs:List Value}(h:RepL X azz vs)(i:Nat):Rep X (azz.getD i .undef) (vs.getD i Go.undef):=by
 cases e:azz[i]? with
 | none=>
  have:azz.getD i .undef=.undef:=by simp[e]
  rw[this];exact .undef _
 | some a=>
  obtain⟨v,h1,h2⟩:=h.get i a e;simp[e,h1];exact h2
theorem RepL.append{X:Ctx}:∀{azz:List AV} {vs:List Value} {bs:List AV} {us:List Value},RepL X azz vs->RepL X bs us->RepL X (azz++bs) (vs++us)
 | _,_,_,_,.nil,h=>h
 | _,_,_,_,.cons h t,h'=>.cons h (RepL.append t h')
theorem RepL.take{X:Ctx}:∀{azz:List AV} {vs:List Value},RepL X azz vs->∀n,RepL X (azz.take n) (vs.take n)
 | _,_,.nil,n=>by simp;exact .nil
 | _,_,.cons h t,0=>by simp;exact .nil
 | _,_,.cons h t,n+1=>by simp;exact .cons h (RepL.take t n)
theorem RepL.drop{X:Ctx}:∀{azz:List AV} {vs:List Value},RepL X azz vs->∀n,RepL X (azz.drop n) (vs.drop n)
 | _,_,.nil,n=>by simp;exact .nil
 | _,_,.cons h t,0=>by simp;exact .cons h t
 | _,_,.cons h t,n+1=>by simp;exact RepL.drop t n
theorem RepL.set{X:Ctx}{a:AV}{v:Value}(hv:Rep X a v):∀{azz:List AV} {vs:List Value},RepL X azz vs->∀n,RepL X (azz.set n a) (vs.set n v)
 | _,_,.nil,n=>by simp;exact .nil
 | _,_,.cons h t,0=>by simp;exact .cons hv t
 | _,_,.cons h t,n+1=>by simp;exact .cons h (RepL.set hv t n)
def qyH(w:World)(M:Nat->Prop)(sh:List Sh)(l:R)(c:Array Value):Prop:=∀r j (hj:j<sh.length),r<l.length->∃v,c[r*sh.length+j]?=some v/\RepU w M sh[j] (zH l r j) v
theorem qyH.mono {w w':World}{M M':Nat->Prop}{c:Array Value}(h:qyH w M sh l c)(hM:∀n,M n->M' n) (hw:∀a:Addr,M a.block->w'.cell? a=w.cell? a):qyH w' M' sh l c:=by intro r j hj hr;obtain⟨v,h2,h3⟩:=h r j hj hr;exact⟨v,h2,h3.mono hM hw⟩
def jf(X:Ctx)(b:Nat):Blk->Prop
 | .cells cs=>∃n c T,X.σ b=some n/\X.w.heap[n]?=some (.cells c T (0,0))/\RepL X cs c.toList
 | .big cs k N l=>∃n c T vs,X.σ b=some n/\X.w.heap[n]?=some (.cells c T (0,0))/\RepL X cs vs/\c.toList=vs++q0P k l/\l.length=N
 | .vec e sh l=>(X.σ b=none/\l=[])\/∃n c,X.σ b=some n/\X.w.heap[n]?=some (.cells c e (0,0))/\qyH X.w X.M sh l c
 | .frz e sh l=>(X.σ b=none/\l=[])\/∃n c,X.σ b=some n/\X.w.heap[n]?=some (.cells c e (0,0))/\qyH X.w X.M sh l c/\X.M n
 | .dead=>True
def Blk.mut:Blk->Bool
 | .cells _|.vec _ _ _|.big _ _ _ _=>true
 | _=>false
def Blk.solid:Blk->Bool
 | .cells _|.big _ _ _ _=>true
 | _=>false
def Ctx.own(X:Ctx)(b n:Nat):Prop:=X.σ b=some n/\∃k,X.h[b]?=some k/\k.mut=true
structure Base where
 w0:World
 imps:List (Option Nat)
 M0:Nat->Prop
 fs:List (List Value)
 ro:Option Nat:=none
 y:Nat:=0
 pin:Option Ex->List (Nat×Obj):=fun _=>[]
theorem Rep.ext0 {X X':Ctx}(hm:Move0 X X' some){av:AV}(h:Rep X av v):Rep X' av v:=by have:=h.ren hm;rwa [AV.ren_some] at this
theorem RepL.ext0 {X X':Ctx}(hm:Move0 X X' some){av:List AV}{v:List Value}(h:RepL X av v):RepL X' av v:=by have:=h.ren hm;rwa [AV.renL_some] at this
structure HSim (B:Base) (X:Ctx):Prop where
 blk:∀b k,X.h[b]?=some k->jf X b k
 inj:∀b b' n,X.own b n->X.own b' n->b=b'
 notM:∀b n,X.own b n->¬X.M n
 ltM:∀n,X.M n->n<X.w.heap.size
 M0:∀n,B.M0 n->X.M n
 newM:∀n,X.M n->B.M0 n\/B.w0.heap.size<=n
 os:X.w.os=B.w0.os
 tape:X.w.tape=B.w0.tape
 output:X.w.output=B.w0.output
 size:B.w0.heap.size<=X.w.heap.size
 frame:∀n,n<B.w0.heap.size->some n∉B.imps->X.w.heap[n]?=B.w0.heap[n]?
 imps:∀b,b<B.imps.length->X.σ b=(B.imps[b]?).join
 impc:∀b,b<B.imps.length->∃k,X.h[b]?=some k/\k.solid=true
 fresh:∀b n,X.own b n->B.imps.length<=b->B.w0.heap.size<=n
 kept:∀p,p∈X.kept->X.w.heap[p.1]?=some p.2/\(∀c T fr,p.2≠.cells c T fr)/\B.w0.heap.size<=p.1
theorem Ctx.own.lt {B:Base}{X:Ctx}(hs:HSim B X){b n:Nat}(h:X.own b n):n<X.w.heap.size:=by
 obtain⟨h1,k,h2,h3⟩:=h;have:=hs.blk b k h2;cases k with
 | cells cs=>
  obtain⟨n',c,T,e1,e2,_⟩:=this;rw[h1] at e1;cases e1;exact(qO4.1 e2).1
 | big cs k N l=>
  obtain⟨n',c,T,vs,e1,e2,_⟩:=this;rw[h1] at e1;cases e1;exact(qO4.1 e2).1
 | vec e sh l=>
  rcases this with⟨e1,_⟩|⟨n',c,e1,e2,_⟩
  ·rw[h1] at e1;cases e1
  ·rw[h1] at e1;cases e1;exact(qO4.1 e2).1
 | frz e sh l=>cases h3
 | dead=>cases h3
theorem Ctx.own.cells {B:Base}{X:Ctx}(hs:HSim B X){b n:Nat}(h:X.own b n):∃c T fr,X.w.heap[n]?=some (.cells c T fr):=by
 obtain⟨h1,k,h2,h3⟩:=h;have:=hs.blk b k h2;cases k with
 | cells cs=>
  obtain⟨n',c,T,e1,e2,_⟩:=this;rw[h1] at e1;cases e1;exact⟨_,_,_,e2⟩
 | big cs k N l=>
  obtain⟨n',c,T,vs,e1,e2,_⟩:=this;rw[h1] at e1;cases e1;exact⟨_,_,_,e2⟩
 | vec e sh l=>
  rcases this with⟨e1,_⟩|⟨n',c,e1,e2,_⟩
  ·rw[h1] at e1;cases e1
  ·rw[h1] at e1;cases e1;exact⟨_,_,_,e2⟩
 | frz e sh l=>cases h3
 | dead=>cases h3
theorem zN {n:Nat}{c:Array Value}{T:TypeId}{fr:Nat×Nat}(h:w.heap[n]?=some (.cells c T fr))(off:Nat):w.cell? ⟨n,off,none⟩=c[off]?:=by simp[World.cell?,h]
end Go.Eng

namespace Go.Eng
variable {B:Base}{X:Ctx}{b:Nat}{e:TypeId}{l:R}{sh:List Sh}{w':World}
theorem Blk.mut_ren (f:Nat->Option Nat)(k:Blk):(k.ren f).mut=k.mut:=by cases k<;>rfl
theorem Blk.solid_ren (f:Nat->Option Nat)(k:Blk):(k.ren f).solid=k.solid:=by cases k<;>rfl
theorem Blk.ren_some (k:Blk):k.ren some=k:=by cases k<;>simp[Blk.ren,AV.renL_some]
theorem HSim.hlen (hs:HSim B X):B.imps.length<=X.h.length:=by
 rcases qO6 X.h.length B.imps.length with h|h
 ·obtain⟨cs,e,_⟩:=hs.impc X.h.length h;rw[qOl (qO0 _)] at e;cases e
 ·exact h
theorem jf.move {X X':Ctx}{f:Nat->Option Nat}(hm:Move0 X X' f){b b':Nat}{k:Blk}(hσ:X'.σ b'=X.σ b)(hw:∀n,X.σ b=some n->X'.w.heap[n]?=X.w.heap[n]?) (h:jf X b k):jf X' b' (k.ren f):=by
 cases k with
 | cells cs=>
  obtain⟨n,c,T,e1,e2,e3⟩:=h;exact⟨n,c,T,by rw[hσ];exact e1,by rw[hw n e1];exact e2,e3.ren hm⟩
 | big cs k N l=>
  obtain⟨n,c,T,vs,e1,e2,e3,e4,e5⟩:=h;exact⟨n,c,T,vs,by rw[hσ];exact e1,by rw[hw n e1];exact e2,e3.ren hm,e4,e5⟩
 | vec e sh l=>
  rcases h with⟨e1,e2⟩|⟨n,c,e1,e2,e3⟩
  ·exact .inl ⟨by rw[hσ];exact e1,e2⟩
  ·exact .inr ⟨n,c,by rw[hσ];exact e1,by rw[hw n e1];exact e2,e3.mono hm.M hm.w⟩
 | frz e sh l=>
  rcases h with⟨e1,e2⟩|⟨n,c,e1,e2,e3,e4⟩
  ·exact .inl ⟨by rw[hσ];exact e1,e2⟩
  ·exact .inr ⟨n,c,by rw[hσ];exact e1,by rw[hw n e1];exact e2,e3.mono hm.M hm.w,hm.M n e4⟩
 | dead=>trivial
theorem jf.ext {X X':Ctx}(hm:Ext X X'){k:Blk}(hσ:X'.σ b=X.σ b)(hw:∀n,X.σ b=some n->X'.w.heap[n]?=X.w.heap[n]?) (h:jf X b k):jf X' b k:=by
 have:=jf.move hm.toMove0 (b':=b) hσ hw h
 rwa [Blk.ren_some] at this
theorem HSim.lt (hs:HSim B X){b n:Nat}{k:Blk}(h:X.h[b]?=some k)(hd:k≠.dead)(hn:X.σ b=some n):n<X.w.heap.size:=by
 have:=hs.blk b k h;cases k with
 | cells cs=>
  obtain⟨n',c,T,e1,e2,_⟩:=this;rw[hn] at e1;cases e1;exact(qO4.1 e2).1
 | big cs k N l=>
  obtain⟨n',c,T,vs,e1,e2,_⟩:=this;rw[hn] at e1;cases e1;exact(qO4.1 e2).1
 | vec e sh l=>
  rcases this with⟨e1,_⟩|⟨n',c,e1,e2,_⟩<;>rw[hn] at e1<;>cases e1;exact(qO4.1 e2).1
 | frz e sh l=>
  rcases this with⟨e1,_⟩|⟨n',c,e1,e2,_⟩<;>rw[hn] at e1<;>cases e1;exact(qO4.1 e2).1
 | dead=>exact absurd rfl hd
def Ctx.pushW(X:Ctx)(k:Blk)(s':Option Nat)(w':World):Ctx:={ σ:=fun b=>if b=X.h.length then s' else X.σ b,h:=X.h++[k],w:=w',M:=X.M,kept:=X.kept,y:=X.y }
structure PushW (X:Ctx) (s':Option Nat) (w':World):Prop where
 old:∀m,m<X.w.heap.size->w'.heap[m]?=X.w.heap[m]?
 size:X.w.heap.size<=w'.heap.size
 os:w'.os=X.w.os
 tape:w'.tape=X.w.tape
 output:w'.output=X.w.output
 new:∀m,s'=some m->X.w.heap.size<=m
theorem zW (w:World)(o:Obj){n:Nat}(h:n<w.heap.size):(w.alloc o).heap[n]?=w.heap[n]?:=by show (w.heap.push o)[n]?=_;rw[Array.getElem?_push,if_neg (by omega)]
theorem zS (w:World)(o:Obj):(w.alloc o).heap[w.heap.size]?=some o:=by show (w.heap.push o)[w.heap.size]?=_;rw[Array.getElem?_push,if_pos rfl]
theorem PushW.alloc (X:Ctx)(o:Obj):PushW X (some X.w.heap.size) (X.w.alloc o):=⟨fun _ h=>zW _ _ h,by simp,rfl,rfl,rfl,fun m h=>by cases h;exact qO0 _⟩
theorem PushW.same (X:Ctx):PushW X none X.w:=⟨fun _ _=>rfl,qO0 _,rfl,rfl,rfl,fun m h=>by cases h⟩
theorem Ctx.push_ext (hs:HSim B X)(k:Blk){s':Option Nat}(hw:PushW X s' w'):Ext X (X.pushW k s' w'):=by
 refine Move.of (fun _ h=>h) (fun a ha=>qP2 (hw.old _ (hs.ltM _ ha))) (fun b b' hb h=>?_);cases h;refine⟨by simp[Ctx.pushW];omega,by simp[Ctx.pushW];omega,fun sh m ⟨e,l,h1,h2⟩=>⟨e,l,?_,h2⟩,fun _ _ _ n hn c T fr hc=>⟨c,T,fr,?_,rfl⟩⟩
 ·simpa[Ctx.pushW,qOb hb] using h1
 ·rw[show (X.pushW k s' w').w=w' from rfl,hw.old _ (qO4.1 hc).1];exact hc
theorem HSim.push (hs:HSim B X){k:Blk}{s':Option Nat}(hw:PushW X s' w')(hk:jf (X.pushW k s' w') X.h.length k):HSim B (X.pushW k s' w'):=by
 have hx:=Ctx.push_ext hs k hw;have hget:∀b k',(X.pushW k s' w').h[b]?=some k'->b<X.h.length/\X.h[b]?=some k'\/b=X.h.length/\k'=k:=by
  intro b k' h;rcases qO6 b X.h.length with hb|hb
  ·exact .inl ⟨hb,by simpa[Ctx.pushW,qOb hb] using h⟩
  ·have:(X.h++[k])[b]?=some k':=h;rw[qOi hb] at this;rcases qPx hb with hb'|hb'
   ·rw[<-hb'] at this;simp at this;exact .inr ⟨hb'.symm,this.symm⟩
   ·rw[qOl (by simp;omega)] at this;cases this
 have hσ:∀b,b<X.h.length->(X.pushW k s' w').σ b=X.σ b:=fun b hb=>by simp[Ctx.pushW];omega
 have hσn:(X.pushW k s' w').σ X.h.length=s':=by simp[Ctx.pushW]
 have hown:∀b n,(X.pushW k s' w').own b n->X.own b n\/b=X.h.length/\X.w.heap.size<=n:=by
  intro b n ⟨h1,k',h2,h3⟩;rcases hget b k' h2 with⟨hb,h4⟩|⟨rfl,rfl⟩
  ·exact .inl ⟨by rw[<-hσ b hb];exact h1,k',h4,h3⟩
  ·rw[hσn] at h1;exact .inr ⟨rfl,hw.new n h1⟩
 constructor
 ·intro b k' h;rcases hget b k' h with⟨hb,h4⟩|⟨rfl,rfl⟩
  ·by_cases hd:k'=.dead
   ·subst hd;trivial
   ·exact jf.ext hx (hσ b hb) (fun n hn=>hw.old n (hs.lt h4 hd hn)) (hs.blk b k' h4)
  ·exact hk
 ·intro b b' n h h';rcases hown b n h with h1|⟨g1,g2⟩
  ·rcases hown b' n h' with h2|⟨g3,g4⟩
   ·exact hs.inj b b' n h1 h2
   ·exact absurd (Ctx.own.lt hs h1) (by omega)
  ·rcases hown b' _ h' with h2|⟨g3,_⟩
   ·exact absurd (Ctx.own.lt hs h2) (by omega)
   ·rw[g1,g3]
 ·intro b n h hM;rcases hown b n h with h1|⟨g1,g2⟩
  ·exact hs.notM b n h1 hM
  ·exact absurd (hs.ltM _ hM) (by omega)
 ·intro n h;have:=hs.ltM n h;have:=hw.size;show n<w'.heap.size;omega
 ·exact hs.M0
 ·exact hs.newM
 ·exact hw.os.trans hs.os
 ·exact hw.tape.trans hs.tape
 ·exact hw.output.trans hs.output
 ·have:=hs.size;have:=hw.size;show _<=w'.heap.size;omega
 ·intro n hn hni;have:=hs.size;rw[show (X.pushW k s' w').w=w' from rfl,hw.old _ (by omega)];exact hs.frame n hn hni
 ·intro b hb;have:=hs.hlen;rw[hσ b (by omega)];exact hs.imps b hb
 ·intro b hb;obtain⟨cs,h,hc⟩:=hs.impc b hb;exact⟨cs,by have:=hs.hlen;simpa[Ctx.pushW,qOb (show b<X.h.length by omega)] using h,hc⟩
 ·intro b n h hb;rcases hown b n h with h1|⟨g1,g2⟩
  ·exact hs.fresh b n h1 hb
  ·have:=hs.size;omega
 ·intro p hp;obtain⟨q1,q2,q3⟩:=hs.kept p hp;exact⟨(hw.old _ (qO4.1 q1).1).trans q1,q2,q3⟩
def qgf:Blk->Blk->Prop
 | .cells _,.cells _=>True
 | .big _ _ _ _,.big _ _ _ _=>True
 | .vec e sh l,.vec e' sh' l'=>e=e'/\sh=sh'/\l.length=l'.length
 | _,_=>False
def Ctx.upd(X:Ctx)(b:Nat)(k':Blk)(w':World):Ctx:={ X with h:=X.h.set b k',w:=w' }
structure UpdW (X:Ctx) (n:Nat) (c c':Array Value) (T:TypeId) (w':World):Prop where
 old:X.w.heap[n]?=some (.cells c T (0,0))
 new:w'.heap[n]?=some (.cells c' T (0,0))
 sz:c'.size=c.size
 other:∀m,m≠n->w'.heap[m]?=X.w.heap[m]?
 size:w'.heap.size=X.w.heap.size
 os:w'.os=X.w.os
 tape:w'.tape=X.w.tape
 output:w'.output=X.w.output
theorem UpdW.setRow {n:Nat}{c c':Array Value}{T:TypeId}(h:X.w.heap[n]?=some (.cells c T (0,0)))(hs:c'.size=c.size):UpdW X n c c' T (X.w.setRow n c'):=⟨h,setRow_heap _ _ _ _ _ _ h,hs,fun m hm=>setRow_other _ _ _ _ hm,by simp,rfl,rfl,rfl⟩
theorem q7c {α:Type}{l:List α}{k:α}(hb:b<l.length){b':Nat}{x:α}(h:(l.set b k)[b']?=some x):b'=b/\x=k\/b'≠b/\l[b']?=some x:=by
 rcases Nat.decEq b' b with hne|rfl
 ·right;rw[qO1 (qOr hne)] at h;exact⟨hne,h⟩
 ·left;rw[qOc hb] at h;cases h;exact⟨rfl,rfl⟩
theorem qo {α:Type}{l:List α}{x:α}(h:l[b]?=some x):b<l.length:=by
 rcases qO6 b l.length with h'|h'
 ·exact h'
 ·rw[qOl h'] at h;cases h
theorem Ctx.upd_ext (hs:HSim B X){b n:Nat}{k k':Blk}{c c':Array Value}{T:TypeId}(hb:X.h[b]?=some k)(hn:X.own b n)(hw:UpdW X n c c' T w') (hk:qgf k k'):Ext X (X.upd b k' w'):=by
 refine Move.of (fun _ h=>h) (fun a ha=>qP2 (hw.other _ fun e=>hs.notM b n hn (e▸ha))) (fun b1 b2 hb1 h=>?_);cases h;refine⟨by simpa[Ctx.upd] using hb1,rfl,fun sh m ⟨e,l,h1,h2⟩=>?_,fun _ _ _ m hm c1 T1 fr1 hc1=>?_⟩
 ·simp only[Ctx.upd] at h1;have hbl:=qo hb;rcases h1 with h1|h1
  ·rcases q7c hbl h1 with⟨rfl,rfl⟩|⟨hne,h1⟩
   ·cases k<;>simp[qgf] at hk;obtain⟨rfl,rfl,h3⟩:=hk;exact⟨_,_,.inl hb,by omega⟩
   ·exact⟨e,l,.inl h1,h2⟩
  ·rcases q7c hbl h1 with⟨rfl,rfl⟩|⟨hne,h1⟩
   ·cases k<;>simp[qgf] at hk
   ·exact⟨e,l,.inr h1,h2⟩
 ·by_cases hmn:m=n
  ·subst hmn;rw[hw.old] at hc1;cases hc1;exact⟨c',T,_,hw.new,hw.sz⟩
  ·exact⟨c1,T1,fr1,by rw[show (X.upd b k' w').w=w' from rfl,hw.other m hmn];exact hc1,rfl⟩
theorem HSim.upd (hs:HSim B X){b n:Nat}{k k':Blk}{c c':Array Value}{T:TypeId}(hb:X.h[b]?=some k)(hn:X.own b n)(hw:UpdW X n c c' T w') (hk:qgf k k') (hk':jf (X.upd b k' w') b k'):HSim B (X.upd b k' w'):=by
 have hx:=Ctx.upd_ext hs hb hn hw hk;have hbl:=qo hb;have hmut:k'.mut=true:=by cases k<;>cases k'<;>simp[qgf] at hk<;>rfl
 have hown:∀b1 n1,(X.upd b k' w').own b1 n1->X.own b1 n1:=by
  intro b1 n1 ⟨h1,k1,h2,h3⟩;rcases q7c hbl h2 with⟨rfl,rfl⟩|⟨hne,h2⟩
  ·have:n1=n:=by have:=hn.1;rw[show (X.upd b1 k1 w').σ=X.σ from rfl,this] at h1;exact(qOE h1).symm
   subst this;exact hn
  ·exact⟨h1,k1,h2,h3⟩
 constructor
 ·intro b1 k1 h;rcases q7c hbl h with⟨rfl,rfl⟩|⟨hne,h1⟩
  ·exact hk'
  ·by_cases hd:k1=.dead
   ·subst hd;trivial
   ·refine jf.ext hx rfl (fun m hm=>hw.other m fun e=>?_) (hs.blk b1 k1 h1);subst e;by_cases hm1:k1.mut=true
    ·exact hne (hs.inj b1 b m ⟨hm,k1,h1,hm1⟩ hn)
    ·cases k1 with
     | cells=>exact hm1 rfl
     | big=>exact hm1 rfl
     | vec=>exact hm1 rfl
     | dead=>exact hd rfl
     | frz e sh l=>
      rcases hs.blk b1 _ h1 with⟨e1,_⟩|⟨n1,c1,e1,_,_,e4⟩
      ·rw[hm] at e1;cases e1
      ·rw[hm] at e1;cases e1;exact hs.notM b m hn e4
 ·intro b1 b2 m h1 h2;exact hs.inj b1 b2 m (hown b1 m h1) (hown b2 m h2)
 ·intro b1 m h1 h2;exact hs.notM b1 m (hown b1 m h1) h2
 ·intro m h;have:=hs.ltM m h;simpa[Ctx.upd,hw.size] using this
 ·exact hs.M0
 ·exact hs.newM
 ·exact hw.os.trans hs.os
 ·exact hw.tape.trans hs.tape
 ·exact hw.output.trans hs.output
 ·have:=hs.size;simpa[Ctx.upd,hw.size] using this
 ·intro m hm hni;have:m≠n:=by
   intro e;subst e;rcases qO6 b B.imps.length with hlt|hge
   ·have h1:=hs.imps b hlt;rw[hn.1] at h1;rw[qO5 hlt] at h1;simp at h1;exact hni (h1▸qOI hlt)
   ·have:=hs.fresh b m hn hge;omega
  rw[show (X.upd b k' w').w=w' from rfl,hw.other m this];exact hs.frame m hm hni
 ·exact hs.imps
 ·intro b1 hb1;obtain⟨cs,h,hc⟩:=hs.impc b1 hb1;by_cases hbb:b1=b
  ·subst hbb;rw[hb] at h;cases h;refine⟨k',by simp[Ctx.upd,qOc hbl],?_⟩;cases k<;>cases k'<;>simp[qgf] at hk<;>simp[Blk.solid] at hc<;>rfl
  ·exact⟨cs,by simpa[Ctx.upd,qO1 (qOr hbb)] using h,hc⟩
 ·intro b1 m h1 h2;exact hs.fresh b1 m (hown b1 m h1) h2
 ·intro p hp;obtain⟨q1,q2,q3⟩:=hs.kept p hp;refine⟨(hw.other _ fun e=>?_).trans q1,q2,q3⟩;rw[e,hw.old] at q1;exact q2 _ _ _ (qOE q1).symm
def Ctx.frz(X:Ctx)(b:Nat)(e:TypeId)(sh:List Sh)(l:R):Ctx:={ X with h:=X.h.set b (.frz e sh l),M:=fun m=>X.M m\/X.σ b=some m }
theorem qs3 (hs:HSim B X){k:Blk}(hb:X.h[b]?=some k)(hk:k.solid=false):B.imps.length<=b:=by
 rcases qO6 b B.imps.length with h|h
 ·obtain⟨cs,e,hc⟩:=hs.impc b h;rw[hb] at e;cases e;rw[hk] at hc;cases hc
 ·exact h
theorem Ctx.frz_ext (hb:X.h[b]?=some (.vec e sh l)):Ext X (X.frz b e sh l):=by
 refine Move.of (fun _ h=>.inl h) (fun _ _=>rfl) (fun b1 b2 hb1 h=>?_);cases h;refine⟨by simpa[Ctx.frz] using hb1,rfl,fun sh1 m ⟨e1,l1,h1,h2⟩=>?_,fun _ _ _ m hm c T fr hc=>⟨c,T,fr,hc,rfl⟩⟩;have hbl:=qo hb;rcases h1 with h1|h1
 ·rcases q7c hbl h1 with⟨rfl,h3⟩|⟨hne,h1⟩
  ·cases h3
  ·exact⟨_,_,.inl h1,h2⟩
 ·rcases q7c hbl h1 with⟨rfl,h3⟩|⟨hne,h1⟩
  ·cases h3;exact⟨_,_,.inl hb,h2⟩
  ·exact⟨_,_,.inr h1,h2⟩
theorem HSim.frz (hs:HSim B X)(hb:X.h[b]?=some (.vec e sh l)):HSim B (X.frz b e sh l):=by
 have hx:=Ctx.frz_ext hb;have hbl:=qo hb;have hown:∀b1 n1,(X.frz b e sh l).own b1 n1->b1≠b/\X.own b1 n1:=by
  intro b1 n1 ⟨h1,k1,h2,h3⟩;rcases q7c hbl h2 with⟨rfl,rfl⟩|⟨hne,h2⟩
  ·cases h3
  ·exact⟨hne,h1,k1,h2,h3⟩
 have hob:∀m,X.σ b=some m->X.own b m:=fun m hm=>⟨hm,_,hb,rfl⟩;constructor
 ·intro b1 k1 h;rcases q7c hbl h with⟨rfl,rfl⟩|⟨hne,h1⟩
  ·rcases hs.blk b1 _ hb with h1|⟨n,c,h1,h2,h3⟩
   ·exact .inl h1
   ·exact .inr ⟨n,c,h1,h2,h3.mono hx.M hx.w,.inr h1⟩
  ·exact jf.ext hx rfl (fun _ _=>rfl) (hs.blk b1 k1 h1)
 ·intro b1 b2 m h1 h2;exact hs.inj b1 b2 m (hown b1 m h1).2 (hown b2 m h2).2
 ·intro b1 m h1 h2;rcases h2 with h2|h2
  ·exact hs.notM b1 m (hown b1 m h1).2 h2
  ·exact(hown b1 m h1).1 (hs.inj b1 b m (hown b1 m h1).2 (hob m h2))
 ·intro m h;rcases h with h|h
  ·exact hs.ltM m h
  ·exact Ctx.own.lt hs (hob m h)
 ·intro m h;exact .inl (hs.M0 m h)
 ·intro m h;rcases h with h|h
  ·exact hs.newM m h
  ·exact .inr (hs.fresh b m (hob m h) (qs3 hs hb rfl))
 ·exact hs.os
 ·exact hs.tape
 ·exact hs.output
 ·exact hs.size
 ·exact hs.frame
 ·exact hs.imps
 ·intro b1 hb1;obtain⟨cs,h,hc⟩:=hs.impc b1 hb1;by_cases hbb:b1=b
  ·subst hbb;rw[hb] at h;cases h;cases hc
  ·exact⟨cs,by simpa[Ctx.frz,qO1 (qOr hbb)] using h,hc⟩
 ·intro b1 m h1 h2;exact hs.fresh b1 m (hown b1 m h1).2 h2
 ·exact hs.kept
def Ctx.repl(X:Ctx)(b:Nat)(s':Option Nat)(k':Blk)(w':World):Ctx:={ σ:=fun x=>if x=b then s' else X.σ x,h:=(X.h.set b k').map (Blk.ren (qcA b)),w:=w',M:=X.M,kept:=X.kept,y:=X.y }
structure ReplW (X:Ctx) (b:Nat) (s':Option Nat) (w':World):Prop where
 other:∀m,m<X.w.heap.size->X.σ b≠some m->w'.heap[m]?=X.w.heap[m]?
 same:∀m c T fr,X.σ b=some m->X.w.heap[m]?=some (.cells c T fr)->∃c' T' fr',w'.heap[m]?=some (.cells c' T' fr')/\c'.size=c.size
 size:X.w.heap.size<=w'.heap.size
 os:w'.os=X.w.os
 tape:w'.tape=X.w.tape
 output:w'.output=X.w.output
 at_:s'=X.σ b\/∀m,s'=some m->X.w.heap.size<=m
theorem qr5 {k':Blk}{s':Option Nat}(hb:b<X.h.length){b1:Nat}{k1:Blk}(h:(X.repl b s' k' w').h[b1]?=some k1) :b1=b/\k1=k'.ren (qcA b)\/b1≠b/\∃k0,X.h[b1]?=some k0/\k1=k0.ren (qcA b):=by
 simp only[Ctx.repl,qO8] at h;cases h1:(X.h.set b k')[b1]? with
 | none=>rw[h1] at h;cases h
 | some k0=>
  rw[h1] at h;simp only[qOz,qNY] at h;rcases q7c hb h1 with⟨rfl,rfl⟩|⟨hne,h2⟩
  ·exact .inl ⟨rfl,h.symm⟩
  ·exact .inr ⟨hne,k0,h2,h.symm⟩
theorem qps {k:Blk}{f:Nat->Option Nat}(h:Blk.vec e sh l=k.ren f\/Blk.frz e sh l=k.ren f):k=.vec e sh l\/k=.frz e sh l:=by
 cases k<;>simp[Blk.ren] at h
 ·exact .inl (by simp[h])
 ·exact .inr (by simp[h])
theorem Ctx.repl_move (hs:HSim B X)(hb:X.h[b]?=some (.vec e sh l)){s':Option Nat}{k':Blk}(hw:ReplW X b s' w'):Move X (X.repl b s' k' w') (qcA b):=by
 have hbl:=qo hb;have hob:∀m,X.σ b=some m->X.own b m:=fun m hm=>⟨hm,_,hb,rfl⟩;refine Move.of (fun _ h=>h) (fun a ha=>qP2 (hw.other _ (hs.ltM _ ha) fun hm=>hs.notM b _ (hob _ hm) ha)) (fun b1 b2 hb1 h=>?_);have hne:b1≠b:=by intro e;subst e;simp[qcA] at h
 have:b2=b1:=by simp[qcA,hne] at h;exact h.symm
 subst this;refine⟨by simpa[Ctx.repl] using hb1,by simp[Ctx.repl,hne],fun sh1 m ⟨e1,l1,h1,h2⟩=>?_,fun _ _ _ m hm c T fr hc=>?_⟩
 ·rcases h1 with h1|h1
  ·rcases qr5 hbl h1 with⟨h3,_⟩|⟨_,k0,h3,h4⟩
   ·exact absurd h3 hne
   ·rcases qps (.inl h4) with rfl|rfl
    ·exact⟨_,_,.inl h3,h2⟩
    ·exact⟨_,_,.inr h3,h2⟩
  ·rcases qr5 hbl h1 with⟨h3,_⟩|⟨_,k0,h3,h4⟩
   ·exact absurd h3 hne
   ·rcases qps (.inr h4) with rfl|rfl
    ·exact⟨_,_,.inl h3,h2⟩
    ·exact⟨_,_,.inr h3,h2⟩
 ·by_cases hbm:X.σ b=some m
  ·exact hw.same m c T fr hbm hc
  ·exact⟨c,T,fr,by rw[show (X.repl b s' k' w').w=w' from rfl,hw.other m (qO4.1 hc).1 hbm];exact hc,rfl⟩
theorem HSim.repl (hs:HSim B X)(hb:X.h[b]?=some (.vec e sh l)){s':Option Nat}{k':Blk}(hw:ReplW X b s' w') (hk':jf (X.repl b s' k' w') b (k'.ren (qcA b))):HSim B (X.repl b s' k' w'):=by
 have hx:=Ctx.repl_move hs hb (k':=k') hw;have hbl:=qo hb;have hni:=qs3 hs hb rfl;have hob:∀m,X.σ b=some m->X.own b m:=fun m hm=>⟨hm,_,hb,rfl⟩;have hown:∀b1 n1,(X.repl b s' k' w').own b1 n1->b1≠b/\X.own b1 n1\/b1=b/\s'=some n1:=by
  intro b1 n1 ⟨h1,k1,h2,h3⟩;rcases qr5 hbl h2 with⟨rfl,_⟩|⟨hne,k0,h4,rfl⟩
  ·exact .inr ⟨rfl,by simpa[Ctx.repl] using h1⟩
  ·exact .inl ⟨hne,by simpa[Ctx.repl,hne] using h1,k0,h4,by rwa [Blk.mut_ren] at h3⟩
 have hnew:∀m,s'=some m->X.own b m\/X.w.heap.size<=m:=by
  intro m hm;rcases hw.at_ with h|h
  ·exact .inl (hob m (h▸hm))
  ·exact .inr (h m hm)
 constructor
 ·intro b1 k1 h;rcases qr5 hbl h with⟨rfl,rfl⟩|⟨hne,k0,h1,rfl⟩
  ·exact hk'
  ·by_cases hd:k0=.dead
   ·subst hd;trivial
   ·refine jf.move hx.toMove0 (by simp[Ctx.repl,hne]) (fun m hm=>hw.other m (hs.lt h1 hd hm) fun hbm=>?_) (hs.blk b1 k0 h1);by_cases hm1:k0.mut=true
    ·exact hne (hs.inj b1 b m ⟨hm,k0,h1,hm1⟩ (hob m hbm))
    ·cases k0 with
     | cells=>exact hm1 rfl
     | big=>exact hm1 rfl
     | vec=>exact hm1 rfl
     | dead=>exact hd rfl
     | frz e sh l=>
      rcases hs.blk b1 _ h1 with⟨e1,_⟩|⟨n1,c1,e1,_,_,e4⟩
      ·rw[hm] at e1;cases e1
      ·rw[hm] at e1;cases e1;exact hs.notM b m (hob m hbm) e4
 ·intro b1 b2 m h1 h2;rcases hown b1 m h1 with⟨n1,g1⟩|⟨n1,g1⟩
  ·rcases hown b2 m h2 with⟨n2,g2⟩|⟨n2,g2⟩
   ·exact hs.inj b1 b2 m g1 g2
   ·rcases hnew m g2 with h3|h3
    ·rw[n2];exact hs.inj b1 _ m g1 h3
    ·exact absurd (Ctx.own.lt hs g1) (by omega)
  ·rcases hown b2 m h2 with⟨n2,g2⟩|⟨n2,g2⟩
   ·rcases hnew m g1 with h3|h3
    ·rw[n1];exact hs.inj _ b2 m h3 g2
    ·exact absurd (Ctx.own.lt hs g2) (by omega)
   ·rw[n1,n2]
 ·intro b1 m h1 h2;rcases hown b1 m h1 with⟨n1,g1⟩|⟨n1,g1⟩
  ·exact hs.notM b1 m g1 h2
  ·rcases hnew m g1 with h3|h3
   ·exact hs.notM _ m h3 h2
   ·exact absurd (hs.ltM m h2) (by omega)
 ·intro m h;have:=hs.ltM m h;have:=hw.size;show m<w'.heap.size;omega
 ·exact hs.M0
 ·exact hs.newM
 ·exact hw.os.trans hs.os
 ·exact hw.tape.trans hs.tape
 ·exact hw.output.trans hs.output
 ·have:=hs.size;have:=hw.size;show _<=w'.heap.size;omega
 ·intro m hm hnm;have h1:=hs.size;have:X.σ b≠some m:=fun e=>by have:=hs.fresh b m (hob m e) hni;omega
  rw[show (X.repl b s' k' w').w=w' from rfl,hw.other m (by omega) this];exact hs.frame m hm hnm
 ·intro b1 hb1;have:b1≠b:=by omega
  simp only[Ctx.repl,this,if_false];exact hs.imps b1 hb1
 ·intro b1 hb1;obtain⟨cs,h,hc⟩:=hs.impc b1 hb1;have hne:b1≠b:=by omega
  exact⟨cs.ren (qcA b),by simp[Ctx.repl,qO1 (qOr hne),h],by rw[Blk.solid_ren];exact hc⟩
 ·intro b1 m h1 h2;rcases hown b1 m h1 with⟨n1,g1⟩|⟨n1,g1⟩
  ·exact hs.fresh b1 m g1 h2
  ·rcases hnew m g1 with h3|h3
   ·exact hs.fresh _ m h3 hni
   ·have:=hs.size;omega
 ·intro p hp;obtain⟨q1,q2,q3⟩:=hs.kept p hp;refine⟨(hw.other _ (qO4.1 q1).1 fun e=>?_).trans q1,q2,q3⟩;obtain⟨c,T,fr,hc⟩:=(hob _ e).cells hs;rw[hc] at q1;exact q2 _ _ _ (qOE q1).symm
end Go.Eng

namespace Go.Eng
variable {B:Base}{E:Env}{P:Program}{X:Ctx}{av:AV}{l:R}{sh:List Sh}{t:TypeId}{v:Value}
def Env.tok(E:Env)(P:Program):Prop:=∀x,x∈E.tt->qAu P x.1=x.2
theorem qre (hE:E.tok P)(t:TypeId):E.ty t=qN2\/E.ty t=qAu P t:=by
 unfold Env.ty;cases h:E.tt.find? fun x=>x.1==t with
 | none=>exact .inl rfl
 | some x=>
  have h1:=qPd h;have h2:=hE x (qOU h);have h3:x.1=t:=by simpa using h1
  right;simp only[qOz,qOW];rw[<-h2,h3]
theorem kB (hE:E.tok P)(h:(E.ty t).d.known=true) :E.ty t=qAu P t/\∃i d,P.info? t=some i/\P.underlying t=some d/\(E.ty t).d=qHZ P d/\(E.ty t).size=i.size/\(E.ty t).bytes=i.bytes:=by
 rcases qre hE t with h1|h1
 ·rw[h1] at h;cases h
 ·refine⟨h1,?_⟩;rw[h1] at h ⊢;unfold qAu at *;cases hi:P.info? t with
  | none=>rw[hi] at h;cases h
  | some i=>
   rw[hi] at h;cases hd:P.underlying t with
   | none=>rw[hd] at h;cases h
   | some d=>exact⟨i,d,rfl,rfl,by simp,rfl,rfl⟩
theorem q0S (hE:E.tok P){t e:TypeId}{es:Nat}(h:(E.ty t).d=.slice e es):P.underlying t=some (.slice e)/\es=P.cellsOf e:=by obtain⟨_,i,d,_,h2,h3,_⟩:=kB hE (t:=t) (by rw[h];rfl);rw[h] at h3;cases d<;>simp[qHZ] at h3;obtain⟨rfl,rfl⟩:=h3;exact⟨h2,rfl⟩
theorem q7C (hE:E.tok P){t e:TypeId}{n es:Nat}(h:(E.ty t).d=.array n e es):P.underlying t=some (.array n e)/\es=P.cellsOf e:=by obtain⟨_,i,d,_,h2,h3,_⟩:=kB hE (t:=t) (by rw[h];rfl);rw[h] at h3;cases d<;>simp[qHZ] at h3;obtain⟨rfl,rfl,rfl⟩:=h3;exact⟨h2,rfl⟩
theorem q8n (hE:E.tok P){fs:List (Nat×TypeId×Nat)}(h:(E.ty t).d=.struct fs) :∃fields,P.underlying t=some (.struct fields)/\fs=fields.toList.map fun f=>(f.offset,f.type,P.cellsOf f.type):=by obtain⟨_,i,d,_,h2,h3,_⟩:=kB hE (t:=t) (by rw[h];rfl);rw[h] at h3;cases d<;>simp[qHZ] at h3;exact⟨_,h2,h3⟩
theorem qtD (hE:E.tok P){k:IntKind}(h:(E.ty t).d=.int k):P.underlying t=some (.int k):=by obtain⟨_,i,d,_,h2,h3,_⟩:=kB hE (t:=t) (by rw[h];rfl);rw[h] at h3;cases d<;>simp[qHZ] at h3;rw[h2,h3]
theorem qgn (hE:E.tok P)(h:(E.ty t).d=.str):P.underlying t=some .string:=by obtain⟨_,i,d,_,h2,h3,_⟩:=kB hE (t:=t) (by rw[h];rfl);rw[h] at h3;cases d<;>simp[qHZ] at h3;exact h2
theorem qdU (hE:E.tok P)(h:(E.ty t).d.known=true)(w:World):(isAgg t).run P w=.ok (E.ty t).d.isAgg w:=by obtain⟨_,i,d,_,h2,h3,_⟩:=kB hE h;rw[h3];unfold isAgg;rw[qO3,run_underlying h2,qOa];rw[h3] at h;cases d<;>first|rfl|(simp[qHZ,TD.known] at h)
theorem qjF (hE:E.tok P)(h:(E.ty t).d.known=true)(w:World):(sizeOf t).run P w=.ok (E.ty t).size w:=by obtain⟨_,i,d,h1,_,_,h4,_⟩:=kB hE h;simp[sizeOf,typeInfo,h1,h4]
theorem zw (h:0<P.cellsOf t)(w:World):(sizeOf t).run P w=.ok (P.cellsOf t) w:=by
 unfold Program.cellsOf at *;cases h1:P.info? t with
 | none=>rw[h1] at h;simp at h
 | some i=>simp[sizeOf,typeInfo,h1]
def qJ(P:Program)(B:Base)(X:Ctx)(m:Sem Next)(r:Res):Prop:=
 ∃nx v X',m.run P X.w=.ok nx X'.w/\(nx=.value v\/(nx=.skip/\v=Go.undef))/\Rep X' r.1 v/\HSim B X' /\
  match r.2.2 with
  | none=>X'.h=r.2.1/\Ext X X'
  | some b=>X'.h=r.2.1.map (Blk.ren (qcA b))/\Move X X' (qcA b)
theorem Ext.refl (X:Ctx):Ext X X:=Move.of (fun _ h=>h) (fun _ _=>rfl) (fun b b' hb h=>by cases h;exact⟨hb,rfl,fun _ _ h=>h,fun _ _ _ _ _ c T fr h=>⟨c,T,fr,h,rfl⟩⟩)
theorem qJ.val {m:Sem Next}(hs:HSim B X)(h:m.run P X.w=.ok (.value v) X.w)(hr:Rep X av v):qJ P B X m (av,X.h,none):=⟨_,v,X,h,.inl rfl,hr,hs,rfl,Ext.refl X⟩
theorem qfT (l:R)(i:Int)(j:Nat):zH l (i.toNat:Int) j=zH l i j:=by unfold zH;rw[qO9]
theorem qw9 {i:Int}{j:Nat}(h:qgZ sh l i j=some av)(hj:j<sh.length)(hr:RepU X.w X.M sh[j] (zH l i j) v):Rep X av v:=by
 unfold qgZ at h;rw[qO5 hj] at h;generalize sh[j]=s at *;cases s with
 | int k=>cases h;cases hr;exact .int _ _
 | bool=>cases h;cases hr;exact .bool _
 | str=>cases h;cases hr;exact .str _
 | sl row=>cases h;exact .imm _ _ _ (qmU hr)
theorem qmQ {i:Int}{j:Nat}(h:qgZ sh l i j=some av):j<sh.length:=by
 unfold qgZ at h;rcases qO6 j sh.length with h'|h'
 ·exact h'
 ·rw[qOl h'] at h;cases h
theorem qs0{X:Ctx}{sh:List Sh}{l:R}{i:Int}(g:Nat->Option Value)
  (hg:∀j (hj:j<sh.length),∃v,g j=some v/\RepU X.w X.M sh[j] (zH l i j) v) :
  ∀(n off:Nat) (cs:List AV),qal sh l i off n=some cs->∃vs:List Value,vs.length=n/\RepL X cs vs/\∀j v,vs[j]?=some v->g (off+j)=some v
 | 0,off,cs,h=>by
  simp[qal] at h;subst h;exact⟨[],rfl,.nil,fun j v h=>by simp at h⟩
 | n+1,off,cs,h=>by
  simp only[qal] at h;cases h1:qgZ sh l i off with
  | none=>rw[h1] at h;cases h
  | some a=>
   cases h2:qal sh l i (off+1) n with
   | none=>rw[h1,h2] at h;cases h
   | some r=>
    rw[h1,h2] at h;cases h;obtain⟨vs,e1,e2,e3⟩:=qs0 g hg n (off+1) r h2;obtain⟨v,e4,e5⟩:=hg off (qmQ h1);refine⟨v::vs,by simp[e1],.cons (qw9 h1 (qmQ h1) e5) e2,fun j u hj=>?_⟩;cases j with
    | zero=>simp at hj;subst hj;exact e4
    | succ j=>rw[show off+(j+1)=off+1+j by omega];exact e3 j u (by simpa using hj)
theorem qkk (hE:E.tok P)(hk:(E.ty t).d.known=true){blk o:Nat}{i:Int}{off:Nat}(hg:∀j (hj:j<sh.length),∃v,X.w.cell? ⟨blk,o+j,none⟩=some v/\RepU X.w X.M sh[j] (zH l i j) v) {r:Res}(h:((if (E.ty t).d.isAgg then (match qal sh l i off (E.ty t).size with|some cs=>okv X.h (.agg cs)|none=>.fail) else (match qgZ sh l i off with|some v=>okv X.h v|none=>.fail)):Tree Res).run=some r) :∃av u,r=(av,X.h,none)/\(loadVar t ⟨blk,o+off,none⟩).run P X.w=.ok u X.w/\Rep X av u:=by
 unfold loadVar;rw[qO3,qdU hE hk,qOa];cases ha:(E.ty t).d.isAgg with
 | true=>
  rw[ha] at h;simp only[if_true] at h ⊢;cases hc:qal sh l i off (E.ty t).size with
  | none=>rw[hc] at h;cases h
  | some cs=>
   rw[hc] at h;cases h;obtain⟨vs,e1,e2,e3⟩:=qs0 (fun j=>X.w.cell? ⟨blk,o+j,none⟩) hg _ _ _ hc;refine⟨_,.agg vs.toArray,rfl,?_,.agg cs vs e2⟩;have:=run_loadCells_list (P:=P) X.w ⟨blk,o+off,none⟩ vs (fun j v hj=>by rw[qOL];have:=e3 j v hj;rwa [<-qPv] at this);rw[e1] at this;simp[qjF hE hk,this]
 | false=>
  rw[ha] at h;simp only[qOC,if_false] at h ⊢;cases hc:qgZ sh l i off with
  | none=>rw[hc] at h;cases h
  | some v=>
   rw[hc] at h;cases h;obtain⟨u,e1,e2⟩:=hg off (qmQ hc);exact⟨_,u,rfl,by simp[e1],qw9 hc (qmQ hc) e2⟩
theorem qdL {h:List Blk}{b:Nat}(hr:vq h (.vec b)=some (sh,l)):∃e,h[b]?=some (.vec e sh l)\/h[b]?=some (.frz e sh l):=by simp only[vq] at hr;split at hr<;>first|(cases hr;rename_i hh;exact⟨_,.inl hh⟩)|(cases hr;rename_i hh;exact⟨_,.inr hh⟩)|cases hr
theorem HSim.rows (hs:HSim B X){b:Nat}{e:TypeId}(h:X.h[b]?=some (.vec e sh l)\/X.h[b]?=some (.frz e sh l)) :(X.σ b=none/\l=[])\/∃n c,X.σ b=some n/\X.w.heap[n]?=some (.cells c e (0,0))/\qyH X.w X.M sh l c:=by
 rcases h with h|h
 ·exact hs.blk b _ h
 ·rcases hs.blk b _ h with h1|⟨n,c,h1,h2,h3,_⟩
  ·exact .inl h1
  ·exact .inr ⟨n,c,h1,h2,h3⟩
theorem qhA (hE:E.tok P)(hs:HSim B X){p:AV}(hv:Rep X p v){r:Res}(h:(qfY E X.h t p).run=some r):∃av u,r=(av,X.h,none)/\(Instr.loadAt t v).run P X.w=.ok u X.w/\Rep X av u:=by
 unfold qfY at h;by_cases hk:(E.ty t).d.known=false
 ·simp only[hk,if_true] at h;cases h
 simp only[hk] at h;have hk':(E.ty t).d.known=true:=by simpa using hk
 cases hv with
 | ptr b off n0 hb hσ=>
  simp only at h;cases hh:X.h[b]? with
  | none=>rw[hh] at h;cases h
  | some blk=>
   rw[hh] at h;cases blk with
   | vec=>cases h
   | frz=>cases h
   | dead=>cases h
   | big=>cases h
   | cells cs=>
    simp only at h;obtain⟨n,c,T,e1,e2,e3⟩:=hs.blk b _ hh;rw[hσ] at e1;cases e1;simp only[Instr.loadAt,Instr.sureAddr,qO3,qOw,qOa];unfold loadVar;rw[qO3,qdU hE hk',qOa];cases ha:(E.ty t).d.isAgg with
    | true=>
     rw[ha] at h;simp only[if_true] at h ⊢;by_cases hle:off+(E.ty t).size<=cs.length
     ·rw[if_pos hle] at h;cases h;have hlen:=e3.length;have h2:=(e3.drop off).take (E.ty t).size;refine⟨_,_,rfl,?_,.agg _ _ h2⟩;have hl:((c.toList.drop off).take (E.ty t).size).length=(E.ty t).size:=by simp only[qOX,qPX] at *;omega
      have:=run_loadCells_list (P:=P) X.w ⟨n0,off,none⟩ ((c.toList.drop off).take (E.ty t).size) (fun j v hj=>by
       rw[qOL,zN e2];rw[qP3] at hj;split at hj
       ·rw[qP4] at hj;simpa using hj
       ·cases hj)
      rw[hl] at this;simp[qjF hE hk',this]
     ·rw[if_neg hle] at h;cases h
    | false=>
     rw[ha] at h;simp only[qOC,if_false] at h ⊢;cases hc:cs[off]? with
     | none=>rw[hc] at h;cases h
     | some u=>
      rw[hc] at h;cases h;obtain⟨u',e4,e5⟩:=e3.get off u hc;refine⟨_,u',rfl,?_,e5⟩;have:X.w.cell? ⟨n0,off,none⟩=some u':=by rw[zN e2];simpa using e4
      simp[this]
 | eptr sh l i off a hsp h0 h1 hr=>
  simp only at h;simp only[Instr.loadAt,Instr.sureAddr,qO3,qOw,qOa];exact qkk hE hk' (blk:=a.block) (o:=a.off+i.toNat*sh.length) (fun j hj=>by obtain⟨_,v,e1,e2⟩:=hr i.toNat j hj h1;exact⟨v,e1,by rwa [qfT] at e2⟩) h
 | vptr b i off n0 k0 hb hσ hv=>
  simp only at h;cases hr:vq X.h (.vec b) with
  | none=>rw[hr] at h;cases h
  | some x=>
   obtain⟨sh,l⟩:=x;rw[hr] at h;simp only at h;obtain⟨e,hh⟩:=qdL hr;rcases hs.rows hh with⟨e1,rfl⟩|⟨n,c,e1,e2,e3⟩
   ·rw[hσ] at e1;cases e1
   ·rw[hσ] at e1;cases e1;obtain⟨f1,f2,rfl⟩:=hv sh l.length ⟨e,l,hh,rfl⟩;simp only[Instr.loadAt,Instr.sureAddr,qO3,qOw,qOa];exact qkk hE hk' (blk:=n0) (o:=i.toNat*sh.length) (fun j hj=>by obtain⟨v,g1,g2⟩:=e3 i.toNat j hj f2;exact⟨v,by rw[zN e2];exact g1,by rwa [qfT] at g2⟩) h
 | _=>simp only at h;cases h
end Go.Eng

namespace Go.Eng
variable {E:Env}{P:Program}{X:Ctx}{r:Res}{t:TypeId}{v:Value}{w:World}
theorem qJ.ofV {B:Base}{m:Sem Value}{av:AV}(hs:HSim B X)(h:m.run P X.w=.ok v X.w)(hr:Rep X av v) :qJ P B X (do pure (.value (<-m))) (av,X.h,none):=qJ.val (v:=v) hs (by simp[h]) hr
theorem q3d {a:AV}{k:IntKind}{n:Int}(hr:Rep X a v)(h:asI a=some (k,n)):v=.int k n:=by
 cases hr<;>simp[asI] at h
 ·obtain⟨rfl,rfl⟩:=h;rfl
 ·obtain⟨rfl,rfl⟩:=h;rfl
theorem qx2 {a:AV}{b:Bool}(hr:Rep X a v)(h:asB a=some b):v=.bool b:=by
 cases hr<;>simp[asB] at h
 ·subst h;rfl
 ·subst h;rfl
theorem qCm {s:qNX}(hr:Rep X (.str s) v):v=.string ⟨s.toArray⟩:=by cases hr;rfl
theorem qvR (X:Ctx)(v:Value):Rep X (jg v) v:=by
 unfold jg;split<;>first|exact .blit _|exact .ilit _ _|exact .nilp|exact .nils|exact .nilf|exact .undef _|skip
 rename_i s;have:Rep X (.str s.data.toList) (.string ⟨s.data.toList.toArray⟩):=.str _;simpa using this
theorem jw(X:Ctx):∀l:List Value,RepL X (l.map jg) l
 | []=>.nil
 | v::l=>.cons (qvR X v) (jw X l)
theorem qKk (X:Ctx)(v:Value):Rep X (ofV v) v:=by
 unfold ofV;split
 ·rename_i cs;have:Rep X (.agg (cs.toList.map jg)) (.agg cs.toList.toArray):=.agg _ _ (jw X _);simpa using this
 ·exact qvR X v
theorem qdT {h:List Blk}{k:IntKind}{f:Int->Int->Int}{lit:Bool}{x y:Int}(hr:(q6G h k f lit x y).run=some r)(X:Ctx) :∃av,r=(av,h,none)/\Rep X av (.int k (f x y)):=by
 unfold q6G at hr;split at hr<;>cases hr
 ·exact⟨_,rfl,.ilit _ _⟩
 ·exact⟨_,rfl,.int _ _⟩
theorem qjE {h:List Blk}{f:Int->Int->Bool}{lit:Bool}{x y:Int}(hr:(qEW h f lit x y).run=some r)(X:Ctx) :∃av,r=(av,h,none)/\Rep X av (.bool (f x y)):=by
 unfold qEW at hr;split at hr<;>cases hr
 ·exact⟨_,rfl,.blit _⟩
 ·exact⟨_,rfl,.bool _⟩
theorem j5 {b:Bool}{t:Tree Res}(h:(Tree.br b t .fail).run=some r):b=true/\t.run=some r:=by
 cases b
 ·cases h
 ·exact⟨rfl,h⟩
theorem qro (hE:E.tok P)(h:(E.ty t).d=.bool):P.underlying t=some .bool:=by obtain⟨_,i,d,_,h2,h3,_⟩:=kB hE (t:=t) (by rw[h];rfl);rw[h] at h3;cases d<;>simp[qHZ] at h3;exact h2
theorem qCV (hE:E.tok P){t e:TypeId}(h:(E.ty t).d=.ptr e):P.underlying t=some (.pointer e):=by obtain⟨_,i,d,_,h2,h3,_⟩:=kB hE (t:=t) (by rw[h];rfl);rw[h] at h3;cases d<;>simp[qHZ] at h3;rw[h2,h3]
theorem qy7 (s t:qNX):(ByteArray.toList ⟨s.toArray⟩==ByteArray.toList ⟨t.toArray⟩)=seq s t:=by rw[ByteArray.toList_eq,ByteArray.toList_eq];rfl
theorem qJ8 (s t:qNX):Op.bytesLess (ByteArray.toList ⟨s.toArray⟩) (ByteArray.toList ⟨t.toArray⟩)=slt s t:=by rw[ByteArray.toList_eq,ByteArray.toList_eq];rfl
theorem qhN {vx vy:Value}{r:Bool}(h:(Op.equalIn (9999+1) t vx vy).run P w=.ok r w):(Op.equal t vx vy).run P w=.ok r w:=h
theorem qb2 {x y:Operand}{vx vy:Value}{r:Bool}(h:(Op.equal t vx vy).run P w=.ok r w)(h1:∀op,eqGuard op t x y vx vy=pure ()) (h2:binOp .eql t vx vy=(do pure (.bool (<-Op.equal t vx vy)))) :(do eqGuard .eql t x y vx vy;binOp .eql t vx vy:Sem Value).run P w=.ok (.bool r) w:=by simp[h1,h2,h]
theorem q7h {x y:Operand}{vx vy:Value}{r:Bool}(h:(Op.equal t vx vy).run P w=.ok r w)(h1:∀op,eqGuard op t x y vx vy=pure ()) (h2:binOp .neq t vx vy=(do pure (.bool (!(<-Op.equal t vx vy))))) :(do eqGuard .neq t x y vx vy;binOp .neq t vx vy:Sem Value).run P w=.ok (.bool (!r)) w:=by simp[h1,h2,h]
theorem qkv (ht:P.underlying t=some .bool)(a b:Bool)(w:World):(Op.equal t (.bool a) (.bool b)).run P w=.ok (a==b) w:=qhN (run_equalIn_bool' w 9999 t a b ht)
theorem q9I {t e:TypeId}(ht:P.underlying t=some (.pointer e))(w:World):(Op.equal t (.pointer none) (.pointer none)).run P w=.ok true w:=qhN (by rw[Op.equalIn,qO3,run_underlying ht];rfl)
theorem q2J {t e:TypeId}(ht:P.underlying t=some (.pointer e))(a:Addr)(w:World):(Op.equal t (.pointer (some a)) (.pointer none)).run P w=.ok false w:=qhN (by rw[Op.equalIn,qO3,run_underlying ht];rfl)
theorem qhF {t e:TypeId}(ht:P.underlying t=some (.slice e))(a:Addr)(n c:Nat):(Op.equal t (.slice (some a) n c) (.slice none 0 0)).run P w=.ok false w:=qhN (by rw[Op.equalIn,qO3,run_underlying ht];rfl)
theorem qC3 (hE:E.tok P){B:Base}(hs:HSim B X){op:BinOp}{x y:Operand}{ax ay:AV}{vx vy:Value}(hx:Rep X ax vx)(hy:Rep X ay vy)(h:(qzO (E.ty t).d X.h op ax ay).run=some r):∃av u,r=(av,X.h,none)/\(do eqGuard op t x y vx vy;binOp op t vx vy:Sem Value).run P X.w=.ok u X.w/\Rep X av u:=by
 unfold qzO at h;cases h1:asI ax with
 | some p=>
  obtain⟨k,a⟩:=p;cases h2:asI ay with
  | some q=>
   obtain⟨k',b⟩:=q;rw[h1,h2] at h;simp only at h;have e1:=q3d hx h1;have e2:=q3d hy h2;subst e1 e2;by_cases hk:k=k'
   ·subst hk;simp only[if_true] at h;have hz:∀(f:Int->Int->Int) (lit:Bool),(match ay with
     | .ilit _ c=>if c=0 then Tree.fail else q6G X.h k f lit a b
     | _=>.br (ine b 0) (q6G X.h k f lit a b) .fail).run=some r->b≠0/\(q6G X.h k f lit a b).run=some r:=by
     intro f lit hh;cases ay<;>simp only[asI] at h2<;>cases h2
     ·have hh2:(if b=0 then Tree.fail else q6G X.h k f lit a b).run=some r:=hh;by_cases h0:b=0
      ·rw[if_pos h0] at hh2;cases hh2
      ·rw[if_neg h0] at hh2;exact⟨h0,hh2⟩
     ·obtain⟨g1,g2⟩:=j5 hh;exact⟨by simpa[ine] using g1,g2⟩
    cases op with
    | add=>obtain⟨av,e,f⟩:=qdT h X;exact⟨av,_,e,by simp[eqGuard,binOp,Op.intArith];rfl,f⟩
    | sub=>obtain⟨av,e,f⟩:=qdT h X;exact⟨av,_,e,by simp[eqGuard,binOp,Op.intArith];rfl,f⟩
    | mul=>obtain⟨av,e,f⟩:=qdT h X;exact⟨av,_,e,by simp[eqGuard,binOp,Op.intArith];rfl,f⟩
    | quo=>obtain⟨h0,hh⟩:=hz _ _ h;obtain⟨av,e,f⟩:=qdT hh X;exact⟨av,_,e,by simp[eqGuard,binOp,Op.intDiv,h0];rfl,f⟩
    | rem=>obtain⟨h0,hh⟩:=hz _ _ h;obtain⟨av,e,f⟩:=qdT hh X;exact⟨av,_,e,by simp[eqGuard,binOp,Op.intDiv,h0];rfl,f⟩
    | eql=>obtain⟨av,e,f⟩:=qjE h X;exact⟨av,_,e,by simp[eqGuard,binOp,Op.intCmp];rfl,f⟩
    | neq=>obtain⟨av,e,f⟩:=qjE h X;exact⟨av,_,e,by simp[eqGuard,binOp,Op.intCmp];rfl,f⟩
    | lss=>obtain⟨av,e,f⟩:=qjE h X;exact⟨av,_,e,by simp[eqGuard,binOp,Op.intCmp];rfl,f⟩
    | leq=>obtain⟨av,e,f⟩:=qjE h X;exact⟨av,_,e,by simp[eqGuard,binOp,Op.intCmp];rfl,f⟩
    | gtr=>obtain⟨av,e,f⟩:=qjE h X;exact⟨av,_,e,by simp[eqGuard,binOp,Op.intCmp];rfl,f⟩
    | geq=>obtain⟨av,e,f⟩:=qjE h X;exact⟨av,_,e,by simp[eqGuard,binOp,Op.intCmp];rfl,f⟩
    | _=>cases h
   ·simp only[hk,if_false] at h;cases h
  | none=>
   rw[h1,h2] at h;cases ax<;>simp[asI] at h1<;>simp[asB] at h<;>cases h
 | none=>
  rw[h1] at h;simp only at h;cases h2:asB ax with
  | some a=>
   cases h3:asB ay with
   | some b=>
    rw[h2,h3] at h;simp only at h;have e1:=qx2 hx h2;have e2:=qx2 hy h3;subst e1 e2;cases hd:(E.ty t).d<;>rw[hd] at h<;>try (cases h)
    have ht:=qro hE hd;cases op<;>simp only[okb] at h<;>cases h
    ·exact⟨_,_,rfl,qb2 (qkv ht _ _ _) (fun op=>by cases op<;>rfl) rfl,.bool _⟩
    ·exact⟨_,_,rfl,q7h (qkv ht _ _ _) (fun op=>by cases op<;>rfl) rfl,.bool _⟩
   | none=>
    rw[h2,h3] at h;cases ax<;>simp[asB] at h2<;>simp only at h<;>cases h
  | none=>
   rw[h2] at h;simp only at h;cases ax with
   | str s=>
    cases ay<;>simp only at h<;>try (cases h)
    rename_i s';obtain rfl:=qCm hx;obtain rfl:=qCm hy;cases op<;>simp only[okb,okv] at h<;>try (cases h)
    ·obtain⟨g1,g2⟩:=j5 h;cases g2;refine⟨_,.string ⟨(qeJ s s').toArray⟩,rfl,?_,.str _⟩;have g3:(s.length:Int)+s'.length<=140737488355328:=of_decide_eq_true g1;have g4:¬(((ByteArray.mk s.toArray).size+(ByteArray.mk s'.toArray).size:Nat):Int)>IntKind.i64.max:=by
      have:IntKind.i64.max=9223372036854775807:=by decide
      have h1:(ByteArray.mk s.toArray).size=s.length:=rfl;have h2:(ByteArray.mk s'.toArray).size=s'.length:=rfl;omega
     have g5:(ByteArray.mk s.toArray++ByteArray.mk s'.toArray)=⟨(qeJ s s').toArray⟩:=by apply ByteArray.ext;simp[qeJ]
     simp only[eqGuard,binOp,Op.stringOp,qO3,qOw,qOa,Bool.not_false,if_true,g4,if_false,g5]
    all_goals exact⟨_,_,rfl,by simp only[eqGuard,binOp,Op.stringOp,qy7,qJ8];rfl,.bool _⟩
   | nilp=>
    cases ay<;>simp only at h<;>try (cases h)
    cases hd:(E.ty t).d<;>rw[hd] at h<;>try (cases h)
    have ht:=qCV hE hd;cases hx;cases hy;cases op<;>simp only[okv] at h<;>cases h
    ·exact⟨_,_,rfl,qb2 (q9I ht _) (fun op=>by cases op<;>rfl) rfl,.blit _⟩
    ·exact⟨_,_,rfl,q7h (q9I ht _) (fun op=>by cases op<;>rfl) rfl,.blit _⟩
   | ptr b o=>
    cases ay<;>simp only at h<;>try (cases h)
    cases hd:(E.ty t).d<;>rw[hd] at h<;>try (cases h)
    have ht:=qCV hE hd;cases hb:X.h[b]? with
    | none=>rw[hb] at h;cases h
    | some k=>
     rw[hb] at h;cases k<;>try (cases h)
     obtain⟨n,c,T,e1,_,_⟩:=hs.blk b _ hb;cases hy;cases hx with
     | ptr _ _ n0 hbl hσ=>
      cases op<;>simp only[okv] at h<;>cases h
      ·exact⟨_,_,rfl,qb2 (q2J ht _ _) (fun op=>by cases op<;>rfl) rfl,.blit _⟩
      ·exact⟨_,_,rfl,q7h (q2J ht _ _) (fun op=>by cases op<;>rfl) rfl,.blit _⟩
   | eptr sh l i o=>
    cases ay<;>simp only at h<;>try (cases h)
    cases hd:(E.ty t).d<;>rw[hd] at h<;>try (cases h)
    have ht:=qCV hE hd;cases hy;cases hx;cases op<;>simp only[okv] at h<;>cases h
    ·exact⟨_,_,rfl,qb2 (q2J ht _ _) (fun op=>by cases op<;>rfl) rfl,.blit _⟩
    ·exact⟨_,_,rfl,q7h (q2J ht _ _) (fun op=>by cases op<;>rfl) rfl,.blit _⟩
   | imm sh l=>
    cases ay<;>simp only at h<;>try (cases h)
    cases hd:(E.ty t).d<;>rw[hd] at h<;>try (cases h)
    have ht:=q0S hE hd;cases hy;cases hx with
    | imm _ _ _ himm=>
     have hne:ilt 0 (qg l)=true->∃a c,vx=.slice (some a) l.length c:=by
      intro hl;have hl':(0:Int)<qg l:=of_decide_eq_true hl;rcases himm with⟨rfl,rfl⟩|⟨a,cap,rfl,_⟩
      ·simp[qg] at hl'
      ·exact⟨a,cap,rfl⟩
     cases op<;>simp only[okv] at h<;>try (cases h)
     ·obtain⟨g1,g2⟩:=j5 h;cases g2;obtain⟨a,c,rfl⟩:=hne g1;exact⟨_,_,rfl,qb2 (qhF ht.1 _ _ _) (fun op=>by cases op<;>rfl) rfl,.blit _⟩
     ·obtain⟨g1,g2⟩:=j5 h;cases g2;obtain⟨a,c,rfl⟩:=hne g1;exact⟨_,_,rfl,q7h (qhF ht.1 _ _ _) (fun op=>by cases op<;>rfl) rfl,.blit _⟩
   | mptr c sh l i o=>
    cases ay<;>simp only at h<;>try (cases h)
    cases hd:(E.ty t).d<;>rw[hd] at h<;>try (cases h)
    have ht:=qCV hE hd;cases hy;cases hx with
    | mnil=>
     cases op<;>simp only[okb] at h<;>cases h
     ·exact⟨_,_,rfl,qb2 (q9I ht _) (fun op=>by cases op<;>rfl) rfl,.bool _⟩
     ·exact⟨_,_,rfl,q7h (q9I ht _) (fun op=>by cases op<;>rfl) rfl,.bool _⟩
    | mptr=>
     cases op<;>simp only[okb] at h<;>cases h
     ·exact⟨_,_,rfl,qb2 (q2J ht _ _) (fun op=>by cases op<;>rfl) rfl,.bool _⟩
     ·exact⟨_,_,rfl,q7h (q2J ht _ _) (fun op=>by cases op<;>rfl) rfl,.bool _⟩
   | _=>simp only at h;cases h
end Go.Eng

namespace Go.Eng
variable {E:Env}{P:Program}{X:Ctx}{r:Res}{t:TypeId}{v:Value}{w:World}
theorem qE7 {op:UnOp}{a:AV}(hv:Rep X a v)(h:(qLl X.h op a).run=some r) :∃av u,r=(av,X.h,none)/\(Op.unary op v).run P X.w=.ok u X.w/\Rep X av u:=by
 unfold qLl at h;cases op<;>cases hv<;>simp only[okv] at h<;>cases h
 ·exact⟨_,_,rfl,rfl,.ilit _ _⟩
 ·exact⟨_,_,rfl,rfl,.int _ _⟩
 ·exact⟨_,_,rfl,rfl,.blit _⟩
 ·exact⟨_,_,rfl,rfl,.bool _⟩
theorem qzB (hE:E.tok P){src dst:TypeId}{a:AV}(hv:Rep X a v)(h:(qpz E X.h src dst a).run=some r) :∃av u,r=(av,X.h,none)/\(convert src dst v).run P X.w=.ok u X.w/\Rep X av u:=by
 unfold qpz at h;cases hs:(E.ty src).d<;>rw[hs] at h<;>try (cases h)
 ·rename_i k1;cases hd:(E.ty dst).d<;>rw[hd] at h<;>try (cases h)
  rename_i k2;have e1:=qtD hE hs;have e2:=qtD hE hd;cases hv<;>simp only[okv] at h<;>cases h
  ·refine⟨_,_,rfl,?_,.ilit _ _⟩;simp only[convert,qO3,run_underlying e1,run_underlying e2,qOa];rfl
  ·refine⟨_,_,rfl,?_,.int _ _⟩;simp only[convert,qO3,run_underlying e1,run_underlying e2,qOa];rfl
 ·cases hd:(E.ty dst).d<;>rw[hd] at h<;>try (cases h)
  have e1:=qgn hE hs;have e2:=qgn hE hd;cases hv<;>simp only[okv] at h<;>cases h;refine⟨_,_,rfl,?_,.str _⟩;simp only[convert,qO3,run_underlying e1,run_underlying e2,qOa];rfl
theorem qui {a:Addr}{f:Field}(h:0<P.cellsOf f.type):(fieldPlace a f).run P w=.ok (a.add f.offset) w:=by
 have:P.cellsOf f.type≠0:=by omega
 simp[fieldPlace,zw h,this]
theorem qom (hE:E.tok P){s:TypeId}{a:AV}(hv:Rep X a v){f:Nat}(h:(q2a E X.h s a f).run=some r) :∃av u,r=(av,X.h,none)/\(Instr.fieldAt s v f).run P X.w=.ok u X.w/\Rep X av u:=by
 unfold q2a at h;cases hs:(E.ty s).d<;>rw[hs] at h<;>try (cases h)
 rename_i fs;obtain⟨fields,e1,e2⟩:=q8n hE hs;simp only at h;cases hf:fs[f]? with
 | none=>rw[hf] at h;cases h
 | some x=>
  obtain⟨o,t,sz⟩:=x;rw[hf] at h;simp only at h;have hfield:∃fd,fields[f]?=some fd/\fd.offset=o/\P.cellsOf fd.type=sz:=by
   rw[e2,qO8] at hf;cases hg:fields.toList[f]? with
   | none=>rw[hg] at hf;cases hf
   | some fd=>
    rw[hg] at hf;simp only[qOz,qNY,qOx] at hf;exact⟨fd,by simpa using hg,hf.1,hf.2.2⟩
  obtain⟨fd,g1,rfl,g3⟩:=hfield;by_cases hz:sz=0
  ·rw[if_pos hz] at h;cases h
  rw[if_neg hz] at h;have hp:0<P.cellsOf fd.type:=by omega
  have hrun:∀a:Addr,(Instr.fieldAt s (.pointer (some a)) f).run P X.w=.ok (.pointer (some (a.add fd.offset))) X.w:=by intro a;simp[Instr.fieldAt,run_underlying e1,g1,Instr.sureAddr,qui hp]
  cases hv with
  | ptr b off n hb hσ=>
   simp only[okv] at h;cases h;refine⟨_,_,rfl,hrun _,?_⟩;rw[qOL];exact .ptr _ _ _ hb hσ
  | eptr sh l i off a hsp h0 h1 hr=>
   simp only[okv] at h;cases h;refine⟨_,_,rfl,hrun _,?_⟩;rw[qOL,qPv];exact .eptr _ _ _ _ _ hsp h0 h1 hr
  | vptr b i off n k hb hσ hp=>
   simp only[okv] at h;cases h;refine⟨_,_,rfl,hrun _,?_⟩;rw[qOL,qPv];exact .vptr _ _ _ _ _ hb hσ hp
  | _=>simp only at h;cases h
theorem q4P (hE:E.tok P){cs:List AV}{vs:List Value}(hv:RepL X cs vs){off:Nat}{a:AV}(h:qgV E t cs off=some a) (w:World):∃u,(part t vs.toArray off).run P w=.ok u w/\Rep X a u:=by
 unfold qgV at h;by_cases hk:(E.ty t).d.known=false
 ·simp only[hk,if_true] at h;cases h
 simp only[hk] at h;have hk':(E.ty t).d.known=true:=by simpa using hk
 unfold part;rw[qO3,qdU hE hk',qOa];cases ha:(E.ty t).d.isAgg with
 | true=>
  rw[ha] at h;simp only[if_true] at h ⊢;by_cases hle:off+(E.ty t).size<=cs.length
  ·have h':(some (AV.agg ((cs.drop off).take (E.ty t).size)):Option AV)=some a:=by simpa[hle] using h
   cases h';refine⟨.agg ((vs.drop off).take (E.ty t).size).toArray,?_,.agg _ _ ((hv.drop off).take _)⟩;rw[qO3,qjF hE hk',qOa,qOw];congr 2;apply qPe;simp[List.extract,Nat.add_sub_cancel_left]
  ·simp[hle] at h
 | false=>
  rw[ha] at h;simp only[qOC,if_false] at h ⊢;obtain⟨u,e1,e2⟩:=hv.get off a h;exact⟨u,by simp[e1],e2⟩
theorem qvQ {h:List Blk}{cs:List AV}{off:Nat}(hr:(qhs E h t cs off).run=some r):∃a,qgV E t cs off=some a/\r=(a,h,none):=by
 unfold qhs at hr;cases hp:qgV E t cs off with
 | none=>rw[hp] at hr;cases hr
 | some a=>rw[hp] at hr;cases hr;exact⟨a,rfl,rfl⟩
theorem qxl (hE:E.tok P){s:TypeId}{a:AV}(hv:Rep X a v){f:Nat}(h:(qiE E X.h s a f).run=some r) :∃av u,r=(av,X.h,none)/\(Instr.field s v f).run P X.w=.ok u X.w/\Rep X av u:=by
 unfold qiE at h;cases hs:(E.ty s).d<;>rw[hs] at h<;>try (cases h)
 rename_i fs;obtain⟨fields,e1,e2⟩:=q8n hE hs;cases hv<;>simp only at h<;>try (cases h)
 rename_i cs vs hv;cases hf:fs[f]? with
 | none=>rw[hf] at h;cases h
 | some x=>
  obtain⟨o,t,sz⟩:=x;rw[hf] at h;simp only at h;rw[e2,qO8] at hf;cases hg:fields.toList[f]? with
  | none=>rw[hg] at hf;cases hf
  | some fd=>
   rw[hg] at hf;simp only[qOz,qNY,qOx] at hf;obtain⟨rfl,rfl,_⟩:=hf;obtain⟨a,h1,rfl⟩:=qvQ h;obtain⟨u,h2,h3⟩:=q4P hE hv h1 X.w;have hg':fields[f]?=some fd:=by simpa using hg
   exact⟨_,u,rfl,by simp[Instr.field,run_underlying e1,hg',asAgg,h2],h3⟩
theorem ql2 {i n:Int}(h:inb i n=true):0<=i/\i<n:=by simpa[inb] using h
theorem kF {i n:Int}(h:q6E i n=true):0<=i/\i<=n:=by simpa[q6E] using h
theorem qeg {t e:TypeId}{a:Addr}{n c:Nat}{k:IntKind}{i:Int}(ht:P.underlying t=some (.slice e))(hp:0<P.cellsOf e)(h0:0<=i)(h1:i<n) :(Instr.indexAt t (.slice (some a) n c) (.int k i)).run P w=.ok (.pointer (some (a.add (i.toNat*P.cellsOf e)))) w:=by simp[Instr.indexAt,asIntOf,run_underlying ht,h0,h1,zw hp]
theorem kT {t e:TypeId}{a:Addr}{n:Nat}{k:IntKind}{i:Int}(ht:P.underlying t=some (.array n e))(hp:0<P.cellsOf e)(h0:0<=i)(h1:i<n) :(Instr.indexAt t (.pointer (some a)) (.int k i)).run P w=.ok (.pointer (some (a.add (i.toNat*P.cellsOf e)))) w:=by simp[Instr.indexAt,asIntOf,run_underlying ht,h0,h1,zw hp,Instr.sureAddr]
theorem Addr.add_of {a:Addr}(h:a.spot=none)(n:Nat):a.add n=⟨a.block,a.off+n,none⟩:=by obtain⟨b,o,s⟩:=a;subst h;exact qOL b o n
theorem qlR{h:List Blk}{i:Int}{f:Nat->AV}{r:Res}:∀n,(qhE h i f n).run=some r->∃m:Nat,m<n/\i=m/\r=(f m,h,none)
 | 0,h=>by cases h
 | n+1,hr=>by
  simp only[qhE,Tree.run] at hr;cases hb:ieq i n with
  | true=>
   rw[hb] at hr;cases hr;exact⟨n,qPM n,by simpa[ieq] using hb,rfl⟩
  | false=>
   rw[hb] at hr;obtain⟨m,h1,h2,h3⟩:=qlR n hr;exact⟨m,by omega,h2,h3⟩
theorem q31 (hE:E.tok P){B:Base}(hs:HSim B X){a ai:AV}{v vi:Value}(hv:Rep X a v)(hi:Rep X ai vi)(h:(yL E X.h t a ai).run=some r):∃av u,r=(av,X.h,none)/\(Instr.indexAt t v vi).run P X.w=.ok u X.w/\Rep X av u:=by
 unfold yL at h;cases hd:(E.ty t).d<;>rw[hd] at h<;>try (cases h)
 ·rename_i e es;obtain⟨ht,rfl⟩:=q0S hE hd;cases hai:asI ai with
  | none=>rw[hai] at h;cases hv<;>simp only at h<;>cases h
  | some p=>
   obtain⟨k,i⟩:=p;rw[hai] at h;obtain rfl:=q3d hi hai;cases hv<;>simp only at h<;>try (cases h)
   ·rename_i sh l himm;by_cases hc:sh.length=P.cellsOf e/\0<P.cellsOf e
    ·rw[if_pos hc] at h;obtain⟨g1,g2⟩:=j5 h;cases g2;obtain⟨g3,g4⟩:=ql2 g1;rcases himm with⟨rfl,rfl⟩|⟨a,cap,rfl,hsp,hcap,hr⟩
     ·simp[qg] at g4;omega
     ·refine⟨_,_,rfl,qeg ht hc.2 g3 g4,?_⟩;have hsp:=hsp (by simp[qg] at g4;omega);rw[Addr.add_of hsp,<-hc.1];have:Rep X (.eptr sh l i 0) (.pointer (some ⟨a.block,a.off+i.toNat*sh.length+0,none⟩)):=.eptr _ _ _ _ _ hsp g3 (by simp[qg] at g4;omega) hr;simpa using this
    ·rw[if_neg hc] at h;cases h
   ·rename_i b p n c hb hv;cases hr:vq X.h (.vec b) with
    | none=>rw[hr] at h;cases h
    | some x=>
     obtain⟨sh,l⟩:=x;rw[hr] at h;simp only at h;by_cases hc:sh.length=P.cellsOf e/\0<P.cellsOf e
     ·rw[if_pos hc] at h;obtain⟨g1,g2⟩:=j5 h;cases g2;obtain⟨g3,g4⟩:=ql2 g1;obtain⟨e0,hh⟩:=qdL hr;have hvv:=hv sh l.length ⟨e0,l,hh,rfl⟩;unfold qyG at hvv;rcases hs.rows hh with⟨e1,rfl⟩|⟨n0,c0,e1,e2,e3⟩
      ·simp[qg] at g4;omega
      ·rw[e1] at hvv;obtain⟨cap,f1,f2,f3,c1,T1,fr1,f4,f5⟩:=hvv;cases f1;refine⟨_,_,rfl,qeg ht hc.2 g3 g4,?_⟩;rw[qOL,<-hc.1];have:Rep X (.vptr b i 0) (.pointer (some ⟨n0,i.toNat*sh.length+0,none⟩)):=.vptr _ _ _ _ _ hb e1 fun sh' m ⟨e',l',q1,q2⟩=>by
        have:sh'=sh/\l'=l:=by rcases hh with hh|hh<;>rcases q1 with q1|q1<;>rw[hh] at q1<;>cases q1<;>exact⟨rfl,rfl⟩
        obtain⟨rfl,rfl⟩:=this;exact⟨g3,by simp[qg] at g4;omega,rfl⟩
       simpa using this
     ·rw[if_neg hc] at h;cases h
 ·rename_i n e es;obtain⟨ht,rfl⟩:=q7C hE hd;cases hv<;>simp only at h<;>try (cases h)
  ·rename_i b off n0 hb hσ;cases hi<;>simp only at h<;>try (cases h)
   ·rename_i k i;by_cases hc:0<=i/\i<n/\0<P.cellsOf e
    ·rw[if_pos hc] at h;cases h;refine⟨_,_,rfl,kT ht hc.2.2 hc.1 hc.2.1,?_⟩;rw[qOL];exact .ptr _ _ _ hb hσ
    ·rw[if_neg hc] at h;cases h
   ·rename_i k i;by_cases hc:n<=16/\0<P.cellsOf e
    ·rw[if_pos hc] at h;obtain⟨m,g1,rfl,rfl⟩:=qlR _ h;refine⟨_,_,rfl,kT ht hc.2 (by omega) (by omega),?_⟩;rw[qOL];exact .ptr _ _ _ hb hσ
    ·rw[if_neg hc] at h;cases h
  ·rename_i sh l i0 off a hsp h0 h1 hr;cases hi<;>simp only at h<;>try (cases h)
   ·rename_i k i;by_cases hc:0<=i/\i<n/\0<P.cellsOf e
    ·rw[if_pos hc] at h;cases h;refine⟨_,_,rfl,kT ht hc.2.2 hc.1 hc.2.1,?_⟩;rw[qOL,qPv];exact .eptr _ _ _ _ _ hsp h0 h1 hr
    ·rw[if_neg hc] at h;cases h
   ·rename_i k i;by_cases hc:n<=16/\0<P.cellsOf e
    ·rw[if_pos hc] at h;obtain⟨m,g1,rfl,rfl⟩:=qlR _ h;refine⟨_,_,rfl,kT ht hc.2 (by omega) (by omega),?_⟩;rw[qOL,qPv];exact .eptr _ _ _ _ _ hsp h0 h1 hr
    ·rw[if_neg hc] at h;cases h
end Go.Eng

namespace Go.Eng
variable {P:Program}
theorem qtB{X:Ctx}{k:IntKind}:∀{cs:List AV} {l:List Int} {vs:List Value},qnT k cs=some l->RepL X cs vs->vs=l.map (Value.int k)
 | [],l,vs,h,hr=>by cases hr;simp[qnT] at h;subst h;rfl
 | a::cs,l,vs,h,hr=>by
  cases hr with
  | cons ha ht=>
   simp only[qnT] at h;cases h1:asI a with
   | none=>rw[h1] at h;cases h
   | some p=>
    obtain⟨k',n⟩:=p;cases h2:qnT k cs with
    | none=>rw[h1,h2] at h;cases h
    | some r=>
     rw[h1,h2] at h;simp only at h;by_cases hk:k=k'
     ·subst hk;rw[if_pos rfl] at h;cases h;rw[q3d ha h1,qtB h2 ht];rfl
     ·rw[if_neg hk] at h;cases h
theorem qwX {E:Env}(hE:E.tok P){X:Ctx}{t:TypeId}{a ai:AV}{v vi:Value}(hv:Rep X a v)(hi:Rep X ai vi){r:Res}(h:(qiA E X.h t a ai).run=some r):∃av u,r=(av,X.h,none)/\(Instr.index t v vi).run P X.w=.ok u X.w/\Rep X av u:=by
 unfold qiA at h;cases hd:(E.ty t).d<;>rw[hd] at h<;>try (cases h)
 ·cases hai:asI ai with
  | none=>rw[hai] at h;cases hv<;>simp only at h<;>cases h
  | some p=>
   obtain⟨k,i⟩:=p;rw[hai] at h;obtain rfl:=q3d hi hai;have ht:=qgn hE hd;cases hv<;>simp only at h<;>try (cases h)
   rename_i s;obtain⟨g1,g2⟩:=j5 h;cases g2;obtain⟨g3,g4⟩:=ql2 g1;refine⟨_,.int .u8 (sat s i),rfl,?_,.int _ _⟩;have hlt:i.toNat<s.length:=by simp only[qu] at g4;omega
   have hsz:(ByteArray.mk s.toArray)[i.toNat]?=some s[i.toNat]:=by
    have:(ByteArray.mk s.toArray)[i.toNat]?=(s.toArray)[i.toNat]?:=by simp only[getElem?_def];rfl
    rw[this];simp[hlt]
   simp only[Instr.index,asIntOf,qO3,qOw,qOa,run_underlying ht,g3,if_true,hsz];simp[sat,hlt]
 ·rename_i n e es;obtain⟨ht,rfl⟩:=q7C hE hd;cases hai:asI ai with
  | none=>rw[hai] at h;cases hv<;>simp only at h<;>cases h
  | some p=>
   obtain⟨k,i⟩:=p;rw[hai] at h;obtain rfl:=q3d hi hai;cases hv<;>simp only at h<;>try (cases h)
   rename_i cs vs hv;have lit:∀(_:0<=i) (_:i<n) (_:0<P.cellsOf e) (_:(qhs E X.h e cs (i.toNat*P.cellsOf e)).run=some r),
     ∃av u,r=(av,X.h,none)/\(Instr.index t (.agg vs.toArray) (.int k i)).run P X.w=.ok u X.w/\Rep X av u:=by
    intro h0 h1 hp hh;obtain⟨a,q1,rfl⟩:=qvQ hh;obtain⟨u,q2,q3⟩:=q4P hE hv q1 X.w;exact⟨_,u,rfl,by simp[Instr.index,asIntOf,run_underlying ht,h0,h1,zw hp,q2],q3⟩
   have sym:∀(_:(match (E.ty e).d with
     | .int k=>if P.cellsOf e=1/\cs.length=n then (match qnT k cs with
      | some l=>Tree.br (inb i n) (okv X.h (.int k (ql7 l i))) .fail
      | none=>.fail) else .fail
     | .slice _ _=>if 0<P.cellsOf e then (match Nat.ble n 4 with|true=>qpW E X.h e cs (P.cellsOf e) i 0 n|false=>.fail) else .fail
     | _=>.fail).run=some r),
     ∃av u,r=(av,X.h,none)/\(Instr.index t (.agg vs.toArray) (.int k i)).run P X.w=.ok u X.w/\Rep X av u:=by
    intro hh;cases he:(E.ty e).d<;>rw[he] at hh<;>try (cases hh)
    case slice e' es'=>
     simp only at hh;split at hh
     case isFalse=>cases hh
     rename_i hp;split at hh
     case h_2=>cases hh
     have go:∀(m j:Nat),j+m=n->(qpW E X.h e cs (P.cellsOf e) i j m).run=some r->∃av u,r=(av,X.h,none)/\(Instr.index t (.agg vs.toArray) (.int k i)).run P X.w=.ok u X.w/\Rep X av u:=by
      intro m;induction m with
      | zero=>intro j _ hh;cases hh
      | succ m ih=>
       intro j hj hh;unfold qpW at hh;simp only[Tree.run] at hh;split at hh
       ·rename_i hi;have hij:i=(j:Int):=by simpa[ieq] using hi
        exact lit (by omega) (by omega) hp (by rw[hij,qO9];exact hh)
       ·exact ih (j+1) (by omega) hh
     exact go n 0 (by omega) hh
    rename_i k';simp only at hh;by_cases hc:P.cellsOf e=1/\cs.length=n
    ·rw[if_pos hc] at hh;cases hl:qnT k' cs with
     | none=>rw[hl] at hh;cases hh
     | some l=>
      rw[hl] at hh;obtain⟨g1,g2⟩:=j5 hh;cases g2;obtain⟨g3,g4⟩:=ql2 g1;have hvs:=qtB hl hv;have hlen:=hv.length;refine⟨_,.int k' (ql7 l i),rfl,?_,.int _ _⟩;have hlt:i.toNat<l.length:=by rw[hvs] at hlen;simp at hlen;omega
      have hag:(isAgg e).run P X.w=.ok false X.w:=by rw[qdU hE (by rw[he];rfl),he];rfl
      have hget:vs[i.toNat]?=some (.int k' (ql7 l i)):=by rw[hvs];simp[hlt,ql7]
      simp[Instr.index,asIntOf,run_underlying ht,g3,g4,zw (show 0<P.cellsOf e by omega),part,hag,hc.1,hget]
    ·rw[if_neg hc] at hh;cases hh
   cases ai with
   | ilit k2 i2=>
    simp only[asI] at hai;cases hai;simp only at h;by_cases hc:0<=i/\i<n/\0<P.cellsOf e
    ·rw[if_pos hc] at h;exact lit hc.1 hc.2.1 hc.2.2 h
    ·rw[if_neg hc] at h;cases h
   | int k2 i2=>exact sym h
   | _=>simp[asI] at hai
theorem qCe {E:Env}(hE:E.tok P){B:Base}{X:Ctx}(hs:HSim B X){t ty:TypeId}{ts:Array TypeId}(h0:ts[0]?=some t){a:AV}{v:Value}(hv:Rep X a v){r:Res}(h:(qHM E X.h t a).run=some r):∃av u,r=(av,X.h,none)/\(Builtin.len_ ts ty #[v]).run P X.w=.ok u X.w/\Rep X av u:=by
 unfold qHM at h;cases hd:(E.ty t).d<;>rw[hd] at h<;>try (cases h)
 ·have ht:=qgn hE hd;cases hv<;>simp only at h<;>try (cases h)
  rename_i s;refine⟨_,.int .i64 (qu s),rfl,?_,.int _ _⟩;simp[Builtin.len_,h0,run_underlying ht,goInt,qu];rfl
 ·rename_i e es;obtain⟨ht,rfl⟩:=q0S hE hd;have run:∀p n c,(Builtin.len_ ts ty #[.slice p n c]).run P X.w=.ok (.int .i64 n) X.w:=by intro p n c;simp[Builtin.len_,h0,run_underlying ht,goInt]
  have gen:∀(_:(match vq X.h a with|some (_,l)=>okv X.h (.int .i64 (qg l))|none=>.fail).run=some r),
    ∃av u,r=(av,X.h,none)/\(Builtin.len_ ts ty #[v]).run P X.w=.ok u X.w/\Rep X av u:=by
   intro hh;cases hr:vq X.h a with
   | none=>rw[hr] at hh;cases hh
   | some x=>
    obtain⟨sh,l⟩:=x;rw[hr] at hh;cases hh;cases hv<;>simp only[vq] at hr<;>try (cases hr)
    ·rename_i himm;rcases himm with⟨rfl,rfl⟩|⟨a,cap,rfl,_⟩
     ·exact⟨_,_,rfl,run _ _ _,.int _ _⟩
     ·exact⟨_,_,rfl,run _ _ _,.int _ _⟩
    ·rename_i b p n c hb hv;obtain⟨e0,hh⟩:=qdL (b:=b) (h:=X.h) (sh:=sh) (l:=l) (by simpa only [vq] using hr);have hvv:=hv sh l.length ⟨e0,l,hh,rfl⟩;unfold qyG at hvv;rcases hs.rows hh with⟨e1,rfl⟩|⟨n0,c0,e1,e2,e3⟩
     ·rw[e1] at hvv;obtain⟨p,hvv⟩:=hvv;cases hvv;exact⟨_,_,rfl,run _ _ _,.int _ _⟩
     ·rw[e1] at hvv;obtain⟨cap,f1,_⟩:=hvv;cases f1;exact⟨_,_,rfl,run _ _ _,.int _ _⟩
  cases hv with
  | nils=>simp only at h;cases h;exact⟨_,_,rfl,run _ _ _,.ilit _ _⟩
  | _=>exact gen h
 ·rename_i n e es;obtain⟨ht,rfl⟩:=q7C hE hd;refine⟨_,.int .i64 n,rfl,?_,.ilit _ _⟩;simp[Builtin.len_,h0,run_underlying ht,goInt]
theorem qI9 {k k':IntKind}{x y:Int}{w:World}:(Builtin.max2 (.int k x) (.int k' y)).run P w=.ok (.int k (quL x y)) w:=rfl
theorem qI1 {k k':IntKind}{x y:Int}{w:World}:(Builtin.min2 (.int k x) (.int k' y)).run P w=.ok (.int k (qjL x y)) w:=rfl
theorem qrP{P:Program}{X:Ctx}{f:Int->Int->Int}{g:Value->Value->Sem Value}(hg:∀k k' x y w,(g (.int k x) (.int k' y)).run P w=.ok (.int k (f x y)) w)(k:IntKind) :
  ∀(l:List AV) (a m:Int) (vs:List Value),qBf f k a l=some m->RepL X l vs->(vs.foldlM g (.int k a)).run P X.w=.ok (.int k m) X.w
 | [],a,m,vs,h,hr=>by cases hr;simp[qBf] at h;subst h;rfl
 | x::l,a,m,vs,h,hr=>by
  cases hr with
  | cons hx ht=>
   simp only[qBf] at h;cases h1:asI x with
   | none=>rw[h1] at h;cases h
   | some p=>
    obtain⟨k',b⟩:=p;rw[h1] at h;simp only at h;by_cases hk:k=k'
    ·rw[if_pos hk] at h;rw[q3d hx h1,List.foldlM_cons,qO3,hg,qOa];exact qrP hg k l _ m _ h ht
    ·rw[if_neg hk] at h;cases h
theorem qpY{E:Env}{P:Program}(hE:E.tok P){X:Ctx}{e:TypeId}{c:Nat}(he:P.underlying e=some .string){xs ys:List AV}{vxs vys:List Value}(hx:RepL X xs vxs)(hy:RepL X ys vys)(d:Nat)(w:World) :
  ∀(is:List Nat) (r:Bool),qz9 E e c xs ys is=some r->(Op.eqItems (d+1) e c vxs.toArray vys.toArray is).run P w=.ok r w
 | [],r,h=>by
  simp only[qz9] at h;cases h;rfl
 | i::is,r,h=>by
  simp only[qz9] at h;split at h
  ·rename_i a b r' h1 h2 h3;cases h;obtain⟨u1,q1,q2⟩:=q4P hE hx h1 w;obtain⟨u2,q3,q4⟩:=q4P hE hy h2 w;cases q2;cases q4;have q5:=run_equalIn_string w d e ⟨a.toArray⟩ ⟨b.toArray⟩ he;have q6:=qpY hE he hx hy d w is r' h3;rw[qy7] at q5;simp only[Op.eqItems,qO3,q1,q3,q5,qOa];cases hs:Eng.seq a b with
   | true=>simp[qDL,q6]
   | false=>simp[qDL]
  ·cases h
mutual
theorem qAb{E:Env}{P:Program}(hE:E.tok P){X:Ctx}:∀(n:Nat) (t:TypeId) (x y:AV) (r:Bool) (vx vy:Value),eqT E n t x y=some r->Rep X x vx->Rep X y vy ->
  ∀d,n<=d->∀w,(Op.equalIn d t vx vy).run P w=.ok r w
 | 0,_,_,_,_,_,_,h,_,_,_,_,_=>by simp[eqT] at h
 | n+1,t,x,y,r,vx,vy,h,hx,hy,d,hd,w=>by
  obtain⟨d,rfl⟩:∃d',d=d'+1:=⟨d-1,by omega⟩;simp only[eqT] at h;cases ht:(E.ty t).d<;>rw[ht] at h<;>try (cases h)
  ·have hu:=qro hE ht;simp only at h;cases h1:asB x with
   | none=>rw[h1] at h;cases h
   | some a=>
    cases h2:asB y with
    | none=>rw[h1,h2] at h;cases h
    | some b=>
     rw[h1,h2] at h;cases h;rw[qx2 hx h1,qx2 hy h2];exact run_equalIn_bool' w d t a b hu
  ·have hu:=qtD hE ht;simp only at h;cases h1:asI x with
   | none=>rw[h1] at h;cases h
   | some a=>
    cases h2:asI y with
    | none=>rw[h1,h2] at h;cases h
    | some b=>
     obtain⟨k,a⟩:=a;obtain⟨k',b⟩:=b;rw[h1,h2] at h;simp only at h;by_cases hk:k=k'
     ·subst hk;rw[if_pos rfl] at h;cases h;rw[q3d hx h1,q3d hy h2];exact run_equalIn_int w d t k _ a b hu
     ·rw[if_neg hk] at h;cases h
  ·have hu:=qgn hE ht;simp only at h;cases hx<;>try (cases h)
   cases hy<;>try (cases h)
   rw[run_equalIn_string w d t _ _ hu,qy7]
  ·rename_i m e es;simp only at h;obtain⟨hta,rfl⟩:=q7C hE ht;split at h
   ·rename_i n' hte;have hue:=qgn hE hte;obtain⟨d',rfl⟩:∃d',d=d'+1:=⟨d-1,by omega⟩;obtain⟨_,i,dd,h1,_⟩:=kB hE (t:=e) (by rw[hte];rfl);cases hx with
    | agg _ vxs hxs=>
     cases hy with
     | agg _ vys hys=>
      rw[run_equalIn_array w (d'+1) vxs.toArray vys.toArray hta h1];exact qpY hE hue hxs hys d' w _ r h
   ·cases h
  ·rename_i fs;simp only at h;by_cases hok:(E.ty t).eqok=true
   ·rw[if_pos hok] at h;cases hx<;>try (cases h)
    cases hy<;>try (cases h)
    rename_i xs vxs hxs ys vys hys;obtain⟨fields,e1,e2⟩:=q8n hE ht;have hk:=kB hE (t:=t) (by rw[ht];rfl);have hst:P.stoodInHeld t=false/\∀f∈fields.toList,f.name ≠ "_" := by rw[hk.1] at hok;unfold qAu at hok;obtain⟨_,i,dd,h1,h2,_⟩:=hk;rw[h1] at hok;simp only[e1,qOd,qPy,qOy,bne_iff_ne] at hok;exact⟨hok.1.1,hok.2⟩
    have hfo:P.fieldsOf t=fields:=by simp[Program.fieldsOf,e1]
    have hrun:=run_equalIn_struct (P:=P) w d t vxs.toArray vys.toArray (by rw[hfo];exact e1) hst.1;rw[hrun,hfo];rw[e2] at h;exact qvJ hE n fields.toList xs ys r vxs vys h hxs hys hst.2 d (by omega) w
   ·rw[if_neg hok] at h;cases h
theorem qvJ{E:Env}{P:Program}(hE:E.tok P){X:Ctx}:∀(n:Nat) (fs:List Field) (xs ys:List AV) (r:Bool) (vxs vys:List Value),
  qLm E n (fs.map fun f=>(f.offset,f.type,P.cellsOf f.type)) xs ys=some r->RepL X xs vxs->RepL X ys vys->(∀f∈fs,f.name ≠ "_") ->
  ∀d,n<=d->∀w,(Op.eqFields d vxs.toArray vys.toArray fs).run P w=.ok r w
 | n,[],xs,ys,r,vxs,vys,h,hx,hy,hn,d,hd,w=>by
  cases n<;>simp[qLm] at h<;>subst h<;>rfl
 | 0,f::fs,xs,ys,r,vxs,vys,h,hx,hy,hn,d,hd,w=>by simp[qLm] at h
 | n+1,f::fs,xs,ys,r,vxs,vys,h,hx,hy,hn,d,hd,w=>by
  simp only[qP5,qLm] at h;cases h1:qgV E f.type xs f.offset with
  | none=>rw[h1] at h;cases h
  | some a=>
   cases h2:qgV E f.type ys f.offset with
   | none=>rw[h1,h2] at h;cases h
   | some b=>
    rw[h1,h2] at h;simp only at h;cases h3:eqT E n f.type a b with
    | none=>rw[h3] at h;cases h
    | some r1=>
     cases h4:qLm E n (fs.map fun f=>(f.offset,f.type,P.cellsOf f.type)) xs ys with
     | none=>rw[h3,h4] at h;cases h
     | some r2=>
      rw[h3,h4] at h;cases h;obtain⟨u1,q1,q2⟩:=q4P hE hx h1 w;obtain⟨u2,q3,q4⟩:=q4P hE hy h2 w;have q5:=qAb hE n f.type a b r1 u1 u2 h3 q2 q4 d (by omega) w;have q6:=qvJ hE n fs xs ys r2 vxs vys h4 hx hy (fun g hg=>hn g (qOo _ hg)) d (by omega) w;have hn0:=hn f qOm;simp only[Op.eqFields,hn0,ne_eq,not_false_eq_true,if_true,qO3,q1,q3,q5,qOa];cases r1 with
      | true=>simp[qDL,q6]
      | false=>simp[qDL]
end
end Go.Eng

namespace Go.Eng
variable {B:Base}{E:Env}{P:Program}{X:Ctx}{t:TypeId}{v:Value}
theorem qy8 (hE:E.tok P){op:BinOp}{x y:Operand}{xs ys:List AV}{vx vy:Value}(hx:Rep X (.agg xs) vx)(hy:Rep X (.agg ys) vy){r:Res}(h:(qtd E X.h op t (.agg xs) (.agg ys)).run=some r):∃av u,r=(av,X.h,none)/\(do eqGuard op t x y vx vy;binOp op t vx vy:Sem Value).run P X.w=.ok u X.w/\Rep X av u:=by
 unfold qtd at h;cases he:eqT E 32 t (.agg xs) (.agg ys) with
 | none=>rw[he] at h;cases h
 | some b=>
  rw[he] at h;simp only at h;have heq:=qhN (qAb hE 32 t _ _ b vx vy he hx hy (9999+1) (by omega) X.w);have hg:∀op w,(eqGuard op t x y vx vy).run P w=.ok () w:=by
   intro op w;simp only[eqT] at he;cases ht:(E.ty t).d<;>rw[ht] at he<;>try (simp only[asI,asB] at he;cases he)
   ·rename_i m e es;simp only at he;obtain⟨hta,rfl⟩:=q7C hE ht;cases hte:(E.ty e).d<;>rw[hte] at he<;>try (cases he)
    ·have hue:=qgn hE hte;cases hx;cases hy;have hgt:P.eqGuardType P.depth t=false:=by rw[show P.depth=(2*(P.types.size+Made.depth))+1+1 from rfl];simp[Program.eqGuardType,hta,hue]
     unfold eqGuard;cases op<;>simp[run_program,hgt]
   ·rename_i fs;simp only at he;by_cases hok:(E.ty t).eqok=true
    ·have hk:=kB hE (t:=t) (by rw[ht];rfl);obtain⟨fields,e1,e2⟩:=q8n hE ht;rw[hk.1] at hok;unfold qAu at hok;obtain⟨_,i,dd,h1,h2,_⟩:=hk;rw[h1] at hok;simp only[e1,qOd,qPy] at hok;cases hx;cases hy;unfold eqGuard;cases op<;>simp[run_program,hok.1.2]
    ·rw[if_neg hok] at he;cases he
  cases hx with
  | agg _ vxs hxs=>
   cases hy with
   | agg _ vys hys=>
    cases op<;>simp only[okb] at h<;>cases h
    ·refine⟨_,_,rfl,?_,.bool b⟩;rw[qO3,hg,qOa];simp[binOp,heq]
    ·refine⟨_,_,rfl,?_,.bool (!b)⟩;rw[qO3,hg,qOa];simp[binOp,heq]
theorem qzK {a:AV}(h:Rep X a v)(hc:a.isCell=true):v.cells=#[v]/\v.oneCell'=true:=by
 cases h with
 | imm sh l v h=>
  rcases h with⟨rfl,rfl⟩|⟨a,cap,rfl,h1,h2,h3⟩<;>exact⟨rfl,rfl⟩
 | undef=>simp[AV.isCell] at hc
 | skip=>simp[AV.isCell] at hc
 | agg=>simp[AV.isCell] at hc
 | tuple=>simp[AV.isCell] at hc
 | bagg=>simp[AV.isCell] at hc
 | _=>exact⟨rfl,rfl⟩
theorem qiy {a:AV}(h:Rep X a v)(hc:yl a.cells=true):RepL X a.cells v.cells.toList:=by
 cases h with
 | agg cs vs h=>simpa[AV.cells,Value.cells] using h
 | undef=>simp[AV.cells,yl,AV.isCell] at hc
 | skip=>simp[AV.cells,yl,AV.isCell] at hc
 | tuple=>simp[AV.cells,yl,AV.isCell] at hc
 | bagg=>simp[AV.cells,yl,AV.isCell] at hc
 | yld=>exact .cons .yld .nil
 | blit=>exact .cons (.blit _) .nil
 | bool=>exact .cons (.bool _) .nil
 | ilit=>exact .cons (.ilit _ _) .nil
 | int=>exact .cons (.int _ _) .nil
 | str=>exact .cons (.str _) .nil
 | nilp=>exact .cons .nilp .nil
 | ptr b off n h1 h2=>exact .cons (.ptr b off n h1 h2) .nil
 | eptr sh l i off a h1 h2 h3 h4=>exact .cons (.eptr sh l i off a h1 h2 h3 h4) .nil
 | mnil sh l i off=>exact .cons (.mnil sh l i off) .nil
 | mptr sh l i off a h1 h2 h3 h4=>exact .cons (.mptr sh l i off a h1 h2 h3 h4) .nil
 | vptr b i off n k h1 h2 h3=>exact .cons (.vptr b i off n k h1 h2 h3) .nil
 | vsub b i n k m c h1 h2 h3=>exact .cons (.vsub b i n k m c h1 h2 h3) .nil
 | aptr b o i n h1 h2 h3=>exact .cons (.aptr b o i n h1 h2 h3) .nil
 | asub b o N i m n k c h1 h2 h3 h4 h5 h6=>exact .cons (.asub b o N i m n k c h1 h2 h3 h4 h5 h6) .nil
 | nils=>exact .cons .nils .nil
 | imm sh l v h=>
  rcases h with⟨rfl,rfl⟩|⟨a,cap,rfl,h1,h2,h3⟩
  ·exact .cons (.imm _ _ _ (.inl ⟨rfl,rfl⟩)) .nil
  ·exact .cons (.imm _ _ _ (.inr ⟨a,cap,rfl,h1,h2,h3⟩)) .nil
 | full sh l p n h=>exact .cons (.full sh l p n h) .nil
 | vec b p n c h1 h2=>exact .cons (.vec b p n c h1 h2) .nil
 | nilf=>exact .cons .nilf .nil
 | fn f first caps vf vc h1 h2=>exact .cons (.fn f first caps vf vc h1 h2) .nil
theorem qc4{X:Ctx}:∀{cs:List AV} {vs:List Value},RepL X cs vs->yl cs=true->∀v∈vs,v.oneCell'=true
 | _,_,.nil,_,v,h=>by simp at h
 | _,_,.cons ha ht,hc,v,h=>by
  simp only[yl,qPY,qOd] at hc;rcases qOj.1 h with rfl|h
  ·exact(qzK ha hc.1).2
  ·exact qc4 ht hc.2 v h
theorem qEG (hs:HSim B X){cs:List AV}{c:Array Value}{T:TypeId}(hr:RepL X cs c.toList) :HSim B (X.pushW (.cells cs) (some X.w.heap.size) (X.w.alloc (.cells c T))):=by have hw:=PushW.alloc X (.cells c T);refine hs.push hw ⟨X.w.heap.size,c,T,by simp[Ctx.pushW],zS _ _,hr.ext (Ctx.push_ext hs _ hw)⟩
theorem qDc {k:Blk}{n:Nat}{w':World}:Rep (X.pushW k (some n) w') (.ptr X.h.length 0) (.pointer (some ⟨n,0,none⟩)):=.ptr _ _ _ (by simp[Ctx.pushW]) (by simp[Ctx.pushW])
theorem qrF (hs:HSim B X){cs:List AV}(hr:RepL X cs v.cells.toList){m:Sem Value}(hm:m.run P X.w=.ok (.pointer (some ⟨X.w.heap.size,0,none⟩)) (X.w.alloc (.cells v.cells t))) :qJ P B X (do pure (.value (<-m))) (.ptr X.h.length 0,X.h++[.cells cs],none):=
 ⟨.value (.pointer (some ⟨X.w.heap.size,0,none⟩)),_,X.pushW (.cells cs) (some X.w.heap.size) (X.w.alloc (.cells v.cells t)),by simp[hm];rfl,.inl rfl,qDc,qEG hs hr,rfl,
  Ctx.push_ext hs _ (PushW.alloc X _)⟩
theorem qa9 (P:Program)(w:World)(t:TypeId)(v:Value):(newVar t v).run P w=.ok ⟨w.heap.size,0,none⟩ (w.alloc (.cells v.cells t)):=rfl
theorem qIF (hs:HSim B X){a:AV}(hv:Rep X a v)(hc:yl a.cells=true) :qJ P B X (do pure (.value (<-Instr.box t v))) (.ptr X.h.length 0,X.h++[.cells a.cells],none):=qrF (t:=t) hs (qiy hv hc) (by simp[Instr.box,qa9])
theorem qfq (hE:E.tok P)(h:(E.ty t).zero.length≠0)(w:World):∃v,(zeroValue t).run P w=.ok v w/\v.cells.toList=(E.ty t).zero /\∃i,P.info? t=some i/\i.zero=some v:=by
 rcases qre hE t with h1|h1
 ·rw[h1] at h;simp[qN2] at h
 ·rw[h1] at h ⊢;unfold qAu at *;cases hi:P.info? t with
  | none=>rw[hi] at h;simp at h
  | some i=>
   cases hz:i.zero with
   | none=>simp[hi,hz] at h
   | some v=>exact⟨v,by simp[zeroValue,typeInfo,hi,hz],by simp[hz],i,rfl,hz⟩
theorem qEi (hE:E.tok P)(hs:HSim B X)(hz:((E.ty t).zero.map jg).length≠0) :qJ P B X (do pure (.value (<-Instr.alloc t true (.tuple #[])))) (.ptr X.h.length 0,X.h++[.cells ((E.ty t).zero.map jg)],none):=by obtain⟨v,h1,h2,_⟩:=qfq hE (t:=t) (by simpa using hz) X.w;refine qrF (t:=t) (v:=v) hs (by rw[h2];exact jw X _) ?_;simp[Instr.alloc,h1,qa9]
theorem qfk {cs vs:List AV}{us ws:List Value}(h1:RepL X cs us)(h2:RepL X vs ws)(off:Nat):RepL X (qpK cs off vs) (us.take off++ws++us.drop (off+vs.length)):=((h1.take off).append h2).append (h1.drop _)
mutual
theorem Sh.beq_eq:∀a b:Sh,a.beq b=true->a=b
 | .int k,b,h=>by cases b<;>simp[Sh.beq] at h;rw[h]
 | .bool,b,h=>by cases b<;>simp[Sh.beq] at h;rfl
 | .str,b,h=>by cases b<;>simp[Sh.beq] at h;rfl
 | .sl r,b,h=>by
  cases b<;>simp[Sh.beq] at h;rw[Sh.beqL_eq _ _ h]
theorem Sh.beqL_eq:∀a b:List Sh,Sh.beqL a b=true->a=b
 | [],b,h=>by cases b<;>simp[Sh.beqL] at h;rfl
 | a::l,b,h=>by
  cases b<;>simp[Sh.beqL] at h;rw[Sh.beq_eq _ _ h.1,Sh.beqL_eq _ _ h.2]
end
theorem q8j {s:Sh}{a:AV}{u:U}(h:toU X.h s a=some u)(hm:a.men=[])(hr:Rep X a v):RepU X.w X.M s u v:=by
 cases hr with
 | ilit k n=>
  cases s<;>simp only[toU] at h<;>try (cases h)
  rename_i k';by_cases hk:k'=k
  ·subst hk;rw[if_pos rfl] at h;cases h;exact .int _ (.i n)
  ·rw[if_neg hk] at h;cases h
 | int k n=>
  cases s<;>simp only[toU] at h<;>try (cases h)
  rename_i k';by_cases hk:k'=k
  ·subst hk;rw[if_pos rfl] at h;cases h;exact .int _ (.i n)
  ·rw[if_neg hk] at h;cases h
 | blit b=>cases s<;>simp only[toU] at h<;>cases h;exact .bool (.b b)
 | bool b=>cases s<;>simp only[toU] at h<;>cases h;exact .bool (.b b)
 | str t=>cases s<;>simp only[toU] at h<;>cases h;exact .str (.s t)
 | nils=>cases s<;>simp only[toU] at h<;>cases h;exact .slnil _ _ rfl
 | imm sh l v himm=>
  cases s<;>simp only[toU] at h<;>try (cases h)
  rename_i row;by_cases hb:Sh.beqL row sh=true
  ·rw[if_pos hb] at h;cases h;obtain rfl:=Sh.beqL_eq _ _ hb;exact q9T himm
  ·rw[if_neg hb] at h;cases h
 | vec b p n c h1 h2=>simp[AV.men] at hm
 | _=>cases s<;>simp only[toU] at h<;>cases h
theorem qwg{X:Ctx}:∀{sh:List Sh} {azz:List AV} {us:List U} {vs:List Value},qrd X.h sh azz=some us->AV.menL azz=[]->RepL X azz vs ->
  us.length=sh.length/\azz.length=sh.length/\∀j (hj:j<sh.length),∃v,vs[j]?=some v/\RepU X.w X.M sh[j] (us.getD j (.i 0)) v
 | [],[],us,vs,h,_,hr=>by simp[qrd] at h;subst h;exact⟨rfl,rfl,fun j hj=>by simp at hj⟩
 | [],_::_,us,vs,h,_,_=>by simp[qrd] at h
 | _::_,[],us,vs,h,_,_=>by simp[qrd] at h
 | s::sh,a::azz,us,vs,h,hm,hr=>by
  simp only[qrd] at h;cases h1:toU X.h s a with
  | none=>rw[h1] at h;cases h
  | some u=>
   cases h2:qrd X.h sh azz with
   | none=>rw[h1,h2] at h;cases h
   | some us'=>
    rw[h1,h2] at h;cases h;simp only[AV.menL,List.append_eq_nil_iff] at hm;cases hr with
    | cons ha ht=>
     obtain⟨g1,g2,g3⟩:=qwg h2 hm.2 ht;refine⟨by simp[g1],by simp[g2],fun j hj=>?_⟩;cases j with
     | zero=>exact⟨_,rfl,by simpa using q8j h1 hm.1 ha⟩
     | succ j=>
      obtain⟨v,q1,q2⟩:=g3 j (by simpa using hj);exact⟨v,by simpa using q1,by simpa using q2⟩
theorem q2t {n o:Nat}{c:Array Value}{T:TypeId}(hc:X.w.heap[n]?=some (.cells c T (0,0)))(hsz:(sizeOf t).run P X.w=.ok v.cells.size X.w) (hle:o+v.cells.size<=c.size) (h1:∀u∈v.cells.toList,u.oneCell'=true) :(storeVar t ⟨n,o,none⟩ v).run P X.w=.ok () (X.w.setRow n (c.toList.take o++v.cells.toList++c.toList.drop (o+v.cells.size)).toArray):=by have:=run_storeCells_at P n o T v.cells.toList 0 c X.w hc (by simpa using hle) h1;simp only[qOQ,Array.length_toList] at this;simp[storeVar,hsz,this]
theorem qBK (row:List U)(off:Nat)(us:List U)(j:Nat) :(qAp row off us).getD j (.i 0)=if off<=j/\j<off+us.length then us.getD (j-off) (.i 0) else row.getD j (.i 0):=by
 unfold qAp;by_cases hj:j<max row.length (off+us.length)
 ·simp[hj]
 ·have h1:¬(off<=j/\j<off+us.length):=by omega
  have h2:row.length<=j:=by omega
  rw[if_neg h1];simp[hj,h2]
theorem qhy {l:R}{i:Int}{off:Nat}{us:List U}(hi:i.toNat<l.length){j:Nat}:zH (qaz l i off us) i j = if off<=j/\j<off+us.length then us.getD (j-off) (.i 0) else zH l i j:=by
 have:(qaz l i off us).getD i.toNat []=qAp (l.getD i.toNat []) off us:=by simp[qaz,hi]
 unfold zH;rw[this,qBK]
theorem qgB {l:R}{i:Int}{off:Nat}{us:List U}{r:Nat}(hr:r≠i.toNat){j:Nat}:zH (qaz l i off us) r j=zH l r j:=by unfold zH qaz;simp[qO1 (qOr hr)]
theorem q9w (hE:E.tok P){n:Nat}(h:n=(E.ty t).size)(h0:n≠0)(w:World):(sizeOf t).run P w=.ok n w:=by
 rcases qre hE t with h1|h1
 ·rw[h1] at h;exact absurd h h0
 ·rw[h1] at h;unfold qAu at h;cases hi:P.info? t with
  | none=>rw[hi] at h;exact absurd h h0
  | some i=>rw[hi] at h;simp[sizeOf,typeInfo,hi];exact h.symm
theorem qHb {r i es j:Nat}(hj:j<es)(h:r≠i):r*es+j<i*es\/i*es+es<=r*es+j:=by
 rcases Nat.lt_or_gt_of_ne h with h|h
 ·left;have:(r+1)*es<=i*es:=qOq _ h;rw[qOf] at this;omega
 ·right;have:(i+1)*es<=r*es:=qOq _ h;rw[qOf] at this;omega
theorem qel {c vs:List Value}{o k:Nat}(h:o+vs.length<=c.length):(c.take o++vs++c.drop (o+vs.length))[k]?=if o<=k/\k<o+vs.length then vs[k-o]? else c[k]?:=by
 by_cases h1:k<o
 ·rw[if_neg (by omega),qOu,qOb (by simp;omega),qP3,if_pos h1]
 ·by_cases h2:k<o+vs.length
  ·rw[if_pos (by omega),qOu,qOi (by simp;omega),qOb (by simp;omega)];congr 1;simp;omega
  ·rw[if_neg (by omega),qOi (by simp;omega),qP4];congr 1;simp;omega
theorem qpD (hE:E.tok P)(hs:HSim B X){p a:AV}{vp v:Value}(hp:Rep X p vp)(hv:Rep X a v){r:Res}(h:(qeS E X.h t p a).run=some r):qJ P B X (do Instr.storeAt t vp v;pure .skip) r:=by
 unfold qeS at h;by_cases hc:a.cells.length=(E.ty t).size/\yl a.cells=true/\a.cells.length≠0
 ·rw[if_pos hc] at h;have hrl:=qiy hv hc.2.1;have hlen:v.cells.size=a.cells.length:=by have:=hrl.length;simpa using this.symm
  have hone:=qc4 hrl hc.2.1;have hsz:(sizeOf t).run P X.w=.ok v.cells.size X.w:=by rw[hlen];exact q9w hE hc.1 hc.2.2 X.w
  cases hp with
  | ptr b off n hb hσ=>
   simp only at h;cases hh:X.h[b]? with
   | none=>rw[hh] at h;cases h
   | some k=>
    rw[hh] at h;cases k<;>try (cases h)
    rename_i cs;simp only at h;by_cases hle:off+a.cells.length<=cs.length
    ·rw[if_pos hle] at h;cases h;obtain⟨n',c,T,e1,e2,e3⟩:=hs.blk b _ hh;rw[hσ] at e1;cases e1;have hcl:=e3.length;simp only[Array.length_toList] at hcl;have hrun:=q2t (P:=P) (t:=t) (o:=off) (v:=v) e2 hsz (by omega) hone;have hup:=UpdW.setRow (X:=X) (c':=(c.toList.take off++v.cells.toList++c.toList.drop (off+v.cells.size)).toArray) e2 (by simp;omega);have hown:X.own b n:=⟨hσ,_,hh,rfl⟩;have hx:=Ctx.upd_ext hs hh hown hup (k':=.cells (qpK cs off a.cells)) trivial;refine⟨.skip,Go.undef,X.upd b (.cells (qpK cs off a.cells)) (X.w.setRow n _),?_,.inr ⟨rfl,rfl⟩,.skip,hs.upd hh hown hup trivial ?_,rfl,hx⟩
     ·simp[Instr.storeAt,Instr.sureAddr,hrun];rfl
     ·refine⟨n,_,T,hσ,hup.new,?_⟩;have:=(qfk e3 hrl off).ext hx;rw[<-hlen] at this;simpa using this
    ·rw[if_neg hle] at h;cases h
  | vptr b i off n k hb hσ hk=>
   simp only at h;cases hh:X.h[b]? with
   | none=>rw[hh] at h;cases h
   | some kk=>
    rw[hh] at h;cases kk<;>try (cases h)
    rename_i e sh l;simp only at h;by_cases hm:(AV.menL a.cells).isEmpty=true
    ·rw[if_pos hm] at h;cases hu:qrd X.h ((sh.drop off).take a.cells.length) a.cells with
     | none=>rw[hu] at h;cases h
     | some us=>
      rw[hu] at h;cases h;obtain⟨g1,g2,g3⟩:=qwg hu (by simpa using hm) hrl;have g2':off+a.cells.length<=sh.length:=by have:=hc.2.2;simp only[qOX,qPX] at g2;omega
      have hul:us.length=a.cells.length:=by rw[g1,<-g2]
      obtain⟨q1,q2,q3⟩:=hk sh l.length ⟨e,l,.inl hh,rfl⟩;rcases hs.blk b _ hh with⟨e1,_⟩|⟨n',c,e1,e2,e3⟩
      ·rw[hσ] at e1;cases e1
      rw[hσ] at e1;cases e1;have hlast:i.toNat*sh.length+off+a.cells.length<=c.size:=by
       have hlt:off+a.cells.length-1<sh.length:=by have:=hc.2.2;omega
       obtain⟨v',w1,_⟩:=e3 i.toNat (off+a.cells.length-1) hlt q2;have:=(qO4.1 w1).1;omega
      subst q3;have hrun:=q2t (P:=P) (t:=t) (o:=i.toNat*sh.length+off) (v:=v) e2 hsz (by omega) hone;have hup:=UpdW.setRow (X:=X) (c':=(c.toList.take (i.toNat*sh.length+off)++v.cells.toList++c.toList.drop (i.toNat*sh.length+off+v.cells.size)).toArray) e2 (by simp;omega);have hown:X.own b n:=⟨hσ,_,hh,rfl⟩;have hkk:qgf (.vec e sh l) (.vec e sh (qaz l i off us)):=⟨rfl,rfl,by simp[qaz]⟩;have hx:=Ctx.upd_ext hs hh hown hup hkk;refine⟨.skip,Go.undef,X.upd b (.vec e sh (qaz l i off us)) (X.w.setRow n _),?_,.inr ⟨rfl,rfl⟩,.skip,hs.upd hh hown hup hkk ?_,rfl,hx⟩
      ·simp[Instr.storeAt,Instr.sureAddr,hrun];rfl
      ·refine .inr ⟨n,_,hσ,hup.new,fun r j hj hr=>?_⟩;have hr':r<l.length:=by simpa[qaz] using hr
       have hget:∀k,(c.toList.take (i.toNat*sh.length+off)++v.cells.toList++c.toList.drop (i.toNat*sh.length+off+v.cells.size)).toArray[k]? =
         if i.toNat*sh.length+off<=k/\k<i.toNat*sh.length+off+v.cells.size then v.cells.toList[k-(i.toNat*sh.length+off)]? else c[k]?:=by
        intro k;have:=qel (c:=c.toList) (vs:=v.cells.toList) (o:=i.toNat*sh.length+off) (k:=k) (by simp;omega);simpa using this
       rw[hget];by_cases hri:r=i.toNat
       ·subst hri;rw[qfT,qhy q2];by_cases hin:off<=j/\j<off+us.length
        ·rw[if_pos (by omega),if_pos hin];obtain⟨v',w1,w2⟩:=g3 (j-off) (by rw[<-g1];omega);refine⟨v',?_,?_⟩
         ·rw[show i.toNat*sh.length+j-(i.toNat*sh.length+off)=j-off by omega];exact w1
         ·have:((sh.drop off).take a.cells.length)[j-off]'(by rw[<-g1];omega)=sh[j]:=by simp only[List.getElem_take,List.getElem_drop];congr 1;omega
          rw[this] at w2;exact w2.mono hx.M hx.w
        ·rw[if_neg (by omega),if_neg hin];obtain⟨v',w1,w2⟩:=e3 i.toNat j hj q2;rw[qfT] at w2;exact⟨v',w1,w2.mono hx.M hx.w⟩
       ·rw[qgB hri];have:=qHb (i:=i.toNat) hj hri;rw[if_neg (by omega)];obtain⟨v',w1,w2⟩:=e3 r j hj hr';exact⟨v',w1,w2.mono hx.M hx.w⟩
    ·rw[if_neg hm] at h;cases h
  | _=>simp only at h;cases h
 ·rw[if_neg hc] at h;cases h
end Go.Eng

namespace Go.Eng
theorem qst:∀(xs:List Value) (cs:Array Value) (off k:Nat),off+k+xs.length<=cs.size ->
  ((xs.zipIdx k).foldl (fun cs (x:Value×Nat)=>cs.setIfInBounds (off+x.2) x.1) cs).toList=cs.toList.take (off+k)++xs++cs.toList.drop (off+k+xs.length)
 | [],cs,off,k,_=>by simp
 | x::xs,cs,off,k,h=>by
  simp only[List.zipIdx_cons,qPN,qOt] at h ⊢;rw[qst xs (cs.setIfInBounds (off+k) x) off (k+1) (by simp;omega)];rw[Array.toList_setIfInBounds];apply qOR;intro i;have hlen:(cs.toList.set (off+k) x).length=cs.size:=by simp
  rw[qel (by simp;omega)];have:=qel (c:=cs.toList) (vs:=x::xs) (o:=off+k) (k:=i) (by simp;omega);simp only[qOt] at this;rw[this];by_cases h1:i=off+k
  ·subst h1;rw[if_neg (by omega),if_pos (by omega),qOc (by simp;omega)];simp
  ·by_cases h2:off+k<=i/\i<off+k+(xs.length+1)
   ·rw[if_pos (by omega),if_pos h2,show i-(off+k)=(i-(off+(k+1)))+1 by omega];simp
   ·rw[if_neg (by omega),if_neg h2,qO1 (by omega)]
theorem qvS(v cs:Array Value)(off:Nat)(h:off+v.size<=cs.size) :(v.zipIdx.foldl (fun cs (x:Value×Nat)=>cs.setIfInBounds (off+x.2) x.1) cs).toList=cs.toList.take off++v.toList++cs.toList.drop (off+v.size):=by rw[<-Array.foldl_toList,Array.toList_zipIdx];have:=qst v.toList cs off 0 (by simpa using h);simpa using this
inductive RepP (X:Ctx):List (Nat×AV)->List (Nat×Value)->Prop
 | nil:RepP X [] []
 | cons {i:Nat} {a:AV} {v:Value} {l:List (Nat×AV)} {m:List (Nat×Value)} (h:Rep X a v) (t:RepP X l m):RepP X ((i,a)::l) ((i,v)::m)
theorem qjy{X:Ctx}{place:Nat->Option (Nat×Nat)}:∀{parts:List (Nat×AV)} {vparts:List (Nat×Value)} {cells cs:List AV} {vc:Array Value},
  qdP place cells parts=some cs->RepP X parts vparts->RepL X cells vc.toList->∃vc',Instr.fill place vc vparts=some vc'/\RepL X cs vc'.toList
 | [],_,cells,cs,vc,h,.nil,hr=>by simp[qdP] at h;subst h;exact⟨vc,rfl,hr⟩
 | (i,a)::parts,_,cells,cs,vc,h,.cons (v:=v) ha ht,hr=>by
  simp only[qdP] at h;cases hp:place i with
  | none=>rw[hp] at h;cases h
  | some q=>
   obtain⟨off,size⟩:=q;rw[hp] at h;simp only at h;by_cases hc:a.cells.length=size/\off+a.cells.length<=cells.length/\yl a.cells=true
   ·rw[if_pos hc] at h;have hrl:=qiy ha hc.2.2;have hlen:v.cells.size=a.cells.length:=by have:=hrl.length;simpa using this.symm
    have hvc:cells.length=vc.size:=by have:=hr.length;simpa using this
    have hnot:¬(v.cells.size≠size\/off+v.cells.size>vc.size):=by omega
    have hf:=qvS v.cells vc off (by omega);obtain⟨vc',h1,h2⟩:=qjy (vc:=v.cells.zipIdx.foldl (fun cs (x:Value×Nat)=>cs.setIfInBounds (off+x.2) x.1) vc) h ht (by rw[hf,hlen];exact qfk hr hrl off);refine⟨vc',?_,h2⟩;simp only[Instr.fill,hp];rw[if_neg (by simpa using hnot)];exact h1
   ·rw[if_neg hc] at h;cases h
theorem qn9{α β:Type}{P:Program}{f:α->Sem β}{g:α->β}:∀(l:List α),(∀a∈l,∀w,(f a).run P w=.ok (g a) w)->∀w,(l.mapM f).run P w=.ok (l.map g) w
 | [],_,w=>rfl
 | a::l,h,w=>by
  rw[List.mapM_cons,qO3,h a qOm,qOa,qO3,qn9 l (fun b hb=>h b (qOo _ hb)) w];rfl
theorem qD4{α β:Type}{P:Program}{f:α->Sem β}{g:α->β}(l:Array α)(h:∀a∈l.toList,∀w,(f a).run P w=.ok (g a) w)(w:World):(l.mapM f).run P w=.ok (l.map g) w:=by rw[Array.mapM_eq_mapM_toList,Sem.run_map,qn9 _ h,qOa];congr 1;apply qPe;simp
theorem qwK{E:Env}{P:Program}(hE:E.tok P){X:Ctx}{t:TypeId}{parts:List (Nat×AV)}{vparts:Array (Nat×Value)}(hp:RepP X parts vparts.toList){r:Res}(h:(qif E X.h t parts).run=some r):∃av u,r=(av,X.h,none)/\(Instr.build t vparts).run P X.w=.ok u X.w/\Rep X av u:=by
 unfold qif at h;by_cases hz:(E.ty t).zero.length=0
 ·rw[if_pos hz] at h;cases h
 rw[if_neg hz] at h;obtain⟨z,z1,z2,_⟩:=qfq hE hz X.w;cases hd:(E.ty t).d<;>rw[hd] at h<;>try (cases h)
 ·rename_i n e es;obtain⟨ht,rfl⟩:=q7C hE hd;simp only at h;by_cases h0:P.cellsOf e=0
  ·rw[if_pos h0] at h;cases h
  rw[if_neg h0] at h;cases hf:qdP (fun i=>some (i*P.cellsOf e,P.cellsOf e)) ((E.ty t).zero.map jg) parts with
  | none=>rw[hf] at h;cases h
  | some cs=>
   rw[hf] at h;cases h;obtain⟨vc,f1,f2⟩:=qjy (vc:=z.cells) hf hp (by rw[z2];exact jw X _);have:Rep X (.agg cs) (.agg vc.toList.toArray):=.agg _ _ f2;refine⟨_,.agg vc,rfl,?_,by simpa using this⟩;simp[Instr.build,z1,run_underlying ht,zw (show 0<P.cellsOf e by omega),f1]
 ·rename_i fs;obtain⟨fields,e1,e2⟩:=q8n hE hd;simp only at h;by_cases hok:(E.ty t).fok=true
  ·rw[if_pos hok] at h;have hinfo:∀f∈fields.toList,(P.info? f.type).isSome=true:=by have hk:=kB hE (t:=t) (by rw[hd];rfl);rw[hk.1] at hok;unfold qAu at hok;obtain⟨_,i,dd,h1,_⟩:=hk;rw[h1] at hok;simpa only [e1,qOy] using hok
   cases hf:qdP (fun i=>(fs[i]?).map fun (f:Nat×TypeId×Nat)=>(f.1,f.2.2)) ((E.ty t).zero.map jg) parts with
   | none=>rw[hf] at h;cases h
   | some cs=>
    rw[hf] at h;cases h;have hpl:(fun i:Nat=>(fs[i]?).map fun (f:Nat×TypeId×Nat)=>(f.1,f.2.2))=fun i:Nat=>(fields.map fun f=>(f.offset,P.cellsOf f.type))[i]?:=by funext i;rw[e2];simp only[qO8,qQ5,Array.getElem?_map,Option.map_map];rfl
    rw[hpl] at hf;obtain⟨vc,f1,f2⟩:=qjy (vc:=z.cells) hf hp (by rw[z2];exact jw X _);have:Rep X (.agg cs) (.agg vc.toList.toArray):=.agg _ _ f2;refine⟨_,.agg vc,rfl,?_,by simpa using this⟩;have hm:=qD4 (P:=P) (f:=fun f:Field=>(do pure (f.offset,<-sizeOf f.type):Sem (Nat×Nat))) (g:=fun f=>(f.offset,P.cellsOf f.type)) fields (fun f hf w=>by
     have:=hinfo f hf;cases hi:P.info? f.type with
     | none=>rw[hi] at this;cases this
     | some i=>simp[sizeOf,typeInfo,hi,Program.cellsOf]) X.w
    simp only[Instr.build,qO3,z1,qOa,run_underlying e1];rw[hm];simp only[qOa,f1];rfl
  ·rw[if_neg hok] at h;cases h
variable {B:Base}{e:TypeId}{h:List Blk}{l:R}{sh:List Sh}
structure Frozen (B:Base) (X X':Ctx) (h':List Blk):Prop where
 h:X'.h=h'
 w:X'.w=X.w
 σ:X'.σ=X.σ
 hs:HSim B X'
 ext:Ext X X'
theorem Move.trans {X Y Z:Ctx}(h:Ext X Y)(k:Ext Y Z):Ext X Z:=by refine Move.of (fun n hn=>k.M n (h.M n hn)) (fun a ha=>(k.w a (h.M _ ha)).trans (h.w a ha)) (fun b b' hb hf=>?_) (k.y.trans h.y) (k.kept.trans h.kept);cases hf;have h1:=h.b b b hb rfl;have h2:=k.b b b h1.lt rfl;refine⟨h2.lt,h2.σ.trans h1.σ,fun sh m hv=>h1.vec sh m (h2.vec sh m hv),fun sh m hv n hn c T fr hc=>?_⟩;obtain⟨c1,T1,fr1,e1,e2⟩:=h1.size sh m (h2.vec sh m hv) n hn c T fr hc;obtain⟨c2,T2,fr2,e3,e4⟩:=h2.size sh m hv n (by rw[h1.σ];exact hn) c1 T1 fr1 e1;exact⟨c2,T2,fr2,e3,e4.trans e2⟩
theorem qic {X:Ctx}(hs:HSim B X)(b:Nat):∃X',Frozen B X X' (zE X.h b):=by
 unfold zE;cases hb:X.h[b]? with
 | none=>exact⟨X,rfl,rfl,rfl,hs,Ext.refl X⟩
 | some k=>
  cases k with
  | vec e sh l=>exact⟨X.frz b e sh l,rfl,rfl,rfl,hs.frz hb,Ctx.frz_ext hb⟩
  | cells=>exact⟨X,rfl,rfl,rfl,hs,Ext.refl X⟩
  | big=>exact⟨X,rfl,rfl,rfl,hs,Ext.refl X⟩
  | frz=>exact⟨X,rfl,rfl,rfl,hs,Ext.refl X⟩
  | dead=>exact⟨X,rfl,rfl,rfl,hs,Ext.refl X⟩
theorem qsA {b b':Nat}(hb:h[b']?=some (.vec e sh l)\/h[b']?=some (.frz e sh l)) :(zE h b)[b']?=some (.vec e sh l)\/(zE h b)[b']?=some (.frz e sh l):=by
 unfold zE;split
 ·rename_i e1 sh1 l1 h1;by_cases hbb:b'=b
  ·subst hbb;rw[qOc (qo h1)];rcases hb with hb|hb<;>rw[h1] at hb<;>cases hb;exact .inr rfl
  ·rw[qO1 (qOr hbb)];exact hb
 ·exact hb
theorem qid {b:Nat}(hb:h[b]?=some (.vec e sh l)\/h[b]?=some (.frz e sh l)) :(zE h b)[b]?=some (.frz e sh l):=by
 unfold zE;rcases hb with hb|hb<;>rw[hb]
 ·simp only;rw[qOc (qo hb)]
 ·exact hb
theorem qAR {b b':Nat}(hb:h[b']?=some (.frz e sh l)):(zE h b)[b']?=some (.frz e sh l):=by
 rcases qsA (b:=b) (.inr hb) with h1|h1
 ·unfold zE at h1;split at h1
  ·rename_i e1 sh1 l1 h2;by_cases hbb:b'=b
   ·subst hbb;rw[h2] at hb;cases hb
   ·rw[qO1 (qOr hbb),hb] at h1;cases h1
  ·rw[hb] at h1;cases h1
 ·exact h1
theorem q50{B:Base}:∀(l:List Nat) {X:Ctx} (_:HSim B X),∃X',Frozen B X X' (qF X.h l)
 | [],X,hs=>⟨X,rfl,rfl,rfl,hs,Ext.refl X⟩
 | b::l,X,hs=>by
  obtain⟨X1,f1⟩:=qic hs b;obtain⟨X2,f2⟩:=q50 l f1.hs;refine⟨X2,?_,f2.w.trans f1.w,f2.σ.trans f1.σ,f2.hs,f1.ext.trans f2.ext⟩;rw[f2.h,f1.h];rfl
theorem qte:∀(l:List Nat) {h:List Blk} {b:Nat} {e:TypeId} {sh:List Sh} {r:R},h[b]?=some (.frz e sh r)->(qF h l)[b]?=some (.frz e sh r)
 | [],_,_,_,_,_,h=>h
 | _::l,_,_,_,_,_,h=>qte l (qAR h)
theorem qtJ:∀(l:List Nat) {h:List Blk} {b:Nat} {e:TypeId} {sh:List Sh} {r:R},b∈l->(h[b]?=some (.vec e sh r)\/h[b]?=some (.frz e sh r))->(qF h l)[b]?=some (.frz e sh r)
 | a::l,h,b,e,sh,r,hm,hb=>by
  rcases qOj.1 hm with rfl|hm
  ·exact qte l (qid hb)
  ·exact qtJ l hm (qsA hb)
def qHe(l:List AV):List Nat:=l.filterMap fun|.vec b=>some b|_=>none
theorem qpQ:∀(l:List AV) (h:List Blk),qb5 h l=qF h (qHe l)
 | [],h=>rfl
 | a::l,h=>by
  cases a<;>first|(simp only[qb5,qHe,List.filterMap_cons];exact qpQ l _)
theorem qji {X:Ctx}(hs:HSim B X){b:Nat}{v:Value}(hb:X.h[b]?=some (.frz e sh l))(hv:Rep X (.vec b) v):qfe X.w X.M sh l v:=by
 cases hv with
 | vec _ p n c hlt h=>
  have h1:=h sh l.length ⟨e,l,.inr hb,rfl⟩;unfold qyG at h1;rcases hs.blk b _ hb with⟨e1,rfl⟩|⟨n0,c0,e1,e2,e3,e4⟩
  ·rw[e1] at h1;obtain⟨p',h1⟩:=h1;cases p' with
   | none=>exact .inl ⟨h1,rfl⟩
   | some a=>exact .inr ⟨a,0,h1,fun h=>absurd h (Nat.lt_irrefl 0),qO0 0,fun r j hj hr=>absurd hr (qPO r)⟩
  ·rw[e1] at h1;obtain⟨cap,f1,f2,f3,c1,T1,fr1,f4,f5⟩:=h1;refine .inr ⟨⟨n0,0,none⟩,cap,f1,fun _=>rfl,f2,fun r j hj hr=>⟨e4,?_⟩⟩;obtain⟨v,q1,q2⟩:=e3 r j hj hr;exact⟨v,by rw[zN e2];simpa using q1,q2⟩
theorem qDV {X X1:Ctx}{s:Sh}{a:AV}{u:U}{v:Value}(h:toU X.h s a=some u)(hs1:HSim B X1)(hx:Ext X X1)(hf:∀b e sh l,a=.vec b->(X.h[b]?=some (.vec e sh l)\/X.h[b]?=some (.frz e sh l))->X1.h[b]?=some (.frz e sh l)) (hr:Rep X a v):RepU X1.w X1.M s u v:=by
 by_cases hv:∃b,a=.vec b
 ·obtain⟨b,rfl⟩:=hv;cases s<;>simp only[toU] at h<;>try (cases h)
  rename_i row;have key:∀e row' l,(X.h[b]?=some (.vec e row' l)\/X.h[b]?=some (.frz e row' l))->(if Sh.beqL row row' then some (U.l l) else none)=some u->RepU X1.w X1.M (.sl row) u v:=by
   intro e row' l hb hh;by_cases hq:Sh.beqL row row'=true
   ·rw[if_pos hq] at hh;cases hh;obtain rfl:=Sh.beqL_eq _ _ hq;exact q9T (qji hs1 (hf b e row l rfl hb) (hr.ext hx))
   ·rw[if_neg hq] at hh;cases hh
  split at h
  ·rename_i e row' l hb;exact key _ _ _ (.inl hb) h
  ·rename_i e row' l hb;exact key _ _ _ (.inr hb) h
  ·cases h
 ·
  have:RepU X.w X.M s u v:=by
   cases hr with
   | vec b=>exact absurd ⟨b,rfl⟩ hv
   | ilit k n=>exact q8j h rfl (.ilit k n)
   | int k n=>exact q8j h rfl (.int k n)
   | blit b=>exact q8j h rfl (.blit b)
   | bool b=>exact q8j h rfl (.bool b)
   | str t=>exact q8j h rfl (.str t)
   | nils=>exact q8j h rfl .nils
   | imm sh l v himm=>exact q8j h rfl (.imm sh l v himm)
   | _=>cases s<;>simp only[toU] at h<;>cases h
  exact this.mono hx.M hx.w
def qmI(w:World)(M:Nat->Prop)(sh:List Sh)(l:R)(xs:List Value):Prop:=xs.length=l.length*sh.length/\∀r j (hj:j<sh.length),r<l.length->∃v,xs[r*sh.length+j]?=some v/\RepU w M sh[j] (zH l r j) v
theorem qrl{B:Base}{X X1:Ctx}(hs1:HSim B X1)(hx:Ext X X1):∀{sh:List Sh} {azz:List AV} {us:List U} {vs:List Value},qrd X.h sh azz=some us ->
  (∀a∈azz,∀b e sh l,a=.vec b->(X.h[b]?=some (.vec e sh l)\/X.h[b]?=some (.frz e sh l))->X1.h[b]?=some (.frz e sh l))->RepL X azz vs ->
  us.length=sh.length/\azz.length=sh.length/\∀j (hj:j<sh.length),∃v,vs[j]?=some v/\RepU X1.w X1.M sh[j] (us.getD j (.i 0)) v
 | [],[],us,vs,h,_,hr=>by simp[qrd] at h;subst h;exact⟨rfl,rfl,fun j hj=>by simp at hj⟩
 | [],_::_,us,vs,h,_,_=>by simp[qrd] at h
 | _::_,[],us,vs,h,_,_=>by simp[qrd] at h
 | s::sh,a::azz,us,vs,h,hm,hr=>by
  simp only[qrd] at h;cases h1:toU X.h s a with
  | none=>rw[h1] at h;cases h
  | some u=>
   cases h2:qrd X.h sh azz with
   | none=>rw[h1,h2] at h;cases h
   | some us'=>
    rw[h1,h2] at h;cases h;cases hr with
    | cons ha ht=>
     obtain⟨g1,g2,g3⟩:=qrl hs1 hx h2 (fun a ha=>hm a (qOo _ ha)) ht;refine⟨by simp[g1],by simp[g2],fun j hj=>?_⟩;cases j with
     | zero=>exact⟨_,rfl,by simpa using qDV h1 hs1 hx (hm a qOm) ha⟩
     | succ j=>
      obtain⟨v,q1,q2⟩:=g3 j (by simpa using hj);exact⟨v,by simpa using q1,by simpa using q2⟩
theorem qtk (row:List U)(l:R)(j:Nat):zH (row::l) (0:Nat) j=row.getD j (.i 0):=by simp[zH]
theorem qsr (row:List U)(l:R)(r j:Nat):zH (row::l) ((r+1:Nat):Int) j=zH l r j:=by unfold zH;rw[qO9,qO9];simp
theorem qlZ{B:Base}{X X1:Ctx}(hs1:HSim B X1)(hx:Ext X X1){sh:List Sh}:∀(n:Nat) {azz:List AV} {l:R} {vs:List Value},qjT X.h sh n azz=some l ->
  (∀a∈azz,∀b e sh l,a=.vec b->(X.h[b]?=some (.vec e sh l)\/X.h[b]?=some (.frz e sh l))->X1.h[b]?=some (.frz e sh l))->RepL X azz vs->l.length=n/\qmI X1.w X1.M sh l vs
 | 0,azz,l,vs,h,hm,hr=>by
  cases azz with
  | nil=>simp[qjT] at h;subst h;cases hr;exact⟨rfl,by simp,fun r j hj hr=>by simp at hr⟩
  | cons=>simp[qjT] at h
 | n+1,azz,l,vs,h,hm,hr=>by
  simp only[qjT] at h;cases h1:qrd X.h sh (azz.take sh.length) with
  | none=>rw[h1] at h;cases h
  | some us=>
   cases h2:qjT X.h sh n (azz.drop sh.length) with
   | none=>rw[h1,h2] at h;cases h
   | some l'=>
    rw[h1,h2] at h;cases h;obtain⟨g1,g2,g3⟩:=qrl hs1 hx h1 (fun a ha=>hm a (qQ6 ha)) (hr.take _);obtain⟨g4,g5,g6⟩:=qlZ hs1 hx n h2 (fun a ha=>hm a (qQ7 ha)) (hr.drop _);have hlen:=hr.length;have g2':sh.length<=azz.length:=by simp only[qOX] at g2;omega
    refine⟨by simp[g4],?_,fun r j hj hr'=>?_⟩
    ·simp only[qPX] at g5;rw[qOt,qOf,qPz];omega
    ·cases r with
     | zero=>
      obtain⟨v,q1,q2⟩:=g3 j hj;rw[qP3,if_pos hj] at q1;exact⟨v,by simpa using q1,by rw[qtk];exact q2⟩
     | succ r=>
      obtain⟨v,q1,q2⟩:=g6 r j hj (by simpa using hr');rw[qP4] at q1;refine⟨v,?_,by rw[qsr];exact q2⟩;rw[<-q1];congr 1;rw[qOf];omega
end Go.Eng

namespace Go.Eng
variable {P:Program}{X:Ctx}{l:R}{sh:List Sh}{t:TypeId}{w:World}
theorem qdc (h:List Blk)(b:Nat):(zE h b).length=h.length:=by unfold zE;split<;>simp
theorem qkb:∀(l:List Nat) (h:List Blk),(qF h l).length=h.length
 | [],_=>rfl
 | b::l,h=>by simp[qF,qkb l,qdc]
theorem qmv{α:Type}{l:List α}:∀{n i:Nat},i<n*l.length->(List.replicate n l).flatten[i]?=l[i%l.length]?
 | 0,i,h=>by simp at h
 | n+1,i,h=>by
  rw[qPn,qQ8];by_cases hi:i<l.length
  ·rw[qOb hi,Nat.mod_eq_of_lt hi]
  ·rw[qOi (by omega),qmv (by rw[qOf] at h;omega),Nat.mod_eq_sub_mod (by omega:l.length<=i)]
theorem qCw (z:Array Value)(n:Nat):((Array.range (n*z.size)).map (z[·%z.size]!)).toList=(List.replicate n z.toList).flatten:=by
 apply qOR;intro i;by_cases hi:i<n*z.size
 ·rw[qmv (by simpa using hi)];have hz:0<z.size:=by
   rcases qP6 z.size with h|h
   ·rw[h] at hi;omega
   ·exact h
  have hlt:=qPg i hz;simp[hi,hlt]
 ·have h1:((Array.range (n*z.size)).map (z[·%z.size]!)).toList.length<=i:=by simp;omega
  have h2:(List.replicate n z.toList).flatten.length<=i:=by simp;omega
  rw[qOl h1,qOl h2]
theorem qdx{X:Ctx}{azz:List AV}{vs:List Value}(h:RepL X azz vs):∀n,RepL X (List.replicate n azz).flatten (List.replicate n vs).flatten
 | 0=>.nil
 | n+1=>by simp only[qPn,qQ8];exact h.append (qdx h n)
theorem qrj {e:TypeId}{n cap:Nat}{w':World}{c:Array Value}{T:TypeId}{fr:Nat×Nat}(h1:l.length<=cap)(h2:cap<=maxLen)(h3:w'.heap[n]?=some (.cells c T fr)) (h4:c.size=cap*sh.length):Rep (X.pushW (.vec e sh l) (some n) w') (.vec X.h.length) (.slice (some ⟨n,0,none⟩) l.length cap):=by
 refine .vec _ _ _ _ (by simp[Ctx.pushW]) fun sh' m ⟨e',l',q1,q2⟩=>?_;have:(X.h++[Blk.vec e sh l])[X.h.length]?=some (.vec e sh l):=by simp
 simp only[Ctx.pushW,this] at q1;rcases q1 with q1|q1<;>cases q1;subst q2;unfold qyG;simp only[Ctx.pushW,if_true];exact⟨cap,rfl,h1,h2,c,T,fr,h3,h4⟩
theorem qoJ {E:Env}(hE:E.tok P){B:Base}(hs:HSim B X){len:Nat}{parts:List (Nat×AV)}{vparts:Array (Nat×Value)}(hp:RepP X parts vparts.toList){r:Res}(h:(q7Z E X.h t len parts).run=some r):qJ P B X (do pure (.value (<-Instr.buildSlice t len vparts))) r:=by
 unfold q7Z at h;cases hd:(E.ty t).d<;>rw[hd] at h<;>try (cases h)
 rename_i e es;obtain⟨ht,rfl⟩:=q0S hE hd;simp only at h;by_cases hc:len*P.cellsOf e<=16777216/\0<P.cellsOf e/\(E.ty e).zero.length=P.cellsOf e
 ·rw[if_pos hc] at h;obtain⟨hc1,hc2,hc3⟩:=hc;cases hf:qdP (fun i=>some (i*P.cellsOf e,P.cellsOf e)) (List.replicate len ((E.ty e).zero.map jg)).flatten parts with
  | none=>rw[hf] at h;cases h
  | some cs=>
   cases hsh:E.shape 16 e with
   | none=>rw[hf,hsh] at h;cases h
   | some sh=>
    rw[hf,hsh] at h;simp only at h;by_cases hl:sh.length=P.cellsOf e
    ·rw[if_pos hl] at h;cases hch:qjT X.h sh len cs with
     | none=>rw[hch] at h;cases h
     | some l=>
      rw[hch] at h;cases h;obtain⟨z,z1,z2,_⟩:=qfq hE (t:=e) (by omega) X.w;have hzs:z.cells.size=P.cellsOf e:=by rw[<-hc3,<-z2];simp
      have hini:RepL X (List.replicate len ((E.ty e).zero.map jg)).flatten ((Array.range (len*P.cellsOf e)).map (z.cells[·%z.cells.size]!)).toList:=by rw[<-hzs,qCw,z2];exact qdx (jw X _) len
      obtain⟨vc,f1,f2⟩:=qjy (vc:=(Array.range (len*P.cellsOf e)).map (z.cells[·%z.cells.size]!)) hf hp hini;obtain⟨X1,fz⟩:=q50 (qHe cs) hs;have hmem:∀a∈cs,∀b e sh l,a=.vec b->(X.h[b]?=some (.vec e sh l)\/X.h[b]?=some (.frz e sh l))->X1.h[b]?=some (.frz e sh l):=by intro a ha b e sh l hab hb;subst hab;rw[fz.h];exact qtJ _ (List.mem_filterMap.2 ⟨_,ha,rfl⟩) hb
      obtain⟨g1,g2,g3⟩:=qlZ fz.hs fz.ext len hch hmem f2;have hpw:=PushW.alloc X1 (.cells vc e);have hlenv:vc.size=len*P.cellsOf e:=by rw[<-hl,<-g1];simpa using g2
      have hx2:=Ctx.push_ext fz.hs (.vec e sh l) hpw;have hlenh:X1.h.length=X.h.length:=by rw[fz.h,qkb]
      have hvec:=qrj (X:=X1) (e:=e) (sh:=sh) (l:=l) (n:=X1.w.heap.size) (cap:=len) (w':=X1.w.alloc (.cells vc e)) (by omega) (by have:len<=len*P.cellsOf e:=Nat.le_mul_of_pos_right _ hc2;unfold maxLen;omega) (zS _ _) (by rw[hl];exact hlenv);rw[g1,hlenh,fz.w] at hvec;refine⟨.value (.slice (some ⟨X.w.heap.size,0,none⟩) len len),_,X1.pushW (.vec e sh l) (some X1.w.heap.size) (X1.w.alloc (.cells vc e)),?_,.inl rfl,?_,fz.hs.push hpw ?_,?_,fz.ext.trans hx2⟩
      ·have hbig:¬(len*P.cellsOf e>2^24):=by omega
       simp only[Instr.buildSlice,qO3,run_underlying ht,qOa,zw hc2,Sem.run_ite,hbig,if_false,qOw,Result.andThen_ite,z1];by_cases h0:len*P.cellsOf e=0
       ·rw[if_pos h0,show Instr.fill (fun i=>some (i*P.cellsOf e,P.cellsOf e)) (Array.map (fun x=>(#[]:Array Value)[x%(#[]:Array Value).size]!) (Array.range (len*P.cellsOf e))) vparts.toList=some vc by
         have e0:∀f:Nat->Value,Array.map f (Array.range (len*P.cellsOf e))=#[]:=by intro f;rw[h0];simp
         rw[e0] at f1 ⊢;exact f1,fz.w]
        rfl
       ·rw[if_neg h0,f1,fz.w];rfl
      ·rw[fz.w];exact hvec
      ·refine .inr ⟨X1.w.heap.size,vc,by simp[Ctx.pushW],zS _ _,fun r j hj hr=>?_⟩;obtain⟨v,q1,q2⟩:=g3 r j hj hr;exact⟨v,by simpa using q1,q2.mono hx2.M hx2.w⟩
      ·show X1.h++[_]=_;rw[fz.h,qpQ]
    ·rw[if_neg hl] at h;cases h
 ·rw[if_neg hc] at h;cases h
inductive RepO (X:Ctx):Option AV->Option Value->Prop
 | none:RepO X none none
 | some {a:AV} {v:Value} (h:Rep X a v):RepO X (some a) (some v)
theorem zj {k:IntKind}{i:Int}{y:Nat}{c:BoundsCode}(h0:0<=i)(h1:i<=y):(Instr.sliceBound (.int k i) y c).run P w=.ok i.toNat w:=by simp[Instr.sliceBound,asIntOf,h0,h1]
theorem qno {o:Option AV}{v:Option Value}(h:RepO X o v){d a:Int}(ha:qeI o d=some a):(v=none/\a=d)\/∃k,v=some (.int k a):=by
 cases h with
 | none=>simp only[qeI,qNY] at ha;exact .inl ⟨rfl,ha.symm⟩
 | some hv=>
  simp only[qeI] at ha;rename_i a0 v0;cases h3:asI a0 with
  | none=>rw[h3] at ha;cases ha
  | some p=>
   obtain⟨k,n⟩:=p;rw[h3] at ha;simp only[qOz,qNY] at ha;subst ha;obtain rfl:=q3d hv h3;exact .inr ⟨k,rfl⟩
theorem q02 {isS:Bool}{len cap:Nat}{lo hi:Option AV}{vlo vhi:Option Value}(hlo:RepO X lo vlo)(hhi:RepO X hi vhi){a b d:Int}(h1:qeI lo 0=some a) (h2:qeI hi d=some b) (hd:d=len) (hb0:0<=b) (hb:b<=cap) (ha0:0<=a) (ha:a<=b) (w:World) :(Instr.sliceBounds isS len cap vlo vhi none).run P w=.ok (a.toNat,b.toNat,cap) w:=by
 have hba:a<=(b.toNat:Nat):=by omega
 rcases qno hlo h1 with⟨rfl,rfl⟩|⟨k,rfl⟩<;>rcases qno hhi h2 with⟨rfl,rfl⟩|⟨k',rfl⟩
 ·subst hd;simp[Instr.sliceBounds]
 ·simp[Instr.sliceBounds,zj hb0 hb]
 ·subst hd;have:a<=(len:Int):=ha;simp[Instr.sliceBounds,zj ha0 this]
 ·simp[Instr.sliceBounds,zj hb0 hb,zj ha0 hba]
theorem qvW {a b:Int}{r:Nat}(h:r<b.toNat-a.toNat){j:Nat}:zH (qB2 l a b) r j=zH l ((a.toNat+r:Nat):Int) j:=by
 unfold zH qB2;rw[qO9,qO9];have:((l.take b.toNat).drop a.toNat).getD r []=l.getD (a.toNat+r) []:=by simp only[qNZ,qP4,qP3];rw[if_pos (by omega)]
 rw[this]
theorem q2o {a b:Int}(hb:b.toNat<=l.length):(qB2 l a b).length=b.toNat-a.toNat:=by simp[qB2];omega
theorem qsV {M:Nat->Prop}{p:Option Addr}{n c:Nat}{a b:Int}(h:qfe w M sh l (.slice p n c))(ha0:0<=a)(ha:a<=b)(hb:b<=qg l) :b.toNat<=c/\n=l.length/\qfe w M sh (qB2 l a b) (.slice (if c=a.toNat then p else p.map (·.add (a.toNat*sh.length))) (b.toNat-a.toNat) (c-a.toNat)):=by
 have hb':b.toNat<=l.length:=by simp only[qg] at hb;omega
 rcases h with⟨h1,h2⟩|⟨ad,cap,h1,h2,h3,h4⟩
 ·cases h1;subst h2;simp at hb';have e1:a.toNat=0:=by omega
  have e2:b.toNat=0:=by omega
  refine⟨by omega,rfl,.inl ⟨?_,by simp[qB2]⟩⟩;rw[e1,e2];simp
 ·cases h1;refine⟨by omega,rfl,.inr ⟨if c=a.toNat then ad else ad.add (a.toNat*sh.length),c-a.toNat,?_,?_,?_,?_⟩⟩
  ·rw[q2o hb'];split<;>rfl
  ·intro hl;rw[q2o hb'] at hl;have h2':=h2 (by omega);split
   ·exact h2'
   ·rw[Addr.add_of h2']
  ·rw[q2o hb'];omega
  ·intro r j hj hr;rw[q2o hb'] at hr;rw[if_neg (by omega),Addr.add_of (h2 (by omega))];obtain⟨g1,v,g2,g3⟩:=h4 (a.toNat+r) j hj (by omega);refine⟨g1,v,?_,by rw[qvW hr];exact g3⟩;rw[<-g2];show _=World.cell? w ⟨ad.block,ad.off+(a.toNat+r)*sh.length+j,none⟩;congr 2;rw[qOf];show ad.off+a.toNat*sh.length+r*sh.length+j=_;omega
theorem qvF {M:Nat->Prop}{p:Option Addr}{n c:Nat}{a b:Int}(h:qfe w M sh l (.slice p n c))(ha0:0<=a)(ha:a<=b)(hb:b<=qg l) :b.toNat<=c/\qfe w M sh (qB2 l a b) (.slice (if b.toNat=a.toNat then p else p.map (·.add (a.toNat*sh.length))) (b.toNat-a.toNat) (b.toNat-a.toNat)):=by
 have hb':b.toNat<=l.length:=by simp only[qg] at hb;omega
 rcases h with⟨h1,h2⟩|⟨ad,cap,h1,h2,h3,h4⟩
 ·cases h1;subst h2;simp at hb';have e1:a.toNat=0:=by omega
  have e2:b.toNat=0:=by omega
  refine⟨by omega,.inl ⟨?_,by simp[qB2]⟩⟩;rw[e1,e2];simp
 ·cases h1;refine⟨by omega,.inr ⟨if b.toNat=a.toNat then ad else ad.add (a.toNat*sh.length),b.toNat-a.toNat,?_,?_,?_,?_⟩⟩
  ·rw[q2o hb'];split<;>rfl
  ·intro hl;rw[q2o hb'] at hl;have h2':=h2 (by omega);split
   ·exact h2'
   ·rw[Addr.add_of h2']
  ·rw[q2o hb'];omega
  ·intro r j hj hr;rw[q2o hb'] at hr;rw[if_neg (by omega),Addr.add_of (h2 (by omega))];obtain⟨g1,v,g2,g3⟩:=h4 (a.toNat+r) j hj (by omega);refine⟨g1,v,?_,by rw[qvW hr];exact g3⟩;rw[<-g2];show _=World.cell? w ⟨ad.block,ad.off+(a.toNat+r)*sh.length+j,none⟩;congr 2;rw[qOf];show ad.off+a.toNat*sh.length+r*sh.length+j=_;omega
theorem qwC {a:AV}{v:Value}(h:Rep X a v){q:IntKind×Int}(ha:asI a=some q):∃k,v=.int k q.2:=by
 rcases qno (.some h) (d:=0) (a:=q.2) (by simp[qeI,ha]) with⟨h1,_⟩|⟨k,h1⟩
 ·cases h1
 ·cases h1;exact⟨k,rfl⟩
theorem qun {len cap:Nat}{lo:Option AV}{vlo:Option Value}(hlo:RepO X lo vlo){k k':IntKind}{a b:Int}(h1:qeI lo 0=some a) (hb:b<=cap) (ha0:0<=a) (ha:a<=b) (w:World) :(Instr.sliceBounds true len cap vlo (some (.int k b)) (some (.int k' b))).run P w=.ok (a.toNat,b.toNat,b.toNat) w:=by
 have hb0:0<=b:=by omega
 have hba:a<=(b.toNat:Nat):=by omega
 have hbb:b<=(b.toNat:Nat):=by omega
 rcases qno hlo h1 with⟨rfl,rfl⟩|⟨k,rfl⟩
 ·simp[Instr.sliceBounds,zj hb0 hb,zj hb0 hbb]
 ·simp[Instr.sliceBounds,zj hb0 hb,zj hb0 hbb,zj ha0 hba]
theorem qqz {t e:TypeId}{p:Option Addr}{n c:Nat}{vlo vhi vmx:Option Value}{a b:Nat}(ht:P.underlying t=some (.slice e))(hp:0<P.cellsOf e)(hb:(Instr.sliceBounds true n c vlo vhi vmx).run P w=.ok (a,b,b) w) :(Instr.sliceAt t (.slice p n c) vlo vhi vmx).run P w=.ok (.slice (if b=a then p else p.map (·.add (a*P.cellsOf e))) (b-a) (b-a)) w:=by simp only[Instr.sliceAt,qO3,run_underlying ht,qOa,Instr.slice,hb,zw hp];rfl
theorem q70 {t e:TypeId}{p:Option Addr}{n c:Nat}{vlo vhi:Option Value}{a b:Nat}(ht:P.underlying t=some (.slice e))(hp:0<P.cellsOf e)(hb:(Instr.sliceBounds true n c vlo vhi none).run P w=.ok (a,b,c) w) :(Instr.sliceAt t (.slice p n c) vlo vhi none).run P w=.ok (.slice (if c=a then p else p.map (·.add (a*P.cellsOf e))) (b-a) (c-a)) w:=by simp only[Instr.sliceAt,qO3,run_underlying ht,qOa,Instr.slice,hb,zw hp];rfl
theorem qnl {s:qNX}{vlo vhi:Option Value}{a b:Int}(ht:P.underlying t=some .string)(hb:(Instr.sliceBounds false s.length s.length vlo vhi none).run P w=.ok (a.toNat,b.toNat,s.length) w) :(Instr.sliceAt t (.string ⟨s.toArray⟩) vlo vhi none).run P w=.ok (.string ⟨(qdh s a b).toArray⟩) w:=by
 have h1:(ByteArray.mk s.toArray).size=s.length:=rfl;simp only[Instr.sliceAt,qO3,run_underlying ht,qOa,Instr.slice,h1,hb,Option.isSome_none,qOC,if_false,qOw];congr 2;apply ByteArray.ext;have:(ByteArray.mk s.toArray).extract a.toNat b.toNat=⟨s.toArray.extract a.toNat b.toNat⟩:=by apply ByteArray.ext;simp
 rw[this];simp[qdh,List.extract,List.drop_take]
theorem qA9 {E:Env}(hE:E.tok P){B:Base}(hs:HSim B X){a:AV}{v:Value}{lo hi mx:Option AV}{vlo vhi vmx:Option Value}(hv:Rep X a v)(hlo:RepO X lo vlo) (hhi:RepO X hi vhi) (hmx:RepO X mx vmx) {r:Res} (h:(qcE E X.h t a lo hi mx).run=some r) :qJ P B X (do pure (.value (<-Instr.sliceAt t v vlo vhi vmx))) r:=by
 unfold qcE at h;cases hmx with
 | some hm=>
  rename_i m vm;simp only at h;cases hd:(E.ty t).d<;>rw[hd] at h<;>try (cases h)
  rename_i e es;obtain⟨ht,rfl⟩:=q0S hE hd;cases hhi with
  | none=>cases hv<;>cases h
  | some hy=>
   rename_i y vy;cases hv<;>simp only at h<;>try (cases h)
   rename_i sh l himm;cases h1:qeI lo 0 with
   | none=>rw[h1] at h;cases h
   | some x=>
    cases h2:asI y with
    | none=>rw[h1,h2] at h;cases h
    | some q2=>
     cases h3:asI m with
     | none=>rw[h1,h2,h3] at h;cases h
     | some q3=>
      obtain⟨k2,b⟩:=q2;obtain⟨k3,c⟩:=q3;rw[h1,h2,h3] at h;simp only at h;by_cases hc:sh.length=P.cellsOf e/\0<P.cellsOf e
      ·rw[if_pos hc] at h;obtain⟨g1,g2⟩:=j5 h;obtain⟨g3,g4⟩:=j5 g2;obtain⟨g5,g6⟩:=j5 g4;cases g6;obtain⟨q1,q2⟩:=kF g1;obtain⟨q3,q4⟩:=kF g3;obtain rfl:b=c:=of_decide_eq_true g5;obtain⟨k,rfl⟩:=qwC hy h2;obtain⟨k',rfl⟩:=qwC hm h3;obtain⟨p,n,cp,rfl⟩:∃p n c,v=.slice p n c:=by rcases himm with⟨rfl,_⟩|⟨ad,cap,rfl,_⟩<;>exact⟨_,_,_,rfl⟩
       obtain⟨w1,w3⟩:=qvF himm q3 q4 q2;rw[hc.1] at w3;exact qJ.ofV hs (qqz ht hc.2 (qun hlo h1 (by omega) q3 q4 _)) (.full _ _ _ _ w3)
      ·rw[if_neg hc] at h;cases h
 | none=>
  simp only at h;cases hd:(E.ty t).d<;>rw[hd] at h<;>try (cases h)
  ·
   have ht:=qgn hE hd;cases hv<;>simp only at h<;>try (cases h)
   rename_i s;cases h1:qeI lo 0 with
   | none=>rw[h1] at h;cases h
   | some l=>
    cases h2:qeI hi (qu s) with
    | none=>rw[h1,h2] at h;cases h
    | some b=>
     rw[h1,h2] at h;obtain⟨g1,g2⟩:=j5 h;obtain⟨g3,g4⟩:=j5 g2;cases g4;obtain⟨q1,q2⟩:=kF g1;obtain⟨q3,q4⟩:=kF g3;exact qJ.ofV hs (qnl ht (q02 hlo hhi h1 h2 rfl q1 q2 q3 q4 _)) (.str _)
  ·rename_i e es;obtain⟨ht,rfl⟩:=q0S hE hd;cases hv<;>simp only at h<;>try (cases h)
   ·rename_i sh l himm;cases h1:qeI lo 0 with
    | none=>rw[h1] at h;cases h
    | some x=>
     cases h2:qeI hi (qg l) with
     | none=>rw[h1,h2] at h;cases h
     | some y=>
      rw[h1,h2] at h;simp only at h;by_cases hc:sh.length=P.cellsOf e/\0<P.cellsOf e
      ·rw[if_pos hc] at h;obtain⟨g1,g2⟩:=j5 h;obtain⟨g3,g4⟩:=j5 g2;cases g4;obtain⟨q1,q2⟩:=kF g1;obtain⟨q3,q4⟩:=kF g3;obtain⟨p,n,c,rfl⟩:∃p n c,v=.slice p n c:=by rcases himm with⟨rfl,_⟩|⟨ad,cap,rfl,_⟩<;>exact⟨_,_,_,rfl⟩
       obtain⟨w1,rfl,w3⟩:=qsV himm q3 q4 q2;rw[hc.1] at w3;exact qJ.ofV hs (q70 ht hc.2 (q02 hlo hhi h1 h2 rfl q1 (by omega) q3 q4 _)) (.imm _ _ _ w3)
      ·rw[if_neg hc] at h;cases h
   ·rename_i b p n c hb hv;have hb':=hb;have key:∀e0 sh l (h':List Blk),(X.h[b]?=some (.vec e0 sh l)\/X.h[b]?=some (.frz e0 sh l))->h'=zE X.h b->(match qeI lo 0,qeI hi (qg l) with
     | some x,some y=>if sh.length=P.cellsOf e/\0<P.cellsOf e then Tree.br (q6E y (qg l)) (.br (q6E x y) (.leaf ((.imm sh (qB2 l x y),h',none):Res)) .fail) .fail else .fail
     | _,_=>.fail).run=some r->qJ P B X (do pure (.value (<-Instr.sliceAt t (.slice p n c) vlo vhi none))) r:=by
     intro e0 sh l h' hh hh' hr;cases h1:qeI lo 0 with
     | none=>rw[h1] at hr;cases hr
     | some x=>
      cases h2:qeI hi (qg l) with
      | none=>rw[h1,h2] at hr;cases hr
      | some y=>
       rw[h1,h2] at hr;simp only at hr;by_cases hc:sh.length=P.cellsOf e/\0<P.cellsOf e
       ·rw[if_pos hc] at hr;obtain⟨g1,g2⟩:=j5 hr;obtain⟨g3,g4⟩:=j5 g2;cases g4;obtain⟨q1,q2⟩:=kF g1;obtain⟨q3,q4⟩:=kF g3;obtain⟨X1,fz⟩:=qic hs b;have hfr:X1.h[b]?=some (.frz e0 sh l):=by rw[fz.h];exact qid hh
        have hrep:Rep X (.vec b) (.slice p n c):=.vec b p n c hb hv;have himm:=qji fz.hs hfr (hrep.ext fz.ext);obtain⟨w1,rfl,w3⟩:=qsV himm q3 q4 q2;rw[hc.1] at w3;refine⟨_,_,X1,?_,.inl rfl,.imm _ _ _ w3,fz.hs,by rw[fz.h,hh'],fz.ext⟩;rw[qO3,q70 ht hc.2 (q02 hlo hhi h1 h2 rfl q1 (by omega) q3 q4 _),fz.w];rfl
       ·rw[if_neg hc] at hr;cases hr
    cases hbk:X.h[b]? with
    | none=>rw[hbk] at h;cases h
    | some k=>
     rw[hbk] at h;cases k<;>try (cases h;done)
     ·rename_i e0 sh l;simp only at h;cases hbt:qwB sh hi with
      | false=>rw[hbt] at h;exact key _ _ _ _ (.inl hbk) rfl h
      | true=>
       rw[hbt] at h;simp only at h;cases h1:qeI lo 0 with
       | none=>rw[h1] at h;cases h
       | some x=>
        rw[h1] at h;simp only at h;by_cases hc:P.cellsOf e=1
        ·rw[if_pos hc] at h;obtain⟨g1,g2⟩:=j5 h;obtain⟨g3,g4⟩:=j5 g2;cases g4;have hpos:(0:Int)<qg l:=of_decide_eq_true g1;obtain⟨q1,q2⟩:=kF g3;have hhin:hi=none/\qlt sh=true:=by
          unfold qwB at hbt;cases hi with
          | none=>exact⟨rfl,hbt⟩
          | some y=>cases hbt
         obtain⟨rfl,hby⟩:=hhin;have hsh:sh.length=1:=by
          unfold qlt at hby
          split at hby
          ·rfl
          ·cases hby
         have hvv:=hv sh l.length ⟨e0,l,.inl hbk,rfl⟩;unfold qyG at hvv;rcases hs.blk b _ hbk with⟨e1,rfl⟩|⟨n0,c0,e1,e2,e3⟩
         ·simp[qg] at hpos
         ·rw[e1] at hvv;obtain⟨cap,q3,q4,q5,_⟩:=hvv;cases q3;have hb:=q02 (P:=P) (isS:=true) (len:=l.length) (cap:=c) hlo hhi h1 (b:=qg l) (d:=qg l) rfl rfl (by omega) (by unfold qg;omega) q1 q2 X.w;have hrun:=q70 (p:=some ⟨n0,0,none⟩) ht (by omega) hb;refine qJ.ofV hs hrun ?_;have hnn:(qg l).toNat=l.length:=by unfold qg;omega
          rw[hnn,hc];by_cases hcx:c=x.toNat
          ·rw[if_pos hcx];refine .vsub b x n0 0 _ _ hb' e1 fun sh' m' hv'=>?_;obtain⟨e',l',w1,w2⟩:=hv';rw[hbk] at w1;rcases w1 with w1|w1<;>cases w1;unfold qg at q2;exact⟨q1,by omega,.inr ⟨by omega,rfl⟩,by omega⟩
          ·rw[if_neg hcx];have hadd:(some (⟨n0,0,none⟩:Addr)).map (·.add (x.toNat*1))=some ⟨n0,x.toNat,none⟩:=by simp only[qOz,Addr.add];congr 1;split<;>(try simp_all)<;>(try omega)
           rw[hadd];refine .vsub b x n0 x.toNat _ _ hb' e1 fun sh' m' hv'=>?_;obtain⟨e',l',w1,w2⟩:=hv';rw[hbk] at w1;rcases w1 with w1|w1<;>cases w1;unfold qg at q2;exact⟨q1,by omega,.inl (by rw[hsh];omega),by omega⟩
        ·rw[if_neg hc] at h;cases h
     ·exact key _ _ _ X.h (.inr hbk) (by simp only[zE,hbk]) h
end Go.Eng

namespace Go.Eng
variable {B:Base}{P:Program}{X:Ctx}{e:TypeId}{l:R}{sh:List Sh}{v:Value}{w:World}
theorem q8h {M:Nat->Prop}{m:R}{ad:Addr}(hp:0<sh.length)(hsp:0<m.length->ad.spot=none)(h:Rows w M sh m ad) :∃news:List Value,qmI w M sh m news/\(∀j u,news[j]?=some u->w.cell? (ad.add j)=some u)/\∀u∈news,u.oneCell'=true:=by
 have key:∀k,k<m.length*sh.length->∃v,w.cell? ⟨ad.block,ad.off+k,none⟩=some v/\v.oneCell'=true:=by
  intro k hk;have h1:k/sh.length<m.length:=(Nat.div_lt_iff_lt_mul hp).2 hk;have h2:k%sh.length<sh.length:=qPg _ hp;obtain⟨_,v,e1,e2⟩:=h (k/sh.length) (k%sh.length) h2 h1;refine⟨v,?_,?_⟩
  ·rw[<-e1];congr 2;have:=qPZ k sh.length;rw[Nat.mul_comm] at this;omega
  ·generalize sh[k%sh.length]=s at e2;cases e2<;>rfl
 refine⟨(List.range (m.length*sh.length)).map fun k=>(w.cell? ⟨ad.block,ad.off+k,none⟩).getD undef,⟨by simp,fun r j hj hr=>?_⟩,fun j u hu=>?_,fun u hu=>?_⟩
 ·obtain⟨_,v,e1,e2⟩:=h r j hj hr;have hlt:r*sh.length+j<m.length*sh.length:=by have:(r+1)*sh.length<=m.length*sh.length:=qOq _ hr;rw[qOf] at this;omega
  refine⟨v,?_,e2⟩;rw[qO8,qOD hlt];simp only[qOz,<-qPv,e1,qOW]
 ·rw[qO8] at hu;by_cases hj:j<m.length*sh.length
  ·rw[qOD hj] at hu;obtain⟨v,e1,_⟩:=key j hj;simp only[qOz,e1,qOW,qNY] at hu;rw[Addr.add_of (hsp (Nat.pos_of_ne_zero fun h0=>by rw[h0] at hj;simp at hj)),e1,hu]
  ·rw[qOl (by simpa using hj)] at hu;cases hu
 ·obtain⟨k,hk,rfl⟩:=qOP.1 hu;obtain⟨v,e1,e2⟩:=key k (by simpa using hk);rw[e1];exact e2
theorem quK {l m:R}{r j:Nat}(h:r<l.length):zH (zD l m) r j=zH l r j:=by unfold zH zD;rw[qO9];simp[qOb h]
theorem qsX {l m:R}{r j:Nat}(h:l.length<=r):zH (zD l m) r j=zH m ((r-l.length:Nat):Int) j:=by unfold zH zD;rw[qO9,qO9];simp[qOi h]
theorem qmI.app {M:Nat->Prop}{l m:R}{xs ys:List Value}(h1:qmI w M sh l xs)(h2:qmI w M sh m ys):qmI w M sh (zD l m) (xs++ys):=by
 refine⟨by simp[zD,h1.1,h2.1,qOf],fun r j hj hr=>?_⟩;by_cases hl:r<l.length
 ·obtain⟨v,e1,e2⟩:=h1.2 r j hj hl;exact⟨v,by rw[qOb (qo e1)];exact e1,by rw[quK hl];exact e2⟩
 ·have hr':r-l.length<m.length:=by simp only[zD,qOh] at hr;omega
  obtain⟨v,e1,e2⟩:=h2.2 (r-l.length) j hj hr';refine⟨v,?_,by rw[qsX (by omega)];exact e2⟩;have h3:l.length*sh.length<=r*sh.length:=qOq _ (by omega);rw[qOi (by rw[h1.1];omega),h1.1,<-e1];congr 1;rw[Nat.sub_mul];omega
theorem qmI.rowsC {M:Nat->Prop}{xs:List Value}{c:Array Value}(h:qmI w M sh l xs)(hc:∃rest,c.toList=xs++rest):qyH w M sh l c:=by obtain⟨rest,hc⟩:=hc;intro r j hj hr;obtain⟨v,e1,e2⟩:=h.2 r j hj hr;refine⟨v,?_,e2⟩;rw[<-qQ5,hc,qOb (qo e1)];exact e1
theorem qxX {M:Nat->Prop}{c:Array Value}{cap:Nat}(h:qyH w M sh l c)(hsz:c.size=cap*sh.length)(hl:l.length<=cap) :qmI w M sh l (c.toList.take (l.length*sh.length)):=by
 have h3:l.length*sh.length<=cap*sh.length:=qOq _ hl;refine⟨by simp;omega,fun r j hj hr=>?_⟩;obtain⟨v,e1,e2⟩:=h r j hj hr;refine⟨v,?_,e2⟩;have hlt:r*sh.length+j<l.length*sh.length:=by have:(r+1)*sh.length<=l.length*sh.length:=qOq _ hr;rw[qOf] at this;omega
 rw[qP3,if_pos hlt];simpa using e1
structure Src (P:Program) (X:Ctx) (sh:List Sh) (m:R) (v:Value):Prop where
 nil:v=.slice none 0 0/\m=[]\/∃ad c,v=.slice (some ad) m.length c/\(0<m.length->ad.spot=none)/\Rows X.w X.M sh m ad
theorem qwf {m:R}(h:qfe X.w X.M sh m v):Src P X sh m v:=by
 rcases h with h|⟨ad,c,h1,h2,_,h3⟩
 ·exact⟨.inl h⟩
 ·exact⟨.inr ⟨ad,c,h1,h2,h3⟩⟩
theorem qBV (h:0<P.cellsOf e):∃i,P.info? e=some i/\i.size=P.cellsOf e:=by
 unfold Program.cellsOf at *;cases hi:P.info? e with
 | none=>rw[hi] at h;simp at h
 | some i=>exact⟨i,rfl,by simp⟩
theorem uK {t e ty:TypeId}{p q:Option Addr}{n c d:Nat}(ht:P.underlying t=some (.slice e))(hp:0<P.cellsOf e)(hnc:n<=c) :(Builtin.append_ #[t,t] ty #[.slice p n c,.slice q 0 d]).run P w=.ok (.slice p n c) w:=by
 cases p with
 | none=>cases q<;>simp[Builtin.append_,run_underlying ht,zw hp,Builtin.lenOf,hnc,Builtin.firstCells,loadCells,loadCellsFrom]
 | some a=>cases q<;>simp[Builtin.append_,run_underlying ht,zw hp,Builtin.lenOf,hnc,Builtin.firstCells,storeCells,loadCells,loadCellsFrom]
structure ElemOk (rm:Int) (P:Program) (e:TypeId) (es:Nat) (i:TypeInfo) (z:Value):Prop where
 hi:P.info? e=some i
 hz:i.zero=some z
 size:i.size=es
 zs:z.cells.size=es
 by_:∀n:Nat,(n:Int)<=rm->n*i.bytes<=140737488355328/\n<=140737488355328
theorem qFS {E:Env}(hE:E.tok P)(hp:0<P.cellsOf e)(hz:(E.ty e).zero.length=P.cellsOf e):∃i z,ElemOk (quq (E.ty e).bytes) P e (P.cellsOf e) i z:=by
 obtain⟨z,_,z2,i,hi,hz'⟩:=qfq hE (t:=e) (by omega) default;obtain⟨i',hi',hs⟩:=qBV hp;rw[hi] at hi';cases hi';refine⟨i,z,hi,hz',hs,by rw[<-hz,<-z2];simp,?_⟩;rcases qre hE e with h1|h1
 ·rw[h1] at hz;simp[qN2] at hz;omega
 ·intro n hn;have hb:(E.ty e).bytes=i.bytes:=by rw[h1];unfold qAu;rw[hi]
  rw[hb] at hn;unfold quq at hn;have hn':n<=140737488355328/(if i.bytes=0 then 1 else i.bytes):=by omega
  by_cases h0:i.bytes=0
  ·rw[if_pos h0] at hn';rw[h0];omega
  ·rw[if_neg h0] at hn';have h2:n*i.bytes<=140737488355328:=qO2 (qOq _ hn') (Nat.div_mul_le_self _ _);exact⟨h2,qO2 (Nat.le_mul_of_pos_right n (by omega)) h2⟩
theorem qjk {es n cap:Nat}{xs ys:List Value}{z:Value}(h1:xs.length+ys.length=n*es)(h2:z.cells.size=es)(h3:n<=cap) :(xs.toArray++ys.toArray++Builtin.zeroCells z.cells (cap-n)).size=cap*es:=by simp only[Array.size_append,List.size_toArray,size_zeroCells,h2,h1];rw[<-qOf];congr 1;omega
theorem qiW (hs:HSim B X){t e ty:TypeId}{m:R}{i:TypeInfo}{z:Value}(ht:P.underlying t=some (.slice e))(hp:0<P.cellsOf e)(hsh:sh.length=P.cellsOf e) {rm:Int} (he:ElemOk rm P e (P.cellsOf e) i z) (hsrc:Src P X sh m v) (hm:qg m<=rm) :qJ P B X (do pure (.value (<-Builtin.append_ #[t,t] ty #[.slice none 0 0,v]))) (.vec X.h.length,X.h++[.vec e sh m],none):=by
 by_cases h0:m=[]
 ·subst h0;have hv:∃q d,v=.slice q 0 d:=by rcases hsrc.nil with⟨rfl,_⟩|⟨ad,c,rfl,_⟩<;>exact⟨_,_,rfl⟩
  obtain⟨q,d,rfl⟩:=hv;have hpw:=PushW.same X;refine⟨.value (.slice none 0 0),_,X.pushW (.vec e sh []) none X.w,?_,.inl rfl,?_,hs.push hpw (.inl ⟨by simp[Ctx.pushW],rfl⟩),rfl,Ctx.push_ext hs _ hpw⟩
  ·rw[qO3,uK ht hp (qO0 0)];rfl
  ·exact .vec _ _ _ _ (by simp[Ctx.pushW]) fun sh' m' _=>by unfold qyG;simp[Ctx.pushW]
 ·rcases hsrc.nil with⟨_,h⟩|⟨ad,c,rfl,hsp,hr⟩
  ·exact absurd h h0
  obtain⟨news,f1,f2,f3⟩:=q8h (by omega) hsp hr;have hml:0<m.length:=qPA.2 h0;have hby:=(he.by_ m.length (by simpa[qg] using hm)).1;have hroom:m.length<=140737488355328:=(he.by_ m.length (by simpa[qg] using hm)).2;have hrun:=run_append_nil (P:=P) X.w t ty e i z ht he.hi he.hz ad m.length c news (by rw[f1.1,he.size,hsh]) f2 hml (by omega) (by omega);have hge:=grownCap_ge X.w m.length 0 e;have hcm:=grownCap_le_maxLen X.w m.length 0 e (by unfold maxLen;omega);have hsz:(news.toArray++Builtin.zeroCells z.cells (grownCap X.w m.length 0 e-m.length)).size=grownCap X.w m.length 0 e*sh.length:=by have:=qjk (es:=P.cellsOf e) (n:=m.length) (cap:=grownCap X.w m.length 0 e) (xs:=[]) (ys:=news) (z:=z) (by rw[qOJ,qOS,f1.1,hsh]) he.zs hge;rw[hsh,<-this];simp
  have hpw:PushW X (some X.w.heap.size) (X.w.drew.alloc (.cells (news.toArray++Builtin.zeroCells z.cells (grownCap X.w m.length 0 e-m.length)) e)):=
   ⟨fun _ h=>zW X.w.drew _ h,by simp,rfl,rfl,rfl,fun m h=>by cases h;exact qO0 _⟩
  have hx:=Ctx.push_ext hs (.vec e sh m) hpw;have hnew:=zS X.w.drew (.cells (news.toArray++Builtin.zeroCells z.cells (grownCap X.w m.length 0 e-m.length)) e);refine⟨_,_,X.pushW (.vec e sh m) (some X.w.heap.size) _,?_,.inl rfl,qrj (n:=X.w.heap.size) hge hcm hnew hsz,hs.push hpw (.inr ⟨X.w.heap.size,_,by simp[Ctx.pushW],hnew,?_⟩),rfl,hx⟩
  ·rw[qO3,hrun];rfl
  ·have:=qmI.rowsC (c:=news.toArray++Builtin.zeroCells z.cells (grownCap X.w m.length 0 e-m.length)) f1 ⟨_,by simp;rfl⟩;exact this.mono hx.M hx.w
theorem qrc {b n cap:Nat}{w':World}{c:Array Value}{T:TypeId}{fr:Nat×Nat}(hb:b<X.h.length)(h1:l.length<=cap)(h2:cap<=maxLen)(h3:w'.heap[n]?=some (.cells c T fr)) (h4:c.size=cap*sh.length):Rep (X.repl b (some n) (.vec e sh l) w') (.vec b) (.slice (some ⟨n,0,none⟩) l.length cap):=by
 refine .vec _ _ _ _ (by simpa[Ctx.repl] using hb) fun sh' m ⟨e',l',q1,q2⟩=>?_;have:(X.repl b (some n) (.vec e sh l) w').h[b]?=some (.vec e sh l):=by simp[Ctx.repl,hb,Blk.ren]
 rw[this] at q1;rcases q1 with q1|q1<;>cases q1;subst q2;unfold qyG;simp only[Ctx.repl,if_true];exact⟨cap,rfl,h1,h2,c,T,fr,h3,h4⟩
theorem qiv (hs:HSim B X){t e ty:TypeId}{l m:R}{b:Nat}{v vs:Value}{i:TypeInfo}{z:Value}(ht:P.underlying t=some (.slice e))(hp:0<P.cellsOf e)(hsh:sh.length=P.cellsOf e) {rm:Int} (he:ElemOk rm P e (P.cellsOf e) i z) (hb:X.h[b]?=some (.vec e sh l)) (hv:Rep X (.vec b) vs) (hsrc:Src P X sh m v) (hm:qg l+qg m<=rm) :qJ P B X (do pure (.value (<-Builtin.append_ #[t,t] ty #[vs,v]))) (.vec b,X.h.set b (.vec e sh (zD l m)),some b):=by
 have hbl:=qo hb;have hroom:((l.length+m.length:Nat):Int)<=rm:=by simpa[qg] using hm
 have hroom':l.length+m.length<=140737488355328:=(he.by_ _ hroom).2;have hren:∀k:R,(Blk.vec e sh k).ren (qcA b)=.vec e sh k:=fun _=>rfl;have hvl:(zD l m).length=l.length+m.length:=by simp[zD]
 cases hv with
 | vec _ p n cap hlt hvv=>
  have hvv:=hvv sh l.length ⟨e,l,.inl hb,rfl⟩;unfold qyG at hvv;rcases hs.blk b _ hb with⟨e1,rfl⟩|⟨n0,c0,e1,e2,e3⟩
  ·
   rw[e1] at hvv;obtain⟨p',hvv⟩:=hvv;cases hvv;by_cases h0:m=[]
   ·subst h0;have hv:∃q d,v=.slice q 0 d:=by rcases hsrc.nil with⟨rfl,_⟩|⟨ad,c,rfl,_⟩<;>exact⟨_,_,rfl⟩
    obtain⟨q,d,rfl⟩:=hv;have hw:ReplW X b none X.w:=⟨fun _ _ _=>rfl,fun _ c T fr _ h=>⟨c,T,fr,h,rfl⟩,qO0 _,rfl,rfl,rfl,.inl e1.symm⟩;refine⟨.value (.slice p 0 0),_,X.repl b none (.vec e sh (zD [] [])) X.w,?_,.inl rfl,?_,hs.repl hb hw (.inl ⟨by simp[Ctx.repl],rfl⟩),rfl,Ctx.repl_move hs hb hw⟩
    ·rw[qO3,uK ht hp (qO0 0)];rfl
    ·exact .vec _ _ _ _ (by simpa[Ctx.repl] using hbl) fun sh' m' _=>by unfold qyG;simp[Ctx.repl]
   ·rcases hsrc.nil with⟨_,h⟩|⟨ad,c,rfl,hsp,hr⟩
    ·exact absurd h h0
    obtain⟨news,f1,f2,f3⟩:=q8h (by omega) hsp hr;have hml:0<m.length:=qPA.2 h0;simp only[qOJ,qOS] at hroom hroom';have hby:=(he.by_ _ hroom).1;have hrun:(Builtin.append_ #[t,t] ty #[.slice p 0 0,.slice (some ad) m.length c]).run P X.w=.ok (.slice (some ⟨X.w.heap.size,0,none⟩) m.length (grownCap X.w m.length 0 e)) (X.w.drew.alloc (.cells (news.toArray++Builtin.zeroCells z.cells (grownCap X.w m.length 0 e-m.length)) e)):=by
     cases p with
     | none=>exact run_append_nil (P:=P) X.w t ty e i z ht he.hi he.hz ad m.length c news (by rw[f1.1,he.size,hsh]) f2 hml (by omega) (by omega)
     | some ad0=>
      have:=run_append_grow (P:=P) X.w t ty e i z ht he.hi he.hz ad0 0 0 [] (by simp) (fun j u hu=>by simp at hu) ad m.length c news (by rw[f1.1,he.size,hsh]) f2 (by omega) (by omega) (growslice_fits (by omega) (by simpa using hby));simpa using this
    have hge:=grownCap_ge X.w m.length 0 e;have hcm:=grownCap_le_maxLen X.w m.length 0 e (by unfold maxLen;omega);have hsz:(news.toArray++Builtin.zeroCells z.cells (grownCap X.w m.length 0 e-m.length)).size=grownCap X.w m.length 0 e*sh.length:=by have:=qjk (es:=P.cellsOf e) (n:=m.length) (cap:=grownCap X.w m.length 0 e) (xs:=[]) (ys:=news) (z:=z) (by rw[qOJ,qOS,f1.1,hsh]) he.zs hge;rw[hsh,<-this];simp
    have hnew:=zS X.w.drew (.cells (news.toArray++Builtin.zeroCells z.cells (grownCap X.w m.length 0 e-m.length)) e);have hw:ReplW X b (some X.w.heap.size) (X.w.drew.alloc (.cells (news.toArray++Builtin.zeroCells z.cells (grownCap X.w m.length 0 e-m.length)) e)):=
     ⟨fun _ h _=>zW X.w.drew _ h,fun m0 _ _ _ h _=>(by rw[e1] at h;cases h),by simp,rfl,rfl,rfl,.inr fun m h=>by cases h;exact qO0 _⟩
    have hx:=Ctx.repl_move hs hb (k':=.vec e sh (zD [] m)) hw;have hrl:zD [] m=m:=rfl;rw[hrl] at hx ⊢;refine⟨_,_,X.repl b (some X.w.heap.size) (.vec e sh m) _,?_,.inl rfl,qrc (n:=X.w.heap.size) hbl hge hcm hnew hsz,hs.repl hb hw (.inr ⟨X.w.heap.size,_,by simp[Ctx.repl],hnew,?_⟩),rfl,hx⟩
    ·rw[qO3,hrun];rfl
    ·have:=qmI.rowsC (c:=news.toArray++Builtin.zeroCells z.cells (grownCap X.w m.length 0 e-m.length)) f1 ⟨_,by simp;rfl⟩;exact this.mono hx.M hx.w
  ·rw[e1] at hvv;obtain⟨cap',q1,q2,q3,c1,T1,fr1,q4,q5⟩:=hvv;cases q1;rw[e2] at q4;cases q4;have hflat:=qxX e3 q5 q2;by_cases h0:m=[]
   ·subst h0;have hv:∃q d,v=.slice q 0 d:=by rcases hsrc.nil with⟨rfl,_⟩|⟨ad,c,rfl,_⟩<;>exact⟨_,_,rfl⟩
    obtain⟨q,d,rfl⟩:=hv;have hrl:zD l []=l:=by simp[zD]
    have hw:ReplW X b (some n0) X.w:=⟨fun _ _ _=>rfl,fun _ c T fr _ h=>⟨c,T,fr,h,rfl⟩,qO0 _,rfl,rfl,rfl,.inl e1.symm⟩;have hx:=Ctx.repl_move hs hb (k':=.vec e sh l) hw;rw[hrl];refine⟨.value (.slice (some ⟨n0,0,none⟩) l.length cap),_,X.repl b (some n0) (.vec e sh l) X.w,?_,.inl rfl,qrc hbl q2 q3 e2 q5,hs.repl hb hw (.inr ⟨n0,_,by simp[Ctx.repl],e2,e3.mono hx.M hx.w⟩),rfl,hx⟩;rw[qO3,uK ht hp q2];rfl
   ·rcases hsrc.nil with⟨_,h⟩|⟨ad,c,rfl,hsp,hr⟩
    ·exact absurd h h0
    obtain⟨news,f1,f2,f3⟩:=q8h (by omega) hsp hr;have hml:0<m.length:=qPA.2 h0;have hby:=(he.by_ _ hroom).1;have happ:=hflat.app f1;by_cases hfit:l.length+m.length<=cap
    ·
     have hfitc:l.length*i.size+news.length<=c0.size:=by rw[he.size,f1.1,<-hsh,q5,<-qOf];exact qOq _ hfit
     have hrun:=run_append_room (P:=P) X.w t ty e i ht he.hi n0 l.length cap c0 e2 ad m.length c news (by rw[f1.1,he.size,hsh]) f2 f3 hfit hfitc;have hsz:((c0.toList.take (l.length*i.size)++news++c0.toList.drop (l.length*i.size+news.length)).toArray).size=c0.size:=by simp;omega
     have hup:=UpdW.setRow (X:=X) (c':=(c0.toList.take (l.length*i.size)++news++c0.toList.drop (l.length*i.size+news.length)).toArray) e2 hsz;have hw:ReplW X b (some n0) (X.w.setRow n0 (c0.toList.take (l.length*i.size)++news++c0.toList.drop (l.length*i.size+news.length)).toArray):=
      ⟨fun m' _ hne=>hup.other m' (fun e=>hne (by rw[e];exact e1)),fun m' c' T' fr' hm' hc'=>by rw[e1] at hm';cases hm';rw[e2] at hc';cases hc';exact⟨_,_,_,hup.new,hsz⟩,by simp,rfl,rfl,rfl,.inl e1.symm⟩
     have hx:=Ctx.repl_move hs hb (k':=.vec e sh (zD l m)) hw;have hrep:=qrc (X:=X) (e:=e) (l:=zD l m) (n:=n0) (cap:=cap) (w':=X.w.setRow n0 (c0.toList.take (l.length*i.size)++news++c0.toList.drop (l.length*i.size+news.length)).toArray) hbl (by rw[hvl];exact hfit) q3 hup.new (by rw[hsz];exact q5);rw[hvl] at hrep;refine⟨_,_,X.repl b (some n0) (.vec e sh (zD l m)) _,?_,.inl rfl,hrep,hs.repl hb hw (.inr ⟨n0,_,by simp[Ctx.repl],hup.new,?_⟩),rfl,hx⟩
     ·rw[qO3,hrun];rfl
     ·have:=qmI.rowsC (c:=(c0.toList.take (l.length*i.size)++news++c0.toList.drop (l.length*i.size+news.length)).toArray) happ ⟨c0.toList.drop (l.length*i.size+news.length),by rw[he.size,<-hsh]⟩;exact this.mono hx.M hx.w
    ·
     have holds:∀j u,(c0.toList.take (l.length*sh.length))[j]?=some u->X.w.cell? ((⟨n0,0,none⟩:Addr).add j)=some u:=by
      intro j u hu;rw[qP3] at hu;split at hu
      ·rw[qOL,zN e2];simpa using hu
      ·cases hu
     have hrun:=run_append_grow (P:=P) X.w t ty e i z ht he.hi he.hz ⟨n0,0,none⟩ l.length cap (c0.toList.take (l.length*sh.length)) (by rw[hflat.1,he.size,hsh]) holds ad m.length c news (by rw[f1.1,he.size,hsh]) f2 (by omega) (by omega) (growslice_fits (by omega) hby);have hge:=grownCap_ge X.w (l.length+m.length) cap e;have hcm:=grownCap_le_maxLen X.w (l.length+m.length) cap e (by unfold maxLen;omega);have hsz:=qjk (es:=P.cellsOf e) (n:=l.length+m.length) (cap:=grownCap X.w (l.length+m.length) cap e) (xs:=c0.toList.take (l.length*sh.length)) (ys:=news) (z:=z) (by rw[hflat.1,f1.1,hsh,<-qOf]) he.zs hge;rw[<-hsh] at hsz;have hnew:=zS X.w.drew (.cells ((c0.toList.take (l.length*sh.length)).toArray++news.toArray++Builtin.zeroCells z.cells (grownCap X.w (l.length+m.length) cap e-(l.length+m.length))) e);have hw:ReplW X b (some X.w.heap.size) (X.w.drew.alloc (.cells ((c0.toList.take (l.length*sh.length)).toArray++news.toArray++Builtin.zeroCells z.cells (grownCap X.w (l.length+m.length) cap e-(l.length+m.length))) e)):=
      ⟨fun _ h _=>zW X.w.drew _ h,fun m0 c' T' fr' h hc'=>⟨c',T',fr',by rw[zW X.w.drew _ (qO4.1 hc').1];exact hc',rfl⟩,by simp,rfl,rfl,rfl,.inr fun m h=>by cases h;exact qO0 _⟩
     have hx:=Ctx.repl_move hs hb (k':=.vec e sh (zD l m)) hw;have hrep:=qrc (X:=X) (e:=e) (l:=zD l m) hbl (by rw[hvl];exact hge) hcm hnew hsz;rw[hvl] at hrep;refine⟨_,_,X.repl b (some X.w.heap.size) (.vec e sh (zD l m)) _,?_,.inl rfl,hrep,hs.repl hb hw (.inr ⟨X.w.heap.size,_,by simp[Ctx.repl],hnew,?_⟩),rfl,hx⟩
     ·rw[qO3,hrun];rfl
     ·have:=qmI.rowsC (c:=(c0.toList.take (l.length*sh.length)).toArray++news.toArray++Builtin.zeroCells z.cells (grownCap X.w (l.length+m.length) cap e-(l.length+m.length))) happ ⟨_,by simp;rfl⟩;exact this.mono hx.M hx.w
theorem qqQ (hs:HSim B X){t e ty:TypeId}{p:Option Addr}(ht:P.underlying t=some (.slice e))(hp:0<P.cellsOf e)(hsrc:Src P X sh [] v):qJ P B X (do pure (.value (<-Builtin.append_ #[t,t] ty #[.slice p 0 0,v]))) (.vec X.h.length,X.h++[.vec e sh []],none):=by
 have hv:∃q d,v=.slice q 0 d:=by rcases hsrc.nil with⟨rfl,_⟩|⟨ad,c,rfl,_⟩<;>exact⟨_,_,rfl⟩
 obtain⟨q,d,rfl⟩:=hv;have hpw:=PushW.same X;refine⟨.value (.slice p 0 0),_,X.pushW (.vec e sh []) none X.w,?_,.inl rfl,?_,hs.push hpw (.inl ⟨by simp[Ctx.pushW],rfl⟩),rfl,Ctx.push_ext hs _ hpw⟩
 ·rw[qO3,uK ht hp (qO0 0)];rfl
 ·exact .vec _ _ _ _ (by simp[Ctx.pushW]) fun sh' m' _=>by unfold qyG;simp[Ctx.pushW]
theorem qqN (hs:HSim B X){t e ty:TypeId}{l m:R}{p:Option Addr}{n:Nat}{i:TypeInfo}{z:Value}(ht:P.underlying t=some (.slice e))(hp:0<P.cellsOf e)(hsh:sh.length=P.cellsOf e) {rm:Int} (he:ElemOk rm P e (P.cellsOf e) i z) (hv:qfe X.w X.M sh l (.slice p n n)) (hsrc:Src P X sh m v) (h0:0<qg m) (hm:qg l+qg m<=rm) :qJ P B X (do pure (.value (<-Builtin.append_ #[t,t] ty #[.slice p n n,v]))) (.vec X.h.length,X.h++[.vec e sh (zD l m)],none):=by
 rcases hv with⟨h1,rfl⟩|⟨ad0,cap,h1,hsp0,hcap,hr0⟩
 ·cases h1;exact qiW hs ht hp hsh he hsrc (m:=m) (by simpa[qg] using hm)
 ·cases h1;rcases hsrc.nil with⟨_,h⟩|⟨ad,c,rfl,hsp,hr⟩
  ·subst h;simp[qg] at h0
  obtain⟨olds,k1,k2,k3⟩:=q8h (by omega) hsp0 hr0;obtain⟨news,f1,f2,f3⟩:=q8h (by omega) hsp hr;have hml:0<m.length:=by simp only[qg] at h0;omega
  have hroom:((l.length+m.length:Nat):Int)<=rm:=by simpa[qg] using hm
  have hroom':l.length+m.length<=140737488355328:=(he.by_ _ hroom).2;have hby:=(he.by_ _ hroom).1;have happ:=k1.app f1;have hvl:(zD l m).length=l.length+m.length:=by simp[zD]
  have hrun:=run_append_grow (P:=P) X.w t ty e i z ht he.hi he.hz ad0 l.length l.length olds (by rw[k1.1,he.size,hsh]) k2 ad m.length c news (by rw[f1.1,he.size,hsh]) f2 (by omega) (by omega) (growslice_fits (by omega) hby);have hge:=grownCap_ge X.w (l.length+m.length) l.length e;have hcm:=grownCap_le_maxLen X.w (l.length+m.length) l.length e (by unfold maxLen;omega);have hsz:=qjk (es:=P.cellsOf e) (n:=l.length+m.length) (cap:=grownCap X.w (l.length+m.length) l.length e) (xs:=olds) (ys:=news) (z:=z) (by rw[k1.1,f1.1,hsh,<-qOf]) he.zs hge;rw[<-hsh] at hsz;have hpw:PushW X (some X.w.heap.size) (X.w.drew.alloc (.cells (olds.toArray++news.toArray++Builtin.zeroCells z.cells (grownCap X.w (l.length+m.length) l.length e-(l.length+m.length))) e)):=
   ⟨fun _ h=>zW X.w.drew _ h,by simp,rfl,rfl,rfl,fun m h=>by cases h;exact qO0 _⟩
  have hx:=Ctx.push_ext hs (.vec e sh (zD l m)) hpw;have hnew:=zS X.w.drew (.cells (olds.toArray++news.toArray++Builtin.zeroCells z.cells (grownCap X.w (l.length+m.length) l.length e-(l.length+m.length))) e);have hrep:=qrj (X:=X) (e:=e) (l:=zD l m) (n:=X.w.heap.size) (by rw[hvl];exact hge) hcm hnew hsz;rw[hvl] at hrep;refine⟨_,_,X.pushW (.vec e sh (zD l m)) (some X.w.heap.size) _,?_,.inl rfl,hrep,hs.push hpw (.inr ⟨X.w.heap.size,_,by simp[Ctx.pushW],hnew,?_⟩),rfl,hx⟩
  ·rw[qO3,hrun];rfl
  ·have:=qmI.rowsC (c:=olds.toArray++news.toArray++Builtin.zeroCells z.cells (grownCap X.w (l.length+m.length) l.length e-(l.length+m.length))) happ ⟨_,by simp;rfl⟩;exact this.mono hx.M hx.w
end Go.Eng

namespace Go.Eng
variable {B:Base}{E:Env}{P:Program}{X:Ctx}{r:Res}
theorem qEL (hs:HSim B X){x:AV}{vx:Value}(hx:Rep X x vx){sh:List Sh}{l:R}(h:vq X.h x=some (sh,l)) :(vx=.slice none 0 0/\l=[])\/∃a cap,vx=.slice (some a) l.length cap/\(0<l.length->a.spot=none) /\∀r j (hj:j<sh.length),r<l.length->∃v,X.w.cell? ⟨a.block,a.off+r*sh.length+j,none⟩=some v/\RepU X.w X.M sh[j] (zH l r j) v:=by
 cases hx with
 | imm sh' l' v himm=>
  simp only[vq,qNY,qOx] at h;obtain⟨rfl,rfl⟩:=h;rcases himm with h|⟨a,cap,h1,h2,_,h3⟩
  ·exact .inl h
  ·exact .inr ⟨a,cap,h1,h2,fun r j hj hr=>(h3 r j hj hr).2⟩
 | vec b p n c hb hv=>
  obtain⟨e,hh⟩:=qdL h;have hvv:=hv sh l.length ⟨e,l,hh,rfl⟩;unfold qyG at hvv;rcases hs.rows hh with⟨e1,rfl⟩|⟨n0,c0,e1,e2,e3⟩
  ·rw[e1] at hvv;obtain⟨p',hvv⟩:=hvv;cases p' with
   | none=>exact .inl ⟨hvv,rfl⟩
   | some a=>exact .inr ⟨a,0,hvv,fun h=>absurd h (Nat.lt_irrefl 0),fun r j hj hr=>absurd hr (qPO r)⟩
  ·rw[e1] at hvv;obtain⟨cap,q1,_⟩:=hvv;refine .inr ⟨⟨n0,0,none⟩,cap,q1,fun _=>rfl,fun r j hj hr=>?_⟩;obtain⟨v,g1,g2⟩:=e3 r j hj hr;exact⟨v,by rw[zN e2];simpa using g1,g2⟩
 | _=>simp[vq] at h
theorem qvZ {sh:List Sh}(h:qlt sh=true):sh=[.int .u8]:=by
 unfold qlt at h;split at h
 ·rfl
 ·cases h
theorem qtw:∀(ns:List Int) (r:ByteArray),ns.foldl (fun r n=>r.push (UInt8.ofNat n.toNat)) r=⟨r.data++(ns.map fun n=>UInt8.ofNat n.toNat).toArray⟩
 | [],r=>by simp
 | n::ns,r=>by
  simp only[qPN,qP5];rw[qtw ns];simp[ByteArray.push]
theorem qxx (hE:E.tok P)(hs:HSim B X){src dst e:TypeId}{es:Nat}(h1:(E.ty src).d=.slice e es)(h2:(E.ty dst).d=.str){a:AV}{v:Value}(hv:Rep X a v)(h:(qsB E X.h e a).run=some r):∃av u,r=(av,X.h,none)/\(convert src dst v).run P X.w=.ok u X.w/\Rep X av u:=by
 unfold qsB at h;cases hd:(E.ty e).d with
 | int k=>
  rw[hd] at h;cases k<;>first|(cases h;done)|skip
  simp only at h;cases hr:vq X.h a with
  | none=>rw[hr] at h;cases h
  | some q=>
   obtain⟨sh,l⟩:=q;rw[hr] at h;simp only at h;split at h
   ·rename_i hb;cases h;have hsh:=qvZ hb;subst hsh;have e1:=(q0S hE h1).1;have e2:=qgn hE h2;have e3:=qtD hE hd;refine⟨_,.string ⟨(qp2 l).toArray⟩,rfl,?_,.str _⟩;rcases qEL hs hv hr with⟨rfl,rfl⟩|⟨ad,cap,rfl,hsp,hc⟩
    ·rw[run_convert_bytes_string X.w src dst e none 0 0 e1 e3 e2];simp[Conv.bytesToString,qp2];rfl
    ·rw[run_convert_bytes_string X.w src dst e (some ad) l.length cap e1 e3 e2];have hl:=run_loadCells_list (P:=P) X.w ad (((List.range l.length).map fun r:Nat=>(zH l r 0).toI).map (Value.int .u8)) (fun j v hj=>by
      have hj':j<l.length:=by have:=(qPB.1 hj).1;simpa using this
      obtain⟨u,g1,g2⟩:=hc j 0 (by simp) hj';simp only[List.map_map,qO8,qOD hj',qOz,qNY] at hj;have hs0:=hsp (by omega);have hadd:ad.add j=⟨ad.block,ad.off+j,none⟩:=by obtain⟨b,o,s⟩:=ad;simp only at hs0;subst hs0;unfold Addr.add;split<;>simp_all
      rw[hadd];simp only[qOt,qOJ,qOS,qPC,qOQ] at g1;rw[g1];cases g2;rw[<-hj];rfl)
     simp only[qO7,qOv] at hl;rw[run_bytesToString X.w ad l.length cap _ hl,qtw];congr 3;have he0:ByteArray.empty.data=#[]:=rfl;rw[he0];rw[Array.empty_append];congr 1;unfold qp2;apply qOR;intro i;by_cases hi:i<l.length
     ·simp[hi,zH]
     ·simp[hi]
   ·cases h
 | _=>rw[hd] at h;cases h
theorem qwA (hE:E.tok P)(hs:HSim B X){src dst:TypeId}{a:AV}{v:Value}(hv:Rep X a v)(h:(qiF E X.h src dst a).run=some r) :∃av u,r=(av,X.h,none)/\(convert src dst v).run P X.w=.ok u X.w/\Rep X av u:=by
 unfold qiF at h;split at h
 ·rename_i e es h1;split at h
  ·rename_i h2;exact qxx hE hs h1 h2 hv h
  ·cases h
 ·exact qzB hE hv h
theorem qyU (v:Value)(b:Nat):jg v≠.vec b:=by unfold jg;split<;>simp
theorem qi4{h:List Blk}{sh:List Sh}{zs:List AV}{us:List U}(hu:qrd h sh zs=some us)(hl:zs.length=sh.length):∀n,qjT h sh n (List.replicate n zs).flatten=some (List.replicate n us)
 | 0=>by simp[qjT]
 | n+1=>by
  simp only[qPn,qQ8,qjT];have h2:=qi4 hu hl n;rw[<-hl,List.take_left,List.drop_left,hu];simp only[h2]
theorem qCi (hE:E.tok P)(hs:HSim B X){t:TypeId}{x y:AV}{vx vy:Value}(hx:Rep X x vx)(hy:Rep X y vy)(h:(qGv E X.h t x y).run=some r) :qJ P B X (do pure (.value (<-Instr.makeSlice t vx vy))) r:=by
 unfold qGv at h;cases hd:(E.ty t).d<;>rw[hd] at h<;>try (cases h;done)
 rename_i e es;obtain⟨ht,rfl⟩:=q0S hE hd;cases h1:asI x with
 | none=>rw[h1] at h;cases h
 | some p=>
  obtain⟨k,n⟩:=p;cases h2:asI y with
  | none=>rw[h1,h2] at h;cases h
  | some q=>
   obtain⟨k',m⟩:=q;rw[h1,h2] at h;simp only at h;obtain rfl:=q3d hx h1;obtain rfl:=q3d hy h2;cases hsh:E.shape 16 e with
   | none=>rw[hsh] at h;cases h
   | some sh=>
    rw[hsh] at h;simp only at h;by_cases hc:sh.length=P.cellsOf e/\0<P.cellsOf e/\(E.ty e).zero.length=P.cellsOf e
    ·rw[if_pos hc] at h;obtain⟨hc1,hc2,hc3⟩:=hc;cases hu:qrd X.h sh ((E.ty e).zero.map jg) with
     | none=>rw[hu] at h;cases h
     | some us=>
      rw[hu] at h;obtain⟨g1,g2⟩:=j5 h;obtain⟨g3,g4⟩:=j5 g2;cases g4;have hnm:n=m:=by simpa[ieq] using g1
      subst hnm;obtain⟨q1,q2⟩:=kF g3;obtain⟨i,z,he⟩:=qFS hE hc2 hc3;obtain⟨b1,b2⟩:=he.by_ n.toNat (by rw[qPP q1];exact q2);have hzz:(E.ty e).zero.map jg=z.cells.toList.map jg:=by obtain⟨z',z1,z2,i',hi',hz'⟩:=qfq hE (t:=e) (by omega) X.w;rw[he.hi] at hi';cases hi';rw[he.hz] at hz';cases hz';rw[z2]
      have hrun:=run_make (P:=P) X.w t e i z ht he.hi he.hz k k' n n q1 (qOF _) (by
       have:(i.bytes:Int)*n=((n.toNat*i.bytes:Nat):Int):=by rw[qOM,qPP q1,qP7]
       rw[this];omega) (by omega)
      have hmk:madeCells z.cells (n.toNat*i.size)=(Array.range (n.toNat*z.cells.size)).map (z.cells[·%z.cells.size]!):=by rw[he.size,<-he.zs];rfl
      have hini:RepL X (List.replicate n.toNat ((E.ty e).zero.map jg)).flatten (madeCells z.cells (n.toNat*i.size)).toList:=by rw[hmk,qCw,hzz];exact qdx (jw X _) _
      have hzl:((E.ty e).zero.map jg).length=sh.length:=by rw[qO7,hc3,hc1]
      obtain⟨f1,f2⟩:=qlZ hs (Ext.refl X) n.toNat (qi4 hu hzl n.toNat) (fun a ha b e sh l hab _=>by exfalso;obtain⟨l',hl',ha'⟩:=List.mem_flatten.1 ha;rw[(qQ9.1 hl').2] at ha';obtain⟨v,_,hv⟩:=qOP.1 ha';exact qyU v b (hv.trans hab)) hini;have hpw:=PushW.alloc X (.cells (madeCells z.cells (n.toNat*i.size)) e);have hx2:=Ctx.push_ext hs (.vec e sh (q3f n us)) hpw;have hsz:(madeCells z.cells (n.toNat*i.size)).size=n.toNat*sh.length:=by rw[size_madeCells,he.size,hc1]
      have hvec:=qrj (X:=X) (e:=e) (sh:=sh) (l:=q3f n us) (n:=X.w.heap.size) (cap:=n.toNat) (w':=X.w.alloc (.cells (madeCells z.cells (n.toNat*i.size)) e)) (Nat.le_of_eq f1) (by unfold maxLen;omega) (zS _ _) hsz;have hvl:(q3f n us).length=n.toNat:=f1;rw[hvl] at hvec;refine⟨.value (.slice (some ⟨X.w.heap.size,0,none⟩) n.toNat n.toNat),_,X.pushW (.vec e sh (q3f n us)) (some X.w.heap.size) _,?_,.inl rfl,hvec,hs.push hpw ?_,rfl,hx2⟩
      ·rw[qO3,hrun];rfl
      ·refine .inr ⟨X.w.heap.size,_,by simp[Ctx.pushW],zS _ _,fun r j hj hr=>?_⟩;obtain⟨v,w1,w2⟩:=f2.2 r j hj hr;exact⟨v,by simpa using w1,w2.mono hx2.M hx2.w⟩
    ·rw[if_neg hc] at h;cases h
theorem qBj (hE:E.tok P)(hs:HSim B X){ts:List TypeId}{azz:List AV}{vs:List Value}(hv:RepL X azz vs)(h:(qCd E X.h ts azz).run=some r)(ty:TypeId) :qJ P B X (do pure (.value (<-Builtin.copy_ ts.toArray ty vs.toArray))) r:=by
 unfold qCd at h;split at h
 ·rename_i t t' b i s;cases hd:(E.ty t).d<;>rw[hd] at h<;>try (cases h;done)
  rename_i e0 es;obtain⟨ht,rfl⟩:=q0S hE hd;cases hb:X.h[b]? with
  | none=>rw[hb] at h;cases h
  | some kb=>
   rw[hb] at h;cases kb with
   | vec e sh l=>
    simp only at h;split at h
    ·rename_i hc;obtain⟨hc1,hc2⟩:=hc;have hsh:=qvZ hc1;subst hsh;obtain⟨g1,g2⟩:=j5 h;cases g2;have hle:(s.length:Int)<=(l.length:Int)-i:=of_decide_eq_true g1;cases hv with
     | cons hv1 hv=>cases hv with
      | cons hv2 hv=>cases hv with
       | nil=>
        obtain rfl:=qCm hv2;cases hv1 with
        | vsub _ _ n k m c hbl hσ hk=>
         obtain⟨q1,q2,q3,q4⟩:=hk _ _ ⟨e,l,.inl hb,rfl⟩;simp only[qOt,qOJ,qOS,qPC] at q3;subst q4;rcases hs.blk b _ hb with⟨e1,_⟩|⟨n',cc,e1,e2,e3⟩
         ·rw[hσ] at e1;cases e1
         rw[hσ] at e1;cases e1;have hsl:i.toNat+s.length<=l.length:=by omega
         have hlast:l.length<=cc.size:=by
          rcases qP6 l.length with h0|h0
          ·omega
          ·obtain⟨v',w1,_⟩:=e3 (l.length-1) 0 (by simp) (by omega);have:=(qO4.1 w1).1;simp at this;omega
         have hk2:k=i.toNat\/(s=[]/\k=0):=by
          rcases q3 with h1|⟨h1,h2⟩
          ·exact .inl h1
          ·exact .inr ⟨qPu (by omega),h2⟩
         let cs:List Value:=s.map fun c=>Value.int .u8 (c.toNat:Int)
         have hcl:cs.length=s.length:=by simp[cs]
         have hkl:k+s.length<=cc.size:=by
          rcases hk2 with h1|⟨h1,h2⟩
          ·omega
          ·rw[h1,h2];simp
         have hst:=run_storeCells_at P n k e cs 0 cc X.w e2 (by rw[hcl];omega) (fun v hv=>by obtain⟨c,_,hc⟩:=qOP.1 hv;rw[<-hc];rfl);rw[qOQ,hcl] at hst;have hup:=UpdW.setRow (X:=X) (c':=(cc.toList.take k++cs++cc.toList.drop (k+s.length)).toArray) e2 (by simp[hcl];omega);have hown:X.own b n:=⟨hσ,_,hb,rfl⟩;have hrl:(qAC l i s).length=l.length:=by simp[qAC];omega
         have hkk:qgf (.vec e [.int .u8] l) (.vec e [.int .u8] (qAC l i s)):=⟨rfl,rfl,hrl.symm⟩;have hx:=Ctx.upd_ext hs hb hown hup hkk;have hinfo:(P.info? e0).map (·.size)=some 1:=by obtain⟨ii,w1,w2⟩:=qBV (P:=P) (e:=e0) (by omega);rw[w1,qOz,w2,<-hc2]
         have hmin:Nat.min s.length (l.length-i.toNat)=s.length:=qOY (by omega);have hcsE:(((ByteArray.mk s.toArray).extract 0 s.length).data.map fun b=>Value.int .u8 (b.toNat:Int)).toList=cs:=by
          have:((ByteArray.mk s.toArray).extract 0 s.length).data=s.toArray:=by simp
          rw[this];simp[cs]
         refine⟨.value (goInt s.length),goInt s.length,X.upd b (.vec e [.int .u8] (qAC l i s)) (X.w.setRow n _),?_,.inl rfl,?_,hs.upd hb hown hup hkk ?_,rfl,hx⟩
         ·cases hq:P.info? e0 with
          | none=>rw[hq] at hinfo;cases hinfo
          | some ii=>
           have hsize:ii.size=1:=by rw[hq] at hinfo;simpa using hinfo
           have hsz:(ByteArray.mk s.toArray).size=s.length:=rfl;have hcopy:(Builtin.copy_ (List.toArray [t,t']) ty (List.toArray [.slice (some ⟨n,k,none⟩) (l.length-i.toNat) c,.string ⟨s.toArray⟩])).run P X.w =
             .ok (goInt s.length) (X.w.setRow n (cc.toList.take k++cs++cc.toList.drop (k+s.length)).toArray):=by
            have htk:List.take s.length (List.map (fun b:UInt8=>Value.int IntKind.u8 (b.toNat:Int)) s)=cs:=by rw[List.take_of_length_le (by simp)]
            simp[Builtin.copy_,run_underlying ht,Builtin.lenOf,Builtin.firstCells,sizeOf,typeInfo,hq,hsz,hmin];rw[htk,hst];simp[Result.andThen]
           rw[qO3,hcopy];rfl
         ·have:goInt s.length=.int .i64 (qu s):=rfl;rw[this];exact .int _ _
         ·refine .inr ⟨n,_,hσ,hup.new,fun r j hj hr=>?_⟩;rw[hrl] at hr;have hj0:j=0:=by simpa using hj
          subst hj0;obtain⟨v,w1,w2⟩:=e3 r 0 hj hr;simp only[qOt,qOJ,qOS,qPC,qOQ] at w1 ⊢;have hcu:∀(f:R) (k:Nat),zH f (k:Int) 0=(f[k]?.getD []).getD 0 (.i 0):=fun f k=>by unfold zH;rw[qO9,qNZ (l:=f)]
          rw[List.getElem?_toArray];rcases hk2 with hki|⟨hs0,hk0⟩
          ·subst hki;have hcl2:(cc.toList.take i.toNat).length=i.toNat:=by simp;omega
           have hll:(l.take i.toNat).length=i.toNat:=by simp;omega
           rcases qO6 r i.toNat with hlt|hge
           ·refine⟨v,?_,?_⟩
            ·rw[qOu,qOb (by omega),qP3,if_pos hlt];simpa using w1
            ·have:zH (qAC l i s) r 0=zH l r 0:=by rw[hcu,hcu];unfold qAC;rw[qOu,qOb (by omega),qP3,if_pos hlt]
             rw[this];exact w2.mono hx.M hx.w
           ·rcases qO6 r (i.toNat+s.length) with hlt2|hge2
            ·have hrs:r-i.toNat<s.length:=by omega
             refine⟨.int .u8 (s[r-i.toNat].toNat:Int),?_,?_⟩
             ·rw[qOu,qOi (by omega),hcl2,qOb (by rw[hcl];omega)];simp[cs,hrs]
             ·have:zH (qAC l i s) r 0=.i (s[r-i.toNat].toNat:Int):=by rw[hcu];unfold qAC;rw[qOu,qOi (by omega),hll,qOb (by simp;omega)];simp[hrs]
              rw[this];exact .int .u8 (.i _)
            ·refine⟨v,?_,?_⟩
             ·rw[qOi (by simp[hcl2,hcl];omega)];simp only[qOh,hcl2,hcl,qP4];rw[show i.toNat+s.length+(r-(i.toNat+s.length))=r by omega];simpa using w1
             ·have:zH (qAC l i s) r 0=zH l r 0:=by rw[hcu,hcu];unfold qAC;rw[qOi (by simp;omega),qP4];simp only[qOh,hll,qO7];rw[show i.toNat+s.length+(r-(i.toNat+s.length))=r by omega]
              rw[this];exact w2.mono hx.M hx.w
          ·subst hs0 hk0;refine⟨v,by simpa[cs] using w1,?_⟩;have:qAC l i []=l:=by simp[qAC]
           rw[this];exact w2.mono hx.M hx.w
    ·cases h
   | _=>cases h
 ·cases h
end Go.Eng

