/- Texts of the proof, merged: what the code computes, and plain laws. No statement stands here. -/
import Derived.Calls
import Derived.Orders
import Derived.Laws.AppendOwn
import Derived.Laws.Entries
import Derived.Laws.Cells
import Derived.Laws.Slices
import Derived.Laws.Build
import Derived.Laws.StructEq
import Derived.Laws.Rows
import Derived.Laws.CopyRow
import Derived.ChangeKeysEq
import Derived.Laws.MakeOwn
import Derived.Laws.BytesString
import Derived.Laws.IdiomStrings
namespace Go.Eng
theorem qOL:type_of%@Option.some.injEq:=@Option.some.injEq
theorem qOM:type_of%@List.getD_eq_getElem?_getD:=@List.getD_eq_getElem?_getD
theorem qON:type_of%@Nat.le_refl:=@Nat.le_refl
theorem qOO:type_of%@List.getElem?_set_ne:=@List.getElem?_set_ne
theorem qOP:type_of%@Nat.le_trans:=@Nat.le_trans
theorem qOQ:type_of%@Sem.run_bind:=@Sem.run_bind
theorem qOR:type_of%@Array.getElem?_eq_some_iff:=@Array.getElem?_eq_some_iff
theorem qOS:type_of%@List.getElem?_eq_getElem:=@List.getElem?_eq_getElem
theorem qOT:type_of%@Nat.lt_or_ge:=@Nat.lt_or_ge
theorem qOU:type_of%@List.getElem?_map:=@List.getElem?_map
theorem qOV:type_of%@List.length_map:=@List.length_map
theorem qOW:type_of%@Result.andThen_ok:=@Result.andThen_ok
theorem qOX:type_of%@Int.toNat_natCast:=@Int.toNat_natCast
theorem qOY:type_of%@List.getElem?_append_left:=@List.getElem?_append_left
theorem qOZ:type_of%@List.getElem?_set_self:=@List.getElem?_set_self
theorem qP0:type_of%@Bool.and_eq_true:=@Bool.and_eq_true
theorem qP1:type_of%@List.set_cons_zero:=@List.set_cons_zero
theorem qP2:type_of%@Nat.add_mul:=@Nat.add_mul
theorem qP3:type_of%@List.set_cons_succ:=@List.set_cons_succ
theorem qP4:type_of%@List.getElem?_append_right:=@List.getElem?_append_right
theorem qP5:type_of%@List.mem_cons:=@List.mem_cons
theorem qP6:type_of%@List.length_append:=@List.length_append
theorem qP7:type_of%@List.getElem?_eq_none:=@List.getElem?_eq_none
theorem qP8:type_of%@List.mem_cons_self:=@List.mem_cons_self
theorem qP9:type_of%@List.map_append:=@List.map_append
theorem qPa:type_of%@List.mem_append:=@List.mem_append
theorem qPb:type_of%@Nat.mul_le_mul_right:=@Nat.mul_le_mul_right
theorem qPc:type_of%@List.mem_cons_of_mem:=@List.mem_cons_of_mem
theorem qPd:type_of%@Option.bind_some:=@Option.bind_some
theorem qPe:type_of%@Ne.symm:=@Ne.symm
theorem qPf:type_of%@List.mem_singleton:=@List.mem_singleton
theorem qPg:type_of%@List.length_cons:=@List.length_cons
theorem qPh:type_of%@Sem.run_pure:=@Sem.run_pure
theorem qPi:type_of%@List.all_eq_true:=@List.all_eq_true
theorem qPj:type_of%@List.append_assoc:=@List.append_assoc
theorem qPk:type_of%@Option.map_some:=@Option.map_some
theorem qPl:type_of%@Prod.mk.injEq:=@Prod.mk.injEq
theorem qPm:type_of%@List.length_range:=@List.length_range
theorem qPn:type_of%@Classical.byContradiction:=@Classical.byContradiction
theorem qPo:type_of%@Bool.false_eq_true:=@Bool.false_eq_true
theorem qPp:type_of%@List.getElem?_range:=@List.getElem?_range
theorem qPq:type_of%@Option.some.inj:=@Option.some.inj
theorem qPr:type_of%@Int.le_refl:=@Int.le_refl
theorem qPs:type_of%@Nat.lt_of_lt_of_le:=@Nat.lt_of_lt_of_le
theorem qPt:type_of%@List.mem_append_right:=@List.mem_append_right
theorem qPu:type_of%@List.length_nil:=@List.length_nil
theorem qPv:type_of%@Nat.sub_self:=@Nat.sub_self
theorem qPw:type_of%@Nat.mul_le_mul:=@Nat.mul_le_mul
theorem qPx:type_of%@List.getElem_mem:=@List.getElem_mem
theorem qPy:type_of%@Addr.add_lit:=@Addr.add_lit
theorem qPz:type_of%@Int.natCast_mul:=@Int.natCast_mul
theorem qPA:type_of%@List.mem_of_getElem?:=@List.mem_of_getElem?
theorem qPB:type_of%@Nat.add_zero:=@Nat.add_zero
theorem qPC:type_of%@List.ext_getElem?:=@List.ext_getElem?
theorem qPD:type_of%@Nat.zero_add:=@Nat.zero_add
theorem qPE:type_of%@List.mem_map:=@List.mem_map
theorem qPF:type_of%@List.mem_append_left:=@List.mem_append_left
theorem qPG:type_of%@List.mem_of_find?_eq_some:=@List.mem_of_find?_eq_some
theorem qPH:type_of%@List.mem_range:=@List.mem_range
theorem qPI:type_of%@Option.getD_some:=@Option.getD_some
theorem qPJ:type_of%@List.length_take:=@List.length_take
theorem qPK:type_of%@Nat.min_eq_left:=@Nat.min_eq_left
theorem qPL:type_of%@List.append_nil:=@List.append_nil
theorem qPM:type_of%@Nat.eq_of_beq_eq_true:=@Nat.eq_of_beq_eq_true
theorem qPN:type_of%@List.getElem?_cons_succ:=@List.getElem?_cons_succ
theorem qPO:type_of%@List.range_succ:=@List.range_succ
theorem qPP:type_of%@World.cell?_of_block:=@World.cell?_of_block
theorem qPQ:type_of%@List.getElem?_take:=@List.getElem?_take
theorem qPR:type_of%@List.getElem?_drop:=@List.getElem?_drop
theorem qPS:type_of%@List.map_cons:=@List.map_cons
theorem qPT:type_of%@Nat.eq_zero_or_pos:=@Nat.eq_zero_or_pos
theorem qPU:type_of%@Int.mul_comm:=@Int.mul_comm
theorem qPV:type_of%@List.map_congr_left:=@List.map_congr_left
theorem qPW:type_of%@World.block_lt_of_cell?:=@World.block_lt_of_cell?
theorem qPX:type_of%@List.take_length:=@List.take_length
theorem qPY:type_of%@List.length_set:=@List.length_set
theorem qPZ:type_of%@Int.natAbs_mul:=@Int.natAbs_mul
theorem qQ0:type_of%@List.find?_some:=@List.find?_some
theorem qQ1:type_of%@Array.ext':=@Array.ext'
theorem qQ2:type_of%@List.getElem?_cons_zero:=@List.getElem?_cons_zero
theorem qQ3:type_of%@Nat.mod_lt:=@Nat.mod_lt
theorem qQ4:type_of%@Array.getD_eq_getD_getElem?:=@Array.getD_eq_getD_getElem?
theorem qQ5:type_of%@List.nil_append:=@List.nil_append
theorem qQ6:type_of%@Int.one_mul:=@Int.one_mul
theorem qQ7:type_of%@Rat.mul_nonneg:=@Rat.mul_nonneg
theorem qQ8:type_of%@Nat.zero_le:=@Nat.zero_le
theorem qQ9:type_of%@Nat.pow_succ:=@Nat.pow_succ
theorem qQa:type_of%@List.replicate_succ:=@List.replicate_succ
theorem qQb:type_of%@List.cons_append:=@List.cons_append
theorem qQc:type_of%@Bool.or_eq_true:=@Bool.or_eq_true
theorem qQd:type_of%@List.cons.injEq:=@List.cons.injEq
theorem qQe:type_of%@Option.bind_eq_some_iff:=@Option.bind_eq_some_iff
theorem qQf:type_of%@List.getD_cons_zero:=@List.getD_cons_zero
theorem qQg:type_of%@Nat.pow_le_pow_right:=@Nat.pow_le_pow_right
theorem qQh:type_of%@Nat.gcd_comm:=@Nat.gcd_comm
theorem qQi:type_of%@List.eq_nil_of_length_eq_zero:=@List.eq_nil_of_length_eq_zero
theorem qQj:type_of%@Nat.add_assoc:=@Nat.add_assoc
theorem qQk:type_of%@Int.lt_trichotomy:=@Int.lt_trichotomy
theorem qQl:type_of%@Int.neg_mul_neg:=@Int.neg_mul_neg
theorem qQm:type_of%@Nat.eq_or_lt_of_le:=@Nat.eq_or_lt_of_le
theorem qQn:type_of%@Bool.not_eq_true':=@Bool.not_eq_true'
theorem qQo:type_of%@Nat.one_mul:=@Nat.one_mul
theorem qQp:type_of%@List.length_pos_iff:=@List.length_pos_iff
theorem qQq:type_of%@List.getElem?_eq_some_iff:=@List.getElem?_eq_some_iff
theorem qQr:type_of%@Nat.mul_one:=@Nat.mul_one
theorem qQs:type_of%@List.drop_eq_nil_of_le:=@List.drop_eq_nil_of_le
theorem qQt:type_of%@Array.getElem?_eq_getElem:=@Array.getElem?_eq_getElem
theorem qQu:type_of%@Option.map_eq_some_iff:=@Option.map_eq_some_iff
theorem qQv:type_of%@Int.mul_nonneg:=@Int.mul_nonneg
theorem qQw:type_of%@Int.mul_ediv_cancel:=@Int.mul_ediv_cancel
theorem qQx:type_of%@Rat.intCast_mul:=@Rat.intCast_mul
theorem qQy:type_of%@Classical.not_imp:=@Classical.not_imp
theorem qQz:type_of%@Rat.mul_pos:=@Rat.mul_pos
theorem qQA:type_of%@Nat.lt_succ_self:=@Nat.lt_succ_self
theorem qQB:type_of%@List.foldl_cons:=@List.foldl_cons
theorem qQC:type_of%@Nat.not_lt_zero:=@Nat.not_lt_zero
theorem qQD:type_of%@Int.toNat_of_nonneg:=@Int.toNat_of_nonneg
theorem qQE:type_of%@Nat.lt_of_le_of_lt:=@Nat.lt_of_le_of_lt
theorem qQF:type_of%@Int.natCast_add:=@Int.natCast_add
theorem qQG:type_of%@Nat.div_le_self:=@Nat.div_le_self
theorem qQH:type_of%@Int.mul_le_mul_of_nonneg_right:=@Int.mul_le_mul_of_nonneg_right
theorem qQI:type_of%@Rat.intCast_sub:=@Rat.intCast_sub
theorem qQJ:type_of%@Rat.mul_inv_cancel:=@Rat.mul_inv_cancel
theorem qQK:type_of%@List.length_drop:=@List.length_drop
theorem qQL:type_of%@List.all_cons:=@List.all_cons
theorem qQM:type_of%@Nat.div_add_mod:=@Nat.div_add_mod
theorem qQN:type_of%@Array.toList_append:=@Array.toList_append
theorem qQO:type_of%@UInt8.toNat_inj:=@UInt8.toNat_inj
theorem qQP:type_of%@Int.natAbs_ediv_le_natAbs:=@Int.natAbs_ediv_le_natAbs
theorem qQQ:type_of%@Classical.not_forall:=@Classical.not_forall
theorem qQR:type_of%@List.mem_flatMap:=@List.mem_flatMap
theorem qQS:type_of%@Array.getElem?_toList:=@Array.getElem?_toList
theorem qQT:type_of%@List.mem_of_mem_take:=@List.mem_of_mem_take
theorem qQU:type_of%@List.mem_of_mem_drop:=@List.mem_of_mem_drop
theorem qQV:type_of%@List.flatten_cons:=@List.flatten_cons
theorem qQW:type_of%@List.mem_replicate:=@List.mem_replicate
theorem qQX:type_of%@List.take_append_drop:=@List.take_append_drop
theorem qQY:type_of%@List.getElem?_of_mem:=@List.getElem?_of_mem
theorem qQZ:type_of%@Option.isSome_some:=@Option.isSome_some
theorem qR0:type_of%@Nat.add_sub_cancel:=@Nat.add_sub_cancel
theorem qR1:type_of%@List.mem_or_eq_of_mem_set:=@List.mem_or_eq_of_mem_set
theorem qR2:type_of%@Int.natAbs_sign_of_ne_zero:=@Int.natAbs_sign_of_ne_zero
theorem qR3:type_of%@Int.mul_le_mul_of_nonneg_left:=@Int.mul_le_mul_of_nonneg_left
abbrev qOK:=List UInt8
def su:Nat->(Nat->Rat)->Rat
 | 0,_=>0
 | n+1,f=>su n f+f n
theorem ql:∀{n:Nat} {f g:Nat->Rat},(∀i,i<n->f i=g i)->su n f=su n g
 | 0,_,_,_=>rfl
 | n+1,f,g,h=>by simp only[su];rw[ql (fun i hi=>h i (by omega)),h n (by omega)]
theorem q4E:∀(n:Nat) (f g:Nat->Rat),su n (fun i=>f i+g i)=su n f+su n g
 | 0,_,_=>by show (0:Rat)=0+0;grind
 | n+1,f,g=>by simp only[su];rw[q4E n f g];grind
theorem wt:∀(n:Nat) (a:Rat) (f:Nat->Rat),su n (fun i=>a*f i)=a*su n f
 | 0,a,_=>by simp[su]
 | n+1,a,f=>by simp only[su];rw[wt n a f];grind
theorem q9s(n:Nat)(f g:Nat->Rat):su n (fun i=>f i-g i)=su n f-su n g:=by have h:=q4E n f (fun i=>(-1)*g i);rw[wt] at h;rw[ql (g:=fun i=>f i+(-1)*g i) (fun i _=>by grind),h];grind
theorem qan:∀(n:Nat),su n (fun _=>0)=0
 | 0=>rfl
 | n+1=>by simp only[su];rw[qan n];grind
theorem qJm:∀{n:Nat} {f:Nat->Rat},(∀i,i<n->0<=f i)->0<=su n f
 | 0,_,_=>Rat.le_refl
 | n+1,f,h=>by
  have a:=qJm (n:=n) (f:=f) (fun i hi=>h i (by omega));have b:=h n (by omega);simp only[su];grind
theorem qCU:∀(m n:Nat) (f:Nat->Nat->Rat),su m (fun i=>su n (f i))=su n (fun j=>su m (fun i=>f i j))
 | 0,n,f=>by simp only[su];rw[qan]
 | m+1,n,f=>by simp only[su];rw[qCU m n f,q4E]
theorem q9h:∀{n k:Nat} (f:Nat->Rat),k<n->(∀i,i<n->i≠k->f i=0)->su n f=f k
 | 0,k,f,h,_=>by omega
 | n+1,k,f,h,hz=>by
  simp only[su];by_cases hk:k=n
  ·subst hk;rw[ql (g:=fun _=>0) (fun i hi=>hz i (by omega) (by omega)),qan];grind
  ·rw[q9h f (by omega:k<n) (fun i hi hne=>hz i (by omega) hne),hz n (by omega) (by omega)];grind
theorem qxR:∀{n:Nat} {f:Nat->Rat},su n f≠0->∃i,i<n/\f i≠0
 | 0,_,h=>absurd rfl h
 | n+1,f,h=>by
  by_cases hn:f n=0
  ·obtain⟨i,hi,h'⟩:=qxR (n:=n) (f:=f) (by simp only[su] at h;rw[hn] at h;grind);exact⟨i,by omega,h'⟩
  ·exact⟨n,by omega,hn⟩
def qm2(m n:Nat)(M:Nat->Nat->Rat)(b x:Nat->Rat):Prop:=∀i,i<m->su n (fun j=>M i j*x j)=b i
def qLT(m n:Nat)(M:Nat->Nat->Rat)(b y:Nat->Rat):Prop:=(∀j,j<n->su m (fun i=>y i*M i j)=0)/\su m (fun i=>y i*b i)≠0
theorem qyV(m:Nat):∀(n:Nat) (M:Nat->Nat->Rat) (b:Nat->Rat),(∃x,qm2 m n M b x)\/∃y,qLT m n M b y
 | 0,M,b=>by
  by_cases h:∀i,i<m->b i=0
  ·exact .inl ⟨fun _=>0,fun i hi=>(h i hi).symm⟩
  ·right;obtain⟨k,hk⟩:=qQQ.1 h;obtain⟨hk,hb⟩:=qQy.1 hk;refine⟨fun i=>if i=k then 1 else 0,fun j hj=>by omega,?_⟩;rw[q9h _ hk (fun i _ hne=>by simp[hne])];simpa using hb
 | n+1,M,b=>by
  by_cases h:∀i,i<m->M i n=0
  ·rcases qyV m n M b with⟨x,hx⟩|⟨y,h1,h2⟩
   ·refine .inl ⟨fun j=>if j=n then 0 else x j,fun i hi=>?_⟩;simp only[su];rw[<-hx i hi,h i hi,ql (g:=fun j=>M i j*x j) (fun j hj=>by rw[if_neg (by omega)])];grind
   ·refine .inr ⟨y,fun j hj=>?_,h2⟩;by_cases hjn:j=n
    ·subst hjn;rw[ql (g:=fun _=>0) (fun i hi=>by rw[h i hi];grind),qan]
    ·exact h1 j (by omega)
  ·obtain⟨k,hk⟩:=qQQ.1 h;obtain⟨hk,ha⟩:=qQy.1 hk;have inv:M k n*(M k n)⁻¹=1:=qQJ _ ha;rcases qyV m n (fun i j=>M i j-M i n*(M k n)⁻¹*M k j) (fun i=>b i-M i n*(M k n)⁻¹*b k) with⟨x,hx⟩|⟨y,h1,h2⟩
   ·refine .inl ⟨fun j=>if j=n then (M k n)⁻¹*(b k-su n (fun j=>M k j*x j)) else x j,fun i hi=>?_⟩;have e:=hx i hi;simp only[su,if_true];rw[ql (g:=fun j=>M i j*x j) (fun j hj=>by rw[if_neg (by omega)])];have e2:su n (fun j=>(M i j-M i n*(M k n)⁻¹*M k j)*x j)=su n (fun j=>M i j*x j)-M i n*(M k n)⁻¹*su n (fun j=>M k j*x j):=by rw[<-wt,<-q9s];exact ql fun j _=>by grind
    rw[e2] at e;grind
   ·refine .inr ⟨fun i=>y i-(if i=k then su m (fun i=>y i*M i n)*(M k n)⁻¹ else 0),fun j hj=>?_,?_⟩
    ·have e1:su m (fun i=>(y i-(if i=k then su m (fun i=>y i*M i n)*(M k n)⁻¹ else 0))*M i j)=su m (fun i=>y i*M i j)-su m (fun i=>y i*M i n)*(M k n)⁻¹*M k j:=by have s:=q9h (n:=m) (k:=k) (fun i=>(if i=k then su m (fun i=>y i*M i n)*(M k n)⁻¹ else 0)*M i j) hk (fun i _ hne=>by simp[hne]);simp only[if_true] at s;rw[<-s,<-q9s];exact ql fun i _=>by grind
     rw[e1];by_cases hjn:j=n
     ·subst hjn;grind
     ·have:=h1 j (by omega);have e2:su m (fun i=>y i*(M i j-M i n*(M k n)⁻¹*M k j))=su m (fun i=>y i*M i j)-su m (fun i=>y i*M i n)*((M k n)⁻¹*M k j):=by rw[show su m (fun i=>y i*M i n)*((M k n)⁻¹*M k j)=((M k n)⁻¹*M k j)*su m (fun i=>y i*M i n) from by grind,<-wt,<-q9s];exact ql fun i _=>by grind
      rw[e2] at this;grind
    ·have e1:su m (fun i=>(y i-(if i=k then su m (fun i=>y i*M i n)*(M k n)⁻¹ else 0))*b i)=su m (fun i=>y i*b i)-su m (fun i=>y i*M i n)*(M k n)⁻¹*b k:=by have s:=q9h (n:=m) (k:=k) (fun i=>(if i=k then su m (fun i=>y i*M i n)*(M k n)⁻¹ else 0)*b i) hk (fun i _ hne=>by simp[hne]);simp only[if_true] at s;rw[<-s,<-q9s];exact ql fun i _=>by grind
     rw[e1];have e2:su m (fun i=>y i*(b i-M i n*(M k n)⁻¹*b k))=su m (fun i=>y i*b i)-su m (fun i=>y i*M i n)*((M k n)⁻¹*b k):=by rw[show su m (fun i=>y i*M i n)*((M k n)⁻¹*b k)=((M k n)⁻¹*b k)*su m (fun i=>y i*M i n) from by grind,<-wt,<-q9s];exact ql fun i _=>by grind
     rw[e2] at h2;intro h0;apply h2;grind
variable {n:Nat}
structure V3 where
 x:Rat
 y:Rat
 z:Rat
def qda(a b:V3):Rat:=a.x*b.x+a.y*b.y+a.z*b.z
def d2(a b:V3):Rat:=(a.x-b.x)*(a.x-b.x)+(a.y-b.y)*(a.y-b.y)+(a.z-b.z)*(a.z-b.z)
theorem qAE (a b:V3):d2 a b=qda a a-2*qda a b+qda b b:=by unfold d2 qda;grind
theorem qtu (a:Rat):0<=a*a:=by
 rcases Rat.le_total (a:=0) (b:=a) with h|h
 ·exact qQ7 h h
 ·have:=qQ7 (show 0<=-a by grind) (show 0<=-a by grind);grind
theorem qFs (a b:V3):0<=d2 a b:=by have h1:=qtu (a.x-b.x);have h2:=qtu (a.y-b.y);have h3:=qtu (a.z-b.z);unfold d2;grind
theorem qxZ {a:Rat}(h:a*a<=0):a=0:=by
 have h1:=qtu a;have h2:a*a=0:=by grind
 rcases Rat.mul_eq_zero.1 h2 with h|h<;>exact h
theorem qCc {a b:V3}(h:d2 a b<=0):a=b:=by have h1:=qtu (a.x-b.x);have h2:=qtu (a.y-b.y);have h3:=qtu (a.z-b.z);unfold d2 at h;have e1:=qxZ (a:=a.x-b.x) (by grind);have e2:=qxZ (a:=a.y-b.y) (by grind);have e3:=qxZ (a:=a.z-b.z) (by grind);cases a;cases b;simp only[V3.mk.injEq];refine⟨?_,?_,?_⟩<;>simp only at e1 e2 e3<;>grind
def cen(n:Nat)(w:Nat->Rat)(p:Nat->V3):V3:=⟨su n fun i=>w i*(p i).x,su n fun i=>w i*(p i).y,su n fun i=>w i*(p i).z⟩
theorem qEk (n:Nat)(w:Nat->Rat)(p:Nat->V3)(c:V3):su n (fun i=>w i*qda c (p i))=qda c (cen n w p):=by unfold qda cen;simp only;rw[<-wt,<-wt,<-wt,<-q4E,<-q4E];exact ql fun i _=>by grind
theorem qM9 (n:Nat)(w:Nat->Rat)(p:Nat->V3)(c:V3):su n (fun i=>w i*d2 c (p i))=qda c c*su n w-2*qda c (cen n w p)+su n (fun i=>w i*qda (p i) (p i)):=by rw[<-qEk,<-wt,<-wt,<-q9s,<-q4E];exact ql fun i _=>by rw[qAE];grind
def en(n:Nat)(p:Nat->V3)(w:Nat->Rat):Rat:=su n fun i=>w i*d2 (cen n w p) (p i)
theorem qxA {w:Nat->Rat}(p:Nat->V3)(h:su n w=1)(c:V3):su n (fun i=>w i*d2 c (p i))=en n p w+d2 c (cen n w p):=by unfold en;rw[qM9,qM9,h,qAE];grind
structure Wt (n:Nat) (w:Nat->Rat):Prop where
 nn:∀i,i<n->0<=w i
 one:su n w=1
def qCh(n:Nat)(p:Nat->V3)(w:Nat->Rat)(s:Rat):Prop:=Wt n w/\∀i,i<n->w i≠0->d2 (cen n w p) (p i)=s
theorem ql1 {w f:Nat->Rat}{s:Rat}(h1:su n w=1)(h:∀i,i<n->w i≠0->f i=s):su n (fun i=>w i*f i)=s:=by
 rw[ql (g:=fun i=>s*w i) (fun i hi=>by
  by_cases hw:w i=0
  ·rw[hw];grind
  ·rw[h i hi hw];grind),wt,h1];grind
theorem qCh.en {p:Nat->V3}{w:Nat->Rat}{s:Rat}(h:qCh n p w s):en n p w=s:=ql1 h.1.one h.2
def cnt:Nat->(Nat->Rat)->Nat
 | 0,_=>0
 | n+1,w=>cnt n w+if w n=0 then 0 else 1
theorem qKs:∀{n:Nat} {w v:Nat->Rat},(∀i,i<n->w i=0->v i=0)->cnt n v<=cnt n w
 | 0,_,_,_=>qON _
 | n+1,w,v,h=>by
  have a:=qKs (n:=n) (w:=w) (v:=v) fun i hi=>h i (by omega);have b:=h n (by omega);simp only[cnt];by_cases hw:w n=0
  ·rw[if_pos hw,if_pos (b hw)];omega
  ·rw[if_neg hw];split<;>omega
theorem qE4:∀{n:Nat} {w v:Nat->Rat} {k:Nat},(∀i,i<n->w i=0->v i=0)->k<n->w k≠0->v k=0->cnt n v<cnt n w
 | 0,_,_,_,_,hk,_,_=>by omega
 | n+1,w,v,k,h,hk,hw,hv=>by
  simp only[cnt];by_cases e:k=n
  ·subst e;have a:=qKs (n:=k) (w:=w) (v:=v) fun i hi=>h i (by omega);rw[if_neg hw,if_pos hv];omega
  ·have a:=qE4 (n:=n) (w:=w) (v:=v) (k:=k) (fun i hi=>h i (by omega)) (by omega) hw hv;have b:=h n (by omega);by_cases hwn:w n=0
   ·rw[if_pos hwn,if_pos (b hwn)];omega
   ·rw[if_neg hwn];split<;>omega
theorem qA2:∀(n:Nat) (w v:Nat->Rat),(∀i,i<n->v i<0->0<w i)->(∃k,k<n/\v k<0)->∃t,0<t/\∃k,k<n/\v k<0/\w k+t*v k=0/\∀i,i<n->v i<0->0<=w i+t*v i
 | 0,_,_,_,⟨k,hk,_⟩=>by omega
 | n+1,w,v,h,⟨k,hk,hv⟩=>by
  have own:v n<0->0<w n*(-(v n))⁻¹/\w n+(w n*(-(v n))⁻¹)*v n=0:=fun hn=>by
   have h1:0 < -(v n):=by grind
   have h2:-(v n)*(-(v n))⁻¹=1:=qQJ _ (by grind);exact⟨qQz (h n (by omega) hn) (Rat.inv_pos.2 h1),by grind⟩
  by_cases hex:∃k,k<n/\v k<0
  ·obtain⟨t,t0,k,hk,hv,hz,hall⟩:=qA2 n w v (fun i hi=>h i (by omega)) hex;by_cases hn:v n<0/\w n+t*v n<0
   ·obtain⟨o1,o2⟩:=own hn.1;refine⟨w n*(-(v n))⁻¹,o1,n,by omega,hn.1,o2,fun i hi hvi=>?_⟩;by_cases e:i=n
    ·subst e;rw[o2];exact Rat.le_refl
    ·have a:=hall i (by omega) hvi;have lt:w n*(-(v n))⁻¹<t:=by apply qPn;intro hh;have:=qQ7 (show 0<=w n*(-(v n))⁻¹-t by grind) (show 0<=-(v n) by grind);grind
     have:=qQ7 (show 0<=t-w n*(-(v n))⁻¹ by grind) (show 0<=-(v i) by grind);grind
   ·refine⟨t,t0,k,by omega,hv,hz,fun i hi hvi=>?_⟩;by_cases e:i=n
    ·subst e;apply qPn;intro hh;exact hn ⟨hvi,by grind⟩
    ·exact hall i (by omega) hvi
  ·have e:k=n:=by apply qPn;intro hh;exact hex ⟨k,by omega,hv⟩
   subst e;obtain⟨o1,o2⟩:=own hv;refine⟨_,o1,k,by omega,hv,o2,fun i hi hvi=>?_⟩;have:i=k:=by apply qPn;intro hh;exact hex ⟨i,by omega,hvi⟩
   subst this;rw[o2];exact Rat.le_refl
theorem qGv {w v:Nat->Rat}(hw:Wt n w)(h0:su n v=0)(hz:∀i,i<n->w i=0->v i=0)(hk:∃k,k<n/\v k<0) :∃t,0<t/\Wt n (fun i=>w i+t*v i)/\cnt n (fun i=>w i+t*v i)<cnt n w/\∀i,i<n->w i=0->w i+t*v i=0:=by
 obtain⟨t,t0,k,hk,hv,he,hall⟩:=qA2 n w v (fun i hi hv=>by
  have a:=hw.nn i hi;have b:w i≠0:=fun e=>by rw[hz i hi e] at hv;exact absurd hv (by grind)
  grind) hk
 have zz:∀i,i<n->w i=0->w i+t*v i=0:=fun i hi e=>by rw[e,hz i hi e];grind
 refine⟨t,t0,⟨fun i hi=>?_,?_⟩,qE4 zz hk (fun e=>?_) he,zz⟩
 ·by_cases hvi:v i<0
  ·exact hall i hi hvi
  ·have:=qQ7 (show 0<=t by grind) (show 0<=v i by grind);have:=hw.nn i hi;grind
 ·rw[q4E,wt,h0,hw.one];grind
 ·rw[hz k hk e] at hv;exact absurd hv (by grind)
theorem qr3:∀{n:Nat} {f:Nat->Rat},(∀i,i<n->0<=f i)->su n f=0->∀i,i<n->f i=0
 | 0,_,_,_,i,hi=>by omega
 | n+1,f,h,hs,i,hi=>by
  have a:=qJm (n:=n) (f:=f) (fun i hi=>h i (by omega));have b:=h n (by omega);simp only[su] at hs;by_cases e:i=n
  ·subst e;grind
  ·exact qr3 (n:=n) (f:=f) (fun i hi=>h i (by omega)) (by grind) i (by omega)
theorem qt5 (n:Nat)(w v:Nat->Rat)(t:Rat)(p:Nat->V3):cen n (fun i=>w i+t*v i) p=⟨(cen n w p).x+t*(cen n v p).x,(cen n w p).y+t*(cen n v p).y,(cen n w p).z+t*(cen n v p).z⟩:=by unfold cen;simp only[V3.mk.injEq];refine⟨?_,?_,?_⟩<;>rw[<-wt,<-q4E]<;>exact ql fun i _=>by grind
end Go.Eng

namespace Go.Eng
variable {n:Nat}{p:Nat->V3}
theorem qL3 {v:Nat->Rat}{S:Nat->Prop}(hv:∀i,i<n->¬S i->v i=0){r:Rat}(h0:su n v=0)(h:∀j,j<n->S j->2*qda (cen n v p) (p j)+r=0):cen n v p=⟨0,0,0⟩:=by
 have e:su n (fun j=>v j*(2*qda (cen n v p) (p j)+r))=0:=by
  rw[ql (g:=fun _=>0) (fun j hj=>by
   by_cases hs:S j
   ·rw[h j hj hs];grind
   ·rw[hv j hj hs];grind),qan]
 have e2:su n (fun j=>v j*(2*qda (cen n v p) (p j)+r))=2*qda (cen n v p) (cen n v p)+r*su n v:=by rw[<-qEk,<-wt,<-wt,<-q4E];exact ql fun i _=>by grind
 rw[e2,h0] at e;have:d2 (cen n v p) ⟨0,0,0⟩<=0:=by rw[qAE];unfold qda at *;simp only at *;grind
 exact qCc this
theorem qGe (n:Nat)(p:Nat->V3)(w:Nat->Rat)(h1:su n w=1) :(∃x s,su n x=1/\(∀i,i<n->w i=0->x i=0)/\∀i,i<n->w i≠0->d2 (cen n x p) (p i)=s) \/∃v,(∀i,i<n->w i=0->v i=0)/\su n v=0/\cen n v p=⟨0,0,0⟩/\0<su n (fun i=>v i*qda (p i) (p i)):=by
 rcases qyV (n+1) (n+1) (fun i j=>if i=n then (if j=n then 0 else 1) else if w i=0 then (if j=i then 1 else 0) else if j=n then 1 else 2*qda (p i) (p j))
  (fun i=>if i=n then 1 else if w i=0 then 0 else qda (p i) (p i)) with⟨x,hx⟩|⟨y,h2,h3⟩
 ·left;have xz:∀i,i<n->w i=0->x i=0:=fun i hi hw=>by have:=hx i (by omega);simp only[show ¬i=n by omega,if_false,hw,if_true] at this;rw[q9h (k:=i) _ (by omega) (fun j _ hne=>by rw[if_neg hne];grind)] at this;simpa using this
  have x1:su n x=1:=by have:=hx n (by omega);simp only[if_true,su] at this;rw[ql (g:=x) (fun j hj=>by rw[if_neg (by omega)];grind)] at this;grind
  refine⟨x,qda (cen n x p) (cen n x p)+x n,x1,xz,fun i hi hw=>?_⟩;have:=hx i (by omega);simp only[show ¬i=n by omega,if_false,hw,su,if_true] at this;rw[ql (g:=fun j=>2*(x j*qda (p i) (p j))) (fun j hj=>by rw[if_neg (by omega)];grind),wt,qEk] at this;rw[qAE];have sym:qda (cen n x p) (p i)=qda (p i) (cen n x p):=by unfold qda;grind
  rw[sym];grind
 ·right;obtain⟨m,hm⟩:∃m:Nat->Rat,m=fun i=>if w i=0 then 0 else y i:=⟨_,rfl⟩
  have mz:∀i,i<n->w i=0->m i=0:=fun i _ hw=>by rw[hm];simp[hw]
  have m0:su n m=0:=by
   have:=h2 n (by omega);simp only[su,if_true] at this;rw[ql (g:=m) (fun i hi=>by
    rw[hm];by_cases hw:w i=0
    ·simp only[show ¬i=n by omega,show ¬n=i by omega,if_false,hw,if_true];grind
    ·simp only[show ¬i=n by omega,if_false,hw];grind)] at this
   grind
  have md:∀j,j<n->w j≠0->2*qda (cen n m p) (p j)+y n=0:=fun j hj hw=>by
   have:=h2 j (by omega);simp only[su,if_true,show ¬j=n by omega,if_false] at this;rw[ql (g:=fun i=>2*(m i*qda (p j) (p i))) (fun i hi=>by
    rw[hm];by_cases hw':w i=0
    ·have hne:¬j=i:=fun e=>hw (e▸hw');simp only[show ¬i=n by omega,if_false,hw',if_true,hne];grind
    ·simp only[show ¬i=n by omega,if_false,hw'];unfold qda;grind),wt,qEk] at this
   have sym:qda (cen n m p) (p j)=qda (p j) (cen n m p):=by unfold qda;grind
   rw[sym];grind
  have mc:cen n m p=⟨0,0,0⟩:=qL3 (S:=fun i=>w i≠0) (r:=y n) (fun i hi hs=>mz i hi (Classical.not_not.1 hs)) m0 md;have yn:y n=0:=by obtain⟨j,hj,hw⟩:=qxR (n:=n) (f:=w) (by rw[h1];decide);have:=md j hj hw;rw[mc] at this;unfold qda at this;grind
  have mk:su n (fun i=>m i*qda (p i) (p i))≠0:=by
   intro e;apply h3;simp only[su,if_true,yn];rw[ql (g:=fun i=>m i*qda (p i) (p i)) (fun i hi=>by
    rw[hm];by_cases hw:w i=0
    ·simp only[show ¬i=n by omega,if_false,hw,if_true];grind
    ·simp only[show ¬i=n by omega,if_false,hw]),e]
   grind
  by_cases pos:0<su n (fun i=>m i*qda (p i) (p i))
  ·exact⟨m,mz,m0,mc,pos⟩
  ·refine⟨fun i=>(-1)*m i,fun i hi hw=>by show (-1)*m i=0;rw[mz i hi hw];grind,by rw[wt,m0];grind,?_,?_⟩
   ·have:cen n (fun i=>(-1)*m i) p=⟨(-1)*(cen n m p).x,(-1)*(cen n m p).y,(-1)*(cen n m p).z⟩:=by unfold cen;simp only[V3.mk.injEq];refine⟨?_,?_,?_⟩<;>rw[<-wt]<;>exact ql fun i _=>by grind
    rw[this,mc];simp only[V3.mk.injEq];refine⟨?_,?_,?_⟩<;>grind
   ·rw[ql (g:=fun i=>(-1)*(m i*qda (p i) (p i))) (fun i _=>by grind),wt];grind
theorem qNL (n:Nat)(w:Nat->Rat)(p:Nat->V3)(h:su n w=1):en n p w=su n (fun i=>w i*qda (p i) (p i))-qda (cen n w p) (cen n w p):=by unfold en;rw[qM9,h];grind
theorem qKU (n:Nat)(p:Nat->V3):∀(c:Nat) (w:Nat->Rat),Wt n w->cnt n w<=c->∃w' s,qCh n p w' s/\en n p w<=s/\∀i,i<n->w i=0->w' i=0:=by
 intro c;induction c with
 | zero=>
  intro w hw hc;obtain⟨j,hj,hne⟩:=qxR (n:=n) (f:=w) (by rw[hw.one];decide);have:=qE4 (n:=n) (w:=w) (v:=fun _=>0) (k:=j) (fun _ _ _=>rfl) hj hne rfl;omega
 | succ c ih=>
  intro w hw hc;have again:∀v:Nat->Rat,su n v=0->(∀i,i<n->w i=0->v i=0)->(∃k,k<n/\v k<0)->(∀t:Rat,0<t->Wt n (fun i=>w i+t*v i)->en n p w<=en n p (fun i=>w i+t*v i)) ->
    ∃w' s,qCh n p w' s/\en n p w<=s/\∀i,i<n->w i=0->w' i=0:=by
   intro v v0 vz hk he;obtain⟨t,t0,a1,a2,a3⟩:=qGv hw v0 vz hk;obtain⟨w',s,g1,g2,g3⟩:=ih _ a1 (by omega);exact⟨w',s,g1,Rat.le_trans (he t t0 a1) g2,fun i hi hz=>g3 i hi (a3 i hi hz)⟩
  rcases qGe n p w hw.one with⟨x,s,x1,xz,xs⟩|⟨v,vz,v0,vc,vp⟩
  ·have sw:su n (fun i=>w i*d2 (cen n x p) (p i))=s:=ql1 hw.one xs;have e1:=qxA p hw.one (cen n x p);rw[sw] at e1;have dn:=qFs (cen n x p) (cen n w p);by_cases hx:∀i,i<n->0<=x i
   ·refine⟨x,s,⟨⟨hx,x1⟩,fun i hi hne=>xs i hi fun e=>hne (xz i hi e)⟩,by grind,xz⟩
   ·obtain⟨k,hk⟩:=qQQ.1 hx;obtain⟨hk,hneg⟩:=qQy.1 hk;refine again (fun i=>x i-w i) (by rw[q9s,x1,hw.one];grind) (fun i hi e=>by rw[xz i hi e,e];grind) ⟨k,hk,by have:=hw.nn k hk;grind⟩ fun t t0 ht=>?_;have t1:t<=1:=by have a:=ht.nn k hk;have b:=hw.nn k hk;apply qPn;intro hh;have c1:=qQ7 (show 0<=t-1 by grind) b;have c2:=qQz t0 (show 0 < -(x k) by grind);grind
    have sw':su n (fun i=>(w i+t*(x i-w i))*d2 (cen n x p) (p i))=s:=ql1 (w:=fun i=>w i+t*(x i-w i)) ht.one fun i hi hne=>xs i hi fun e=>hne (by rw[e,xz i hi e];grind);have e2:=qxA p ht.one (cen n x p);rw[sw'] at e2;have cm:=qt5 n w (fun i=>x i-w i) t p;have cx:cen n (fun i=>x i-w i) p=⟨(cen n x p).x-(cen n w p).x,(cen n x p).y-(cen n w p).y,(cen n x p).z-(cen n w p).z⟩:=by unfold cen;simp only[V3.mk.injEq];refine⟨?_,?_,?_⟩<;>rw[<-q9s]<;>exact ql fun i _=>by grind
    have dd:d2 (cen n x p) (cen n (fun i=>w i+t*(x i-w i)) p)=(1-t)*(1-t)*d2 (cen n x p) (cen n w p):=by rw[cm,cx];unfold d2;grind
    rw[dd] at e2;have f1:=qQ7 (show 0<=t by grind) (show 0<=2-t by grind);have f2:=qQ7 f1 dn;grind
  ·refine again v v0 vz ?_ fun t t0 ht=>?_
   ·apply qPn;intro hh;have all:∀i,i<n->0<=v i:=fun i hi=>by apply qPn;intro h';exact hh ⟨i,hi,by grind⟩
    have z:=qr3 all v0;rw[ql (g:=fun _=>0) (fun i hi=>by rw[z i hi];grind),qan] at vp;exact absurd vp (by decide)
   ·rw[qNL n w p hw.one,qNL n _ p ht.one,qt5,vc];have:su n (fun i=>(w i+t*v i)*qda (p i) (p i))=su n (fun i=>w i*qda (p i) (p i))+t*su n (fun i=>v i*qda (p i) (p i)):=by rw[<-wt,<-q4E];exact ql fun i _=>by grind
    rw[this];have f:=qQz t0 vp;unfold qda at *;simp only;grind
structure Least (n:Nat) (p:Nat->V3) (w:Nat->Rat) (s:Rat):Prop where
 good:qCh n p w s
 all:∀i,i<n->d2 (cen n w p) (p i)<=s
theorem qIG {w v:Nat->Rat}{s t:Rat}(hw:qCh n p w s)(hv:qCh n p v t)(h:∀i,i<n->(w i=0↔v i=0)):s=t:=by have a:su n (fun i=>w i*d2 (cen n v p) (p i))=t:=ql1 hw.1.one fun i hi hne=>hv.2 i hi fun e=>hne ((h i hi).2 e);have b:su n (fun i=>v i*d2 (cen n w p) (p i))=s:=ql1 hv.1.one fun i hi hne=>hw.2 i hi fun e=>hne ((h i hi).1 e);rw[qxA p hw.1.one,hw.en] at a;rw[qxA p hv.1.one,hv.en] at b;have:=qFs (cen n v p) (cen n w p);have:=qFs (cen n w p) (cen n v p);grind
theorem qDK {w:Nat->Rat}{s:Rat}(hw:Least n p w s){c:V3}{r:Rat}(h:∀i,i<n->d2 c (p i)<=r):s+d2 c (cen n w p)<=r:=by
 have a:=qxA p hw.good.1.one c;rw[hw.good.en] at a;have b:0<=su n (fun i=>w i*(r-d2 c (p i))):=qJm fun i hi=>qQ7 (hw.good.1.nn i hi) (by have:=h i hi;grind);have e:su n (fun i=>w i*(r-d2 c (p i)))=r-su n (fun i=>w i*d2 c (p i)):=by rw[ql (g:=fun i=>r*w i-w i*d2 c (p i)) (fun i _=>by grind),q9s,wt,hw.good.1.one];grind
 grind
theorem qFp {w v:Nat->Rat}{s t:Rat}(hw:Least n p w s)(hv:Least n p v t):s=t/\cen n w p=cen n v p:=by have a:=qDK hw (c:=cen n v p) (r:=t) hv.all;have b:=qDK hv (c:=cen n w p) (r:=s) hw.all;have d1:=qFs (cen n v p) (cen n w p);have d3:=qFs (cen n w p) (cen n v p);exact⟨by grind,qCc (by grind)⟩
end Go.Eng

namespace Go.Eng
def qOd:Nat->List (Nat->Bool)
 | 0=>[fun _=>false]
 | n+1=>(qOd n).flatMap fun f=>[fun i=>if i=n then true else f i,fun i=>if i=n then false else f i]
theorem qya:∀(n:Nat) (w:Nat->Rat),∃b∈qOd n,∀i,i<n->(b i=true↔w i≠0)
 | 0,_=>⟨_,qPf.2 rfl,fun i hi=>by omega⟩
 | n+1,w=>by
  obtain⟨b,hb,h⟩:=qya n w;by_cases hw:w n=0
  ·refine⟨fun i=>if i=n then false else b i,qQR.2 ⟨b,hb,by simp⟩,fun i hi=>?_⟩;by_cases e:i=n
   ·subst e;simp[hw]
   ·simp only[e,if_false];exact h i (by omega)
  ·refine⟨fun i=>if i=n then true else b i,qQR.2 ⟨b,hb,by simp⟩,fun i hi=>?_⟩;by_cases e:i=n
   ·subst e;simp[hw]
   ·simp only[e,if_false];exact h i (by omega)
theorem qyY(n:Nat)(p:Nat->V3):∀L:List (Nat->Bool),(∃w s,qCh n p w s/\∃b∈L,∀i,i<n->(b i=true↔w i≠0)) ->
  ∃w s,qCh n p w s/\∀w' s',qCh n p w' s'->(∃b∈L,∀i,i<n->(b i=true↔w' i≠0))->s'<=s
 | [],⟨_,_,_,b,hb,_⟩=>by cases hb
 | b::L,⟨w0,s0,g0,b0,hb0,h0⟩=>by
  have same:∀w s w' s',qCh n p w s->qCh n p w' s'->(∀i,i<n->(b i=true↔w i≠0))->(∀i,i<n->(b i=true↔w' i≠0))->s=s':=fun w s w' s' g g' h h'=>qIG g g' fun i hi=>by
   have a:=h i hi;have c:=h' i hi;by_cases e:b i=true
   ·exact⟨fun z=>absurd z (a.1 e),fun z=>absurd z (c.1 e)⟩
   ·exact⟨fun _=>Classical.not_not.1 fun z=>e (c.2 z),fun _=>Classical.not_not.1 fun z=>e (a.2 z)⟩
  by_cases hB:∃w s,qCh n p w s/\∀i,i<n->(b i=true↔w i≠0)
  ·obtain⟨w1,s1,g1,h1⟩:=hB;by_cases hL:∃w s,qCh n p w s/\∃b∈L,∀i,i<n->(b i=true↔w i≠0)
   ·obtain⟨w2,s2,g2,h2⟩:=qyY n p L hL;rcases Rat.le_total (a:=s1) (b:=s2) with hle|hle
    ·refine⟨w2,s2,g2,fun w' s' g' ⟨c,hc,hp⟩=>?_⟩;rcases qP5.1 hc with rfl|hc
     ·rw[<-same w1 s1 w' s' g1 g' h1 hp];exact hle
     ·exact h2 w' s' g' ⟨c,hc,hp⟩
    ·refine⟨w1,s1,g1,fun w' s' g' ⟨c,hc,hp⟩=>?_⟩;rcases qP5.1 hc with rfl|hc
     ·rw[<-same w1 s1 w' s' g1 g' h1 hp];exact Rat.le_refl
     ·exact Rat.le_trans (h2 w' s' g' ⟨c,hc,hp⟩) hle
   ·refine⟨w1,s1,g1,fun w' s' g' ⟨c,hc,hp⟩=>?_⟩;rcases qP5.1 hc with rfl|hc
    ·rw[<-same w1 s1 w' s' g1 g' h1 hp];exact Rat.le_refl
    ·exact absurd ⟨w',s',g',c,hc,hp⟩ hL
  ·have hL:∃w s,qCh n p w s/\∃b∈L,∀i,i<n->(b i=true↔w i≠0):=by
    rcases qP5.1 hb0 with rfl|hb0
    ·exact absurd ⟨w0,s0,g0,h0⟩ hB
    ·exact⟨w0,s0,g0,b0,hb0,h0⟩
   obtain⟨w2,s2,g2,h2⟩:=qyY n p L hL;refine⟨w2,s2,g2,fun w' s' g' ⟨c,hc,hp⟩=>?_⟩;rcases qP5.1 hc with rfl|hc
   ·exact absurd ⟨w',s',g',hp⟩ hB
   ·exact h2 w' s' g' ⟨c,hc,hp⟩
theorem qJV{n k:Nat}(p:Nat->V3)(hk:k<n):cen n (fun i=>if i=k then 1 else 0) p=p k:=by unfold cen;rw[q9h (k:=k) _ hk (fun i _ h=>by simp[h]),q9h (k:=k) _ hk (fun i _ h=>by simp[h]),q9h (k:=k) _ hk (fun i _ h=>by simp[h])];simp only[if_true];rcases hp:p k with⟨x,y,z⟩;simp only[V3.mk.injEq];refine⟨?_,?_,?_⟩<;>grind
theorem qIj{n:Nat}(p:Nat->V3)(hn:0<n):∃w s,Least n p w s:=by
 have unit:∀k,k<n->su n (fun i=>if i=k then (1:Rat) else 0)=1:=fun k hk=>by rw[q9h (k:=k) _ hk (fun i _ h=>by rw[if_neg h])];simp
 have w0:Wt n (fun i=>if i=0 then (1:Rat) else 0):=⟨fun i _=>by
  show (0:Rat)<=if i=0 then 1 else 0
  split<;>decide,unit 0 hn⟩
 obtain⟨w1,s1,g1,_⟩:=qKU n p _ _ w0 (qON _);obtain⟨b,hb,h⟩:=qya n w1;obtain⟨w,s,g,hmax⟩:=qyY n p (qOd n) ⟨w1,s1,g1,b,hb,h⟩;refine⟨w,s,g,fun k hk=>?_⟩;apply qPn;intro hh;have hD:s<d2 (cen n w p) (p k):=by grind
 obtain⟨D,eD⟩:∃D,D=d2 (cen n w p) (p k):=⟨_,rfl⟩;rw[<-eD] at hD;have s0:0<=s:=by obtain⟨j,hj,hne⟩:=qxR (n:=n) (f:=w) (by rw[g.1.one];decide);rw[<-g.2 j hj hne];exact qFs _ _
 have Dp:0<D:=by grind
 have inv:(2*D)*(2*D)⁻¹=1:=qQJ _ (by grind);have ip:0<(2*D)⁻¹:=Rat.inv_pos.2 (by grind);obtain⟨t,et⟩:∃t,t=(D-s)*(2*D)⁻¹:=⟨_,rfl⟩;have t0:0<t:=by rw[et];exact qQz (by grind) ip
 have tD:t*D*2=D-s:=by rw[et];grind
 have t1:t<=1:=by apply qPn;intro h1;have:=qQz (show 0<t-1 by grind) Dp;grind
 have W:Wt n (fun i=>w i+t*((if i=k then 1 else 0)-w i)):=by
  refine⟨fun i hi=>?_,?_⟩
  ·have a:=qQ7 (show 0<=1-t by grind) (g.1.nn i hi);by_cases e:i=k
   ·simp only[e,if_true];rw[e] at a;grind
   ·simp only[e,if_false];grind
  ·rw[q4E,wt,q9s,unit k hk,g.1.one];grind
 have e1:=qxA p W.one (cen n w p);have lhs:su n (fun i=>(w i+t*((if i=k then 1 else 0)-w i))*d2 (cen n w p) (p i))=s+t*(D-s):=by
  have a:=ql1 (f:=fun i=>d2 (cen n w p) (p i)) g.1.one g.2;have c:su n (fun i=>(if i=k then 1 else 0)*d2 (cen n w p) (p i))=D:=by rw[q9h (k:=k) _ hk (fun i _ h=>by rw[if_neg h];grind),eD];simp
  rw[ql (g:=fun i=>w i*d2 (cen n w p) (p i)+t*((if i=k then 1 else 0)*d2 (cen n w p) (p i)-w i*d2 (cen n w p) (p i))) (fun i _=>by grind),q4E,wt,q9s,a,c]
 have cm:=qt5 n w (fun i=>(if i=k then 1 else 0)-w i) t p;have cx:cen n (fun i=>(if i=k then 1 else 0)-w i) p=⟨(p k).x-(cen n w p).x,(p k).y-(cen n w p).y,(p k).z-(cen n w p).z⟩:=by have u:=qJV p hk;have ux:=congrArg V3.x u;have uy:=congrArg V3.y u;have uz:=congrArg V3.z u;rw[<-ux,<-uy,<-uz];unfold cen;simp only[V3.mk.injEq];refine⟨?_,?_,?_⟩<;>rw[<-q9s]<;>exact ql fun i _=>by grind
 have dd:d2 (cen n w p) (cen n (fun i=>w i+t*((if i=k then 1 else 0)-w i)) p)=t*t*D:=by rw[cm,cx,eD];unfold d2;grind
 rw[lhs,dd] at e1;obtain⟨w',s',g',h',_⟩:=qKU n p _ _ W (qON _);obtain⟨b',hb',hp'⟩:=qya n w';have:=hmax w' s' g' ⟨b',hb',hp'⟩;have gain:=qQz t0 (show 0<D-s by grind);have:t*t*D*2=t*(D-s):=by rw[<-tD];grind
 grind
def qLU(n:Nat)(p:Nat->V3)(w:Nat->Rat):Prop:=∀v:Nat->Rat,(∀i,i<n->w i=0->v i=0)->su n v=0->cen n v p=⟨0,0,0⟩->∀i,i<n->v i=0
theorem qCz{n:Nat}{p:Nat->V3}:∀(c:Nat) {w:Nat->Rat} {s:Rat},Least n p w s->cnt n w<=c->∃w',Least n p w' s/\qLU n p w':=by
 intro c;induction c with
 | zero=>
  intro w s hw hc;obtain⟨j,hj,hne⟩:=qxR (n:=n) (f:=w) (by rw[hw.good.1.one];decide);have:=qE4 (n:=n) (w:=w) (v:=fun _=>0) (k:=j) (fun _ _ _=>rfl) hj hne rfl;omega
 | succ c ih=>
  intro w s hw hc;by_cases hi:qLU n p w
  ·exact⟨w,hw,hi⟩
  ·unfold qLU at hi;obtain⟨v,hv⟩:=qQQ.1 hi;obtain⟨vz,hv⟩:=qQy.1 hv;obtain⟨v0,hv⟩:=qQy.1 hv;obtain⟨vc,hv⟩:=qQy.1 hv;have neg:∃k,k<n/\v k<0:=by apply qPn;intro hh;exact hv (qr3 (fun i hi=>by apply qPn;intro h';exact hh ⟨i,hi,by grind⟩) v0)
   obtain⟨t,t0,a1,a2,a3⟩:=qGv hw.good.1 v0 vz neg;have cs:cen n (fun i=>w i+t*v i) p=cen n w p:=by rw[qt5,vc];rcases hcw:cen n w p with⟨x,y,z⟩;simp only[V3.mk.injEq];refine⟨?_,?_,?_⟩<;>grind
   refine ih (w:=fun i=>w i+t*v i) (s:=s) ⟨⟨a1,fun i hi hne=>?_⟩,fun i hi=>?_⟩ (by omega)
   ·rw[cs];exact hw.good.2 i hi fun e=>hne (a3 i hi e)
   ·rw[cs];exact hw.all i hi
variable {p:Nat->V3}
theorem kernel:∀(m n:Nat) (M:Nat->Nat->Rat),m<n->∃x:Nat->Rat,(∃j,j<n/\x j≠0)/\∀i,i<m->su n (fun j=>M i j*x j)=0
 | 0,n,_,h=>⟨fun _=>1,⟨0,h,by decide⟩,fun i hi=>by omega⟩
 | m+1,0,_,h=>by omega
 | m+1,n+1,M,h=>by
  by_cases hz:∀i,i<m+1->M i n=0
  ·refine⟨fun j=>if j=n then 1 else 0,⟨n,by omega,by simp⟩,fun i hi=>?_⟩;rw[q9h (k:=n) _ (by omega) (fun j _ hne=>by simp[hne])];simp[hz i hi]
  ·obtain⟨k,hk⟩:=qQQ.1 hz;obtain⟨hk,ha⟩:=qQy.1 hk;have inv:M k n*(M k n)⁻¹=1:=qQJ _ ha;obtain⟨x,⟨j,hj,hx⟩,he⟩:=kernel m n (fun i j=>M (if i=k then m else i) j-M (if i=k then m else i) n*(M k n)⁻¹*M k j) (by omega);refine⟨fun j=>if j=n then -((M k n)⁻¹*su n (fun j=>M k j*x j)) else x j,⟨j,by omega,by simpa[show j≠n by omega] using hx⟩,fun i hi=>?_⟩;simp only[su,if_true];rw[ql (g:=fun j=>M i j*x j) (fun j hj=>by rw[if_neg (by omega)])];by_cases hik:i=k
   ·subst hik;grind
   ·have e:∃i',i'<m/\(if i'=k then m else i')=i:=by
     by_cases him:i=m
     ·exact⟨k,by omega,by simp[him]⟩
     ·exact⟨i,by omega,by simp[hik]⟩
    obtain⟨i',hi',e⟩:=e;have q:=he i' hi';simp only[e] at q;rw[ql (g:=fun j=>M i j*x j-M i n*(M k n)⁻¹*(M k j*x j)) (fun j _=>by grind),q9s,wt] at q;grind
theorem qz2 {n q:Nat}{L:Nat->Nat}(hL:∀j,j<q->L j<n)(u f:Nat->Rat):su n (fun i=>su q (fun j=>if L j=i then u j else 0)*f i)=su q (fun j=>u j*f (L j)):=by rw[ql (g:=fun i=>su q (fun j=>(if L j=i then u j else 0)*f i)) (fun i _=>by rw[show su q (fun j=>if L j=i then u j else 0)*f i=f i*su q (fun j=>if L j=i then u j else 0) from by grind,<-wt];exact ql fun j _=>by grind),qCU];refine ql fun j hj=>?_;rw[q9h (k:=L j) _ (hL j hj) (fun i _ hne=>by simp[show ¬L j=i from fun e=>hne e.symm])];simp
theorem qz3 {n q:Nat}{L:Nat->Nat}(hL:∀j,j<q->L j<n)(u:Nat->Rat):su n (fun i=>su q (fun j=>if L j=i then u j else 0))=su q u:=by have:=qz2 hL u (fun _=>1);rw[ql (g:=fun i=>su q (fun j=>if L j=i then u j else 0)) (fun i _=>by grind)] at this;rw[this];exact ql fun j _=>by grind
theorem qNC {q:Nat}{L:Nat->Nat}(inj:∀j k,j<q->k<q->L j=L k->j=k)(u:Nat->Rat){k:Nat}(hk:k<q):su q (fun j=>if L j=L k then u j else 0)=u k:=by rw[q9h (k:=k) _ hk (fun j hj hne=>by rw[if_neg fun e=>hne (inj j k hj hk e)])];simp
theorem qt9 {n q:Nat}{L:Nat->Nat}(hL:∀j,j<q->L j<n)(u:Nat->Rat)(p:Nat->V3):cen n (fun i=>su q (fun j=>if L j=i then u j else 0)) p=cen q u (fun j=>p (L j)):=by unfold cen;rw[qz2 hL,qz2 hL,qz2 hL]
def qOa(q:Nat)(p:Nat->V3)(L:Nat->Nat):Prop:=∀u:Nat->Rat,su q u=0->cen q u (fun j=>p (L j))=⟨0,0,0⟩->∀j,j<q->u j=0
theorem qIO {q:Nat}{L:Nat->Nat}(h:qOa q p L):q<=4:=by
 apply qPn;intro hq;obtain⟨u,⟨j,hj,hne⟩,he⟩:=kernel 4 q (fun i j=>if i=0 then 1 else if i=1 then (p (L j)).x else if i=2 then (p (L j)).y else (p (L j)).z) (by omega);refine hne (h u ?_ ?_ j hj)
 ·have:=he 0 (by omega);simp only[if_true] at this;rw[<-this];exact ql fun i _=>by grind
 ·have e1:=he 1 (by omega);have e2:=he 2 (by omega);have e3:=he 3 (by omega);simp only[show ¬(1=0) by omega,show ¬(2=0) by omega,show ¬(3=0) by omega,show ¬(2=1) by omega,show ¬(3=1) by omega,show ¬(3=2) by omega,if_true,if_false] at e1 e2 e3;unfold cen;simp only[V3.mk.injEq];refine⟨?_,?_,?_⟩
  ·rw[<-e1];exact ql fun i _=>by grind
  ·rw[<-e2];exact ql fun i _=>by grind
  ·rw[<-e3];exact ql fun i _=>by grind
theorem qG0 {q:Nat}{L:Nat->Nat}(h:qOa q p L)(hz:∀j,j<q->(p (L j)).z=0):q<=3:=by
 apply qPn;intro hq;obtain⟨u,⟨j,hj,hne⟩,he⟩:=kernel 3 q (fun i j=>if i=0 then 1 else if i=1 then (p (L j)).x else (p (L j)).y) (by omega);refine hne (h u ?_ ?_ j hj)
 ·have:=he 0 (by omega);simp only[if_true] at this;rw[<-this];exact ql fun i _=>by grind
 ·have e1:=he 1 (by omega);have e2:=he 2 (by omega);simp only[show ¬(1=0) by omega,show ¬(2=0) by omega,show ¬(2=1) by omega,if_true,if_false] at e1 e2;unfold cen;simp only[V3.mk.injEq];refine⟨?_,?_,?_⟩
  ·rw[<-e1];exact ql fun i _=>by grind
  ·rw[<-e2];exact ql fun i _=>by grind
  ·rw[ql (g:=fun _=>0) (fun i hi=>by rw[hz i hi];grind),qan]
def Asc(q:Nat)(L:Nat->Nat):Prop:=∀j k,j<k->k<q->L j<L k
theorem Asc.inj {q:Nat}{L:Nat->Nat}(h:Asc q L):∀j k,j<q->k<q->L j=L k->j=k:=fun j k hj hk e=>by
 rcases Nat.lt_trichotomy j k with hh|hh|hh
 ·have:=h j k hh hk;omega
 ·exact hh
 ·have:=h k j hh hj;omega
theorem qs5:∀(n:Nat) (w:Nat->Rat),∃(q:Nat) (L:Nat->Nat),q<=n/\Asc q L/\(∀j,j<q->L j<n/\w (L j)≠0)/\∀i,i<n->w i≠0->∃j,j<q/\L j=i
 | 0,_=>⟨0,fun _=>0,by omega,fun j k _ hk=>by omega,fun j hj=>by omega,fun i hi=>by omega⟩
 | n+1,w=>by
  obtain⟨q,L,h0,h1,h2,h3⟩:=qs5 n w;by_cases hw:w n=0
  ·refine⟨q,L,by omega,h1,fun j hj=>⟨by have:=(h2 j hj).1;omega,(h2 j hj).2⟩,fun i hi hne=>?_⟩;by_cases e:i=n
   ·subst e;exact absurd hw hne
   ·exact h3 i (by omega) hne
  ·refine⟨q+1,fun j=>if j=q then n else L j,by omega,fun j k hjk hk=>?_,fun j hj=>?_,fun i hi hne=>?_⟩
   ·simp only[show ¬j=q by omega,if_false];by_cases e:k=q
    ·simp only[e,if_true];exact(h2 j (by omega)).1
    ·simp only[e,if_false];exact h1 j k hjk (by omega)
   ·by_cases e:j=q
    ·simp only[e,if_true];exact⟨by omega,hw⟩
    ·simp only[e,if_false];have:=h2 j (by omega);exact⟨by omega,this.2⟩
   ·by_cases e:i=n
    ·exact⟨q,by omega,by simp[e]⟩
    ·obtain⟨j,hj,hL⟩:=h3 i (by omega) hne;exact⟨j,by omega,by simp only[show ¬j=q by omega,if_false];exact hL⟩
structure Sup (n:Nat) (p:Nat->V3) (q:Nat) (L:Nat->Nat) (u:Nat->Rat) (s:Rat):Prop where
 lt:∀j,j<q->L j<n
 asc:Asc q L
 ind:qOa q p L
 one:su q u=1
 eq:∀j,j<q->d2 (cen q u fun j=>p (L j)) (p (L j))=s
 nn:∀j,j<q->0<=u j
 all:∀i,i<n->d2 (cen q u fun j=>p (L j)) (p i)<=s
theorem Sup.least {n q:Nat}{L:Nat->Nat}{u:Nat->Rat}{s:Rat}(h:Sup n p q L u s):Least n p (fun i=>su q (fun j=>if L j=i then u j else 0)) s:=by
 have c:=qt9 h.lt u p;refine⟨⟨⟨fun i _=>qJm fun j hj=>?_,by rw[qz3 h.lt];exact h.one⟩,fun i hi hne=>?_⟩,fun i hi=>by rw[c];exact h.all i hi⟩
 ·show (0:Rat)<=if L j=i then u j else 0
  split
  ·exact h.nn j hj
  ·exact Rat.le_refl
 ·rw[c];obtain⟨j,hj,hz⟩:=qxR hne;by_cases e:L j=i
  ·rw[<-e];exact h.eq j hj
  ·exact absurd (if_neg e) hz
theorem qNt {n:Nat}(p:Nat->V3)(hn:0<n):∃q L u s,Sup n p q L u s/\0<q:=by
 obtain⟨w0,s,h0⟩:=qIj p hn;obtain⟨w,hw,hi⟩:=qCz _ h0 (qON _);obtain⟨q,L,_,h1,h2,h3⟩:=qs5 n w;have e:∀i,i<n->su q (fun j=>if L j=i then w (L j) else 0)=w i:=fun i hi=>by
  by_cases hz:w i=0
  ·rw[ql (g:=fun _=>0) (fun j hj=>by
    by_cases e:L j=i
    ·rw[e,hz];simp
    ·rw[if_neg e]),qan,hz]
  ·obtain⟨k,hk,hL⟩:=h3 i hi hz;rw[<-hL,qNC h1.inj (fun j=>w (L j)) hk]
 have lt:∀j,j<q->L j<n:=fun j hj=>(h2 j hj).1;have c:cen q (fun j=>w (L j)) (fun j=>p (L j))=cen n w p:=by rw[<-qt9 lt (fun j=>w (L j)) p];unfold cen;simp only[V3.mk.injEq];refine⟨?_,?_,?_⟩<;>exact ql fun i hi=>by rw[e i hi]
 have one:su q (fun j=>w (L j))=1:=by rw[<-qz3 lt (fun j=>w (L j)),ql e,hw.good.1.one]
 refine⟨q,L,fun j=>w (L j),s,⟨lt,h1,fun u hu hc j hj=>?_,one,fun j hj=>by rw[c];exact hw.good.2 _ (lt j hj) (h2 j hj).2,fun j hj=>hw.good.1.nn _ (lt j hj),fun i hi=>by rw[c];exact hw.all i hi⟩,?_⟩
 ·have:=hi (fun i=>su q (fun j=>if L j=i then u j else 0)) (fun i _ hz=>by rw[ql (g:=fun _=>0) (fun j hj=>by rw[if_neg (fun e:L j=_=>(h2 j hj).2 (by rw[e];exact hz))]),qan]) (by rw[qz3 lt,hu]) (by rw[qt9 lt,hc]) (L j) (lt j hj);rw[qNC h1.inj u hj] at this;exact this
 ·apply Nat.pos_of_ne_zero;intro hq;subst hq;have z:(0:Rat)=1:=one;exact absurd z (by decide)
end Go.Eng

namespace Go.Eng
theorem Sup.cen_eq{n:Nat}{p:Nat->V3}{q:Nat}{L:Nat->Nat}{u:Nat->Rat}{s:Rat}(h:Sup n p q L u s):cen n (fun i=>su q (fun j=>if L j=i then u j else 0)) p=cen q u fun j=>p (L j):=qt9 h.lt u p
theorem qJo{n:Nat}{p:Nat->V3}{q q':Nat}{L L':Nat->Nat}{u u':Nat->Rat}{s s':Rat}(h:Sup n p q L u s)(h':Sup n p q' L' u' s'):s=s'/\cen q u (fun j=>p (L j))=cen q' u' (fun j=>p (L' j)):=by have:=qFp h.least h'.least;rw[h.cen_eq,h'.cen_eq] at this;exact this
def wts(t:Nat->Rat)(k:Nat):Nat->Rat:=fun j=>if j=0 then 1-su k t else t (j-1)
theorem qel:∀(k:Nat) (f:Nat->Rat),su (k+1) f=f 0+su k (fun j=>f (j+1))
 | 0,f=>by simp only[su];grind
 | k+1,f=>by
  rw[su,qel k f];simp only[su];grind
theorem qMS(t:Nat->Rat)(k:Nat):su (k+1) (wts t k)=1:=by rw[qel];unfold wts;rw[ql (g:=t) (fun j _=>by simp)];simp only[if_true];grind
def qwN(c:Nat->V3)(i k:Nat):Rat:=2*qda ⟨(c (i+1)).x-(c 0).x,(c (i+1)).y-(c 0).y,(c (i+1)).z-(c 0).z⟩ ⟨(c (k+1)).x-(c 0).x,(c (k+1)).y-(c 0).y,(c (k+1)).z-(c 0).z⟩
theorem qLH(t:Nat->Rat)(k:Nat)(c:Nat->V3):cen (k+1) (wts t k) c=⟨(c 0).x+su k (fun j=>t j*((c (j+1)).x-(c 0).x)),(c 0).y+su k (fun j=>t j*((c (j+1)).y-(c 0).y)),(c 0).z+su k (fun j=>t j*((c (j+1)).z-(c 0).z))⟩:=by
 have key:∀f:Nat->Rat,su (k+1) (fun j=>wts t k j*f j)=f 0+su k (fun j=>t j*(f (j+1)-f 0)):=fun f=>by
  rw[qel,ql (g:=fun j=>t j*f (j+1)) (fun j _=>by unfold wts;simp)];have e:su k (fun j=>t j*(f (j+1)-f 0))=su k (fun j=>t j*f (j+1))-f 0*su k t:=by rw[<-wt,<-q9s];exact ql fun j _=>by grind
  rw[e];unfold wts;simp only[if_true];grind
 unfold cen;rw[key fun j=>(c j).x,key fun j=>(c j).y,key fun j=>(c j).z]
theorem qDd(t:Nat->Rat)(k:Nat)(c:Nat->V3)(i:Nat):su k (fun j=>qwN c i j*t j)=d2 (c 0) (c (i+1))+d2 (cen (k+1) (wts t k) c) (c 0)-d2 (cen (k+1) (wts t k) c) (c (i+1)):=by
 rw[qLH];have e:su k (fun j=>qwN c i j*t j)=2*(((c (i+1)).x-(c 0).x)*su k (fun j=>t j*((c (j+1)).x-(c 0).x))+((c (i+1)).y-(c 0).y)*su k (fun j=>t j*((c (j+1)).y-(c 0).y))+((c (i+1)).z-(c 0).z)*su k (fun j=>t j*((c (j+1)).z-(c 0).z))):=by rw[<-wt,<-wt,<-wt,<-q4E,<-q4E,<-wt];exact ql fun j _=>by unfold qwN qda;grind
 rw[e];unfold d2;simp only;grind
theorem qDu(t:Nat->Rat)(k:Nat)(c:Nat->V3):(∀i,i<k->su k (fun j=>qwN c i j*t j)=d2 (c 0) (c (i+1)))↔∀j,j<k+1->d2 (cen (k+1) (wts t k) c) (c j)=d2 (cen (k+1) (wts t k) c) (c 0):=by
 constructor
 ·intro h j hj;cases j with
  | zero=>rfl
  | succ i=>
   have:=h i (by omega);rw[qDd] at this;grind
 ·intro h i hi;have:=h (i+1) (by omega);rw[qDd,this];grind
def swI(a b i:Nat):Nat:=if i=a then b else if i=b then a else i
theorem qxe{a b i k:Nat}(ha:a<k)(hb:b<k)(hi:i<k):swI a b i<k:=by unfold swI;split<;>(try split)<;>omega
theorem qH9(a b i:Nat):swI a b (swI a b i)=i:=by
 unfold swI;by_cases h1:i=a
 ·subst h1;by_cases h2:b=i
  ·simp[h2]
  ·simp[h2]
 ·by_cases h2:i=b
  ·subst h2;simp[h1]
  ·simp[h1,h2]
def gs(c i0:Nat)(M:Nat->Nat->Rat):Nat->Nat->Rat:=fun i j=>if i=c then M i0 j*(M i0 c)⁻¹ else M (swI c i0 i) j-M (swI c i0 i) c*(M i0 j*(M i0 c)⁻¹)
def gsb(c i0:Nat)(M:Nat->Nat->Rat)(b:Nat->Rat):Nat->Rat:=fun i=>if i=c then b i0*(M i0 c)⁻¹ else b (swI c i0 i)-M (swI c i0 i) c*(b i0*(M i0 c)⁻¹)
theorem qHU(k c i0:Nat)(M:Nat->Nat->Rat)(x:Nat->Rat)(i:Nat):su k (fun j=>gs c i0 M i j*x j)=gsb c i0 M (fun i=>su k fun j=>M i j*x j) i:=by
 unfold gs gsb;by_cases h:i=c
 ·simp only[h,if_true];rw[ql (g:=fun j=>(M i0 c)⁻¹*(M i0 j*x j)) (fun j _=>by grind),wt];grind
 ·simp only[h,if_false];rw[ql (g:=fun j=>M (swI c i0 i) j*x j-(M (swI c i0 i) c*(M i0 c)⁻¹)*(M i0 j*x j)) (fun j _=>by grind),q9s,wt];grind
theorem qKD{k c i0:Nat}{M:Nat->Nat->Rat}{b x:Nat->Rat}(hc:c<k)(hi0:i0<k)(hp:M i0 c≠0):qm2 k k (gs c i0 M) (gsb c i0 M b) x↔qm2 k k M b x:=by
 have inv:M i0 c*(M i0 c)⁻¹=1:=qQJ _ hp;constructor
 ·intro h;have h0:su k (fun j=>M i0 j*x j)=b i0:=by have:=h c hc;rw[qHU] at this;unfold gsb at this;simp only[if_true] at this;grind
  intro i hi;by_cases e:i=i0
  ·rw[e];exact h0
  ·have:=h (swI c i0 i) (qxe hc hi0 hi);rw[qHU] at this;unfold gsb at this;have ne:swI c i0 i≠c:=by intro z;have:=qH9 c i0 i;rw[z] at this;unfold swI at this;simp at this;exact e this.symm
   simp only[ne,if_false,qH9] at this;rw[h0] at this;grind
 ·intro h i hi;rw[qHU];unfold gsb;have h0:=h i0 hi0;by_cases e:i=c
  ·simp only[e,if_true];rw[h0]
  ·simp only[e,if_false];rw[h0,h _ (qxe hc hi0 hi)]
def qxD(k c:Nat)(M:Nat->Nat->Rat):Prop:=∀i j,i<k->j<c->M i j=if i=j then 1 else 0
theorem qI2{k c i0:Nat}{M:Nat->Nat->Rat}(h:qxD k c M)(hc:c<k)(hci:c<=i0)(hi0:i0<k)(hp:M i0 c≠0):qxD k (c+1) (gs c i0 M):=by
 have inv:M i0 c*(M i0 c)⁻¹=1:=qQJ _ hp;intro i j hi hj;unfold gs;by_cases e:j=c
 ·subst e;by_cases ei:i=j
  ·simp only[ei,if_true];exact inv
  ·simp only[ei,if_false];grind
 ·have hj':j<c:=by omega
  have z0:M i0 j=0:=by rw[h i0 j hi0 hj',if_neg (by omega)]
  by_cases ei:i=c
  ·simp only[ei,if_true];rw[z0,if_neg (by omega)];grind
  ·simp only[ei,if_false];rw[z0,h _ j (qxe hc hi0 hi) hj'];unfold swI;by_cases e0:i=i0
   ·subst e0;simp only[ei,if_false,if_true];rw[if_neg (show ¬c=j by omega),if_neg (show ¬i=j by omega)];grind
   ·simp only[ei,e0,if_false];grind
def q5H(k:Nat)(pv:Nat->(Nat->Nat->Rat)->Option Nat):Nat->Nat->(Nat->Nat->Rat)->Option (Nat->Nat->Rat)
 | 0,_,M=>some M
 | m+1,c,M=>match pv c M with
  | none=>none
  | some i0=>q5H k pv m (c+1) (gs c i0 M)
structure Pivots (k:Nat) (pv:Nat->(Nat->Nat->Rat)->Option Nat):Prop where
 some:∀c M i,c<k->pv c M=some i->c<=i/\i<k/\M i c≠0
 none:∀c M i,pv c M=none->c<=i->i<k->M i c=0
theorem ql6{k:Nat}{pv:Nat->(Nat->Nat->Rat)->Option Nat}(hpv:Pivots k pv):∀(m c:Nat) (M N:Nat->Nat->Rat),c+m=k->qxD k c M->q5H k pv m c M=some N ->
  qxD k k N/\∀r x,qm2 k k N (fun i=>N i r) x↔qm2 k k M (fun i=>M i r) x
 | 0,c,M,N,hc,hu,h=>by
  simp only[q5H,qOL] at h;subst h;have:c=k:=by omega
  subst this;exact⟨hu,fun _ _=>Iff.rfl⟩
 | m+1,c,M,N,hc,hu,h=>by
  simp only[q5H] at h;cases hp:pv c M with
  | none=>rw[hp] at h;cases h
  | some i0=>
   rw[hp] at h;obtain⟨p1,p2,p3⟩:=hpv.some c M i0 (by omega) hp;obtain⟨q1,q2⟩:=ql6 hpv m (c+1) _ N (by omega) (qI2 hu (by omega) p1 p2 p3) h;refine⟨q1,fun r x=>(q2 r x).trans ?_⟩;exact qKD (b:=fun i=>M i r) (by omega) p2 p3
theorem qr5{k:Nat}{pv:Nat->(Nat->Nat->Rat)->Option Nat}(hpv:Pivots k pv):∀(m c:Nat) (M:Nat->Nat->Rat),c+m=k->qxD k c M->q5H k pv m c M=none ->
  ∃x:Nat->Rat,(∃j,j<k/\x j≠0)/\qm2 k k M (fun _=>0) x
 | 0,c,M,hc,hu,h=>by simp only[q5H] at h;cases h
 | m+1,c,M,hc,hu,h=>by
  simp only[q5H] at h;cases hp:pv c M with
  | none=>
   refine⟨fun j=>(if j<c then -(M j c) else 0)+(if j=c then 1 else 0),⟨c,by omega,by show (if c<c then -(M c c) else 0)+(if c=c then 1 else 0)≠(0:Rat);rw[if_neg (by omega),if_pos rfl];intro z;grind⟩,fun i hi=>?_⟩;show su k (fun j=>M i j*((if j<c then -(M j c) else 0)+(if j=c then 1 else 0)))=0;rw[ql (g:=fun j=>M i j*(if j<c then -(M j c) else 0)+M i j*(if j=c then 1 else 0)) (fun j _=>by grind),q4E];have e2:su k (fun j=>M i j*(if j=c then 1 else 0))=M i c:=by rw[q9h (k:=c) _ (by omega) (fun j _ hne=>by simp[hne])];simp
   rw[e2];by_cases h3:i<c
   ·rw[q9h (k:=i) _ hi (fun j hj hne=>by
     by_cases hj':j<c
     ·rw[hu i j hi hj',if_neg (fun z=>hne z.symm)];grind
     ·rw[if_neg hj'];grind),if_pos h3,hu i i hi h3,if_pos rfl];grind
   ·rw[ql (g:=fun _=>0) (fun j hj=>by
     by_cases hj':j<c
     ·rw[hu i j hi hj',if_neg (by omega)];grind
     ·rw[if_neg hj'];grind),qan,hpv.none c M i hp (by omega) hi];grind
  | some i0=>
   rw[hp] at h;obtain⟨p1,p2,p3⟩:=hpv.some c M i0 (by omega) hp;obtain⟨x,hx,hs⟩:=qr5 hpv m (c+1) _ (by omega) (qI2 hu (by omega) p1 p2 p3) h;refine⟨x,hx,(qKD (b:=fun _=>0) (by omega) p2 p3).1 ?_⟩;intro i hi;rw[hs i hi];unfold gsb;split<;>grind
theorem qdb{k:Nat}{N:Nat->Nat->Rat}(h:qxD k k N)(b x:Nat->Rat):qm2 k k N b x↔∀i,i<k->x i=b i:=by
 have e:∀i,i<k->su k (fun j=>N i j*x j)=x i:=fun i hi=>by rw[q9h (k:=i) _ hi (fun j hj hne=>by rw[h i j hi hj,if_neg (fun z=>hne z.symm)];grind),h i i hi hi,if_pos rfl];grind
 constructor
 ·intro hs i hi;rw[<-e i hi];exact hs i hi
 ·intro hs i hi;rw[e i hi];exact hs i hi
variable {k:Nat}
def Ind(q:Nat)(c:Nat->V3):Prop:=∀u:Nat->Rat,su q u=0->cen q u c=⟨0,0,0⟩->∀j,j<q->u j=0
def dif(c:Nat->V3)(t:Nat->Rat)(k:Nat):V3:=⟨su k fun j=>t j*((c (j+1)).x-(c 0).x),su k fun j=>t j*((c (j+1)).y-(c 0).y),su k fun j=>t j*((c (j+1)).z-(c 0).z)⟩
theorem qDj (c:Nat->V3)(t:Nat->Rat)(k i:Nat):su k (fun j=>qwN c i j*t j)=2*(((c (i+1)).x-(c 0).x)*(dif c t k).x+((c (i+1)).y-(c 0).y)*(dif c t k).y+((c (i+1)).z-(c 0).z)*(dif c t k).z):=by unfold dif;simp only;rw[<-wt,<-wt,<-wt,<-q4E,<-q4E,<-wt];exact ql fun j _=>by unfold qwN qda;grind
theorem qFU (c:Nat->V3)(u:Nat->Rat)(k:Nat)(h:su (k+1) u=0):cen (k+1) u c=dif c (fun j=>u (j+1)) k:=by
 have key:∀f:Nat->Rat,su (k+1) (fun j=>u j*f j)=su k (fun j=>u (j+1)*(f (j+1)-f 0)):=fun f=>by
  have e:su k (fun j=>u (j+1)*(f (j+1)-f 0))=su k (fun j=>u (j+1)*f (j+1))-f 0*su k (fun j=>u (j+1)):=by rw[<-wt,<-q9s];exact ql fun j _=>by grind
  rw[qel] at h;rw[qel,e];grind
 unfold cen dif;rw[key fun j=>(c j).x,key fun j=>(c j).y,key fun j=>(c j).z]
theorem qc2 {c:Nat->V3}:Ind (k+1) c↔∀t:Nat->Rat,(∀i,i<k->su k (fun j=>qwN c i j*t j)=0)->∀j,j<k->t j=0:=by
 constructor
 ·intro h t ht j hj;obtain⟨u,hu⟩:∃u:Nat->Rat,u=fun j=>if j=0 then -(su k t) else t (j-1):=⟨_,rfl⟩
  have us:(fun j=>u (j+1))=t:=by funext j;rw[hu];simp
  have u0:su (k+1) u=0:=by rw[qel,us,hu];simp;try grind
  have dz:dif c t k=⟨0,0,0⟩:=by
   have e:su k (fun i=>t i*su k (fun j=>qwN c i j*t j))=0:=by rw[ql (g:=fun _=>0) (fun i hi=>by rw[ht i hi];grind),qan]
   have e2:su k (fun i=>t i*su k (fun j=>qwN c i j*t j))=2*qda (dif c t k) (dif c t k):=by rw[ql (g:=fun i=>2*((dif c t k).x*(t i*((c (i+1)).x-(c 0).x))+(dif c t k).y*(t i*((c (i+1)).y-(c 0).y))+(dif c t k).z*(t i*((c (i+1)).z-(c 0).z)))) (fun i _=>by rw[qDj];grind),wt,q4E,q4E,wt,wt,wt];unfold qda dif;grind
   rw[e2] at e;have:d2 (dif c t k) ⟨0,0,0⟩<=0:=by rw[qAE];unfold qda at *;simp only at *;grind
   exact qCc this
  have:=h u u0 (by rw[qFU c u k u0,us,dz]) (j+1) (by omega);rw[hu] at this;simpa using this
 ·intro h u u0 hc j hj;have d:dif c (fun j=>u (j+1)) k=⟨0,0,0⟩:=by rw[<-qFU c u k u0,hc]
  have z:=h (fun j=>u (j+1)) fun i _=>by rw[qDj,d];grind
  cases j with
  | zero=>
   rw[qel,ql (g:=fun _=>0) (fun j hj=>z j hj),qan] at u0;grind
  | succ j=>exact z j (by omega)
structure Bl (k:Nat) (c:Nat->V3) (t:Nat->Rat):Prop where
 ind:Ind (k+1) c
 eq:∀i,i<k->su k (fun j=>qwN c i j*t j)=d2 (c 0) (c (i+1))
theorem qLC {c:Nat->V3}{t t':Nat->Rat}(h:Bl k c t)(h':Bl k c t'):∀j,j<k->t j=t' j:=fun j hj=>by have:=qc2.1 h.ind (fun j=>t j-t' j) (fun i hi=>by rw[ql (g:=fun j=>qwN c i j*t j-qwN c i j*t' j) (fun j _=>by grind),q9s,h.eq i hi,h'.eq i hi];grind) j hj;grind
def qvH(c:Nat->V3)(k:Nat):Nat->Nat->Rat:=fun i j=>if j=k then d2 (c 0) (c (i+1)) else qwN c i j
theorem qz5 (c:Nat->V3)(k i:Nat)(x:Nat->Rat):su k (fun j=>qvH c k i j*x j)=su k (fun j=>qwN c i j*x j):=ql fun j hj=>by unfold qvH;rw[if_neg (by omega)]
theorem qHP {c:Nat->V3}{pv:Nat->(Nat->Nat->Rat)->Option Nat}(hpv:Pivots k pv){N:Nat->Nat->Rat}(h:q5H k pv k 0 (qvH c k)=some N):Bl k c fun i=>N i k:=by
 obtain⟨h1,h2⟩:=ql6 hpv k 0 _ N (by omega) (fun i j _ hj=>by omega) h;have sol:qm2 k k (qvH c k) (fun i=>qvH c k i k) (fun i=>N i k):=(h2 k _).1 ((qdb h1 _ _).2 fun i _=>rfl);refine⟨qc2.2 fun t ht j hj=>?_,fun i hi=>?_⟩
 ·have s2:qm2 k k (qvH c k) (fun i=>qvH c k i k) (fun i=>N i k+t i):=fun i hi=>by have a:=sol i hi;have b:=ht i hi;rw[<-qz5] at b;rw[ql (g:=fun j=>qvH c k i j*N j k+qvH c k i j*t j) (fun j _=>by grind),q4E,b,a];grind
  have:=(qdb h1 _ _).1 ((h2 k _).2 s2) j hj;grind
 ·have:=sol i hi;rw[qz5] at this;rw[this];unfold qvH;simp
theorem qGJ {c:Nat->V3}{pv:Nat->(Nat->Nat->Rat)->Option Nat}(hpv:Pivots k pv)(h:q5H k pv k 0 (qvH c k)=none):¬Ind (k+1) c:=by obtain⟨x,⟨j,hj,hne⟩,hs⟩:=qr5 hpv k 0 _ (by omega) (fun i j _ hj=>by omega) h;intro hi;exact hne (qc2.1 hi x (fun i hi=>by rw[<-qz5];exact hs i hi) j hj)
theorem qJp {n:Nat}{p:Nat->V3}{L:Nat->Nat}{u:Nat->Rat}{s:Rat}(h:Sup n p (k+1) L u s):Bl k (fun j=>p (L j)) (fun j=>u (j+1))/\∀j,j<k+1->u j=wts (fun j=>u (j+1)) k j:=by
 have e:∀j,j<k+1->u j=wts (fun j=>u (j+1)) k j:=fun j hj=>by
  have:=h.one;rw[qel] at this;unfold wts;cases j with
  | zero=>simp only[if_true];grind
  | succ j=>simp
 refine⟨⟨h.ind,(qDu _ k _).2 fun j hj=>?_⟩,e⟩;have c:cen (k+1) (wts (fun j=>u (j+1)) k) (fun j=>p (L j))=cen (k+1) u fun j=>p (L j):=by unfold cen;simp only[V3.mk.injEq];refine⟨?_,?_,?_⟩<;>exact ql fun i hi=>by rw[<-e i hi]
 rw[c,h.eq j hj,h.eq 0 (by omega)]
theorem qK1 {n:Nat}{p:Nat->V3}{L:Nat->Nat}{t:Nat->Rat}(h:Bl k (fun j=>p (L j)) t)(lt:∀j,j<k+1->L j<n)(asc:Asc (k+1) L)(nn:∀j,j<k+1->0<=wts t k j)(all:∀i,i<n->d2 (cen (k+1) (wts t k) fun j=>p (L j)) (p i)<=d2 (cen (k+1) (wts t k) fun j=>p (L j)) (p (L 0))) :Sup n p (k+1) L (wts t k) (d2 (cen (k+1) (wts t k) fun j=>p (L j)) (p (L 0))):=⟨lt,asc,h.ind,qMS t k,(qDu t k _).1 h.eq,nn,all⟩
end Go.Eng

namespace Go.Eng
variable {n:Nat}
def nxL(l:List Nat):Nat:=match l.getLast? with
 | none=>0
 | some a=>a+1
def exL(n:Nat)(l:List Nat):List (List Nat):=(List.range' (nxL l) (n-nxL l)).map fun i=>l++[i]
def lsN(n:Nat):Nat->List (List Nat)
 | 0=>[[]]
 | k+1=>(lsN n k).flatMap (exL n)
theorem qHd (l:List Nat)(i:Nat):nxL (l++[i])=i+1:=by unfold nxL;rw[List.getLast?_concat]
theorem qHa {l:List Nat}(h:∀a,a∈l->a<n):nxL l<=n:=by
 unfold nxL;cases e:l.getLast? with
 | none=>exact qQ8 _
 | some a=>exact h a (List.mem_of_getLast? e)
theorem qNm {l:List Nat}(h:l.Pairwise (·<·)):∀a,a∈l->a<nxL l:=by
 intro a ha;rcases List.eq_nil_or_concat l with e|⟨l',b,e⟩
 ·subst e;cases ha
 ·rw[List.concat_eq_append] at e;subst e;rw[qHd];rcases qPa.1 ha with q|q
  ·have:=(List.pairwise_append.1 h).2.2 a q b (qPf.2 rfl);omega
  ·rw[qPf.1 q];omega
theorem qHK {l L:List Nat}:L∈exL n l↔∃i,nxL l<=i/\i<n/\L=l++[i]:=by
 unfold exL;rw[qPE];constructor
 ·rintro ⟨i,hi,e⟩;rw[List.mem_range'] at hi;obtain⟨j,h1,h2⟩:=hi;exact⟨i,by omega,by omega,e.symm⟩
 ·rintro ⟨i,h1,h2,e⟩;exact⟨i,by rw[List.mem_range'];exact⟨i-nxL l,by omega,by omega⟩,e.symm⟩
theorem qnp{n:Nat}:∀{k:Nat} {L:List Nat},L∈lsN n k↔L.length=k/\(∀a,a∈L->a<n)/\L.Pairwise (·<·)
 | 0,L=>by
  unfold lsN;rw[qPf];constructor
  ·intro e;subst e;exact⟨rfl,(fun a h=>by cases h),List.Pairwise.nil⟩
  ·intro h;exact qQi h.1
 | k+1,L=>by
  unfold lsN;rw[qQR];constructor
  ·rintro ⟨l,hl,hL⟩;obtain⟨h1,h2,h3⟩:=qnp.1 hl;obtain⟨i,i1,i2,e⟩:=qHK.1 hL;subst e;refine⟨by rw[qP6,h1];rfl,fun a ha=>?_,List.pairwise_append.2 ⟨h3,List.pairwise_singleton _ _,fun a ha b hb=>?_⟩⟩
   ·rcases qPa.1 ha with q|q
    ·exact h2 a q
    ·rw[qPf.1 q];exact i2
   ·rw[qPf.1 hb];have:=qNm h3 a ha;omega
  ·rintro ⟨h1,h2,h3⟩;rcases List.eq_nil_or_concat L with e|⟨l,i,e⟩
   ·subst e;cases h1
   ·rw[List.concat_eq_append] at e;subst e;have hp:=List.pairwise_append.1 h3;refine⟨l,qnp.2 ⟨by rw[qP6] at h1;exact Nat.succ.inj h1,fun a ha=>h2 a (qPF _ ha),hp.1⟩,qHK.2 ⟨i,?_,h2 i (qPt _ (qPf.2 rfl)),rfl⟩⟩;refine qHa fun a ha=>hp.2.2 a ha i (qPf.2 rfl)
theorem qCK (n:Nat)(l:List Nat):(exL n l).length<=n:=by unfold exL;rw[qOV,List.length_range'];omega
theorem qsV{α β:Type}(f:α->List β)(n:Nat)(h:∀a,(f a).length<=n):∀l:List α,(l.flatMap f).length<=l.length*n
 | []=>by simp
 | a::l=>by
  rw[List.flatMap_cons,qP6,qPg,Nat.succ_mul];have:=qsV f n h l;have:=h a;omega
theorem qBN(n:Nat):∀k,(lsN n k).length<=n^k
 | 0=>by unfold lsN;simp
 | k+1=>by
  unfold lsN;refine qOP (qsV _ n (qCK n) _) ?_;rw[qQ9];exact qPb _ (qBN n k)
def qiQ(P:List Nat->Bool)(n:Nat):Nat->Nat->Option (List Nat)
 | _,0=>none
 | k,m+1=>match (lsN n k).find? P with
  | some L=>some L
  | none=>qiQ P n (k+1) m
theorem qvA{P:List Nat->Bool}{n:Nat}:∀{m k:Nat} {L:List Nat},qiQ P n k m=some L->P L=true/\∃j,k<=j/\j<k+m/\L∈lsN n j
 | 0,k,L,h=>by cases h
 | m+1,k,L,h=>by
  unfold qiQ at h;split at h
  ·next L' e=>cases h;exact⟨qQ0 e,k,qON _,by omega,qPG e⟩
  ·obtain⟨h1,j,h2,h3,h4⟩:=qvA h;exact⟨h1,j,by omega,by omega,h4⟩
theorem qtw{P:List Nat->Bool}{n:Nat}:∀{m k:Nat},qiQ P n k m=none->∀j,k<=j->j<k+m->∀L,L∈lsN n j->P L=false
 | 0,k,_,j,h1,h2,_,_=>by omega
 | m+1,k,h,j,h1,h2,L,hL=>by
  unfold qiQ at h;split at h
  ·cases h
  ·next e=>
   by_cases q:j=k
   ·subst q;exact(Bool.not_eq_true _).mp (List.find?_eq_none.1 e L hL)
   ·exact qtw h j (by omega) (by omega) L hL
theorem qJ3 {q:Nat}{f:Nat->Nat}(h:Asc q f):((List.range q).map f).Pairwise (·<·):=by rw[List.pairwise_iff_getElem];intro i j hi hj hij;rw[qOV,qPm] at hi hj;rw[List.getElem_map,List.getElem_map,List.getElem_range,List.getElem_range];exact h i j hij hj
theorem qJC {L:List Nat}(h:L.Pairwise (·<·))(d:Nat):Asc L.length (fun j=>L.getD j d):=fun i j hij hj=>by show L.getD i d<L.getD j d;rw[qOM,qOM,qOS hj,qOS (by omega)];exact List.pairwise_iff_getElem.1 h i j (by omega) hj hij
theorem qFh {q:Nat}{f:Nat->Nat}{d j:Nat}(h:j<q):((List.range q).map f).getD j d=f j:=by rw[qOM,qOU,qPp h];rfl
theorem qLl {q:Nat}{u:Nat->Rat}{c c':Nat->V3}(h:∀j,j<q->c j=c' j):cen q u c=cen q u c':=by unfold cen;simp only[V3.mk.injEq];refine⟨?_,?_,?_⟩<;>exact ql fun i hi=>by rw[h i hi]
theorem Sup.congr {p:Nat->V3}{q:Nat}{f g:Nat->Nat}{u:Nat->Rat}{s:Rat}(h:Sup n p q f u s)(e:∀j,j<q->f j=g j):Sup n p q g u s:=by
 have ec:∀v:Nat->Rat,(cen q v fun j=>p (g j))=cen q v fun j=>p (f j):=fun v=>qLl fun j hj=>by rw[e j hj]
 refine⟨fun j hj=>by rw[<-e j hj];exact h.lt j hj,fun j k hjk hk=>by rw[<-e j (by omega),<-e k hk];exact h.asc j k hjk hk,fun v h1 h2=>h.ind v h1 (by rw[<-ec];exact h2),h.one,fun j hj=>?_,h.nn,fun i hi=>?_⟩
 ·rw[ec,<-e j hj];exact h.eq j hj
 ·rw[ec];exact h.all i hi
theorem qIY (p:Nat->V3)(hn:0<n)(d:Nat):∃L:List Nat,∃u s,0<L.length/\L.length<=4/\((∀i,i<n->(p i).z=0)->L.length<=3)/\(∀a,a∈L->a<n)/\L.Pairwise (·<·)/\Sup n p L.length (fun j=>L.getD j d) u s:=by
 obtain⟨q,f,u,s,h,hq⟩:=qNt p hn;refine⟨(List.range q).map f,u,s,by rw[qOV,qPm];exact hq,by rw[qOV,qPm];exact qIO h.ind,fun hz=>by rw[qOV,qPm];exact qG0 h.ind fun j hj=>hz _ (h.lt j hj),fun a ha=>?_,qJ3 h.asc,?_⟩
 ·obtain⟨j,hj,e⟩:=qPE.1 ha;rw[<-e];exact h.lt j (qPH.1 hj)
 ·rw[qOV,qPm];exact h.congr fun j hj=>(qFh hj).symm
end Go.Eng

namespace Go.Eng
inductive Sh where
 | int (k:IntKind)|bool|str|sl (row:List Sh)
inductive U where
 | i (n:Int)|b (x:Bool)|s (l:qOK)|l (rows:List (List U))
abbrev R:=List (List U)
def U.toI:U->Int|.i n=>n|_=>0
def U.toB:U->Bool|.b x=>x|_=>false
def U.toS:U->List UInt8|.s x=>x|_=>[]
def U.toR:U->R|.l x=>x|_=>[]
def zJ(l:R)(i:Int)(j:Nat):U:=(l.getD i.toNat []).getD j (.i 0)
def cI(l:R)(i:Int)(j:Nat):Int:=(zJ l i j).toI
def cB(l:R)(i:Int)(j:Nat):Bool:=(zJ l i j).toB
def cS(l:R)(i:Int)(j:Nat):List UInt8:=(zJ l i j).toS
def cR(l:R)(i:Int)(j:Nat):R:=(zJ l i j).toR
def qg(l:R):Int:=(l.length:Int)
def zE(l m:R):R:=l++m
def qAa(row:List U)(off:Nat)(us:List U):List U:=(List.range (max row.length (off+us.length))).map fun j=>if off<=j/\j<off+us.length then us.getD (j-off) (.i 0) else row.getD j (.i 0)
def qcN(l:R)(i:Int)(off:Nat)(us:List U):R:=l.set i.toNat (qAa (l.getD i.toNat []) off us)
def qCf(l:R)(lo hi:Int):R:=(l.take hi.toNat).drop lo.toNat
def qv(s:qOK):Int:=(s.length:Int)
def sat(s:qOK)(i:Int):Int:=((s.getD i.toNat 0).toNat:Int)
def qfh(s:qOK)(lo hi:Int):List UInt8:=(s.take hi.toNat).drop lo.toNat
def qgU(s t:qOK):List UInt8:=s++t
def seq(s t:qOK):Bool:=s==t
def slt(s t:qOK):Bool:=Op.bytesLess s t
def qo(k:IntKind)(x y:Int):Int:=k.wrap (x+y)
def wo(k:IntKind)(x y:Int):Int:=k.wrap (x-y)
def wd(k:IntKind)(x y:Int):Int:=k.wrap (x*y)
def qev(k:IntKind)(x y:Int):Int:=k.wrap (x.tdiv y)
def qdN(x y:Int):Int:=x.tmod y
def q3C(k:IntKind)(x:Int):Int:=k.wrap x
def ieq(x y:Int):Bool:=x==y
def ine(x y:Int):Bool:=x != y
def ilt(x y:Int):Bool:=decide (x<y)
def ile(x y:Int):Bool:=decide (x<=y)
def qzG(x y:Int):Int:=if y>x then y else x
def qo8(x y:Int):Int:=if y<x then y else x
def inb(i n:Int):Bool:=decide (0<=i)&&decide (i<n)
def q7O(i n:Int):Bool:=decide (0<=i)&&decide (i<=n)
def beq(x y:Bool):Bool:=x==y
def qqf(l:List Int)(i:Int):Int:=l.getD i.toNat 0
def qHC(x y:Bool):Bool:=x&&y
inductive Ex where
 | normal|exit (id:Nat)|ret
inductive AV where
 | undef|skip|yld
 | blit (b:Bool)|bool (b:Bool)
 | ilit (k:IntKind) (n:Int)|int (k:IntKind) (n:Int)
 | str (s:qOK)
 | nilp|ptr (b off:Nat)
 | eptr (sh:List Sh) (l:R) (i:Int) (off:Nat)
 | mptr (c:Bool) (sh:List Sh) (l:R) (i:Int) (off:Nat)
 | vptr (b:Nat) (i:Int) (off:Nat)
 | vsub (b:Nat) (i:Int)
 | aptr (b o:Nat) (i:Int)
 | asub (b o n:Nat) (i m:Int)
 | nils|imm (sh:List Sh) (l:R)|full (sh:List Sh) (l:R)|vec (b:Nat)
 | nilf|fn (f:FuncId) (first caps:List AV)
 | agg (cs:List AV)|tuple (vs:List AV)
 | bagg (cs:List AV) (k:IntKind) (n:Nat) (l:R)
inductive Blk where
 | cells (cs:List AV)|big (cs:List AV) (k:IntKind) (n:Nat) (l:R)|vec (e:TypeId) (sh:List Sh) (l:R)|frz (e:TypeId) (sh:List Sh) (l:R)|dead
structure St where
 t:List AV
 fs:List (List AV)
 h:List Blk
 pend:Option Ex:=none
inductive Tree (α:Type) where
 | leaf (a:α)|br (b:Bool) (t e:Tree α)|fail
def Tree.bind{α β:Type}:Tree α->(α->Tree β)->Tree β
 | .leaf a,f=>f a
 | .br b t e,f=>.br b (t.bind f) (e.bind f)
 | .fail,_=>.fail
def Tree.run{α:Type}:Tree α->Option α
 | .leaf a=>some a
 | .br b t e=>match b with|true=>t.run|false=>e.run
 | .fail=>none
def Tree.holds{α:Type}:Tree α->(α->Prop)->Prop
 | .leaf a,Q=>Q a
 | .br b t e,Q=>(b=true->t.holds Q)/\(b=false->e.holds Q)
 | .fail,_=>False
inductive TD where
 | none|bool|int (k:IntKind)|str|slice (e:TypeId) (es:Nat)|array (n:Nat) (e:TypeId) (es:Nat)
 | struct (fs:List (Nat×TypeId×Nat))|ptr (e:TypeId)|func
structure TI where
 d:TD
 size:Nat
 zero:List Value
 bytes:Nat
 eqok:Bool
 fok:Bool
def qIL(P:Program):TypeDesc->TD
 | .bool=>.bool
 | .int k=>.int k
 | .string=>.str
 | .slice e=>.slice e (P.cellsOf e)
 | .array n e=>.array n e (P.cellsOf e)
 | .struct fs=>.struct (fs.toList.map fun f=>(f.offset,f.type,P.cellsOf f.type))
 | .pointer e=>.ptr e
 | .func _ _ _=>.func
 | _=>.none
def qBr(P:Program)(t:TypeId):TI :=
  match P.info? t with
  | some i => { d := match P.underlying t with | some d => qIL P d | none => .none, size := i.size, zero := match i.zero with | some v => v.cells.toList | none => [], bytes := i.bytes,
                eqok:=match P.underlying t with|some (.struct fs)=>!P.stoodInHeld t&&!P.eqGuardType P.depth t&&fs.toList.all (fun f=>f.name != "_")|_=>false,
                fok:=match P.underlying t with|some (.struct fs)=>fs.toList.all (fun f=>(P.info? f.type).isSome)|_=>false }
  | none=>{ d:=.none,size:=0,zero:=[],bytes:=0,eqok:=false,fok:=false }
structure Env where
 tt:List (TypeId×TI)
 glob:List (Nat×AV)
 spec:List (FuncId×(List AV->List Blk->Tree (AV×List Blk)))
 body:List (FuncId×Func)
 loops:List ((FuncId×Nat)×(St->Tree (Ex×St)))
 nimp:Nat
 iter:List (FuncId×FuncId×Nat):=[]
 raws:List FuncId:=[]
 dels:List (FuncId×TypeId):=[]
def qNV:TI:={ d:=.none,size:=0,zero:=[],bytes:=0,eqok:=false,fok:=false }
def Env.ty(E:Env)(t:TypeId):TI:=((E.tt.find? fun x=>x.1==t).map (·.2)).getD qNV
def TD.known:TD->Bool
 | .none=>false
 | _=>true
def TD.isAgg:TD->Bool
 | .struct _|.array _ _ _=>true
 | _=>false
def Env.shape(E:Env):Nat->TypeId->Option (List Sh)
 | 0,_=>none
 | n+1,t=>match (E.ty t).d with
  | .bool=>some [.bool]
  | .int k=>some [.int k]
  | .str=>some [.str]
  | .slice e _=>(E.shape n e).map fun r=>[.sl r]
  | .array m e _=>(E.shape n e).map fun r=>(List.replicate m r).flatten
  | .struct fs=>(fs.mapM fun f=>E.shape n f.2.1).map List.flatten
  | _=>none
mutual
def Sh.beq:Sh->Sh->Bool
 | .int k,.int k'=>decide (k=k')
 | .bool,.bool=>true
 | .str,.str=>true
 | .sl r,.sl r'=>Sh.beqL r r'
 | _,_=>false
def Sh.beqL:List Sh->List Sh->Bool
 | [],[]=>true
 | a::l,b::m=>a.beq b&&Sh.beqL l m
 | _,_=>false
end
def jl:Value->AV
 | .bool b=>.blit b
 | .int k n=>.ilit k n
 | .string s=>.str s.data.toList
 | .pointer none=>.nilp
 | .slice none 0 0=>.nils
 | .nilFunc=>.nilf
 | _=>.undef
def ofV:Value->AV
 | .agg cs=>.agg (cs.toList.map jl)
 | v=>jl v
def AV.cells:AV->List AV
 | .agg cs=>cs
 | v=>[v]
def AV.isCell:AV->Bool
 | .undef|.skip|.agg _|.tuple _|.bagg _ _ _ _=>false
 | _=>true
mutual
def AV.ren(f:Nat->Option Nat):AV->AV
 | .ptr b off=>match f b with|some b'=>.ptr b' off|none=>.undef
 | .vptr b i off=>match f b with|some b'=>.vptr b' i off|none=>.undef
 | .vec b=>match f b with|some b'=>.vec b'|none=>.undef
 | .vsub b i=>match f b with|some b'=>.vsub b' i|none=>.undef
 | .aptr b o i=>match f b with|some b'=>.aptr b' o i|none=>.undef
 | .asub b o n i m=>match f b with|some b'=>.asub b' o n i m|none=>.undef
 | .bagg cs k n l=>.bagg (AV.renL f cs) k n l
 | .fn g first caps=>.fn g (AV.renL f first) (AV.renL f caps)
 | .agg cs=>.agg (AV.renL f cs)
 | .tuple vs=>.tuple (AV.renL f vs)
 | v=>v
def AV.renL(f:Nat->Option Nat):List AV->List AV
 | []=>[]
 | a::l=>a.ren f::AV.renL f l
end
mutual
def AV.noY:AV->Bool
 | .yld=>false
 | .fn _ first caps=>AV.noYL first&&AV.noYL caps
 | .agg cs=>AV.noYL cs
 | .bagg cs _ _ _=>AV.noYL cs
 | .tuple vs=>AV.noYL vs
 | _=>true
def AV.noYL:List AV->Bool
 | []=>true
 | a::l=>a.noY&&AV.noYL l
end
def Blk.noY:Blk->Bool
 | .cells cs=>AV.noYL cs
 | .big cs _ _ _=>AV.noYL cs
 | _=>true
def Blk.ren(f:Nat->Option Nat):Blk->Blk
 | .cells cs=>.cells (AV.renL f cs)
 | .big cs k n l=>.big (AV.renL f cs) k n l
 | b=>b
mutual
def AV.men:AV->List Nat
 | .ptr b _=>[b]
 | .vptr b _ _=>[b]
 | .vsub b _=>[b]
 | .aptr b _ _=>[b]
 | .asub b _ _ _ _=>[b]
 | .bagg cs _ _ _=>AV.menL cs
 | .vec b=>[b]
 | .fn _ first caps=>AV.menL first++AV.menL caps
 | .agg cs=>AV.menL cs
 | .tuple vs=>AV.menL vs
 | _=>[]
def AV.menL:List AV->List Nat
 | []=>[]
 | a::l=>a.men++AV.menL l
end
def asI:AV->Option (IntKind×Int)
 | .ilit k n=>some (k,n)
 | .int k n=>some (k,n)
 | _=>none
def asB:AV->Option Bool
 | .blit b=>some b
 | .bool b=>some b
 | _=>none
def qiG(sh:List Sh)(l:R)(i:Int)(j:Nat):Option AV:=
 match sh[j]? with
 | some (.int k)=>some (.int k (cI l i j))
 | some .bool=>some (.bool (cB l i j))
 | some .str=>some (.str (cS l i j))
 | some (.sl row)=>some (.imm row (cR l i j))
 | none=>none
def qcu(sh:List Sh)(l:R)(i:Int):Nat->Nat->Option (List AV)
 | _,0=>some []
 | off,n+1=>match qiG sh l i off,qcu sh l i (off+1) n with
  | some a,some r=>some (a::r)
  | _,_=>none
def vr(h:List Blk):AV->Option (List Sh×R)
 | .imm sh l=>some (sh,l)
 | .vec b=>match h[b]? with
  | some (.vec _ sh l)=>some (sh,l)
  | some (.frz _ sh l)=>some (sh,l)
  | _=>none
 | _=>none
def toU(h:List Blk):Sh->AV->Option U
 | .int k,.ilit k' n=>if k=k' then some (.i n) else none
 | .int k,.int k' n=>if k=k' then some (.i n) else none
 | .bool,.blit b=>some (.b b)
 | .bool,.bool b=>some (.b b)
 | .str,.str s=>some (.s s)
 | .sl _,.nils=>some (.l [])
 | .sl row,.imm row' l=>if Sh.beqL row row' then some (.l l) else none
 | .sl row,.vec b=>match h[b]? with
  | some (.vec _ row' l)=>if Sh.beqL row row' then some (.l l) else none
  | some (.frz _ row' l)=>if Sh.beqL row row' then some (.l l) else none
  | _=>none
 | _,_=>none
def qte(h:List Blk):List Sh->List AV->Option (List U)
 | [],[]=>some []
 | s::sh,a::azz=>match toU h s a,qte h sh azz with
  | some u,some us=>some (u::us)
  | _,_=>none
 | _,_=>none
def zF(h:List Blk)(b:Nat):List Blk:=
 match h[b]? with
 | some (.vec e sh l)=>h.set b (.frz e sh l)
 | _=>h
def qcR(h:List Blk):List AV->List Blk
 | []=>h
 | .vec b::l=>qcR (zF h b) l
 | _::l=>qcR h l
def qlO(h:List Blk)(sh:List Sh):Nat->List AV->Option R
 | 0,[]=>some []
 | 0,_=>none
 | n+1,cs=>match qte h sh (cs.take sh.length),qlO h sh n (cs.drop sh.length) with
  | some u,some r=>some (u::r)
  | _,_=>none
abbrev Res:=AV×List Blk×Option Nat
def okv(h:List Blk)(v:AV):Tree Res:=.leaf (v,h,none)
def okb(h:List Blk)(b:Bool):Tree Res:=.leaf (.bool b,h,none)
def yu(l:List AV):Bool:=l.all AV.isCell
def qrU(cs:List AV)(off:Nat)(vs:List AV):List AV:=cs.take off++vs++cs.drop (off+vs.length)
def qiD(E:Env)(h:List Blk)(t:TypeId)(p:AV):Tree Res:=
 let ti:=E.ty t
 if ti.d.known=false then .fail else
 match p with
 | .ptr b off=>match h[b]? with
  | some (.cells cs)=>
   if ti.d.isAgg then (if off+ti.size<=cs.length then okv h (.agg ((cs.drop off).take ti.size)) else .fail)
   else match cs[off]? with|some v=>okv h v|none=>.fail
  | _=>.fail
 | .eptr sh l i off=>
  if ti.d.isAgg then (match qcu sh l i off ti.size with|some cs=>okv h (.agg cs)|none=>.fail)
  else (match qiG sh l i off with|some v=>okv h v|none=>.fail)
 | .vptr b i off=>match vr h (.vec b) with
  | some (sh,l)=>
   if ti.d.isAgg then (match qcu sh l i off ti.size with|some cs=>okv h (.agg cs)|none=>.fail)
   else (match qiG sh l i off with|some v=>okv h v|none=>.fail)
  | none=>.fail
 | _=>.fail
def qhc(E:Env)(h:List Blk)(t:TypeId)(p v:AV):Tree Res:=
 let cs':=v.cells
 if cs'.length=(E.ty t).size/\yu cs'=true/\cs'.length≠0 then
  match p with
  | .ptr b off=>match h[b]? with
   | some (.cells cs)=>if off+cs'.length<=cs.length then .leaf (.skip,h.set b (.cells (qrU cs off cs')),none) else .fail
   | _=>.fail
  | .vptr b i off=>match h[b]? with
   | some (.vec e sh l)=>if (AV.menL cs').isEmpty then (match qte h ((sh.drop off).take cs'.length) cs' with
    | some us=>.leaf (.skip,h.set b (.vec e sh (qcN l i off us)),none)
    | none=>.fail) else .fail
   | _=>.fail
  | _=>.fail
 else .fail
def qgv(place:Nat->Option (Nat×Nat))(cells:List AV):List (Nat×AV)->Option (List AV)
 | []=>some cells
 | (i,v)::rest=>match place i with
  | none=>none
  | some (off,size)=>
   if v.cells.length=size/\off+v.cells.length<=cells.length/\yu v.cells=true then qgv place (qrU cells off v.cells) rest else none
def qkP(E:Env)(h:List Blk)(t:TypeId)(parts:List (Nat×AV)):Tree Res:=
 if (E.ty t).zero.length=0 then .fail else
 match (E.ty t).d with
 | .struct fs=>if (E.ty t).fok then (match qgv (fun i=>(fs[i]?).map fun f=>(f.1,f.2.2)) ((E.ty t).zero.map jl) parts with
  | some cs=>okv h (.agg cs)
  | none=>.fail) else .fail
 | .array _ _ es=>if es=0 then .fail else match qgv (fun i=>some (i*es,es)) ((E.ty t).zero.map jl) parts with
  | some cs=>okv h (.agg cs)
  | none=>.fail
 | _=>.fail
def q9i(E:Env)(h:List Blk)(t:TypeId)(len:Nat)(parts:List (Nat×AV)):Tree Res:=
 match (E.ty t).d with
 | .slice e es=>
  if len*es<=16777216/\0<es/\(E.ty e).zero.length=es then
   match qgv (fun i=>some (i*es,es)) ((List.replicate len ((E.ty e).zero.map jl)).flatten) parts,E.shape 16 e with
   | some cs,some sh=>if sh.length=es then (match qlO h sh len cs with
    | some l=>.leaf (.vec h.length,qcR h cs++[.vec e sh l],none)
    | none=>.fail) else .fail
   | _,_=>.fail
  else .fail
 | _=>.fail
def q2D(E:Env)(h:List Blk)(s:TypeId)(x:AV)(f:Nat):Tree Res:=
 match (E.ty s).d with
 | .struct fs=>match fs[f]? with
  | some (o,_,sz)=>if sz=0 then .fail else
   match x with
   | .ptr b off=>okv h (.ptr b (off+o))
   | .eptr sh l i off=>okv h (.eptr sh l i (off+o))
   | .vptr b i off=>okv h (.vptr b i (off+o))
   | _=>.fail
  | none=>.fail
 | _=>.fail
def qiP(E:Env)(t:TypeId)(cs:List AV)(off:Nat):Option AV:=
 let ti:=E.ty t
 if ti.d.known=false then none else
 if ti.d.isAgg then (if off+ti.size<=cs.length then some (.agg ((cs.drop off).take ti.size)) else none)
 else cs[off]?
def qkN(E:Env)(h:List Blk)(t:TypeId)(cs:List AV)(off:Nat):Tree Res:=
 match qiP E t cs off with
 | some v=>okv h v
 | none=>.fail
def qkH(E:Env)(h:List Blk)(s:TypeId)(x:AV)(f:Nat):Tree Res:=
 match (E.ty s).d,x with
 | .struct fs,.agg cs=>match fs[f]? with
  | some (o,t,_)=>qkN E h t cs o
  | none=>.fail
 | _,_=>.fail
def qjC(h:List Blk)(i:Int)(f:Nat->AV):Nat->Tree Res
 | 0=>.fail
 | m+1=>.br (ieq i m) (okv h (f m)) (qjC h i f m)
def yY(E:Env)(h:List Blk)(t:TypeId)(x ix:AV):Tree Res:=
 match (E.ty t).d,x,asI ix with
 | .slice _ es,.imm sh l,some (_,i)=>if sh.length=es/\0<es then .br (inb i (qg l)) (okv h (.eptr sh l i 0)) .fail else .fail
 | .slice _ es,.vec b,some (_,i)=>match vr h (.vec b) with
  | some (sh,l)=>if sh.length=es/\0<es then .br (inb i (qg l)) (okv h (.vptr b i 0)) .fail else .fail
  | none=>.fail
 | .array n _ es,.ptr b off,_=>match ix with
  | .ilit _ i=>if 0<=i/\i<n/\0<es then okv h (.ptr b (off+i.toNat*es)) else .fail
  | .int _ i=>if n<=16/\0<es then qjC h i (fun m=>.ptr b (off+m*es)) n else .fail
  | _=>.fail
 | .array n _ es,.eptr sh l i0 off,_=>match ix with
  | .ilit _ i=>if 0<=i/\i<n/\0<es then okv h (.eptr sh l i0 (off+i.toNat*es)) else .fail
  | .int _ i=>if n<=16/\0<es then qjC h i (fun m=>.eptr sh l i0 (off+m*es)) n else .fail
  | _=>.fail
 | _,_,_=>.fail
def qoj(k:IntKind):List AV->Option (List Int)
 | []=>some []
 | a::l=>match asI a,qoj k l with
  | some (k',n),some r=>if k=k' then some (n::r) else none
  | _,_=>none
def qrX(E:Env)(h:List Blk)(e:TypeId)(cs:List AV)(es:Nat)(i:Int):Nat->Nat->Tree Res
 | _,0=>.fail
 | j,m+1=>.br (ieq i (j:Int)) (qkN E h e cs (j*es)) (qrX E h e cs es i (j+1) m)
def qjS(E:Env)(h:List Blk)(t:TypeId)(x ix:AV):Tree Res:=
 match (E.ty t).d,x,asI ix with
 | .array n e es,.agg cs,some (_,i)=>match ix with
  | .ilit _ i=>if 0<=i/\i<n/\0<es then qkN E h e cs (i.toNat*es) else .fail
  | _=>match (E.ty e).d with
   | .int k=>if es=1/\cs.length=n then (match qoj k cs with
    | some l=>.br (inb i n) (okv h (.int k (qqf l i))) .fail
    | none=>.fail) else .fail
   | .slice _ _=>if 0<es then (match Nat.ble n 4 with|true=>qrX E h e cs es i 0 n|false=>.fail) else .fail
   | _=>.fail
 | .str,.str s,some (_,i)=>.br (inb i (qv s)) (okv h (.int .u8 (sat s i))) .fail
 | _,_,_=>.fail
def q7Z(h:List Blk)(k:IntKind)(f:Int->Int->Int)(lit:Bool)(x y:Int):Tree Res:=if lit then okv h (.ilit k (f x y)) else okv h (.int k (f x y))
def qEx(h:List Blk)(f:Int->Int->Bool)(lit:Bool)(x y:Int):Tree Res:=if lit then okv h (.blit (f x y)) else okv h (.bool (f x y))
def qL0:AV->Bool
 | .ilit _ _=>true
 | _=>false
def qzT(d:TD)(h:List Blk)(op:BinOp)(x y:AV):Tree Res:=
 match asI x,asI y with
 | some (k,a),some (k',b)=>
  if k=k' then
   let lit:=qL0 x&&qL0 y
   match op with
   | .add=>q7Z h k (qo k) lit a b
   | .sub=>q7Z h k (wo k) lit a b
   | .mul=>q7Z h k (wd k) lit a b
   | .quo=>match y with
    | .ilit _ c=>if c=0 then .fail else q7Z h k (qev k) lit a b
    | _=>.br (ine b 0) (q7Z h k (qev k) lit a b) .fail
   | .rem=>match y with
    | .ilit _ c=>if c=0 then .fail else q7Z h k qdN lit a b
    | _=>.br (ine b 0) (q7Z h k qdN lit a b) .fail
   | .eql=>qEx h ieq lit a b
   | .neq=>qEx h ine lit a b
   | .lss=>qEx h ilt lit a b
   | .leq=>qEx h ile lit a b
   | .gtr=>qEx h (fun u v=>ilt v u) lit a b
   | .geq=>qEx h (fun u v=>ile v u) lit a b
   | _=>.fail
  else .fail
 | _,_=>
  match asB x,asB y with
  | some a,some b=>(match d with
   | .bool=>(match op with
    | .eql=>okb h (Eng.beq a b)
    | .neq=>okb h (!(Eng.beq a b))
    | _=>.fail)
   | _=>.fail)
  | _,_=>match x,y with
   | .str a,.str b=>match op with
    | .eql=>okb h (Eng.seq a b)
    | .neq=>okb h (!(Eng.seq a b))
    | .lss=>okb h (slt a b)
    | .leq=>okb h (slt a b||Eng.seq a b)
    | .gtr=>okb h (!(slt a b||Eng.seq a b))
    | .geq=>okb h (!(slt a b))
    | .add=>.br (ile (qv a+qv b) 140737488355328) (okv h (.str (qgU a b))) .fail
    | _=>.fail
   | .nilp,.nilp=>(match d with
    | .ptr _=>(match op with|.eql=>okv h (.blit true)|.neq=>okv h (.blit false)|_=>.fail)
    | _=>.fail)
   | .ptr b _,.nilp=>(match d,h[b]? with
    | .ptr _,some (.cells _)=>(match op with|.eql=>okv h (.blit false)|.neq=>okv h (.blit true)|_=>.fail)
    | _,_=>.fail)
   | .eptr _ _ _ _,.nilp=>(match d with
    | .ptr _=>(match op with|.eql=>okv h (.blit false)|.neq=>okv h (.blit true)|_=>.fail)
    | _=>.fail)
   | .imm _ l,.nils=>(match d with
    | .slice _ _=>(match op with|.eql=>.br (ilt 0 (qg l)) (okv h (.blit false)) .fail|.neq=>.br (ilt 0 (qg l)) (okv h (.blit true)) .fail|_=>.fail)
    | _=>.fail)
   | .mptr c _ _ _ _,.nilp=>(match d with
    | .ptr _=>(match op with|.eql=>okb h (!c)|.neq=>okb h c|_=>.fail)
    | _=>.fail)
   | _,_=>.fail
def qAR(E:Env)(e:TypeId)(c:Nat)(xs ys:List AV):List Nat->Option Bool
 | []=>some true
 | i::is=>match qiP E e xs (i*c),qiP E e ys (i*c),qAR E e c xs ys is with
  | some (.str a),some (.str b),some r=>some (qHC (Eng.seq a b) r)
  | _,_,_=>none
mutual
def eqT(E:Env):Nat->TypeId->AV->AV->Option Bool
 | 0,_,_,_=>none
 | n+1,t,x,y=>match (E.ty t).d with
  | .int _=>match asI x,asI y with
   | some (k,a),some (k',b)=>if k=k' then some (ieq a b) else none
   | _,_=>none
  | .bool=>match asB x,asB y with
   | some a,some b=>some (Eng.beq a b)
   | _,_=>none
  | .str=>match x,y with
   | .str a,.str b=>some (Eng.seq a b)
   | _,_=>none
  | .struct fs=>if (E.ty t).eqok then (match x,y with
   | .agg xs,.agg ys=>qLx E n fs xs ys
   | _,_=>none) else none
  | .array m e es=>(match n,(E.ty e).d,x,y with
   | _+1,.str,.agg xs,.agg ys=>qAR E e es xs ys (List.range m)
   | _,_,_,_=>none)
  | _=>none
def qLx(E:Env):Nat->List (Nat×TypeId×Nat)->List AV->List AV->Option Bool
 | _,[],_,_=>some true
 | 0,_,_,_=>none
 | n+1,f::fs,xs,ys=>match qiP E f.2.1 xs f.1,qiP E f.2.1 ys f.1 with
  | some a,some b=>match eqT E n f.2.1 a b,qLx E n fs xs ys with
   | some r,some s=>some (qHC r s)
   | _,_=>none
  | _,_=>none
end
def qvs(E:Env)(h:List Blk)(op:BinOp)(t:TypeId)(x y:AV):Tree Res:=
 match eqT E 32 t x y with
 | some r=>(match op with|.eql=>okb h r|.neq=>okb h (!r)|_=>.fail)
 | none=>.fail
def qo2(E:Env)(h:List Blk)(op:BinOp)(t:TypeId)(x y:AV):Tree Res:=
 match x,y with
 | .agg xs,.agg ys=>qvs E h op t (.agg xs) (.agg ys)
 | a,b=>qzT (E.ty t).d h op a b
def qLR(h:List Blk)(op:UnOp)(x:AV):Tree Res:=
 match op,x with
 | .not,.blit b=>okv h (.blit (!b))
 | .not,.bool b=>okv h (.bool (!b))
 | .neg,.ilit k n=>okv h (.ilit k (wo k 0 n))
 | .neg,.int k n=>okv h (.int k (wo k 0 n))
 | _,_=>.fail
def qsa(E:Env)(h:List Blk)(src dst:TypeId)(x:AV):Tree Res:=
 match (E.ty src).d,(E.ty dst).d,x with
 | .int _,.int k,.ilit _ n=>okv h (.ilit k (q3C k n))
 | .int _,.int k,.int _ n=>okv h (.int k (q3C k n))
 | .str,.str,.str s=>okv h (.str s)
 | _,_,_=>.fail
def qgV:Option AV->Int->Option Int
 | none,d=>some d
 | some a,_=>(asI a).map (·.2)
def qn5:List Sh->Bool
 | [.int .u8]=>true
 | _=>false
def qzp(sh:List Sh)(hi:Option AV):Bool:=match hi with
 | none=>qn5 sh
 | some _=>false
def qrw(l:R):List UInt8:=l.map fun row=>UInt8.ofNat (row.getD 0 (.i 0)).toI.toNat
def q4e(n:Int)(row:List U):R:=List.replicate n.toNat row
def qBw(l:R)(i:Int)(s:qOK):R:=l.take i.toNat++s.map (fun c=>[.i (c.toNat:Int)])++l.drop (i.toNat+s.length)
def qC0(x y:Int):Int:=x-y
def qtx(E:Env)(h:List Blk)(e:TypeId)(x:AV):Tree Res:=
 match (E.ty e).d with
 | .int .u8=>(match vr h x with
  | some (sh,l)=>if qn5 sh then okv h (.str (qrw l)) else .fail
  | none=>.fail)
 | _=>.fail
def qkS(E:Env)(h:List Blk)(src dst:TypeId)(x:AV):Tree Res:=
 match (E.ty src).d with
 | .slice e _=>(match (E.ty dst).d with
  | .str=>qtx E h e x
  | _=>.fail)
 | _=>qsa E h src dst x
def qfS(E:Env)(h:List Blk)(t:TypeId)(x:AV)(lo hi mx:Option AV):Tree Res:=
 match mx with
 | some m=>(match (E.ty t).d,x,hi with
  | .slice _ es,.imm sh l,some y=>(match qgV lo 0,asI y,asI m with
   | some a,some (_,b),some (_,c)=>if sh.length=es/\0<es then .br (q7O b (qg l)) (.br (q7O a b) (.br (ieq b c) (okv h (.full sh (qCf l a b))) .fail) .fail) .fail else .fail
   | _,_,_=>.fail)
  | _,_,_=>.fail)
 | none=>match (E.ty t).d,x with
  | .str,.str s=>match qgV lo 0,qgV hi (qv s) with
   | some l,some r=>.br (q7O r (qv s)) (.br (q7O l r) (okv h (.str (qfh s l r))) .fail) .fail
   | _,_=>.fail
  | .slice _ es,.imm sh l=>match qgV lo 0,qgV hi (qg l) with
   | some a,some b=>if sh.length=es/\0<es then .br (q7O b (qg l)) (.br (q7O a b) (okv h (.imm sh (qCf l a b))) .fail) .fail else .fail
   | _,_=>.fail
  | .slice _ es,.vec b=>match h[b]? with
   | some (.vec _ sh l)=>(match qzp sh hi with
    | true=>(match qgV lo 0 with
     | some a=>if es=1 then .br (ilt 0 (qg l)) (.br (q7O a (qg l)) (okv h (.vsub b a)) .fail) .fail else .fail
     | none=>.fail)
    | false=>(match qgV lo 0,qgV hi (qg l) with
     | some a,some c=>if sh.length=es/\0<es then .br (q7O c (qg l)) (.br (q7O a c) (.leaf (.imm sh (qCf l a c),zF h b,none)) .fail) .fail else .fail
     | _,_=>.fail))
   | some (.frz _ sh l)=>(match qgV lo 0,qgV hi (qg l) with
    | some a,some c=>if sh.length=es/\0<es then .br (q7O c (qg l)) (.br (q7O a c) (okv h (.imm sh (qCf l a c))) .fail) .fail else .fail
    | _,_=>.fail)
   | _=>.fail
  | _,_=>.fail
def qwC(b:Nat):Int:=((140737488355328/(if b=0 then 1 else b):Nat):Int)
def ye(h:List Blk)(x:AV):List Blk:=
 match x with
 | .vec b=>zF h b
 | _=>h
def qGO(rm:Int)(h:List Blk)(e:TypeId)(sh:List Sh)(l m:R)(b:Nat)(x:AV):Tree Res:=
 match x with
 | .vec b'=>if b=b' then .fail else
   .br (ile (qg l+qg m) rm) (.leaf (.vec b,(zF h b').set b (.vec e sh (zE l m)),some b)) .fail
 | _=>.br (ile (qg l+qg m) rm) (.leaf (.vec b,h.set b (.vec e sh (zE l m)),some b)) .fail
def qos(rm:Int)(h:List Blk)(e:TypeId)(sh:List Sh)(s x:AV):Tree Res:=
 match vr h x with
 | some (sh',m)=>if Sh.beqL sh sh' then
  (match s with
  | .nils=>.br (ile (qg m) rm) (.leaf (.vec h.length,ye h x++[.vec e sh m],none)) .fail
  | .vec b=>match h[b]? with
   | some (.vec e' sh'' l)=>if Sh.beqL sh sh''/\e=e' then qGO rm h e sh l m b x else .fail
   | _=>.fail
  | .full sh'' l=>if Sh.beqL sh sh'' then .br (ilt 0 (qg m)) (.br (ile (qg l+qg m) rm) (.leaf (.vec h.length,ye h x++[.vec e sh (zE l m)],none)) .fail) (.br (ile (qg l) 0) (.leaf (.vec h.length,ye h x++[.vec e sh []],none)) .fail) else .fail
  | _=>.fail) else .fail
 | none=>.fail
def qyE(E:Env)(h:List Blk)(t:TypeId)(s x:AV):Tree Res:=
 match (E.ty t).d with
 | .slice e es=>match E.shape 16 e with
  | some sh=>if sh.length=es/\0<es/\(E.ty e).zero.length=es then
    (match x with
    | .nils=>(match s with
     | .nils=>okv h .nils
     | _=>.fail)
    | x=>qos (qwC (E.ty e).bytes) h e sh s x) else .fail
  | none=>.fail
 | _=>.fail
def qGf(E:Env)(h:List Blk)(t:TypeId)(x:AV):Tree Res:=
 match (E.ty t).d,x with
 | .str,.str s=>okv h (.int .i64 (qv s))
 | .array n _ _,_=>okv h (.ilit .i64 n)
 | .slice _ _,.nils=>okv h (.ilit .i64 0)
 | .slice _ _,x=>match vr h x with
  | some (_,l)=>okv h (.int .i64 (qg l))
  | none=>.fail
 | _,_=>.fail
def qCg(f:Int->Int->Int)(k:IntKind):Int->List AV->Option Int
 | a,[]=>some a
 | a,x::l=>match asI x with
  | some (k',b)=>if k=k' then qCg f k (f a b) l else none
  | none=>none
def qHi(E:Env)(h:List Blk)(t:TypeId)(x y:AV):Tree Res:=
 match (E.ty t).d,asI x,asI y with
 | .slice e es,some (_,n),some (_,m)=>(match E.shape 16 e with
  | some sh=>if sh.length=es/\0<es/\(E.ty e).zero.length=es then
    (match qte h sh ((E.ty e).zero.map jl) with
    | some us=>.br (ieq n m) (.br (q7O n (qwC (E.ty e).bytes)) (.leaf (.vec h.length,h++[.vec e sh (q4e n us)],none)) .fail) .fail
    | none=>.fail) else .fail
  | none=>.fail)
 | _,_,_=>.fail
def qCM(E:Env)(h:List Blk):List TypeId->List AV->Tree Res
 | [t,_],[.vsub b i,.str s]=>(match (E.ty t).d with
  | .slice _ es=>(match h[b]? with
   | some (.vec e' sh l)=>if qn5 sh/\es=1 then .br (ile (qv s) (qC0 (qg l) i)) (.leaf (.int .i64 (qv s),h.set b (.vec e' sh (qBw l i s)),none)) .fail else .fail
   | _=>.fail)
  | _=>.fail)
 | _,_=>.fail
def isZ(k:IntKind):Value->Bool
 | .int k' n=>decide (k=k')&&decide (n=0)
 | _=>false
def qF6(E:Env)(t:TypeId):Option (Nat×IntKind×Nat):=
 match (E.ty t).d with
 | .struct fs=>(match fs.getLast? with
  | some (o,ty,_)=>(match (E.ty ty).d with
   | .array n e _=>(match (E.ty e).d with
    | .int k=>if Nat.ble 32 n&&Nat.beq (E.ty t).zero.length (o+n)&&Nat.beq (E.ty t).size (o+n)&&((E.ty t).zero.drop o).all (isZ k) then some (o,k,n) else none
    | _=>none)
   | _=>none)
  | none=>none)
 | _=>none
def qhG(E:Env)(t:TypeId):Option Blk:=match qF6 E t with
 | some (o,k,n)=>if yu (((E.ty t).zero.take o).map jl)=true then some (.big (((E.ty t).zero.take o).map jl) k n (q4e n [.i 0])) else none
 | none=>if yu ((E.ty t).zero.map jl)=true/\((E.ty t).zero.map jl).length≠0 then some (.cells ((E.ty t).zero.map jl)) else none
def qHu(x:AV):Option Blk:=match x with
 | .bagg cs k n l=>if yu cs=true then some (.big cs k n l) else none
 | x=>if yu x.cells=true then some (.cells x.cells) else none
def qGE(h:List Blk)(k:Option Blk):Tree Res:=match k with
 | some k=>.leaf (.ptr h.length 0,h++[k],none)
 | none=>.fail
def qH1(E:Env)(h:List Blk)(t:TypeId)(off:Nat)(cs:List AV)(k:IntKind)(n:Nat)(l:R):Tree Res:=
 if (E.ty t).d.known=false then .fail else
 if (E.ty t).d.isAgg=true then (if off=0/\(E.ty t).size=cs.length+n then okv h (.bagg cs k n l) else .fail)
 else (match cs[off]? with
  | some v=>okv h v
  | none=>if off<cs.length+n then okv h (.int k (cI l ((off-cs.length:Nat):Int) 0)) else .fail)
def qf2(E:Env)(h:List Blk)(t:TypeId)(p:AV):Tree Res:=
 match p with
 | .ptr b off=>(match h[b]? with
  | some (.big cs k n l)=>qH1 E h t off cs k n l
  | _=>qiD E h t (.ptr b off))
 | .aptr b o i=>(match h[b]? with
  | some (.big cs k n l)=>if (E.ty t).d.known=true/\(E.ty t).d.isAgg=false/\o=cs.length then .br (inb i n) (okv h (.int k (cI l i 0))) .fail else .fail
  | _=>.fail)
 | p=>qiD E h t p
def qyD(E:Env)(h:List Blk)(t:TypeId)(b off:Nat)(cs:List AV)(k:IntKind)(n:Nat)(l:R)(v:AV):Tree Res:=
 match v with
 | .bagg cs' k' n' l'=>if off=0/\k=k'/\n=n'/\cs.length=cs'.length/\(E.ty t).size=cs.length+n/\0<n/\yu cs'=true then .leaf (.skip,h.set b (.big cs' k n l'),none) else .fail
 | v=>if v.cells.length=(E.ty t).size/\yu v.cells=true/\v.cells.length≠0 then
   (match Nat.ble (off+v.cells.length) cs.length with
   | true=>.leaf (.skip,h.set b (.big (qrU cs off v.cells) k n l),none)
   | false=>(match asI v with
    | some (k',x)=>if k=k'/\cs.length<=off/\off<cs.length+n then .leaf (.skip,h.set b (.big cs k n (qcN l ((off-cs.length:Nat):Int) 0 [.i x])),none) else .fail
    | none=>.fail))
   else .fail
def q0a(E:Env)(h:List Blk)(t:TypeId)(p v:AV):Tree Res:=
 match p with
 | .ptr b off=>(match h[b]? with
  | some (.big cs k n l)=>qyD E h t b off cs k n l v
  | _=>qhc E h t (.ptr b off) v)
 | .aptr b o i=>(match h[b]? with
  | some (.big cs k n l)=>(match asI v with
   | some (k',x)=>if k=k'/\o=cs.length/\(E.ty t).size=1 then .br (inb i n) (.leaf (.skip,h.set b (.big cs k n (qcN l i 0 [.i x])),none)) .fail else .fail
   | none=>.fail)
  | _=>.fail)
 | p=>qhc E h t p v
def q0U(E:Env)(h:List Blk)(t:TypeId)(x ix:AV):Tree Res:=
 match (E.ty t).d with
 | .array n _ es=>(match Nat.blt 16 n with
  | true=>(match x with
   | .ptr b off=>(match ix with
    | .int _ i=>if es=1 then .br (inb i n) (okv h (.aptr b off i)) .fail else .fail
    | _=>yY E h t x ix)
   | _=>yY E h t x ix)
  | false=>yY E h t x ix)
 | _=>yY E h t x ix
def qe4(E:Env)(h:List Blk)(t:TypeId)(parts:List (Nat×AV)):Tree Res:=
 match qF6 E t with
 | some (o,k,n)=>(match (E.ty t).d with
  | .struct fs=>if (E.ty t).fok=true then (match qgv (fun i=>(fs[i]?).map fun f=>(f.1,f.2.2)) (((E.ty t).zero.take o).map jl) parts with
   | some cs=>okv h (.bagg cs k n (q4e n [.i 0]))
   | none=>.fail) else .fail
  | _=>.fail)
 | none=>qkP E h t parts
def qKe(h:List Blk)(b off n:Nat)(lo hi:Option AV):Tree Res:=
 match qgV lo 0,qgV hi n with
 | some a,some c=>.br (q7O c n) (.br (q7O a c) (okv h (.asub b off n a (qC0 c a))) .fail) .fail
 | _,_=>.fail
def qBx(sh:List Sh)(l:R)(i:Int)(off n:Nat):Option (Sh×R):=
 match sh[off]?,l with
 | some s,[row]=>if (i=0/\off+n<=sh.length)/\((sh.drop off).take n).all (Sh.beq s)=true/\off+n<=row.length then some (s,((row.drop off).take n).map fun u=>[u]) else none
 | _,_=>none
def qBs(h:List Blk)(n:Nat)(s:Sh)(l:R)(lo hi mx:Option AV):Tree Res:=
 match mx with
 | none=>(match qgV lo 0,qgV hi n with
  | some a,some c=>.br (q7O c n) (.br (q7O a c) (okv h (.imm [s] (qCf l a c))) .fail) .fail
  | _,_=>.fail)
 | some m=>(match qgV lo 0,hi.bind asI,asI m with
  | some a,some (_,c),some (_,d)=>.br (q7O c n) (.br (q7O a c) (.br (ieq c d) (okv h (.full [s] (qCf l a c))) .fail) .fail) .fail
  | _,_,_=>.fail)
def un(E:Env)(h:List Blk)(t:TypeId)(x:AV)(lo hi mx:Option AV):Tree Res:=
 match (E.ty t).d with
 | .array n _ es=>(match x with
  | .eptr sh l i off=>if es=1 then (match qBx sh l i off n with
   | some (s,rows)=>qBs h n s rows lo hi mx
   | none=>.fail) else .fail
  | .ptr b off=>(match mx with
   | none=>if es=1 then qKe h b off n lo hi else .fail
   | some _=>.fail)
  | _=>.fail)
 | _=>qfS E h t x lo hi mx
def qpL(l:R)(i:Int)(l':R)(i' c:Int):R:=l.take i.toNat++(l'.drop i'.toNat).take c.toNat++l.drop (i.toNat+c.toNat)
def qym(E:Env)(h:List Blk):List TypeId->List AV->Tree Res
 | [t,_],[.asub b o n i m,.asub b' o' n' i' m']=>(match (E.ty t).d with
  | .slice _ es=>(match h[b]? with
   | some (.big cs k N l)=>(match h[b']? with
    | some (.big cs' k' N' l')=>if es=1/\o=cs.length/\n=N/\o'=cs'.length/\n'=N'/\k=k' then
      .leaf (.int .i64 (qo8 m' m),h.set b (.big cs k N (qpL l i l' i' (qo8 m' m))),none) else .fail
    | _=>.fail)
   | _=>.fail)
  | _=>.fail)
 | ts,azz=>qCM E h ts azz
def qzM(E:Env)(h:List Blk):List TypeId->List AV->Tree Res
 | [t,t'],[s,x]=>if t=t' then qyE E h t s x else .fail
 | _,_=>.fail
def quW(E:Env)(h:List Blk):List TypeId->List AV->Tree Res
 | t::_,[x]=>qGf E h t x
 | _,_=>.fail
def qyg(f:Int->Int->Int)(h:List Blk):List AV->Tree Res
 | x::l=>match asI x with
  | some (k,n)=>(match qCg f k n l with
   | some m=>if (x::l).all qL0 then okv h (.ilit k m) else okv h (.int k m)
   | none=>.fail)
  | none=>.fail
 | []=>.fail
def q9j(E:Env)(h:List Blk)(b:Builtin)(argTypes:List TypeId)(args:List AV):Tree Res:=
 match b with
 | .append=>qzM E h argTypes args
 | .len=>quW E h argTypes args
 | .max=>qyg qzG h args
 | .min=>qyg qo8 h args
 | .copy=>qym E h argTypes args
 | _=>.fail
def qtc(E:Env)(h:List Blk)(ev:Operand->AV)(op:Op):Tree Res:=
 match op with
 | .move x=>okv h (ev x)
 | .assign x=>okv h (ev x)
 | .pick c a b=>(match ev c with
  | .blit t=>okv h (if t then ev a else ev b)
  | .bool t=>.br t (okv h (ev a)) (okv h (ev b))
  | _=>.fail)
 | .box _ x=>qGE h (qHu (ev x))
 | .alloc t=>qGE h (qhG E t)
 | .load t a=>qf2 E h t (ev a)
 | .store t a x=>q0a E h t (ev a) (ev x)
 | .build t parts=>qe4 E h t (parts.toList.map fun p=>(p.1,ev p.2))
 | .buildSlice t len parts=>q9i E h t len (parts.toList.map fun p=>(p.1,ev p.2))
 | .nilCheck x=>(match ev x with
  | .ptr b o=>(match h[b]? with
   | some (.cells _)=>okv h (.ptr b o)
   | some (.big _ _ _ _)=>okv h (.ptr b o)
   | _=>.fail)
  | .eptr sh l i o=>okv h (.eptr sh l i o)
  | .mptr c sh l i o=>.br c (okv h (.eptr sh l i o)) .fail
  | _=>.fail)
 | .binOp op t x y _=>qo2 E h op t (ev x) (ev y)
 | .unOp op _ x=>qLR h op (ev x)
 | .convert s d x=>qkS E h s d (ev x)
 | .makeSlice t n m=>qHi E h t (ev n) (ev m)
 | .makeFunc (.func f) first caps=>okv h (.fn f (first.toList.map ev) (caps.toList.map ev))
 | .slice t x lo hi mx=>un E h t (ev x) (lo.map ev) (hi.map ev) (mx.map ev)
 | .fieldAddr s x f=>q2D E h s (ev x) f
 | .field s x f=>qkH E h s (ev x) f
 | .indexAddr t x i=>q0U E h t (ev x) (ev i)
 | .index t x i=>qjS E h t (ev x) (ev i)
 | .extract x i=>(match ev x with
  | .tuple vs=>(match vs[i]? with|some v=>okv h v|none=>.fail)
  | _=>.fail)
 | .call { callee:=.builtin b,args,argTypes }=>q9j E h b argTypes.toList (args.toList.map ev)
 | _=>.fail
def Env.opd(E:Env)(t:List AV):Operand->AV
 | .tmp i=>t.getD i .undef
 | .const v=>ofV v
 | .global g=>((E.glob.find? fun x=>x.1==g).map (·.2)).getD .undef
 | .func f=>.fn f [] []
def qmF(t:List AV):Option Tmp->AV->List AV
 | some d,v=>t.set d v
 | none,_=>t
def St.renAll(st:St)(f:Nat->Option Nat):St:={ t:=AV.renL f st.t,fs:=st.fs.map (AV.renL f),h:=st.h.map (Blk.ren f),pend:=st.pend }
def qfO(b:Nat):Nat->Option Nat:=fun x=>if x=b then none else some x
def St.apply(st:St)(dst:Option Tmp)(r:Res):St:=
 match r.2.2 with
 | none=>{ st with t:=qmF st.t dst r.1,h:=r.2.1 }
 | some b=>let s:=({ st with h:=r.2.1 }:St).renAll (qfO b)
  { s with t:=qmF s.t dst r.1 }
abbrev qav:=Option FuncId->List AV->St->Tree (AV×St)
abbrev qF4:=List AV->St->Tree (AV×St)
abbrev qgs:=FuncId->qF4->List AV->St->Tree (AV×St)
def qJ0(y:qF4)(callH:qav):qav
 | none=>y
 | some f=>callH (some f)
def qvC(E:Env)(callH:qav)(o:Oper)(st:St):Tree St:=
 match o.op with
 | .call { callee:=.value x,args,argTypes:=_ }=>(match E.opd st.t x with
  | .fn f first caps=>(callH (some f) (first++args.toList.map (E.opd st.t)++caps) st).bind fun r=>
    .leaf { r.2 with t:=qmF r.2.t o.dst r.1 }
  | .yld=>(callH none (args.toList.map (E.opd st.t)) st).bind fun r=>
    .leaf { r.2 with t:=qmF r.2.t o.dst r.1 }
  | _=>.fail)
 | op=>(qtc E st.h (E.opd st.t) op).bind fun r=>.leaf (st.apply o.dst r)
def qHq(o:Oper)(st:St):St:={ st with t:=qmF st.t o.dst .skip }
def qBz(all:Array Oper)(k:Nat):Bool:=all.toList.any fun o=>match o.guard with|some (j,_)=>j==k|none=>false
def qvU(all:Array Oper)(k:Nat)(o:Oper)(st:St):Tree St:=
 if qBz all k then (match o.dst with
  | some d=>match st.t[d]? with
   | some (.bool b)=>.br b (.leaf { st with t:=st.t.set d (.blit true) }) (.leaf { st with t:=st.t.set d (.blit false) })
   | _=>.leaf st
  | none=>.leaf st)
 else .leaf st
def q6Q(all:Array Oper)(o:Oper)(t:List AV):Option Bool:=
 match o.guard with
 | none=>some true
 | some (j,want)=>match (all[j]?).bind (·.dst) with
  | none=>none
  | some d=>match t[d]? with
   | some (.blit b)=>some (decide (b=want))
   | some .skip=>some false
   | _=>none
def qnM(E:Env)(callH:qav)(all:Array Oper):Nat->List Oper->St->Tree St
 | _,[],st=>.leaf st
 | k,o::rest,st=>match q6Q all o st.t with
  | some true=>(qvC E callH o st).bind fun s=>(qvU all k o s).bind (qnM E callH all (k+1) rest)
  | some false=>qnM E callH all (k+1) rest (qHq o st)
  | none=>.fail
def qmT:List Nat->List Nat
 | []=>[]
 | a::l=>if (qmT l).contains a then qmT l else a::qmT l
def qIi(l:List Nat)(b:Nat):Option Nat:=let i:=l.findIdx (·==b);if i<l.length then some i else none
mutual
def AV.lend(h:List Blk):AV->AV
 | .vec b=>match h[b]? with|some (.frz _ sh l)=>.imm sh l|_=>.undef
 | .agg cs=>.agg (AV.lendL h cs)
 | .tuple cs=>.tuple (AV.lendL h cs)
 | v=>v
def AV.lendL(h:List Blk):List AV->List AV
 | []=>[]
 | a::l=>a.lend h::AV.lendL h l
end
def zT:AV->List Nat
 | .vec b=>[b]
 | .agg cs=>cs.filterMap fun|.vec b=>some b|_=>none
 | _=>[]
def Blk.plain:Blk->Bool
 | .cells cs=>(AV.menL cs).isEmpty
 | .big cs _ _ _=>(AV.menL cs).isEmpty
 | _=>false
def q6i(h:List Blk):List Nat->Option (List Blk)
 | []=>some []
 | b::l=>match h[b]?,q6i h l with
  | some k,some r=>if k.plain=true then some (k::r) else none
  | _,_=>none
def q19(h:List Blk):List Nat->List Blk->Option (List Blk)
 | [],_=>some h
 | b::l,k::r=>if k.plain=true then (q19 h l r).map fun h'=>h'.set b k else none
 | _::_,[]=>none
def qrB(fp:List Nat)(n:Nat):Nat->Option Nat:=fun k=>if k<fp.length then fp[k]? else some (n+(k-fp.length))
abbrev zj:=List AV->List Blk->Tree (AV×List Blk)
def qH(h:List Blk):List Nat->List Blk
 | []=>h
 | b::l=>qH (zF h b) l
def qe2(h:List Blk):List Nat->List Blk
 | []=>h
 | b::l=>match h[b]? with
  | some (.cells cs)=>qe2 (h.set b (.cells (AV.lendL h cs))) l
  | _=>qe2 h l
def q93(h:List Blk):List Nat->List Nat
 | []=>[]
 | b::l=>match h[b]? with
  | some (.cells cs)=>cs.flatMap zT++q93 h l
  | _=>q93 h l
def vk(h:List Blk)(args:List AV):List Blk:=
 let h1:=qH h (args.flatMap zT)
 let fp:=AV.menL (AV.lendL h1 args)
 qe2 (qH h1 (q93 h1 fp)) fp
def q1s(G:zj)(args:List AV)(st:St):Tree (AV×St):=
 let h1:=vk st.h args
 let args1:=AV.lendL h1 args
 let fp:=qmT (AV.menL args1)
 match q6i h1 fp with
 | none=>.fail
 | some hin=>(G (AV.renL (qIi fp) args1) hin).bind fun r=>
   match q19 h1 fp r.2 with
   | none=>.fail
   | some h2=>.leaf (r.1.ren (qrB fp h1.length),{ st with h:=h2++(r.2.drop fp.length).map (Blk.ren (qrB fp h1.length)) })
def qnD(h:List Blk)(b:Nat):Bool:=match h[b]? with|some (.frz _ _ _)=>true|_=>false
def qf7(E:Env):Op->Bool
 | .move _|.assign _|.pick _ _ _|.load _ _|.build _ _|.nilCheck _|.binOp _ _ _ _ _|.unOp _ _ _|.convert _ _ _
 | .fieldAddr _ _ _|.field _ _ _|.indexAddr _ _ _|.index _ _ _|.extract _ _=>true
 | .slice t _ _ _ mx=>match (E.ty t).d with|.str=>true|.array _ _ _=>true|.slice _ _=>mx.isSome|_=>false
 | .makeFunc _ _ _=>true
 | .call { callee:=.builtin .len,.. }=>true
 | .call { callee:=.builtin .max,.. }=>true
 | .call { callee:=.builtin .min,.. }=>true
 | _=>false
abbrev q8f:=FuncId->List AV->Tree AV
def qGr:AV->Bool
 | .vec _=>false
 | _=>true
def qmy(E:Env)(h:List Blk)(ev:Operand->AV)(op:Op):Tree (AV×Blk):=
 match op with
 | .buildSlice t len parts=>(match (E.ty t).d with
  | .slice e es=>
   if len*es<=16777216/\0<es/\(E.ty e).zero.length=es then
    (match qgv (fun i=>some (i*es,es)) ((List.replicate len ((E.ty e).zero.map jl)).flatten) (parts.toList.map fun p=>(p.1,ev p.2)),E.shape 16 e with
    | some cs,some sh=>if sh.length=es/\cs.all qGr=true then (match qlO h sh len cs with
     | some l=>.leaf (.vec h.length,.vec e sh l)
     | none=>.fail) else .fail
    | _,_=>.fail)
   else .fail
  | _=>.fail)
 | _=>.fail
def qeI(E:Env)(callS:q8f)(h:List Blk)(ev:Operand->AV)(op:Op):Tree AV:=
 match op with
 | .call { callee:=.value x,args,argTypes:=_ }=>(match ev x with
  | .fn f first caps=>callS f (first++args.toList.map ev++caps)
  | _=>.fail)
 | op=>if qf7 E op then (qtc E h ev op).bind fun r=>.leaf r.1 else .fail
def qjd(ops:List Oper):List Nat:=ops.foldl (fun acc o=>acc++[o.after.toList.foldl (fun s e=>if Region.binds .any e then s ||| 2^e.on ||| acc.getD e.on 0 else s) 0]) []
def qFK(all:Array Oper)(o:Oper):List Tmp :=
  (o.op.operands.toList.filterMap fun|.tmp t=>some t|_=>none) ++
  (match o.guard with
   | some (g,_)=>((all[g]?).bind (·.dst)).toList
   | none=>[])
def qFS(all:Array Oper):Bool:=
 let ops:=all.toList
 let anc:=qjd ops
 let n:=ops.length
 (List.range n).all fun i=>
  match ops[i]? with
  | none=>false
  | some oi=>
   (oi.after.toList.all fun e=>!Region.binds .any e||decide (e.on<i)) &&
   (List.range n).all fun j=>j==i ||
    match ops[j]? with
    | none=>false
    | some oj=>match oj.dst with
     | none=>true
     | some t=>oi.dst != some t&&(!(qFK all oi).contains t||(anc.getD i 0).testBit j||(anc.getD j 0).testBit i)
def Blk.menB:Blk->List Nat
 | .cells cs=>AV.menL cs
 | .big cs _ _ _=>AV.menL cs
 | _=>[]
def qf6:List Blk->List Nat
 | []=>[]
 | k::h=>k.menB++qf6 h
def qpT:List (List AV)->List Nat
 | []=>[]
 | a::l=>AV.menL a++qpT l
def qqE:Op->Bool
 | .store _ _ _=>true
 | _=>false
def qjt(E:Env)(f:FuncId):Option zj:=(E.spec.find? fun x=>x.1==f).map (·.2)
def jt(ev:Operand->AV)(op:Op):Option (FuncId×List AV):=
 match op with
 | .call { callee:=.value x,args,argTypes:=_ }=>(match ev x with
  | .fn f first caps=>some (f,first++args.toList.map ev++caps)
  | _=>none)
 | _=>none
def qk9(op:Op):Bool:=
 match op with
 | .call { callee:=.value _,args:=_,argTypes:=_ }=>true
 | _=>false
def qp0(E:Env)(h:List Blk)(ev:Operand->AV)(op:Op):Bool:=
 match qk9 op with
 | true=>(match jt ev op with
  | some (f,args)=>(match qjt E f with
   | some _=>E.raws.contains f||(!(args.flatMap zT).all (qnD h)||!(AV.menL (AV.lendL h args)).isEmpty)
   | none=>false)
  | none=>false)
 | false=>qqE op
def qs8(h:List Blk)(args:List AV):List Nat:=
 let h1:=qH h (args.flatMap zT)
 let fp:=AV.menL (AV.lendL h1 args)
 args.flatMap zT++q93 h1 fp++fp
def qCe(h:List Blk)(ev:Operand->AV)(op:Op):List Nat:=
 match jt ev op with
 | some (_,args)=>qs8 h args
 | none=>(match op with
  | .store _ x _=>(ev x).men
  | _=>[])
def qI8(op:Op):Bool:=
 match op with
 | .move _|.assign _|.extract _ _|.fieldAddr _ _ _|.makeFunc _ _ _|.pick _ _ _|.build _ _=>false
 | _=>true
def qMg(E:Env)(ev:Operand->AV)(op:Op):Option (List Nat):=
 match qk9 op with
 | true=>(match jt ev op with
  | some (f,args)=>(match qjt E f with
   | some _=>some (AV.menL args)
   | none=>none)
  | none=>none)
 | false=>(match qI8 op with
  | true=>some (AV.menL (op.operands.toList.map ev))
  | false=>some [])
def qwq(ev:Operand->AV)(op:Op):List Nat:=
 match jt ev op with
 | some (_,args)=>AV.menL args
 | none=>AV.menL (op.operands.toList.map ev)
def qD9(h:List Blk):List Nat->List Nat
 | []=>[]
 | b::l=>(match h[b]? with|some k=>k.menB|none=>[])++qD9 h l
def qGB(h:List Blk)(ev:Operand->AV)(op:Op):List Nat:=
 match jt ev op with
 | some (_,args)=>
  let h1:=qH h (args.flatMap zT)
  AV.menL args++qD9 h1 (AV.menL (AV.lendL h1 args))
 | none=>AV.menL (op.operands.toList.map ev)
def qqM(E:Env)(h:List Blk)(ev:Operand->AV)(op:Op):Tree (AV×List Blk):=
 match jt ev op with
 | some (f,args)=>(match qjt E f with
  | some G=>(q1s G args { t:=[],fs:=[],h:=h,pend:=none }).bind fun r=>.leaf (r.1,r.2.h)
  | none=>.fail)
 | none=>(match qqE op with
  | true=>(qtc E h ev op).bind fun r=>(match r.2.2 with
   | none=>.leaf (r.1,r.2.1)
   | some _=>.fail)
  | false=>.fail)
def qMZ(anc:List Nat)(i j:Nat):Bool:=(anc.getD i 0).testBit j
def kL(all:Array Oper):Nat:=
 let ops:=all.toList
 let anc:=qjd ops
 ((List.range ops.length).find? fun m=>(List.range ops.length).all fun j=>decide (j<m)||(List.range j).all fun i=>(anc.getD j 0).testBit i).getD ops.length
structure LDesc where
 s:Option Nat
 r:Option (List Nat)
 w:List Nat
 v:List Nat
def qOl(op:Op):Bool:=
 match op with
 | .call { callee:=.builtin .append,args:=_,argTypes:=_ }=>true
 | _=>false
def qql(op:Op):Option (FuncId×List Operand):=
 match op with
 | .call { callee:=.value (.func f),args:=args,argTypes:=_ }=>some (f,args.toList)
 | _=>none
def qMf(E:Env)(f:FuncId):Option TypeId:=(E.dels.find? fun x=>x.1==f).map (·.2)
def qw5(E:Env)(op:Op):Bool:=
 match op with
 | .buildSlice _ _ _=>true
 | .alloc _=>true
 | op=>qOl op||(match qql op with
  | some (f,_)=>E.raws.contains f||(qMf E f).isSome
  | none=>false)
def qDT(b:Nat):AV->Bool
 | .vec b'=>!Nat.beq b' b
 | _=>true
def qx0(_:Env)(_:List Blk)(_:TypeId)(_:List AV)(_:Nat):Tree (AV×List Blk):=.fail
def qIA(E:Env)(h:List Blk)(f:FuncId)(args:List AV)(k:Nat):Tree (AV×List Blk):=
 match E.spec.find? fun x=>x.1==f with
 | some G=>(match (AV.menL (AV.lendL (qH h (args.flatMap zT)) args)).isEmpty with
  | true=>(G.2 (AV.lendL (qH h (args.flatMap zT)) args) []).bind fun r=>(match r with
   | (.vec 0,[.vec e sh l])=>.leaf (.vec k,(qH h (args.flatMap zT)).set k (.vec e sh l))
   | _=>.fail)
  | false=>.fail)
 | none=>.fail
def qyK(E:Env)(h:List Blk)(t:TypeId)(k:Nat):Tree (AV×List Blk):=
 match qhG E t with
 | some z=>(match z.menB.isEmpty with
  | true=>.leaf (.ptr k 0,h.set k z)
  | false=>.fail)
 | none=>.fail
def qAJ(E:Env)(h:List Blk)(t:TypeId)(s x:AV)(k:Nat):Tree (AV×List Blk) :=
  match (E.ty t).d with
  | .slice e es=>(match E.shape 16 e,vr h x with
    | some sh,some (sh',m) =>
      if (sh.length = es /\ 0 < es /\ (E.ty e).zero.length = es) /\ Sh.beqL sh sh' = true then
        (match s with
        | .nils=>.br (ile (qg m) (qwC (E.ty e).bytes)) (.leaf (.vec k,(ye h x).set k (.vec e sh m))) .fail
        | .vec b=>(match h[b]? with
          | some (.vec e' sh'' l)=>if (Sh.beqL sh sh''=true/\e=e')/\qDT b x=true then
              .br (ile (qg l+qg m) (qwC (E.ty e).bytes)) (.leaf (.vec k,((ye h x).set b .dead).set k (.vec e sh (zE l m)))) .fail else .fail
          | _=>.fail)
        | .full sh'' l=>if Sh.beqL sh sh''=true then
            .br (ilt 0 (qg m)) (.br (ile (qg l+qg m) (qwC (E.ty e).bytes)) (.leaf (.vec k,(ye h x).set k (.vec e sh (zE l m)))) .fail) .fail else .fail
        | _=>.fail) else .fail
    | _,_=>.fail)
  | _=>.fail
def qx4:Option Blk->Bool
 | some .dead=>true
 | _=>false
def qCP(E:Env)(h:List Blk)(ts:List TypeId)(azz:List AV)(k:Nat):Tree (AV×List Blk):=
 match ts,azz with
 | [t,t'],[s,x]=>if t=t' then qAJ E h t s x k else .fail
 | _,_=>.fail
def qzz(E:Env)(h:List Blk)(ev:Operand->AV)(op:Op)(k:Nat):Tree (AV×List Blk):=
 match qql op with
 | some (f,xs)=>(match qMf E f with
  | some e=>qx0 E h e (xs.map ev) k
  | none=>qIA E h f (xs.map ev) k)
 | none=>.fail
def q5F(E:Env)(callS:List Blk->q8f)(h:List Blk)(ev:Operand->AV)(op:Op)(k:Nat):Tree (AV×List Blk):=
 match qw5 E op with
 | false=>(match qp0 E h ev op with
  | true=>(qqM E h ev op).bind fun r=>(match Nat.beq r.2.length h.length with
   | true=>.leaf r
   | false=>.fail)
  | false=>(qeI E (callS h) h ev op).bind fun v=>.leaf (v,h))
 | true=>(match qx4 h[k]? with
  | true=>(match op with
   | .buildSlice _ _ _=>(qmy E h ev op).bind fun r=>.leaf (.vec k,h.set k r.2)
   | .alloc t=>qyK E h t k
   | .call { callee:=.builtin .append,args:=args,argTypes:=tys }=>qCP E h tys.toList (args.toList.map ev) k
   | op=>qzz E h ev op k)
  | false=>.fail)
def vM(E:Env)(h:List Blk)(ev:Operand->AV)(op:Op)(k:Nat)(v:AV)(g:List Blk):LDesc:=
 match qw5 E op with
 | true=>⟨some k,some (k::qwq ev op),k::qwq ev op,v.men++qD9 g (k::qwq ev op)⟩
 | false=>(match qp0 E h ev op with
  | true=>⟨none,some (qGB h ev op++qCe h ev op),qCe h ev op,v.men++qD9 g (qCe h ev op)⟩
  | false=>⟨none,qMg E ev op,[],v.men⟩)
def qJf(w:List Nat)(r:Option (List Nat)):Bool:=
 match w with
 | []=>true
 | w=>(match r with
  | some l=>w.all fun b=>!l.contains b
  | none=>false)
def qNS(s:Option Nat)(v:List Nat):Bool:=
 match s with
 | some k=>v.contains k
 | none=>false
def qkI(anc:List Nat)(x:Nat×LDesc)(k:Nat)(d:LDesc):Bool:=!qNS d.s x.2.v&&(qMZ anc k x.1||(!qNS x.2.s d.v&&(qJf x.2.w d.r&&qJf d.w x.2.r)))
def qCl(E:Env)(callS:List Blk->q8f)(all:Array Oper)(anc:List Nat):Nat->List Oper->Nat->List (Nat×LDesc)->St->Tree St
 | _,[],_,_,st=>.leaf st
 | k,o::rest,c,ds,st=>match q6Q all o st.t with
  | some true=>(q5F E callS st.h (E.opd st.t) o.op c).bind fun r=>
    (match ((vM E st.h (E.opd st.t) o.op c r.1 r.2).v.all fun b=>Nat.blt b st.h.length)&&ds.all fun x=>qkI anc x k (vM E st.h (E.opd st.t) o.op c r.1 r.2) with
    | true=>(qvU all k o { st with t:=qmF st.t o.dst r.1,h:=r.2 }).bind (qCl E callS all anc (k+1) rest (match qw5 E o.op with|true=>c+1|false=>c) (ds++[(k,vM E st.h (E.opd st.t) o.op c r.1 r.2)]))
    | false=>.fail)
  | some false=>qCl E callS all anc (k+1) rest c ds (qHq o st)
  | none=>.fail
def qOk(E:Env)(l:List Oper):Nat:=(l.filter fun o=>qw5 E o.op).length
def qGp(E:Env)(callH:qav)(callS:List Blk->q8f)(all:Array Oper)(st:St):Tree St:=
 if qFS all=false then .fail else
 (qCl E callS all (qjd all.toList) 0 (all.toList.take (kL all)) st.h.length [] { st with h:=st.h++List.replicate (qOk E (all.toList.take (kL all))) .dead }).bind fun r=>
  qnM E callH all (kL all) (all.toList.drop (kL all)) r
def zD:Code->Nat
 | .seq a b=>1+zD a+zD b
 | .cond _ a b=>zD a+zD b
 | .block _ c=>zD c
 | .scope c=>zD c
 | .loop c=>1+zD c
 | .rangeFunc _ _ a b=>1+zD a+zD b
 | _=>0
def qbC(l:List ((Nat×Nat)×(St->Tree (Ex×St))))(f k:Nat):Option (St->Tree (Ex×St)):=
 match l with
 | []=>none
 | x::l=>if Nat.beq x.1.1 f&&Nat.beq x.1.2 k then some x.2 else qbC l f k
def qlh(l:List (FuncId×FuncId×Nat))(g:Nat):Option (FuncId×Nat):=
 match l with
 | []=>none
 | x::l=>if Nat.beq x.1 g then some x.2 else qlh l g
def qxI(l:List (FuncId×FuncId×Nat))(g f k:Nat):Bool:=match qlh l g with
 | some y=>Nat.beq y.1 f&&Nat.beq y.2 k
 | none=>false
def q9B(l:List (FuncId×FuncId×Nat))(f:Nat):Bool:=match qlh l f with
 | some _=>false
 | none=>true
def qu5(t:List AV):List Tmp->List AV->List AV
 | d::ds,v::vs=>qu5 (t.set d v) ds vs
 | _,_=>t
def qAT(evA evB:St->Tree (Ex×St))(ps:List Tmp):qF4:=fun args st=>
 match st.pend,st.fs with
 | none,ct::fs=>(match Nat.beq args.length ps.length with
  | true=>(evA { t:=qu5 ct ps args,fs:=st.t::ct::fs,h:=st.h,pend:=none }).bind fun r=>(match r.1 with
   | .normal=>(evB r.2).bind fun q=>(match q.2.fs with
    | it::fs'=>(match q.1 with
     | .normal=>.leaf (.blit true,{ t:=it,fs:=fs',h:=q.2.h,pend:=none })
     | .ret=>.leaf (.blit false,{ t:=it,fs:=fs',h:=q.2.h,pend:=some .ret })
     | .exit i=>.leaf (.blit false,{ t:=it,fs:=fs',h:=q.2.h,pend:=some (.exit i) }))
    | []=>.fail)
   | _=>.fail)
  | false=>.fail)
 | _,_=>.fail
def qBH(st:St):Bool:=match st.fs,st.pend with
 | [[]],none=>AV.noYL st.t&&st.h.all Blk.noY
 | _,_=>false
def qIq(r:AV×St):Tree (Ex×St):=match qBH { r.2 with pend:=none } with
 | true=>(match r.2.pend with
  | none=>.leaf (.normal,{ r.2 with pend:=none })
  | some .ret=>.leaf (.ret,{ r.2 with pend:=none })
  | some (.exit i)=>.leaf (.exit i,{ r.2 with pend:=none })
  | some .normal=>.fail)
 | false=>.fail
def uOf:AV->Option (Sh×U)
 | .str s=>some (.str,.s s)
 | .int k n=>some (.int k,.i n)
 | .ilit k n=>some (.int k,.i n)
 | .bool b=>some (.bool,.b b)
 | .blit b=>some (.bool,.b b)
 | .imm sh l=>some (.sl sh,.l l)
 | _=>none
def qMM:List AV->Option (List Sh×List U)
 | []=>some ([],[])
 | a::l=>match uOf a,qMM l with
  | some (s,u),some (ss,us)=>some (s::ss,u::us)
  | _,_=>none
def qMt(b:Nat)(sh:List Sh)(row:List U):AV->AV
 | .ptr b' off=>if Nat.beq b' b then .eptr sh [row] 0 off else .ptr b' off
 | a=>a
def qIH(ni b:Nat)(st:St):St:=
 match st.h[b]? with
 | some (.cells cs)=>(match qMM cs,Nat.ble ni b with
  | some (sh,row),true=>{ st with t:=st.t.map (qMt b sh row),h:=st.h.set b .dead }
  | _,_=>st)
 | _=>st
def qKy:AV->Option Nat
 | .ptr b _=>some b
 | _=>none
def qMF(o:Oper)(i:Nat):Bool:=match o.dst with
 | some j=>Nat.beq i j
 | none=>false
def qM8(E:Env)(ops:List Oper)(t:List AV):Option Nat:=
 ops.findSome? fun o=>match o.op with
  | .slice ty (.tmp i) _ _ _=>(match (E.ty ty).d with
   | .array n e _=>(match (E.ty e).d,Nat.ble n 16 with
    | .str,true=>(match ops.findSome? fun q=>if qMF q i then (match q.op with|.fieldAddr _ (.tmp j) _=>some j|_=>none) else none with
     | some j=>qKy (t.getD j .undef)
     | none=>qKy (t.getD i .undef))
    | _,_=>none)
   | _=>none)
  | _=>none
def qx9(E:Env)(ops:List Oper)(st:St):St:=
 match qM8 E ops st.t with
 | some b=>qIH E.nimp b st
 | none=>st
def yf(E:Env)(callH:qav)(callS:List Blk->q8f)(rangeH:qgs)(f:FuncId):Code->Nat->St->Tree (Ex×St)
 | .skip,_,st=>.leaf (.normal,st)
 | .label _,_,st=>.leaf (.normal,st)
 | .region _ ops draw,_,st=>((match draw with
   | true=>qGp E callH callS ops (qx9 E ops.toList st)
   | false=>qnM E callH ops 0 ops.toList (qx9 E ops.toList st)):Tree St).bind fun s=>.leaf (.normal,s)
 | .seq a b,k,st=>match qbC E.loops f k with
  | some L=>L st
  | none=>(yf E callH callS rangeH f a (k+1) st).bind fun r=>match r.1 with
   | .normal=>yf E callH callS rangeH f b (k+1+zD a) r.2
   | e=>.leaf (e,r.2)
 | .cond c a b,k,st=>match E.opd st.t c with
  | .blit true=>yf E callH callS rangeH f a k st
  | .blit false=>yf E callH callS rangeH f b (k+zD a) st
  | .bool x=>match c with
   | .tmp d=>.br x (yf E callH callS rangeH f a k { st with t:=st.t.set d (.blit true) }) (yf E callH callS rangeH f b (k+zD a) { st with t:=st.t.set d (.blit false) })
   | _=>.fail
  | _=>.fail
 | .block id c,k,st=>(yf E callH callS rangeH f c k st).bind fun r=>match r.1 with
  | .exit i=>if i=id then .leaf (.normal,r.2) else .leaf (.exit i,r.2)
  | e=>.leaf (e,r.2)
 | .loop _,k,st=>match qbC E.loops f k with
  | some L=>L st
  | none=>.fail
 | .exit id,_,st=>.leaf (.exit id,st)
 | .ret,_,st=>.leaf (.ret,st)
 | .rangeFunc x ps a b,k,st=>(match E.opd st.t x with
  | .fn g first caps=>(match qxI E.iter g f k&&q9B E.iter f&&qBH st with
   | true=>(rangeH g (qAT (yf E callH callS rangeH f a (k+1)) (yf E callH callS rangeH f b (k+1+zD a)) ps.toList) (first++[.yld]++caps) st).bind qIq
   | false=>.fail)
  | _=>.fail)
 | _,_,_=>.fail
def qsn(E:Env)(h:List Blk)(t:List AV):List ResultVar->Option (List AV)
 | []=>some []
 | .tmp i::l=>match qsn E h t l with|some r=>some (t.getD i .undef::r)|none=>none
 | .cell a ty::l=>match (qiD E h ty (t.getD a .undef)),qsn E h t l with
  | .leaf (v,_,_),some r=>some (v::r)
  | _,_=>none
def qGV:List AV->AV
 | [v]=>v
 | l=>.tuple l
def qK4(E:Env)(fn:Func)(r:Ex×St):Tree (AV×St):=
 match r.1 with
 | .exit _=>.fail
 | _=>match qsn E r.2.h r.2.t fn.results.toList,r.2.fs with
  | some vs,caller::fs=>.leaf (qGV vs,{ t:=caller,fs:=fs,h:=r.2.h,pend:=r.2.pend })
  | _,_=>.fail
def qEO(fn:Func)(args:List AV):List AV:=args++List.replicate (fn.ntmps-args.length) .skip
def qbX(E:Env)(h:List Blk):q8f:=fun f args=>
 match E.spec.find? fun x=>x.1==f with
 | none=>.fail
 | some G=>if (args.flatMap zT).all (qnD h)/\(AV.menL (AV.lendL h args)).isEmpty then
   (G.2 (AV.lendL h args) []).bind fun r=>match r.2 with|[]=>if (r.1.men).isEmpty then .leaf r.1 else .fail|_=>.fail
  else .fail
def qxK(E:Env)(h:List Blk)(all:Array Oper):Nat->List Oper->List AV->Tree (List AV)
 | _,[],t=>.leaf t
 | k,o::rest,t=>match q6Q all o t with
  | some true=>(match qf7 E o.op with
   | true=>(qtc E h (E.opd t) o.op).bind fun r=>(qvU all k o { t:=qmF t o.dst r.1,fs:=[],h:=h,pend:=none }).bind fun s=>qxK E h all (k+1) rest s.t
   | false=>.fail)
  | some false=>qxK E h all (k+1) rest (qmF t o.dst .skip)
  | none=>.fail
def q26(E:Env)(h:List Blk)(f:FuncId):Code->Nat->List AV->Tree (Ex×List AV)
 | .skip,_,t=>.leaf (.normal,t)
 | .label _,_,t=>.leaf (.normal,t)
 | .region _ ops draw,_,t=>(match draw with
  | true=>.fail
  | false=>(match qM8 E ops.toList t with
   | some _=>.fail
   | none=>(qxK E h ops 0 ops.toList t).bind fun t=>.leaf (.normal,t)))
 | .seq a b,k,t=>(match qbC E.loops f k with
  | some _=>.fail
  | none=>(q26 E h f a (k+1) t).bind fun r=>match r.1 with
   | .normal=>q26 E h f b (k+1+zD a) r.2
   | e=>.leaf (e,r.2))
 | .cond c a b,k,t=>(match E.opd t c with
  | .blit true=>q26 E h f a k t
  | .blit false=>q26 E h f b (k+zD a) t
  | .bool x=>(match c with
   | .tmp d=>.br x (q26 E h f a k (t.set d (.blit true))) (q26 E h f b (k+zD a) (t.set d (.blit false)))
   | _=>.fail)
  | _=>.fail)
 | .block id c,k,t=>(q26 E h f c k t).bind fun r=>match r.1 with
  | .exit i=>if i=id then .leaf (.normal,r.2) else .leaf (.exit i,r.2)
  | e=>.leaf (e,r.2)
 | .exit id,_,t=>.leaf (.exit id,t)
 | .ret,_,t=>.leaf (.ret,t)
 | _,_,_=>.fail
def qCI(E:Env)(h:List Blk)(f:FuncId)(fn:Func)(args:List AV):Tree AV:=
 match fn.body with
 | none=>.fail
 | some c=>(q26 E h f c 0 (qEO fn args)).bind fun r=>match r.1 with
  | .exit _=>.fail
  | _=>(match qsn E h r.2 fn.results.toList with
   | some vs=>.leaf (qGV vs)
   | none=>.fail)
def q9w(E:Env)(h:List Blk):q8f:=fun f args=>
 match E.spec.find? fun x=>x.1==f with
 | some _=>qbX E h f args
 | none=>(match E.body.find? fun x=>x.1==f with
  | some fn=>(match q9B E.iter f with
   | true=>qCI E h f fn.2 args
   | false=>.fail)
  | none=>.fail)
def qzC:List Blk->q8f:=fun _ _ _=>.fail
def qzn(E:Env)(callS:List Blk->q8f)(callH:qav)(rangeH:qgs)(f:FuncId)(fn:Func)(args:List AV)(st:St):Tree (AV×St):=
 match fn.body with
 | none=>.fail
 | some c=>(yf E callH callS rangeH f c 0 { t:=qEO fn args,fs:=st.t::st.fs,h:=st.h,pend:=st.pend }).bind (qK4 E fn)
def qE2(E:Env)(callH:qav)(rangeH:qgs)(f:FuncId)(fn:Func)(args:List AV)(st:St):Tree (AV×St):=
 match fn.body with
 | none=>.fail
 | some c=>(yf E callH (q9w E) rangeH f c 0 { t:=qEO fn args,fs:=st.t::st.fs,h:=st.h,pend:=st.pend }).bind (qK4 E fn)
def qyu:qgs:=fun _ _ _ _=>.fail
def qni(E:Env)(callH:qav):qgs:=fun g y args st=>match E.body.find? fun x=>x.1==g with
 | some fn=>qE2 E (qJ0 y callH) qyu g fn.2 args st
 | none=>.fail
def qGH(_:Env)(_:TypeId)(_:List AV)(_:St):Tree (AV×St):=.fail
def qaY(E:Env):Nat->qav
  | 0=>fun _ _ _=>.fail
  | n+1=>fun o args st=>match o with
    | none=>.fail
    | some f=>match qMf E f with
     | some e=>qGH E e args st
     | none=>match E.spec.find? fun x=>x.1==f with
      | some G=>q1s G.2 args st
      | none=>match E.body.find? fun x=>x.1==f with
        | some fn=>(match q9B E.iter f with
          | true=>(qE2 E (qaY E n) (qni E (qaY E n)) f fn.2 args st).bind fun r=>.leaf (r.1,{ t:=r.2.t,fs:=r.2.fs,h:=r.2.h,pend:=st.pend })
          | false=>.fail)
        | none=>.fail
def qDk(E:Env)(n:Nat)(f:FuncId)(fn:Func):zj:=fun args h=>match q9B E.iter f with
 | true=>(qE2 E (qaY E n) (qni E (qaY E n)) f fn args { t:=[],fs:=[],h:=h,pend:=none }).bind fun r=>.leaf (r.1,r.2.h)
 | false=>.fail
variable {l:R}{sh:List Sh}{v:Value}{w:World}
theorem Tree.run_bind {α β:Type}(t:Tree α)(f:α->Tree β):(t.bind f).run=t.run.bind fun a=>(f a).run:=by
 induction t with
 | leaf a=>rfl
 | br b t e iht ihe=>cases b<;>simp[Tree.bind,Tree.run,iht,ihe]
 | fail=>rfl
theorem bind_some {α β:Type}{t:Tree α}{f:α->Tree β}{b:β}(h:(t.bind f).run=some b):∃a,t.run=some a/\(f a).run=some b:=by
 rw[Tree.run_bind] at h;cases ht:t.run with
 | none=>rw[ht] at h;cases h
 | some a=>rw[ht] at h;exact⟨a,rfl,h⟩
inductive RepU (w:World) (M:Nat->Prop):Sh->U->Value->Prop
 | int (k:IntKind) (u:U):RepU w M (.int k) u (.int k u.toI)
 | bool (u:U):RepU w M .bool u (.bool u.toB)
 | str (u:U):RepU w M .str u (.string ⟨u.toS.toArray⟩)
 | slnil (row:List Sh) (u:U) (h:u.toR=[]):RepU w M (.sl row) u (.slice none 0 0)
 | sl (row:List Sh) (u:U) (a:Addr) (cap:Nat) (vs:Nat->Nat->Value) (hsp:0<u.toR.length->a.spot=none) (hcap:u.toR.length<=cap)
   (hM:∀r j,r<u.toR.length->j<row.length->M a.block)
   (hc:∀r j,r<u.toR.length->j<row.length->w.cell? ⟨a.block,a.off+r*row.length+j,none⟩=some (vs r j))
   (hr:∀r j (hj:j<row.length),r<u.toR.length->RepU w M row[j] (zJ u.toR r j) (vs r j)) :
   RepU w M (.sl row) u (.slice (some a) u.toR.length cap)
def Rows(w:World)(M:Nat->Prop)(sh:List Sh)(l:R)(a:Addr):Prop:=∀r j (hj:j<sh.length),r<l.length->M a.block/\∃v,w.cell? ⟨a.block,a.off+r*sh.length+j,none⟩=some v/\RepU w M sh[j] (zJ l r j) v
def qhB(w:World)(M:Nat->Prop)(sh:List Sh)(l:R)(v:Value):Prop:=(v=.slice none 0 0/\l=[])\/∃a cap,v=.slice (some a) l.length cap/\(0<l.length->a.spot=none)/\l.length<=cap/\Rows w M sh l a
theorem qph {M:Nat->Prop}{row:List Sh}{u:U}(h:RepU w M (.sl row) u v):qhB w M row u.toR v:=by
 cases h with
 | slnil _ _ h=>exact .inl ⟨rfl,h⟩
 | sl _ _ a cap vs hsp hcap hM hc hr=>exact .inr ⟨a,cap,rfl,hsp,hcap,fun r j hj hrr=>⟨hM r j hrr hj,vs r j,hc r j hrr hj,hr r j hj hrr⟩⟩
open Classical in
theorem qbp {M:Nat->Prop}{row:List Sh}(h:qhB w M row l v):RepU w M (.sl row) (.l l) v:=by
 rcases h with⟨rfl,rfl⟩|⟨a,cap,rfl,hsp,hcap,hr⟩
 ·exact .slnil _ _ rfl
 ·exact .sl row (.l l) a cap (fun r j=>if h:∃hj:j<row.length,r<l.length then Classical.choose (hr r j h.1 h.2).2 else undef) hsp hcap
   (fun r j h1 h2=>(hr r j h2 h1).1)
   (fun r j h1 h2=>by rw[dif_pos ⟨h2,h1⟩];exact(Classical.choose_spec (hr r j h2 h1).2).1)
   (fun r j h2 h1=>by rw[dif_pos ⟨h2,h1⟩];exact(Classical.choose_spec (hr r j h2 h1).2).2)
theorem RepU.mono {w w':World}{M M':Nat->Prop}{s:Sh}{u:U}(h:RepU w M s u v)(hM:∀n,M n->M' n) (hw:∀a:Addr,M a.block->w'.cell? a=w.cell? a):RepU w' M' s u v:=by
 induction h with
 | int=>exact .int _ _
 | bool=>exact .bool _
 | str=>exact .str _
 | slnil row u h=>exact .slnil _ _ h
 | sl row u a cap vs hsp hcap h1 hc hr ih=>
  exact .sl row u a cap vs hsp hcap (fun r j h2 h3=>hM _ (h1 r j h2 h3)) (fun r j h2 h3=>by rw[hw ⟨a.block,a.off+r*row.length+j,none⟩ (h1 r j h2 h3)];exact hc r j h2 h3) ih
theorem Rows.mono {w w':World}{M M':Nat->Prop}{a:Addr}(h:Rows w M sh l a)(hM:∀n,M n->M' n) (hw:∀a:Addr,M a.block->w'.cell? a=w.cell? a):Rows w' M' sh l a:=by intro r j hj hr;obtain⟨h1,v,h2,h3⟩:=h r j hj hr;exact⟨hM _ h1,v,by rw[hw ⟨a.block,_,none⟩ h1];exact h2,h3.mono hM hw⟩
theorem qhB.mono {w w':World}{M M':Nat->Prop}(h:qhB w M sh l v)(hM:∀n,M n->M' n) (hw:∀a:Addr,M a.block->w'.cell? a=w.cell? a):qhB w' M' sh l v:=by
 rcases h with h|⟨a,cap,h1,h2,hc,h3⟩
 ·exact .inl h
 ·exact .inr ⟨a,cap,h1,h2,hc,h3.mono hM hw⟩
structure Ctx where
 σ:Nat->Option Nat
 h:List Blk
 w:World
 M:Nat->Prop
 kept:List (Nat×Obj):=[]
 y:Nat:=0
def Ctx.isVec(X:Ctx)(b:Nat)(sh:List Sh)(n:Nat):Prop:=∃e l,(X.h[b]?=some (.vec e sh l)\/X.h[b]?=some (.frz e sh l))/\l.length=n
def qzF(X:Ctx)(b:Nat)(sh:List Sh)(m:Nat)(v:Value):Prop:=
 match X.σ b with
 | none=>∃p,v=.slice p 0 0
 | some n=>∃cap,v=.slice (some ⟨n,0,none⟩) m cap/\m<=cap/\cap<=maxLen/\∃c T fr,X.w.heap[n]?=some (.cells c T fr)/\c.size=cap*sh.length
def q1e(k:IntKind)(l:R):List Value:=l.map fun row=>.int k (row.getD 0 (.i 0)).toI
theorem ub (k:IntKind)(l:R):(q1e k l).length=l.length:=by simp[q1e]
theorem qjk {k:IntKind}{i:Nat}(h:i<l.length):(q1e k l)[i]?=some (.int k (cI l i 0)):=by simp[q1e,cI,zJ,h]
mutual
inductive Rep (X:Ctx):AV->Value->Prop
 | undef (v:Value):Rep X .undef v
 | skip:Rep X .skip Go.undef
 | yld:Rep X .yld (.func (.yield X.y) #[] #[])
 | blit (b:Bool):Rep X (.blit b) (.bool b)
 | bool (b:Bool):Rep X (.bool b) (.bool b)
 | ilit (k:IntKind) (n:Int):Rep X (.ilit k n) (.int k n)
 | int (k:IntKind) (n:Int):Rep X (.int k n) (.int k n)
 | str (s:qOK):Rep X (.str s) (.string ⟨s.toArray⟩)
 | nilp:Rep X .nilp (.pointer none)
 | ptr (b off n:Nat) (hb:b<X.h.length) (hσ:X.σ b=some n):Rep X (.ptr b off) (.pointer (some ⟨n,off,none⟩))
 | eptr (sh:List Sh) (l:R) (i:Int) (off:Nat) (a:Addr) (hsp:a.spot=none) (h0:0<=i) (h1:i.toNat<l.length) (hr:Rows X.w X.M sh l a) :
   Rep X (.eptr sh l i off) (.pointer (some ⟨a.block,a.off+i.toNat*sh.length+off,none⟩))
 | mnil (sh:List Sh) (l:R) (i:Int) (off:Nat):Rep X (.mptr false sh l i off) (.pointer none)
 | mptr (sh:List Sh) (l:R) (i:Int) (off:Nat) (a:Addr) (hsp:a.spot=none) (h0:0<=i) (h1:i.toNat<l.length) (hr:Rows X.w X.M sh l a) :
   Rep X (.mptr true sh l i off) (.pointer (some ⟨a.block,a.off+i.toNat*sh.length+off,none⟩))
 | vptr (b:Nat) (i:Int) (off n k:Nat) (hb:b<X.h.length) (hσ:X.σ b=some n)
   (h:∀sh m,X.isVec b sh m->0<=i/\i.toNat<m/\k=i.toNat*sh.length):Rep X (.vptr b i off) (.pointer (some ⟨n,k+off,none⟩))
 | vsub (b:Nat) (i:Int) (n k m c:Nat) (hb:b<X.h.length) (hσ:X.σ b=some n)
   (h:∀sh m',X.isVec b sh m'->0<=i/\i.toNat<=m'/\(k=i.toNat*sh.length\/(m=0/\k=0))/\m=m'-i.toNat):Rep X (.vsub b i) (.slice (some ⟨n,k,none⟩) m c)
 | aptr (b o:Nat) (i:Int) (n:Nat) (hb:b<X.h.length) (hσ:X.σ b=some n) (h0:0<=i):Rep X (.aptr b o i) (.pointer (some ⟨n,o+i.toNat,none⟩))
 | asub (b o N:Nat) (i m:Int) (n k c:Nat) (hb:b<X.h.length) (hσ:X.σ b=some n) (h0:0<=i) (h1:0<=m) (h2:i+m<=N) (hk:k=o+i.toNat\/m=0):Rep X (.asub b o N i m) (.slice (some ⟨n,k,none⟩) m.toNat c)
 | nils:Rep X .nils (.slice none 0 0)
 | imm (sh:List Sh) (l:R) (v:Value) (h:qhB X.w X.M sh l v):Rep X (.imm sh l) v
 | full (sh:List Sh) (l:R) (p:Option Addr) (n:Nat) (h:qhB X.w X.M sh l (.slice p n n)):Rep X (.full sh l) (.slice p n n)
 | vec (b:Nat) (p:Option Addr) (n c:Nat) (hb:b<X.h.length) (h:∀sh m,X.isVec b sh m->qzF X b sh m (.slice p n c)):Rep X (.vec b) (.slice p n c)
 | nilf:Rep X .nilf .nilFunc
 | fn (f:FuncId) (first caps:List AV) (vf vc:List Value) (h1:RepL X first vf) (h2:RepL X caps vc):Rep X (.fn f first caps) (.func (.func f) vf.toArray vc.toArray)
 | agg (cs:List AV) (vs:List Value) (h:RepL X cs vs):Rep X (.agg cs) (.agg vs.toArray)
 | tuple (cs:List AV) (vs:List Value) (h:RepL X cs vs):Rep X (.tuple cs) (.tuple vs.toArray)
 | bagg (cs:List AV) (k:IntKind) (n:Nat) (l:R) (vs:List Value) (h:RepL X cs vs) (hl:l.length=n):Rep X (.bagg cs k n l) (.agg (vs++q1e k l).toArray)
inductive RepL (X:Ctx):List AV->List Value->Prop
 | nil:RepL X [] []
 | cons {a:AV} {v:Value} {azz:List AV} {vs:List Value} (h:Rep X a v) (t:RepL X azz vs):RepL X (a::azz) (v::vs)
end
structure MoveB (X X':Ctx) (b b':Nat):Prop where
 lt:b'<X'.h.length
 σ:X'.σ b'=X.σ b
 vec:∀sh m,X'.isVec b' sh m->X.isVec b sh m
 size:∀sh m,X'.isVec b' sh m->∀n,X.σ b=some n->∀c T fr,X.w.heap[n]?=some (.cells c T fr)->∃c' T' fr',X'.w.heap[n]?=some (.cells c' T' fr')/\c'.size=c.size
structure Move0 (X X':Ctx) (f:Nat->Option Nat):Prop where
 M:∀n,X.M n->X'.M n
 w:∀a:Addr,X.M a.block->X'.w.cell? a=X.w.cell? a
 b:∀b b',b<X.h.length->f b=some b'->MoveB X X' b b'
 y:X'.y=X.y
structure Move (X X':Ctx) (f:Nat->Option Nat):Prop extends Move0 X X' f where
 kept:X'.kept=X.kept
theorem Move.of {X X':Ctx}{f:Nat->Option Nat}(M:∀n,X.M n->X'.M n)(w:∀a:Addr,X.M a.block->X'.w.cell? a=X.w.cell? a)(b:∀b b',b<X.h.length->f b=some b'->MoveB X X' b b') (y:X'.y=X.y:=by rfl) (k:X'.kept=X.kept:=by rfl):Move X X' f:=⟨⟨M,w,b,y⟩,k⟩
mutual
theorem Rep.ren{X X':Ctx}{f:Nat->Option Nat}(hm:Move0 X X' f):∀{av:AV} {v:Value},Rep X av v->Rep X' (av.ren f) v
 | _,_,.undef v=>.undef v
 | _,_,.skip=>.skip
 | _,_,.yld=>by rw[<-hm.y];exact .yld
 | _,_,.blit b=>.blit b
 | _,_,.bool b=>.bool b
 | _,_,.ilit k n=>.ilit k n
 | _,_,.int k n=>.int k n
 | _,_,.str s=>.str s
 | _,_,.nilp=>.nilp
 | _,_,.ptr b off n hb hσ=>by
  unfold AV.ren;cases hf:f b with
  | none=>exact .undef _
  | some b'=>exact .ptr b' off n (hm.b b b' hb hf).lt (by rw[(hm.b b b' hb hf).σ];exact hσ)
 | _,_,.eptr sh l i off a hsp h0 h1 hr=>.eptr sh l i off a hsp h0 h1 (hr.mono hm.M hm.w)
 | _,_,.mnil sh l i off=>.mnil sh l i off
 | _,_,.mptr sh l i off a hsp h0 h1 hr=>.mptr sh l i off a hsp h0 h1 (hr.mono hm.M hm.w)
 | _,_,.vptr b i off n k hb hσ h=>by
  unfold AV.ren;cases hf:f b with
  | none=>exact .undef _
  | some b'=>exact .vptr b' i off n k (hm.b b b' hb hf).lt (by rw[(hm.b b b' hb hf).σ];exact hσ) fun sh m hv=>h sh m ((hm.b b b' hb hf).vec sh m hv)
 | _,_,.vsub b i n k m c hb hσ h=>by
  unfold AV.ren;cases hf:f b with
  | none=>exact .undef _
  | some b'=>exact .vsub b' i n k m c (hm.b b b' hb hf).lt (by rw[(hm.b b b' hb hf).σ];exact hσ) fun sh m' hv=>h sh m' ((hm.b b b' hb hf).vec sh m' hv)
 | _,_,.aptr b o i n hb hσ h0=>by
  unfold AV.ren;cases hf:f b with
  | none=>exact .undef _
  | some b'=>exact .aptr b' o i n (hm.b b b' hb hf).lt (by rw[(hm.b b b' hb hf).σ];exact hσ) h0
 | _,_,.asub b o N i m n k c hb hσ h0 h1 h2 hk=>by
  unfold AV.ren;cases hf:f b with
  | none=>exact .undef _
  | some b'=>exact .asub b' o N i m n k c (hm.b b b' hb hf).lt (by rw[(hm.b b b' hb hf).σ];exact hσ) h0 h1 h2 hk
 | _,_,.nils=>.nils
 | _,_,.imm sh l v h=>.imm sh l v (h.mono hm.M hm.w)
 | _,_,.full sh l p n h=>.full sh l p n (h.mono hm.M hm.w)
 | _,_,.vec b p nn cc hb h=>by
  unfold AV.ren;cases hf:f b with
  | none=>exact .undef _
  | some b'=>
   refine .vec b' p nn cc (hm.b b b' hb hf).lt fun sh m hv=>?_;have h1:=h sh m ((hm.b b b' hb hf).vec sh m hv);unfold qzF at *;rw[(hm.b b b' hb hf).σ];cases hs:X.σ b with
   | none=>rw[hs] at h1;exact h1
   | some n=>
    rw[hs] at h1;obtain⟨cap,e1,e2,e2',c,T,fr,e3,e4⟩:=h1;obtain⟨c',T',fr',e5,e6⟩:=(hm.b b b' hb hf).size sh m hv n hs c T fr e3;exact⟨cap,e1,e2,e2',c',T',fr',e5,e6.trans e4⟩
 | _,_,.nilf=>.nilf
 | _,_,.fn g first caps vf vc h1 h2=>.fn g _ _ vf vc (RepL.ren hm h1) (RepL.ren hm h2)
 | _,_,.agg cs vs h=>.agg _ vs (RepL.ren hm h)
 | _,_,.tuple cs vs h=>.tuple _ vs (RepL.ren hm h)
 | _,_,.bagg cs k n l vs h hl=>.bagg _ k n l vs (RepL.ren hm h) hl
theorem RepL.ren{X X':Ctx}{f:Nat->Option Nat}(hm:Move0 X X' f):∀{av:List AV} {v:List Value},RepL X av v->RepL X' (AV.renL f av) v
 | _,_,.nil=>.nil
 | _,_,.cons h t=>.cons (Rep.ren hm h) (RepL.ren hm t)
end
mutual
theorem AV.ren_some:∀av:AV,av.ren some=av
 | .undef|.skip|.yld|.blit _|.bool _|.ilit _ _|.int _ _|.str _|.nilp|.eptr _ _ _ _|.mptr _ _ _ _ _|.nils|.imm _ _|.full _ _|.nilf=>rfl
 | .ptr _ _=>rfl
 | .vptr _ _ _=>rfl
 | .vsub _ _=>rfl
 | .aptr _ _ _=>rfl
 | .asub _ _ _ _ _=>rfl
 | .vec _=>rfl
 | .fn g first caps=>by simp[AV.ren,AV.renL_some first,AV.renL_some caps]
 | .agg cs=>by simp[AV.ren,AV.renL_some cs]
 | .tuple cs=>by simp[AV.ren,AV.renL_some cs]
 | .bagg cs k n l=>by simp[AV.ren,AV.renL_some cs]
theorem AV.renL_some:∀l:List AV,AV.renL some l=l
 | []=>rfl
 | a::l=>by simp[AV.renL,AV.ren_some a,AV.renL_some l]
end
abbrev Ext(X X':Ctx):Prop:=Move X X' some
theorem Rep.ext {X X':Ctx}(hm:Ext X X'){av:AV}(h:Rep X av v):Rep X' av v:=by have:=h.ren hm.toMove0;rwa [AV.ren_some] at this
theorem RepL.ext {X X':Ctx}(hm:Ext X X'){av:List AV}{v:List Value}(h:RepL X av v):RepL X' av v:=by have:=h.ren hm.toMove0;rwa [AV.renL_some] at this
theorem RepL.length{X:Ctx}:∀{azz:List AV} {vs:List Value},RepL X azz vs->azz.length=vs.length
 | _,_,.nil=>rfl
 | _,_,.cons _ t=>by simp[RepL.length t]
theorem RepL.get{X:Ctx}:∀{azz:List AV} {vs:List Value} (_:RepL X azz vs) (i:Nat) (a:AV),azz[i]?=some a->∃v,vs[i]?=some v/\Rep X a v
 | _,_,.nil,i,a,h=>by simp at h
 | _,_,.cons h _,0,a,e=>by simp at e;subst e;exact⟨_,by simp,h⟩
 | _,_,.cons _ t,i+1,a,e=>by
  obtain⟨v,h1,h2⟩:=RepL.get t i a (by simpa using e);exact⟨v,by simpa using h1,h2⟩
theorem RepL.getD {X:Ctx}{azz:List AV}{vs:List Value}(h:RepL X azz vs)(i:Nat):Rep X (azz.getD i .undef) (vs.getD i Go.undef):=by
 cases e:azz[i]? with
 | none=>
  have:azz.getD i .undef=.undef:=by simp[e]
  rw[this];exact .undef _
 | some a=>
  obtain⟨v,h1,h2⟩:=h.get i a e;simp[e,h1];exact h2
theorem RepL.append{X:Ctx}:∀{azz:List AV} {vs:List Value} {bs:List AV} {us:List Value},RepL X azz vs->RepL X bs us->RepL X (azz++bs) (vs++us)
 | _,_,_,_,.nil,h=>h
 | _,_,_,_,.cons h t,h'=>.cons h (RepL.append t h')
theorem RepL.take{X:Ctx}:∀{azz:List AV} {vs:List Value},RepL X azz vs->∀n,RepL X (azz.take n) (vs.take n)
 | _,_,.nil,n=>by simp;exact .nil
 | _,_,.cons h t,0=>by simp;exact .nil
 | _,_,.cons h t,n+1=>by simp;exact .cons h (RepL.take t n)
theorem RepL.drop{X:Ctx}:∀{azz:List AV} {vs:List Value},RepL X azz vs->∀n,RepL X (azz.drop n) (vs.drop n)
 | _,_,.nil,n=>by simp;exact .nil
 | _,_,.cons h t,0=>by simp;exact .cons h t
 | _,_,.cons h t,n+1=>by simp;exact RepL.drop t n
theorem RepL.set{X:Ctx}{a:AV}{v:Value}(hv:Rep X a v):∀{azz:List AV} {vs:List Value},RepL X azz vs->∀n,RepL X (azz.set n a) (vs.set n v)
 | _,_,.nil,n=>by simp;exact .nil
 | _,_,.cons h t,0=>by simp;exact .cons hv t
 | _,_,.cons h t,n+1=>by simp;exact .cons h (RepL.set hv t n)
def qBg(w:World)(M:Nat->Prop)(sh:List Sh)(l:R)(c:Array Value):Prop:=∀r j (hj:j<sh.length),r<l.length->∃v,c[r*sh.length+j]?=some v/\RepU w M sh[j] (zJ l r j) v
theorem qBg.mono {w w':World}{M M':Nat->Prop}{c:Array Value}(h:qBg w M sh l c)(hM:∀n,M n->M' n) (hw:∀a:Addr,M a.block->w'.cell? a=w.cell? a):qBg w' M' sh l c:=by intro r j hj hr;obtain⟨v,h2,h3⟩:=h r j hj hr;exact⟨v,h2,h3.mono hM hw⟩
def jm(X:Ctx)(b:Nat):Blk->Prop
 | .cells cs=>∃n c T,X.σ b=some n/\X.w.heap[n]?=some (.cells c T (0,0))/\RepL X cs c.toList
 | .big cs k N l=>∃n c T vs,X.σ b=some n/\X.w.heap[n]?=some (.cells c T (0,0))/\RepL X cs vs/\c.toList=vs++q1e k l/\l.length=N
 | .vec e sh l=>(X.σ b=none/\l=[])\/∃n c,X.σ b=some n/\X.w.heap[n]?=some (.cells c e (0,0))/\qBg X.w X.M sh l c
 | .frz e sh l=>(X.σ b=none/\l=[])\/∃n c,X.σ b=some n/\X.w.heap[n]?=some (.cells c e (0,0))/\qBg X.w X.M sh l c/\X.M n
 | .dead=>True
def Blk.mut:Blk->Bool
 | .cells _|.vec _ _ _|.big _ _ _ _=>true
 | _=>false
def Blk.solid:Blk->Bool
 | .cells _|.big _ _ _ _=>true
 | _=>false
def Ctx.own(X:Ctx)(b n:Nat):Prop:=X.σ b=some n/\∃k,X.h[b]?=some k/\k.mut=true
structure Base where
 w0:World
 imps:List (Option Nat)
 M0:Nat->Prop
 fs:List (List Value)
 ro:Option Nat:=none
 y:Nat:=0
 pin:Option Ex->List (Nat×Obj):=fun _=>[]
theorem Rep.ext0 {X X':Ctx}(hm:Move0 X X' some){av:AV}(h:Rep X av v):Rep X' av v:=by have:=h.ren hm;rwa [AV.ren_some] at this
theorem RepL.ext0 {X X':Ctx}(hm:Move0 X X' some){av:List AV}{v:List Value}(h:RepL X av v):RepL X' av v:=by have:=h.ren hm;rwa [AV.renL_some] at this
structure HSim (B:Base) (X:Ctx):Prop where
 blk:∀b k,X.h[b]?=some k->jm X b k
 inj:∀b b' n,X.own b n->X.own b' n->b=b'
 notM:∀b n,X.own b n->¬X.M n
 ltM:∀n,X.M n->n<X.w.heap.size
 M0:∀n,B.M0 n->X.M n
 newM:∀n,X.M n->B.M0 n\/B.w0.heap.size<=n
 os:X.w.os=B.w0.os
 tape:X.w.tape=B.w0.tape
 output:X.w.output=B.w0.output
 size:B.w0.heap.size<=X.w.heap.size
 frame:∀n,n<B.w0.heap.size->some n∉B.imps->X.w.heap[n]?=B.w0.heap[n]?
 imps:∀b,b<B.imps.length->X.σ b=(B.imps[b]?).join
 impc:∀b,b<B.imps.length->∃k,X.h[b]?=some k/\k.solid=true
 fresh:∀b n,X.own b n->B.imps.length<=b->B.w0.heap.size<=n
 kept:∀p,p∈X.kept->X.w.heap[p.1]?=some p.2/\(∀c T fr,p.2≠.cells c T fr)/\B.w0.heap.size<=p.1
theorem Ctx.own.lt {B:Base}{X:Ctx}(hs:HSim B X){b n:Nat}(h:X.own b n):n<X.w.heap.size:=by
 obtain⟨h1,k,h2,h3⟩:=h;have:=hs.blk b k h2;cases k with
 | cells cs=>
  obtain⟨n',c,T,e1,e2,_⟩:=this;rw[h1] at e1;cases e1;exact(qOR.1 e2).1
 | big cs k N l=>
  obtain⟨n',c,T,vs,e1,e2,_⟩:=this;rw[h1] at e1;cases e1;exact(qOR.1 e2).1
 | vec e sh l=>
  rcases this with⟨e1,_⟩|⟨n',c,e1,e2,_⟩
  ·rw[h1] at e1;cases e1
  ·rw[h1] at e1;cases e1;exact(qOR.1 e2).1
 | frz e sh l=>cases h3
 | dead=>cases h3
theorem Ctx.own.cells {B:Base}{X:Ctx}(hs:HSim B X){b n:Nat}(h:X.own b n):∃c T fr,X.w.heap[n]?=some (.cells c T fr):=by
 obtain⟨h1,k,h2,h3⟩:=h;have:=hs.blk b k h2;cases k with
 | cells cs=>
  obtain⟨n',c,T,e1,e2,_⟩:=this;rw[h1] at e1;cases e1;exact⟨_,_,_,e2⟩
 | big cs k N l=>
  obtain⟨n',c,T,vs,e1,e2,_⟩:=this;rw[h1] at e1;cases e1;exact⟨_,_,_,e2⟩
 | vec e sh l=>
  rcases this with⟨e1,_⟩|⟨n',c,e1,e2,_⟩
  ·rw[h1] at e1;cases e1
  ·rw[h1] at e1;cases e1;exact⟨_,_,_,e2⟩
 | frz e sh l=>cases h3
 | dead=>cases h3
theorem zS {n:Nat}{c:Array Value}{T:TypeId}{fr:Nat×Nat}(h:w.heap[n]?=some (.cells c T fr))(off:Nat):w.cell? ⟨n,off,none⟩=c[off]?:=by simp[World.cell?,h]
end Go.Eng

namespace Go.Eng
variable {B:Base}{X:Ctx}{b:Nat}{e:TypeId}{l:R}{sh:List Sh}{w':World}
theorem Blk.mut_ren (f:Nat->Option Nat)(k:Blk):(k.ren f).mut=k.mut:=by cases k<;>rfl
theorem Blk.solid_ren (f:Nat->Option Nat)(k:Blk):(k.ren f).solid=k.solid:=by cases k<;>rfl
theorem Blk.ren_some (k:Blk):k.ren some=k:=by cases k<;>simp[Blk.ren,AV.renL_some]
theorem HSim.hlen (hs:HSim B X):B.imps.length<=X.h.length:=by
 rcases qOT X.h.length B.imps.length with h|h
 ·obtain⟨cs,e,_⟩:=hs.impc X.h.length h;rw[qP7 (qON _)] at e;cases e
 ·exact h
theorem jm.move {X X':Ctx}{f:Nat->Option Nat}(hm:Move0 X X' f){b b':Nat}{k:Blk}(hσ:X'.σ b'=X.σ b)(hw:∀n,X.σ b=some n->X'.w.heap[n]?=X.w.heap[n]?) (h:jm X b k):jm X' b' (k.ren f):=by
 cases k with
 | cells cs=>
  obtain⟨n,c,T,e1,e2,e3⟩:=h;exact⟨n,c,T,by rw[hσ];exact e1,by rw[hw n e1];exact e2,e3.ren hm⟩
 | big cs k N l=>
  obtain⟨n,c,T,vs,e1,e2,e3,e4,e5⟩:=h;exact⟨n,c,T,vs,by rw[hσ];exact e1,by rw[hw n e1];exact e2,e3.ren hm,e4,e5⟩
 | vec e sh l=>
  rcases h with⟨e1,e2⟩|⟨n,c,e1,e2,e3⟩
  ·exact .inl ⟨by rw[hσ];exact e1,e2⟩
  ·exact .inr ⟨n,c,by rw[hσ];exact e1,by rw[hw n e1];exact e2,e3.mono hm.M hm.w⟩
 | frz e sh l=>
  rcases h with⟨e1,e2⟩|⟨n,c,e1,e2,e3,e4⟩
  ·exact .inl ⟨by rw[hσ];exact e1,e2⟩
  ·exact .inr ⟨n,c,by rw[hσ];exact e1,by rw[hw n e1];exact e2,e3.mono hm.M hm.w,hm.M n e4⟩
 | dead=>trivial
theorem jm.ext {X X':Ctx}(hm:Ext X X'){k:Blk}(hσ:X'.σ b=X.σ b)(hw:∀n,X.σ b=some n->X'.w.heap[n]?=X.w.heap[n]?) (h:jm X b k):jm X' b k:=by
 have:=jm.move hm.toMove0 (b':=b) hσ hw h
 rwa [Blk.ren_some] at this
theorem HSim.lt (hs:HSim B X){b n:Nat}{k:Blk}(h:X.h[b]?=some k)(hd:k≠.dead)(hn:X.σ b=some n):n<X.w.heap.size:=by
 have:=hs.blk b k h;cases k with
 | cells cs=>
  obtain⟨n',c,T,e1,e2,_⟩:=this;rw[hn] at e1;cases e1;exact(qOR.1 e2).1
 | big cs k N l=>
  obtain⟨n',c,T,vs,e1,e2,_⟩:=this;rw[hn] at e1;cases e1;exact(qOR.1 e2).1
 | vec e sh l=>
  rcases this with⟨e1,_⟩|⟨n',c,e1,e2,_⟩<;>rw[hn] at e1<;>cases e1;exact(qOR.1 e2).1
 | frz e sh l=>
  rcases this with⟨e1,_⟩|⟨n',c,e1,e2,_⟩<;>rw[hn] at e1<;>cases e1;exact(qOR.1 e2).1
 | dead=>exact absurd rfl hd
def Ctx.pushW(X:Ctx)(k:Blk)(s':Option Nat)(w':World):Ctx:={ σ:=fun b=>if b=X.h.length then s' else X.σ b,h:=X.h++[k],w:=w',M:=X.M,kept:=X.kept,y:=X.y }
structure PushW (X:Ctx) (s':Option Nat) (w':World):Prop where
 old:∀m,m<X.w.heap.size->w'.heap[m]?=X.w.heap[m]?
 size:X.w.heap.size<=w'.heap.size
 os:w'.os=X.w.os
 tape:w'.tape=X.w.tape
 output:w'.output=X.w.output
 new:∀m,s'=some m->X.w.heap.size<=m
theorem zW (w:World)(o:Obj){n:Nat}(h:n<w.heap.size):(w.alloc o).heap[n]?=w.heap[n]?:=by show (w.heap.push o)[n]?=_;rw[Array.getElem?_push,if_neg (by omega)]
theorem zU (w:World)(o:Obj):(w.alloc o).heap[w.heap.size]?=some o:=by show (w.heap.push o)[w.heap.size]?=_;rw[Array.getElem?_push,if_pos rfl]
theorem PushW.alloc (X:Ctx)(o:Obj):PushW X (some X.w.heap.size) (X.w.alloc o):=⟨fun _ h=>zW _ _ h,by simp,rfl,rfl,rfl,fun m h=>by cases h;exact qON _⟩
theorem PushW.same (X:Ctx):PushW X none X.w:=⟨fun _ _=>rfl,qON _,rfl,rfl,rfl,fun m h=>by cases h⟩
theorem Ctx.push_ext (hs:HSim B X)(k:Blk){s':Option Nat}(hw:PushW X s' w'):Ext X (X.pushW k s' w'):=by
 refine Move.of (fun _ h=>h) (fun a ha=>qPP (hw.old _ (hs.ltM _ ha))) (fun b b' hb h=>?_);cases h;refine⟨by simp[Ctx.pushW];omega,by simp[Ctx.pushW];omega,fun sh m ⟨e,l,h1,h2⟩=>⟨e,l,?_,h2⟩,fun _ _ _ n hn c T fr hc=>⟨c,T,fr,?_,rfl⟩⟩
 ·simpa[Ctx.pushW,qOY hb] using h1
 ·rw[show (X.pushW k s' w').w=w' from rfl,hw.old _ (qOR.1 hc).1];exact hc
theorem HSim.push (hs:HSim B X){k:Blk}{s':Option Nat}(hw:PushW X s' w')(hk:jm (X.pushW k s' w') X.h.length k):HSim B (X.pushW k s' w'):=by
 have hx:=Ctx.push_ext hs k hw;have hget:∀b k',(X.pushW k s' w').h[b]?=some k'->b<X.h.length/\X.h[b]?=some k'\/b=X.h.length/\k'=k:=by
  intro b k' h;rcases qOT b X.h.length with hb|hb
  ·exact .inl ⟨hb,by simpa[Ctx.pushW,qOY hb] using h⟩
  ·have:(X.h++[k])[b]?=some k':=h;rw[qP4 hb] at this;rcases qQm hb with hb'|hb'
   ·rw[<-hb'] at this;simp at this;exact .inr ⟨hb'.symm,this.symm⟩
   ·rw[qP7 (by simp;omega)] at this;cases this
 have hσ:∀b,b<X.h.length->(X.pushW k s' w').σ b=X.σ b:=fun b hb=>by simp[Ctx.pushW];omega
 have hσn:(X.pushW k s' w').σ X.h.length=s':=by simp[Ctx.pushW]
 have hown:∀b n,(X.pushW k s' w').own b n->X.own b n\/b=X.h.length/\X.w.heap.size<=n:=by
  intro b n ⟨h1,k',h2,h3⟩;rcases hget b k' h2 with⟨hb,h4⟩|⟨rfl,rfl⟩
  ·exact .inl ⟨by rw[<-hσ b hb];exact h1,k',h4,h3⟩
  ·rw[hσn] at h1;exact .inr ⟨rfl,hw.new n h1⟩
 constructor
 ·intro b k' h;rcases hget b k' h with⟨hb,h4⟩|⟨rfl,rfl⟩
  ·by_cases hd:k'=.dead
   ·subst hd;trivial
   ·exact jm.ext hx (hσ b hb) (fun n hn=>hw.old n (hs.lt h4 hd hn)) (hs.blk b k' h4)
  ·exact hk
 ·intro b b' n h h';rcases hown b n h with h1|⟨g1,g2⟩
  ·rcases hown b' n h' with h2|⟨g3,g4⟩
   ·exact hs.inj b b' n h1 h2
   ·exact absurd (Ctx.own.lt hs h1) (by omega)
  ·rcases hown b' _ h' with h2|⟨g3,_⟩
   ·exact absurd (Ctx.own.lt hs h2) (by omega)
   ·rw[g1,g3]
 ·intro b n h hM;rcases hown b n h with h1|⟨g1,g2⟩
  ·exact hs.notM b n h1 hM
  ·exact absurd (hs.ltM _ hM) (by omega)
 ·intro n h;have:=hs.ltM n h;have:=hw.size;show n<w'.heap.size;omega
 ·exact hs.M0
 ·exact hs.newM
 ·exact hw.os.trans hs.os
 ·exact hw.tape.trans hs.tape
 ·exact hw.output.trans hs.output
 ·have:=hs.size;have:=hw.size;show _<=w'.heap.size;omega
 ·intro n hn hni;have:=hs.size;rw[show (X.pushW k s' w').w=w' from rfl,hw.old _ (by omega)];exact hs.frame n hn hni
 ·intro b hb;have:=hs.hlen;rw[hσ b (by omega)];exact hs.imps b hb
 ·intro b hb;obtain⟨cs,h,hc⟩:=hs.impc b hb;exact⟨cs,by have:=hs.hlen;simpa[Ctx.pushW,qOY (show b<X.h.length by omega)] using h,hc⟩
 ·intro b n h hb;rcases hown b n h with h1|⟨g1,g2⟩
  ·exact hs.fresh b n h1 hb
  ·have:=hs.size;omega
 ·intro p hp;obtain⟨q1,q2,q3⟩:=hs.kept p hp;exact⟨(hw.old _ (qOR.1 q1).1).trans q1,q2,q3⟩
def qiL:Blk->Blk->Prop
 | .cells _,.cells _=>True
 | .big _ _ _ _,.big _ _ _ _=>True
 | .vec e sh l,.vec e' sh' l'=>e=e'/\sh=sh'/\l.length=l'.length
 | _,_=>False
def Ctx.upd(X:Ctx)(b:Nat)(k':Blk)(w':World):Ctx:={ X with h:=X.h.set b k',w:=w' }
structure UpdW (X:Ctx) (n:Nat) (c c':Array Value) (T:TypeId) (w':World):Prop where
 old:X.w.heap[n]?=some (.cells c T (0,0))
 new:w'.heap[n]?=some (.cells c' T (0,0))
 sz:c'.size=c.size
 other:∀m,m≠n->w'.heap[m]?=X.w.heap[m]?
 size:w'.heap.size=X.w.heap.size
 os:w'.os=X.w.os
 tape:w'.tape=X.w.tape
 output:w'.output=X.w.output
theorem UpdW.setRow {n:Nat}{c c':Array Value}{T:TypeId}(h:X.w.heap[n]?=some (.cells c T (0,0)))(hs:c'.size=c.size):UpdW X n c c' T (X.w.setRow n c'):=⟨h,setRow_heap _ _ _ _ _ _ h,hs,fun m hm=>setRow_other _ _ _ _ hm,by simp,rfl,rfl,rfl⟩
theorem q8L {α:Type}{l:List α}{k:α}(hb:b<l.length){b':Nat}{x:α}(h:(l.set b k)[b']?=some x):b'=b/\x=k\/b'≠b/\l[b']?=some x:=by
 rcases Nat.decEq b' b with hne|rfl
 ·right;rw[qOO (qPe hne)] at h;exact⟨hne,h⟩
 ·left;rw[qOZ hb] at h;cases h;exact⟨rfl,rfl⟩
theorem qq {α:Type}{l:List α}{x:α}(h:l[b]?=some x):b<l.length:=by
 rcases qOT b l.length with h'|h'
 ·exact h'
 ·rw[qP7 h'] at h;cases h
theorem Ctx.upd_ext (hs:HSim B X){b n:Nat}{k k':Blk}{c c':Array Value}{T:TypeId}(hb:X.h[b]?=some k)(hn:X.own b n)(hw:UpdW X n c c' T w') (hk:qiL k k'):Ext X (X.upd b k' w'):=by
 refine Move.of (fun _ h=>h) (fun a ha=>qPP (hw.other _ fun e=>hs.notM b n hn (e▸ha))) (fun b1 b2 hb1 h=>?_);cases h;refine⟨by simpa[Ctx.upd] using hb1,rfl,fun sh m ⟨e,l,h1,h2⟩=>?_,fun _ _ _ m hm c1 T1 fr1 hc1=>?_⟩
 ·simp only[Ctx.upd] at h1;have hbl:=qq hb;rcases h1 with h1|h1
  ·rcases q8L hbl h1 with⟨rfl,rfl⟩|⟨hne,h1⟩
   ·cases k<;>simp[qiL] at hk;obtain⟨rfl,rfl,h3⟩:=hk;exact⟨_,_,.inl hb,by omega⟩
   ·exact⟨e,l,.inl h1,h2⟩
  ·rcases q8L hbl h1 with⟨rfl,rfl⟩|⟨hne,h1⟩
   ·cases k<;>simp[qiL] at hk
   ·exact⟨e,l,.inr h1,h2⟩
 ·by_cases hmn:m=n
  ·subst hmn;rw[hw.old] at hc1;cases hc1;exact⟨c',T,_,hw.new,hw.sz⟩
  ·exact⟨c1,T1,fr1,by rw[show (X.upd b k' w').w=w' from rfl,hw.other m hmn];exact hc1,rfl⟩
theorem HSim.upd (hs:HSim B X){b n:Nat}{k k':Blk}{c c':Array Value}{T:TypeId}(hb:X.h[b]?=some k)(hn:X.own b n)(hw:UpdW X n c c' T w') (hk:qiL k k') (hk':jm (X.upd b k' w') b k'):HSim B (X.upd b k' w'):=by
 have hx:=Ctx.upd_ext hs hb hn hw hk;have hbl:=qq hb;have hmut:k'.mut=true:=by cases k<;>cases k'<;>simp[qiL] at hk<;>rfl
 have hown:∀b1 n1,(X.upd b k' w').own b1 n1->X.own b1 n1:=by
  intro b1 n1 ⟨h1,k1,h2,h3⟩;rcases q8L hbl h2 with⟨rfl,rfl⟩|⟨hne,h2⟩
  ·have:n1=n:=by have:=hn.1;rw[show (X.upd b1 k1 w').σ=X.σ from rfl,this] at h1;exact(qPq h1).symm
   subst this;exact hn
  ·exact⟨h1,k1,h2,h3⟩
 constructor
 ·intro b1 k1 h;rcases q8L hbl h with⟨rfl,rfl⟩|⟨hne,h1⟩
  ·exact hk'
  ·by_cases hd:k1=.dead
   ·subst hd;trivial
   ·refine jm.ext hx rfl (fun m hm=>hw.other m fun e=>?_) (hs.blk b1 k1 h1);subst e;by_cases hm1:k1.mut=true
    ·exact hne (hs.inj b1 b m ⟨hm,k1,h1,hm1⟩ hn)
    ·cases k1 with
     | cells=>exact hm1 rfl
     | big=>exact hm1 rfl
     | vec=>exact hm1 rfl
     | dead=>exact hd rfl
     | frz e sh l=>
      rcases hs.blk b1 _ h1 with⟨e1,_⟩|⟨n1,c1,e1,_,_,e4⟩
      ·rw[hm] at e1;cases e1
      ·rw[hm] at e1;cases e1;exact hs.notM b m hn e4
 ·intro b1 b2 m h1 h2;exact hs.inj b1 b2 m (hown b1 m h1) (hown b2 m h2)
 ·intro b1 m h1 h2;exact hs.notM b1 m (hown b1 m h1) h2
 ·intro m h;have:=hs.ltM m h;simpa[Ctx.upd,hw.size] using this
 ·exact hs.M0
 ·exact hs.newM
 ·exact hw.os.trans hs.os
 ·exact hw.tape.trans hs.tape
 ·exact hw.output.trans hs.output
 ·have:=hs.size;simpa[Ctx.upd,hw.size] using this
 ·intro m hm hni;have:m≠n:=by
   intro e;subst e;rcases qOT b B.imps.length with hlt|hge
   ·have h1:=hs.imps b hlt;rw[hn.1] at h1;rw[qOS hlt] at h1;simp at h1;exact hni (h1▸qPx hlt)
   ·have:=hs.fresh b m hn hge;omega
  rw[show (X.upd b k' w').w=w' from rfl,hw.other m this];exact hs.frame m hm hni
 ·exact hs.imps
 ·intro b1 hb1;obtain⟨cs,h,hc⟩:=hs.impc b1 hb1;by_cases hbb:b1=b
  ·subst hbb;rw[hb] at h;cases h;refine⟨k',by simp[Ctx.upd,qOZ hbl],?_⟩;cases k<;>cases k'<;>simp[qiL] at hk<;>simp[Blk.solid] at hc<;>rfl
  ·exact⟨cs,by simpa[Ctx.upd,qOO (qPe hbb)] using h,hc⟩
 ·intro b1 m h1 h2;exact hs.fresh b1 m (hown b1 m h1) h2
 ·intro p hp;obtain⟨q1,q2,q3⟩:=hs.kept p hp;refine⟨(hw.other _ fun e=>?_).trans q1,q2,q3⟩;rw[e,hw.old] at q1;exact q2 _ _ _ (qPq q1).symm
def Ctx.frz(X:Ctx)(b:Nat)(e:TypeId)(sh:List Sh)(l:R):Ctx:={ X with h:=X.h.set b (.frz e sh l),M:=fun m=>X.M m\/X.σ b=some m }
theorem qvG (hs:HSim B X){k:Blk}(hb:X.h[b]?=some k)(hk:k.solid=false):B.imps.length<=b:=by
 rcases qOT b B.imps.length with h|h
 ·obtain⟨cs,e,hc⟩:=hs.impc b h;rw[hb] at e;cases e;rw[hk] at hc;cases hc
 ·exact h
theorem Ctx.frz_ext (hb:X.h[b]?=some (.vec e sh l)):Ext X (X.frz b e sh l):=by
 refine Move.of (fun _ h=>.inl h) (fun _ _=>rfl) (fun b1 b2 hb1 h=>?_);cases h;refine⟨by simpa[Ctx.frz] using hb1,rfl,fun sh1 m ⟨e1,l1,h1,h2⟩=>?_,fun _ _ _ m hm c T fr hc=>⟨c,T,fr,hc,rfl⟩⟩;have hbl:=qq hb;rcases h1 with h1|h1
 ·rcases q8L hbl h1 with⟨rfl,h3⟩|⟨hne,h1⟩
  ·cases h3
  ·exact⟨_,_,.inl h1,h2⟩
 ·rcases q8L hbl h1 with⟨rfl,h3⟩|⟨hne,h1⟩
  ·cases h3;exact⟨_,_,.inl hb,h2⟩
  ·exact⟨_,_,.inr h1,h2⟩
theorem HSim.frz (hs:HSim B X)(hb:X.h[b]?=some (.vec e sh l)):HSim B (X.frz b e sh l):=by
 have hx:=Ctx.frz_ext hb;have hbl:=qq hb;have hown:∀b1 n1,(X.frz b e sh l).own b1 n1->b1≠b/\X.own b1 n1:=by
  intro b1 n1 ⟨h1,k1,h2,h3⟩;rcases q8L hbl h2 with⟨rfl,rfl⟩|⟨hne,h2⟩
  ·cases h3
  ·exact⟨hne,h1,k1,h2,h3⟩
 have hob:∀m,X.σ b=some m->X.own b m:=fun m hm=>⟨hm,_,hb,rfl⟩;constructor
 ·intro b1 k1 h;rcases q8L hbl h with⟨rfl,rfl⟩|⟨hne,h1⟩
  ·rcases hs.blk b1 _ hb with h1|⟨n,c,h1,h2,h3⟩
   ·exact .inl h1
   ·exact .inr ⟨n,c,h1,h2,h3.mono hx.M hx.w,.inr h1⟩
  ·exact jm.ext hx rfl (fun _ _=>rfl) (hs.blk b1 k1 h1)
 ·intro b1 b2 m h1 h2;exact hs.inj b1 b2 m (hown b1 m h1).2 (hown b2 m h2).2
 ·intro b1 m h1 h2;rcases h2 with h2|h2
  ·exact hs.notM b1 m (hown b1 m h1).2 h2
  ·exact(hown b1 m h1).1 (hs.inj b1 b m (hown b1 m h1).2 (hob m h2))
 ·intro m h;rcases h with h|h
  ·exact hs.ltM m h
  ·exact Ctx.own.lt hs (hob m h)
 ·intro m h;exact .inl (hs.M0 m h)
 ·intro m h;rcases h with h|h
  ·exact hs.newM m h
  ·exact .inr (hs.fresh b m (hob m h) (qvG hs hb rfl))
 ·exact hs.os
 ·exact hs.tape
 ·exact hs.output
 ·exact hs.size
 ·exact hs.frame
 ·exact hs.imps
 ·intro b1 hb1;obtain⟨cs,h,hc⟩:=hs.impc b1 hb1;by_cases hbb:b1=b
  ·subst hbb;rw[hb] at h;cases h;cases hc
  ·exact⟨cs,by simpa[Ctx.frz,qOO (qPe hbb)] using h,hc⟩
 ·intro b1 m h1 h2;exact hs.fresh b1 m (hown b1 m h1).2 h2
 ·exact hs.kept
def Ctx.repl(X:Ctx)(b:Nat)(s':Option Nat)(k':Blk)(w':World):Ctx:={ σ:=fun x=>if x=b then s' else X.σ x,h:=(X.h.set b k').map (Blk.ren (qfO b)),w:=w',M:=X.M,kept:=X.kept,y:=X.y }
structure ReplW (X:Ctx) (b:Nat) (s':Option Nat) (w':World):Prop where
 other:∀m,m<X.w.heap.size->X.σ b≠some m->w'.heap[m]?=X.w.heap[m]?
 same:∀m c T fr,X.σ b=some m->X.w.heap[m]?=some (.cells c T fr)->∃c' T' fr',w'.heap[m]?=some (.cells c' T' fr')/\c'.size=c.size
 size:X.w.heap.size<=w'.heap.size
 os:w'.os=X.w.os
 tape:w'.tape=X.w.tape
 output:w'.output=X.w.output
 at_:s'=X.σ b\/∀m,s'=some m->X.w.heap.size<=m
theorem qt7 {k':Blk}{s':Option Nat}(hb:b<X.h.length){b1:Nat}{k1:Blk}(h:(X.repl b s' k' w').h[b1]?=some k1) :b1=b/\k1=k'.ren (qfO b)\/b1≠b/\∃k0,X.h[b1]?=some k0/\k1=k0.ren (qfO b):=by
 simp only[Ctx.repl,qOU] at h;cases h1:(X.h.set b k')[b1]? with
 | none=>rw[h1] at h;cases h
 | some k0=>
  rw[h1] at h;simp only[qPk,qOL] at h;rcases q8L hb h1 with⟨rfl,rfl⟩|⟨hne,h2⟩
  ·exact .inl ⟨rfl,h.symm⟩
  ·exact .inr ⟨hne,k0,h2,h.symm⟩
theorem qr9 {k:Blk}{f:Nat->Option Nat}(h:Blk.vec e sh l=k.ren f\/Blk.frz e sh l=k.ren f):k=.vec e sh l\/k=.frz e sh l:=by
 cases k<;>simp[Blk.ren] at h
 ·exact .inl (by simp[h])
 ·exact .inr (by simp[h])
theorem Ctx.repl_move (hs:HSim B X)(hb:X.h[b]?=some (.vec e sh l)){s':Option Nat}{k':Blk}(hw:ReplW X b s' w'):Move X (X.repl b s' k' w') (qfO b):=by
 have hbl:=qq hb;have hob:∀m,X.σ b=some m->X.own b m:=fun m hm=>⟨hm,_,hb,rfl⟩;refine Move.of (fun _ h=>h) (fun a ha=>qPP (hw.other _ (hs.ltM _ ha) fun hm=>hs.notM b _ (hob _ hm) ha)) (fun b1 b2 hb1 h=>?_);have hne:b1≠b:=by intro e;subst e;simp[qfO] at h
 have:b2=b1:=by simp[qfO,hne] at h;exact h.symm
 subst this;refine⟨by simpa[Ctx.repl] using hb1,by simp[Ctx.repl,hne],fun sh1 m ⟨e1,l1,h1,h2⟩=>?_,fun _ _ _ m hm c T fr hc=>?_⟩
 ·rcases h1 with h1|h1
  ·rcases qt7 hbl h1 with⟨h3,_⟩|⟨_,k0,h3,h4⟩
   ·exact absurd h3 hne
   ·rcases qr9 (.inl h4) with rfl|rfl
    ·exact⟨_,_,.inl h3,h2⟩
    ·exact⟨_,_,.inr h3,h2⟩
  ·rcases qt7 hbl h1 with⟨h3,_⟩|⟨_,k0,h3,h4⟩
   ·exact absurd h3 hne
   ·rcases qr9 (.inr h4) with rfl|rfl
    ·exact⟨_,_,.inl h3,h2⟩
    ·exact⟨_,_,.inr h3,h2⟩
 ·by_cases hbm:X.σ b=some m
  ·exact hw.same m c T fr hbm hc
  ·exact⟨c,T,fr,by rw[show (X.repl b s' k' w').w=w' from rfl,hw.other m (qOR.1 hc).1 hbm];exact hc,rfl⟩
theorem HSim.repl (hs:HSim B X)(hb:X.h[b]?=some (.vec e sh l)){s':Option Nat}{k':Blk}(hw:ReplW X b s' w') (hk':jm (X.repl b s' k' w') b (k'.ren (qfO b))):HSim B (X.repl b s' k' w'):=by
 have hx:=Ctx.repl_move hs hb (k':=k') hw;have hbl:=qq hb;have hni:=qvG hs hb rfl;have hob:∀m,X.σ b=some m->X.own b m:=fun m hm=>⟨hm,_,hb,rfl⟩;have hown:∀b1 n1,(X.repl b s' k' w').own b1 n1->b1≠b/\X.own b1 n1\/b1=b/\s'=some n1:=by
  intro b1 n1 ⟨h1,k1,h2,h3⟩;rcases qt7 hbl h2 with⟨rfl,_⟩|⟨hne,k0,h4,rfl⟩
  ·exact .inr ⟨rfl,by simpa[Ctx.repl] using h1⟩
  ·exact .inl ⟨hne,by simpa[Ctx.repl,hne] using h1,k0,h4,by rwa [Blk.mut_ren] at h3⟩
 have hnew:∀m,s'=some m->X.own b m\/X.w.heap.size<=m:=by
  intro m hm;rcases hw.at_ with h|h
  ·exact .inl (hob m (h▸hm))
  ·exact .inr (h m hm)
 constructor
 ·intro b1 k1 h;rcases qt7 hbl h with⟨rfl,rfl⟩|⟨hne,k0,h1,rfl⟩
  ·exact hk'
  ·by_cases hd:k0=.dead
   ·subst hd;trivial
   ·refine jm.move hx.toMove0 (by simp[Ctx.repl,hne]) (fun m hm=>hw.other m (hs.lt h1 hd hm) fun hbm=>?_) (hs.blk b1 k0 h1);by_cases hm1:k0.mut=true
    ·exact hne (hs.inj b1 b m ⟨hm,k0,h1,hm1⟩ (hob m hbm))
    ·cases k0 with
     | cells=>exact hm1 rfl
     | big=>exact hm1 rfl
     | vec=>exact hm1 rfl
     | dead=>exact hd rfl
     | frz e sh l=>
      rcases hs.blk b1 _ h1 with⟨e1,_⟩|⟨n1,c1,e1,_,_,e4⟩
      ·rw[hm] at e1;cases e1
      ·rw[hm] at e1;cases e1;exact hs.notM b m (hob m hbm) e4
 ·intro b1 b2 m h1 h2;rcases hown b1 m h1 with⟨n1,g1⟩|⟨n1,g1⟩
  ·rcases hown b2 m h2 with⟨n2,g2⟩|⟨n2,g2⟩
   ·exact hs.inj b1 b2 m g1 g2
   ·rcases hnew m g2 with h3|h3
    ·rw[n2];exact hs.inj b1 _ m g1 h3
    ·exact absurd (Ctx.own.lt hs g1) (by omega)
  ·rcases hown b2 m h2 with⟨n2,g2⟩|⟨n2,g2⟩
   ·rcases hnew m g1 with h3|h3
    ·rw[n1];exact hs.inj _ b2 m h3 g2
    ·exact absurd (Ctx.own.lt hs g2) (by omega)
   ·rw[n1,n2]
 ·intro b1 m h1 h2;rcases hown b1 m h1 with⟨n1,g1⟩|⟨n1,g1⟩
  ·exact hs.notM b1 m g1 h2
  ·rcases hnew m g1 with h3|h3
   ·exact hs.notM _ m h3 h2
   ·exact absurd (hs.ltM m h2) (by omega)
 ·intro m h;have:=hs.ltM m h;have:=hw.size;show m<w'.heap.size;omega
 ·exact hs.M0
 ·exact hs.newM
 ·exact hw.os.trans hs.os
 ·exact hw.tape.trans hs.tape
 ·exact hw.output.trans hs.output
 ·have:=hs.size;have:=hw.size;show _<=w'.heap.size;omega
 ·intro m hm hnm;have h1:=hs.size;have:X.σ b≠some m:=fun e=>by have:=hs.fresh b m (hob m e) hni;omega
  rw[show (X.repl b s' k' w').w=w' from rfl,hw.other m (by omega) this];exact hs.frame m hm hnm
 ·intro b1 hb1;have:b1≠b:=by omega
  simp only[Ctx.repl,this,if_false];exact hs.imps b1 hb1
 ·intro b1 hb1;obtain⟨cs,h,hc⟩:=hs.impc b1 hb1;have hne:b1≠b:=by omega
  exact⟨cs.ren (qfO b),by simp[Ctx.repl,qOO (qPe hne),h],by rw[Blk.solid_ren];exact hc⟩
 ·intro b1 m h1 h2;rcases hown b1 m h1 with⟨n1,g1⟩|⟨n1,g1⟩
  ·exact hs.fresh b1 m g1 h2
  ·rcases hnew m g1 with h3|h3
   ·exact hs.fresh _ m h3 hni
   ·have:=hs.size;omega
 ·intro p hp;obtain⟨q1,q2,q3⟩:=hs.kept p hp;refine⟨(hw.other _ (qOR.1 q1).1 fun e=>?_).trans q1,q2,q3⟩;obtain⟨c,T,fr,hc⟩:=(hob _ e).cells hs;rw[hc] at q1;exact q2 _ _ _ (qPq q1).symm
end Go.Eng

namespace Go.Eng
variable {B:Base}{E:Env}{P:Program}{X:Ctx}{av:AV}{l:R}{sh:List Sh}{t:TypeId}{v:Value}
def Env.tok(E:Env)(P:Program):Prop:=∀x,x∈E.tt->qBr P x.1=x.2
theorem qti (hE:E.tok P)(t:TypeId):E.ty t=qNV\/E.ty t=qBr P t:=by
 unfold Env.ty;cases h:E.tt.find? fun x=>x.1==t with
 | none=>exact .inl rfl
 | some x=>
  have h1:=qQ0 h;have h2:=hE x (qPG h);have h3:x.1=t:=by simpa using h1
  right;simp only[qPk,qPI];rw[<-h2,h3]
theorem q0c (hE:E.tok P)(h:(E.ty t).d.known=true) :E.ty t=qBr P t/\∃i d,P.info? t=some i/\P.underlying t=some d/\(E.ty t).d=qIL P d/\(E.ty t).size=i.size/\(E.ty t).bytes=i.bytes:=by
 rcases qti hE t with h1|h1
 ·rw[h1] at h;cases h
 ·refine⟨h1,?_⟩;rw[h1] at h ⊢;unfold qBr at *;cases hi:P.info? t with
  | none=>rw[hi] at h;cases h
  | some i=>
   rw[hi] at h;cases hd:P.underlying t with
   | none=>rw[hd] at h;cases h
   | some d=>exact⟨i,d,rfl,rfl,by simp,rfl,rfl⟩
theorem q1i (hE:E.tok P){t e:TypeId}{es:Nat}(h:(E.ty t).d=.slice e es):P.underlying t=some (.slice e)/\es=P.cellsOf e:=by obtain⟨_,i,d,_,h2,h3,_⟩:=q0c hE (t:=t) (by rw[h];rfl);rw[h] at h3;cases d<;>simp[qIL] at h3;obtain⟨rfl,rfl⟩:=h3;exact⟨h2,rfl⟩
theorem q8Z (hE:E.tok P){t e:TypeId}{n es:Nat}(h:(E.ty t).d=.array n e es):P.underlying t=some (.array n e)/\es=P.cellsOf e:=by obtain⟨_,i,d,_,h2,h3,_⟩:=q0c hE (t:=t) (by rw[h];rfl);rw[h] at h3;cases d<;>simp[qIL] at h3;obtain⟨rfl,rfl,rfl⟩:=h3;exact⟨h2,rfl⟩
theorem q9g (hE:E.tok P){fs:List (Nat×TypeId×Nat)}(h:(E.ty t).d=.struct fs) :∃fields,P.underlying t=some (.struct fields)/\fs=fields.toList.map fun f=>(f.offset,f.type,P.cellsOf f.type):=by obtain⟨_,i,d,_,h2,h3,_⟩:=q0c hE (t:=t) (by rw[h];rfl);rw[h] at h3;cases d<;>simp[qIL] at h3;exact⟨_,h2,h3⟩
theorem qvw (hE:E.tok P){k:IntKind}(h:(E.ty t).d=.int k):P.underlying t=some (.int k):=by obtain⟨_,i,d,_,h2,h3,_⟩:=q0c hE (t:=t) (by rw[h];rfl);rw[h] at h3;cases d<;>simp[qIL] at h3;rw[h2,h3]
theorem qiJ (hE:E.tok P)(h:(E.ty t).d=.str):P.underlying t=some .string:=by obtain⟨_,i,d,_,h2,h3,_⟩:=q0c hE (t:=t) (by rw[h];rfl);rw[h] at h3;cases d<;>simp[qIL] at h3;exact h2
theorem qgh (hE:E.tok P)(h:(E.ty t).d.known=true)(w:World):(isAgg t).run P w=.ok (E.ty t).d.isAgg w:=by obtain⟨_,i,d,_,h2,h3,_⟩:=q0c hE h;rw[h3];unfold isAgg;rw[qOQ,run_underlying h2,qOW];rw[h3] at h;cases d<;>first|rfl|(simp[qIL,TD.known] at h)
theorem qlf (hE:E.tok P)(h:(E.ty t).d.known=true)(w:World):(sizeOf t).run P w=.ok (E.ty t).size w:=by obtain⟨_,i,d,h1,_,_,h4,_⟩:=q0c hE h;simp[sizeOf,typeInfo,h1,h4]
theorem zw (h:0<P.cellsOf t)(w:World):(sizeOf t).run P w=.ok (P.cellsOf t) w:=by
 unfold Program.cellsOf at *;cases h1:P.info? t with
 | none=>rw[h1] at h;simp at h
 | some i=>simp[sizeOf,typeInfo,h1]
def qL(P:Program)(B:Base)(X:Ctx)(m:Sem Next)(r:Res):Prop:=
 ∃nx v X',m.run P X.w=.ok nx X'.w/\(nx=.value v\/(nx=.skip/\v=Go.undef))/\Rep X' r.1 v/\HSim B X' /\
  match r.2.2 with
  | none=>X'.h=r.2.1/\Ext X X'
  | some b=>X'.h=r.2.1.map (Blk.ren (qfO b))/\Move X X' (qfO b)
theorem Ext.refl (X:Ctx):Ext X X:=Move.of (fun _ h=>h) (fun _ _=>rfl) (fun b b' hb h=>by cases h;exact⟨hb,rfl,fun _ _ h=>h,fun _ _ _ _ _ c T fr h=>⟨c,T,fr,h,rfl⟩⟩)
theorem qL.val {m:Sem Next}(hs:HSim B X)(h:m.run P X.w=.ok (.value v) X.w)(hr:Rep X av v):qL P B X m (av,X.h,none):=⟨_,v,X,h,.inl rfl,hr,hs,rfl,Ext.refl X⟩
theorem qi5 (l:R)(i:Int)(j:Nat):zJ l (i.toNat:Int) j=zJ l i j:=by unfold zJ;rw[qOX]
theorem qxO {i:Int}{j:Nat}(h:qiG sh l i j=some av)(hj:j<sh.length)(hr:RepU X.w X.M sh[j] (zJ l i j) v):Rep X av v:=by
 unfold qiG at h;rw[qOS hj] at h;generalize sh[j]=s at *;cases s with
 | int k=>cases h;cases hr;exact .int _ _
 | bool=>cases h;cases hr;exact .bool _
 | str=>cases h;cases hr;exact .str _
 | sl row=>cases h;exact .imm _ _ _ (qph hr)
theorem qpb {i:Int}{j:Nat}(h:qiG sh l i j=some av):j<sh.length:=by
 unfold qiG at h;rcases qOT j sh.length with h'|h'
 ·exact h'
 ·rw[qP7 h'] at h;cases h
theorem qvy{X:Ctx}{sh:List Sh}{l:R}{i:Int}(g:Nat->Option Value)
  (hg:∀j (hj:j<sh.length),∃v,g j=some v/\RepU X.w X.M sh[j] (zJ l i j) v) :
  ∀(n off:Nat) (cs:List AV),qcu sh l i off n=some cs->∃vs:List Value,vs.length=n/\RepL X cs vs/\∀j v,vs[j]?=some v->g (off+j)=some v
 | 0,off,cs,h=>by
  simp[qcu] at h;subst h;exact⟨[],rfl,.nil,fun j v h=>by simp at h⟩
 | n+1,off,cs,h=>by
  simp only[qcu] at h;cases h1:qiG sh l i off with
  | none=>rw[h1] at h;cases h
  | some a=>
   cases h2:qcu sh l i (off+1) n with
   | none=>rw[h1,h2] at h;cases h
   | some r=>
    rw[h1,h2] at h;cases h;obtain⟨vs,e1,e2,e3⟩:=qvy g hg n (off+1) r h2;obtain⟨v,e4,e5⟩:=hg off (qpb h1);refine⟨v::vs,by simp[e1],.cons (qxO h1 (qpb h1) e5) e2,fun j u hj=>?_⟩;cases j with
    | zero=>simp at hj;subst hj;exact e4
    | succ j=>rw[show off+(j+1)=off+1+j by omega];exact e3 j u (by simpa using hj)
theorem qml (hE:E.tok P)(hk:(E.ty t).d.known=true){blk o:Nat}{i:Int}{off:Nat}(hg:∀j (hj:j<sh.length),∃v,X.w.cell? ⟨blk,o+j,none⟩=some v/\RepU X.w X.M sh[j] (zJ l i j) v) {r:Res}(h:((if (E.ty t).d.isAgg then (match qcu sh l i off (E.ty t).size with|some cs=>okv X.h (.agg cs)|none=>.fail) else (match qiG sh l i off with|some v=>okv X.h v|none=>.fail)):Tree Res).run=some r) :∃av u,r=(av,X.h,none)/\(loadVar t ⟨blk,o+off,none⟩).run P X.w=.ok u X.w/\Rep X av u:=by
 unfold loadVar;rw[qOQ,qgh hE hk,qOW];cases ha:(E.ty t).d.isAgg with
 | true=>
  rw[ha] at h;simp only[if_true] at h ⊢;cases hc:qcu sh l i off (E.ty t).size with
  | none=>rw[hc] at h;cases h
  | some cs=>
   rw[hc] at h;cases h;obtain⟨vs,e1,e2,e3⟩:=qvy (fun j=>X.w.cell? ⟨blk,o+j,none⟩) hg _ _ _ hc;refine⟨_,.agg vs.toArray,rfl,?_,.agg cs vs e2⟩;have:=run_loadCells_list (P:=P) X.w ⟨blk,o+off,none⟩ vs (fun j v hj=>by rw[qPy];have:=e3 j v hj;rwa [<-qQj] at this);rw[e1] at this;simp[qlf hE hk,this]
 | false=>
  rw[ha] at h;simp only[qPo,if_false] at h ⊢;cases hc:qiG sh l i off with
  | none=>rw[hc] at h;cases h
  | some v=>
   rw[hc] at h;cases h;obtain⟨u,e1,e2⟩:=hg off (qpb hc);exact⟨_,u,rfl,by simp[e1],qxO hc (qpb hc) e2⟩
theorem qgr {h:List Blk}{b:Nat}(hr:vr h (.vec b)=some (sh,l)):∃e,h[b]?=some (.vec e sh l)\/h[b]?=some (.frz e sh l):=by simp only[vr] at hr;split at hr<;>first|(cases hr;rename_i hh;exact⟨_,.inl hh⟩)|(cases hr;rename_i hh;exact⟨_,.inr hh⟩)|cases hr
theorem HSim.rows (hs:HSim B X){b:Nat}{e:TypeId}(h:X.h[b]?=some (.vec e sh l)\/X.h[b]?=some (.frz e sh l)) :(X.σ b=none/\l=[])\/∃n c,X.σ b=some n/\X.w.heap[n]?=some (.cells c e (0,0))/\qBg X.w X.M sh l c:=by
 rcases h with h|h
 ·exact hs.blk b _ h
 ·rcases hs.blk b _ h with h1|⟨n,c,h1,h2,h3,_⟩
  ·exact .inl h1
  ·exact .inr ⟨n,c,h1,h2,h3⟩
theorem qkC (hE:E.tok P)(hs:HSim B X){p:AV}(hv:Rep X p v){r:Res}(h:(qiD E X.h t p).run=some r):∃av u,r=(av,X.h,none)/\(Instr.loadAt t v).run P X.w=.ok u X.w/\Rep X av u:=by
 unfold qiD at h;by_cases hk:(E.ty t).d.known=false
 ·simp only[hk,if_true] at h;cases h
 simp only[hk] at h;have hk':(E.ty t).d.known=true:=by simpa using hk
 cases hv with
 | ptr b off n0 hb hσ=>
  simp only at h;cases hh:X.h[b]? with
  | none=>rw[hh] at h;cases h
  | some blk=>
   rw[hh] at h;cases blk with
   | vec=>cases h
   | frz=>cases h
   | dead=>cases h
   | big=>cases h
   | cells cs=>
    simp only at h;obtain⟨n,c,T,e1,e2,e3⟩:=hs.blk b _ hh;rw[hσ] at e1;cases e1;simp only[Instr.loadAt,Instr.sureAddr,qOQ,qPh,qOW];unfold loadVar;rw[qOQ,qgh hE hk',qOW];cases ha:(E.ty t).d.isAgg with
    | true=>
     rw[ha] at h;simp only[if_true] at h ⊢;by_cases hle:off+(E.ty t).size<=cs.length
     ·rw[if_pos hle] at h;cases h;have hlen:=e3.length;have h2:=(e3.drop off).take (E.ty t).size;refine⟨_,_,rfl,?_,.agg _ _ h2⟩;have hl:((c.toList.drop off).take (E.ty t).size).length=(E.ty t).size:=by simp only[qPJ,qQK] at *;omega
      have:=run_loadCells_list (P:=P) X.w ⟨n0,off,none⟩ ((c.toList.drop off).take (E.ty t).size) (fun j v hj=>by
       rw[qPy,zS e2];rw[qPQ] at hj;split at hj
       ·rw[qPR] at hj;simpa using hj
       ·cases hj)
      rw[hl] at this;simp[qlf hE hk',this]
     ·rw[if_neg hle] at h;cases h
    | false=>
     rw[ha] at h;simp only[qPo,if_false] at h ⊢;cases hc:cs[off]? with
     | none=>rw[hc] at h;cases h
     | some u=>
      rw[hc] at h;cases h;obtain⟨u',e4,e5⟩:=e3.get off u hc;refine⟨_,u',rfl,?_,e5⟩;have:X.w.cell? ⟨n0,off,none⟩=some u':=by rw[zS e2];simpa using e4
      simp[this]
 | eptr sh l i off a hsp h0 h1 hr=>
  simp only at h;simp only[Instr.loadAt,Instr.sureAddr,qOQ,qPh,qOW];exact qml hE hk' (blk:=a.block) (o:=a.off+i.toNat*sh.length) (fun j hj=>by obtain⟨_,v,e1,e2⟩:=hr i.toNat j hj h1;exact⟨v,e1,by rwa [qi5] at e2⟩) h
 | vptr b i off n0 k0 hb hσ hv=>
  simp only at h;cases hr:vr X.h (.vec b) with
  | none=>rw[hr] at h;cases h
  | some x=>
   obtain⟨sh,l⟩:=x;rw[hr] at h;simp only at h;obtain⟨e,hh⟩:=qgr hr;rcases hs.rows hh with⟨e1,rfl⟩|⟨n,c,e1,e2,e3⟩
   ·rw[hσ] at e1;cases e1
   ·rw[hσ] at e1;cases e1;obtain⟨f1,f2,rfl⟩:=hv sh l.length ⟨e,l,hh,rfl⟩;simp only[Instr.loadAt,Instr.sureAddr,qOQ,qPh,qOW];exact qml hE hk' (blk:=n0) (o:=i.toNat*sh.length) (fun j hj=>by obtain⟨v,g1,g2⟩:=e3 i.toNat j hj f2;exact⟨v,by rw[zS e2];exact g1,by rwa [qi5] at g2⟩) h
 | _=>simp only at h;cases h
end Go.Eng

namespace Go.Eng
variable {E:Env}{P:Program}{X:Ctx}{r:Res}{t:TypeId}{v:Value}{w:World}
theorem qL.ofV {B:Base}{m:Sem Value}{av:AV}(hs:HSim B X)(h:m.run P X.w=.ok v X.w)(hr:Rep X av v) :qL P B X (do pure (.value (<-m))) (av,X.h,none):=qL.val (v:=v) hs (by simp[h]) hr
theorem q49 {a:AV}{k:IntKind}{n:Int}(hr:Rep X a v)(h:asI a=some (k,n)):v=.int k n:=by
 cases hr<;>simp[asI] at h
 ·obtain⟨rfl,rfl⟩:=h;rfl
 ·obtain⟨rfl,rfl⟩:=h;rfl
theorem qzx {a:AV}{b:Bool}(hr:Rep X a v)(h:asB a=some b):v=.bool b:=by
 cases hr<;>simp[asB] at h
 ·subst h;rfl
 ·subst h;rfl
theorem qD2 {s:qOK}(hr:Rep X (.str s) v):v=.string ⟨s.toArray⟩:=by cases hr;rfl
theorem qxi (X:Ctx)(v:Value):Rep X (jl v) v:=by
 unfold jl;split<;>first|exact .blit _|exact .ilit _ _|exact .nilp|exact .nils|exact .nilf|exact .undef _|skip
 rename_i s;have:Rep X (.str s.data.toList) (.string ⟨s.data.toList.toArray⟩):=.str _;simpa using this
theorem jA(X:Ctx):∀l:List Value,RepL X (l.map jl) l
 | []=>.nil
 | v::l=>.cons (qxi X v) (jA X l)
theorem qMd (X:Ctx)(v:Value):Rep X (ofV v) v:=by
 unfold ofV;split
 ·rename_i cs;have:Rep X (.agg (cs.toList.map jl)) (.agg cs.toList.toArray):=.agg _ _ (jA X _);simpa using this
 ·exact qxi X v
theorem qgN {h:List Blk}{k:IntKind}{f:Int->Int->Int}{lit:Bool}{x y:Int}(hr:(q7Z h k f lit x y).run=some r)(X:Ctx) :∃av,r=(av,h,none)/\Rep X av (.int k (f x y)):=by
 unfold q7Z at hr;split at hr<;>cases hr
 ·exact⟨_,rfl,.ilit _ _⟩
 ·exact⟨_,rfl,.int _ _⟩
theorem qlg {h:List Blk}{f:Int->Int->Bool}{lit:Bool}{x y:Int}(hr:(qEx h f lit x y).run=some r)(X:Ctx) :∃av,r=(av,h,none)/\Rep X av (.bool (f x y)):=by
 unfold qEx at hr;split at hr<;>cases hr
 ·exact⟨_,rfl,.blit _⟩
 ·exact⟨_,rfl,.bool _⟩
theorem j9 {b:Bool}{t:Tree Res}(h:(Tree.br b t .fail).run=some r):b=true/\t.run=some r:=by
 cases b
 ·cases h
 ·exact⟨rfl,h⟩
theorem quS (hE:E.tok P)(h:(E.ty t).d=.bool):P.underlying t=some .bool:=by obtain⟨_,i,d,_,h2,h3,_⟩:=q0c hE (t:=t) (by rw[h];rfl);rw[h] at h3;cases d<;>simp[qIL] at h3;exact h2
theorem qEi (hE:E.tok P){t e:TypeId}(h:(E.ty t).d=.ptr e):P.underlying t=some (.pointer e):=by obtain⟨_,i,d,_,h2,h3,_⟩:=q0c hE (t:=t) (by rw[h];rfl);rw[h] at h3;cases d<;>simp[qIL] at h3;rw[h2,h3]
theorem qyX (s t:qOK):(ByteArray.toList ⟨s.toArray⟩==ByteArray.toList ⟨t.toArray⟩)=seq s t:=by rw[ByteArray.toList_eq,ByteArray.toList_eq];rfl
theorem qJt (s t:qOK):Op.bytesLess (ByteArray.toList ⟨s.toArray⟩) (ByteArray.toList ⟨t.toArray⟩)=slt s t:=by rw[ByteArray.toList_eq,ByteArray.toList_eq];rfl
theorem qk4 {vx vy:Value}{r:Bool}(h:(Op.equalIn (9999+1) t vx vy).run P w=.ok r w):(Op.equal t vx vy).run P w=.ok r w:=h
theorem qc8 {x y:Operand}{vx vy:Value}{r:Bool}(h:(Op.equal t vx vy).run P w=.ok r w)(h1:∀op,eqGuard op t x y vx vy=pure ()) (h2:binOp .eql t vx vy=(do pure (.bool (<-Op.equal t vx vy)))) :(do eqGuard .eql t x y vx vy;binOp .eql t vx vy:Sem Value).run P w=.ok (.bool r) w:=by simp[h1,h2,h]
theorem q8J {x y:Operand}{vx vy:Value}{r:Bool}(h:(Op.equal t vx vy).run P w=.ok r w)(h1:∀op,eqGuard op t x y vx vy=pure ()) (h2:binOp .neq t vx vy=(do pure (.bool (!(<-Op.equal t vx vy))))) :(do eqGuard .neq t x y vx vy;binOp .neq t vx vy:Sem Value).run P w=.ok (.bool (!r)) w:=by simp[h1,h2,h]
theorem qm8 (ht:P.underlying t=some .bool)(a b:Bool)(w:World):(Op.equal t (.bool a) (.bool b)).run P w=.ok (a==b) w:=qk4 (run_equalIn_bool' w 9999 t a b ht)
theorem qbv {t e:TypeId}(ht:P.underlying t=some (.pointer e))(w:World):(Op.equal t (.pointer none) (.pointer none)).run P w=.ok true w:=qk4 (by rw[Op.equalIn,qOQ,run_underlying ht];rfl)
theorem q3j {t e:TypeId}(ht:P.underlying t=some (.pointer e))(a:Addr)(w:World):(Op.equal t (.pointer (some a)) (.pointer none)).run P w=.ok false w:=qk4 (by rw[Op.equalIn,qOQ,run_underlying ht];rfl)
theorem qjp {t e:TypeId}(ht:P.underlying t=some (.slice e))(a:Addr)(n c:Nat):(Op.equal t (.slice (some a) n c) (.slice none 0 0)).run P w=.ok false w:=qk4 (by rw[Op.equalIn,qOQ,run_underlying ht];rfl)
theorem qCX (hE:E.tok P){B:Base}(hs:HSim B X){op:BinOp}{x y:Operand}{ax ay:AV}{vx vy:Value}(hx:Rep X ax vx)(hy:Rep X ay vy)(h:(qzT (E.ty t).d X.h op ax ay).run=some r):∃av u,r=(av,X.h,none)/\(do eqGuard op t x y vx vy;binOp op t vx vy:Sem Value).run P X.w=.ok u X.w/\Rep X av u:=by
 unfold qzT at h;cases h1:asI ax with
 | some p=>
  obtain⟨k,a⟩:=p;cases h2:asI ay with
  | some q=>
   obtain⟨k',b⟩:=q;rw[h1,h2] at h;simp only at h;have e1:=q49 hx h1;have e2:=q49 hy h2;subst e1 e2;by_cases hk:k=k'
   ·subst hk;simp only[if_true] at h;have hz:∀(f:Int->Int->Int) (lit:Bool),(match ay with
     | .ilit _ c=>if c=0 then Tree.fail else q7Z X.h k f lit a b
     | _=>.br (ine b 0) (q7Z X.h k f lit a b) .fail).run=some r->b≠0/\(q7Z X.h k f lit a b).run=some r:=by
     intro f lit hh;cases ay<;>simp only[asI] at h2<;>cases h2
     ·have hh2:(if b=0 then Tree.fail else q7Z X.h k f lit a b).run=some r:=hh;by_cases h0:b=0
      ·rw[if_pos h0] at hh2;cases hh2
      ·rw[if_neg h0] at hh2;exact⟨h0,hh2⟩
     ·obtain⟨g1,g2⟩:=j9 hh;exact⟨by simpa[ine] using g1,g2⟩
    cases op with
    | add=>obtain⟨av,e,f⟩:=qgN h X;exact⟨av,_,e,by simp[eqGuard,binOp,Op.intArith];rfl,f⟩
    | sub=>obtain⟨av,e,f⟩:=qgN h X;exact⟨av,_,e,by simp[eqGuard,binOp,Op.intArith];rfl,f⟩
    | mul=>obtain⟨av,e,f⟩:=qgN h X;exact⟨av,_,e,by simp[eqGuard,binOp,Op.intArith];rfl,f⟩
    | quo=>obtain⟨h0,hh⟩:=hz _ _ h;obtain⟨av,e,f⟩:=qgN hh X;exact⟨av,_,e,by simp[eqGuard,binOp,Op.intDiv,h0];rfl,f⟩
    | rem=>obtain⟨h0,hh⟩:=hz _ _ h;obtain⟨av,e,f⟩:=qgN hh X;exact⟨av,_,e,by simp[eqGuard,binOp,Op.intDiv,h0];rfl,f⟩
    | eql=>obtain⟨av,e,f⟩:=qlg h X;exact⟨av,_,e,by simp[eqGuard,binOp,Op.intCmp];rfl,f⟩
    | neq=>obtain⟨av,e,f⟩:=qlg h X;exact⟨av,_,e,by simp[eqGuard,binOp,Op.intCmp];rfl,f⟩
    | lss=>obtain⟨av,e,f⟩:=qlg h X;exact⟨av,_,e,by simp[eqGuard,binOp,Op.intCmp];rfl,f⟩
    | leq=>obtain⟨av,e,f⟩:=qlg h X;exact⟨av,_,e,by simp[eqGuard,binOp,Op.intCmp];rfl,f⟩
    | gtr=>obtain⟨av,e,f⟩:=qlg h X;exact⟨av,_,e,by simp[eqGuard,binOp,Op.intCmp];rfl,f⟩
    | geq=>obtain⟨av,e,f⟩:=qlg h X;exact⟨av,_,e,by simp[eqGuard,binOp,Op.intCmp];rfl,f⟩
    | _=>cases h
   ·simp only[hk,if_false] at h;cases h
  | none=>
   rw[h1,h2] at h;cases ax<;>simp[asI] at h1<;>simp[asB] at h<;>cases h
 | none=>
  rw[h1] at h;simp only at h;cases h2:asB ax with
  | some a=>
   cases h3:asB ay with
   | some b=>
    rw[h2,h3] at h;simp only at h;have e1:=qzx hx h2;have e2:=qzx hy h3;subst e1 e2;cases hd:(E.ty t).d<;>rw[hd] at h<;>try (cases h)
    have ht:=quS hE hd;cases op<;>simp only[okb] at h<;>cases h
    ·exact⟨_,_,rfl,qc8 (qm8 ht _ _ _) (fun op=>by cases op<;>rfl) rfl,.bool _⟩
    ·exact⟨_,_,rfl,q8J (qm8 ht _ _ _) (fun op=>by cases op<;>rfl) rfl,.bool _⟩
   | none=>
    rw[h2,h3] at h;cases ax<;>simp[asB] at h2<;>simp only at h<;>cases h
  | none=>
   rw[h2] at h;simp only at h;cases ax with
   | str s=>
    cases ay<;>simp only at h<;>try (cases h)
    rename_i s';obtain rfl:=qD2 hx;obtain rfl:=qD2 hy;cases op<;>simp only[okb,okv] at h<;>try (cases h)
    ·obtain⟨g1,g2⟩:=j9 h;cases g2;refine⟨_,.string ⟨(qgU s s').toArray⟩,rfl,?_,.str _⟩;have g3:(s.length:Int)+s'.length<=140737488355328:=of_decide_eq_true g1;have g4:¬(((ByteArray.mk s.toArray).size+(ByteArray.mk s'.toArray).size:Nat):Int)>IntKind.i64.max:=by
      have:IntKind.i64.max=9223372036854775807:=by decide
      have h1:(ByteArray.mk s.toArray).size=s.length:=rfl;have h2:(ByteArray.mk s'.toArray).size=s'.length:=rfl;omega
     have g5:(ByteArray.mk s.toArray++ByteArray.mk s'.toArray)=⟨(qgU s s').toArray⟩:=by apply ByteArray.ext;simp[qgU]
     simp only[eqGuard,binOp,Op.stringOp,qOQ,qPh,qOW,Bool.not_false,if_true,g4,if_false,g5]
    all_goals exact⟨_,_,rfl,by simp only[eqGuard,binOp,Op.stringOp,qyX,qJt];rfl,.bool _⟩
   | nilp=>
    cases ay<;>simp only at h<;>try (cases h)
    cases hd:(E.ty t).d<;>rw[hd] at h<;>try (cases h)
    have ht:=qEi hE hd;cases hx;cases hy;cases op<;>simp only[okv] at h<;>cases h
    ·exact⟨_,_,rfl,qc8 (qbv ht _) (fun op=>by cases op<;>rfl) rfl,.blit _⟩
    ·exact⟨_,_,rfl,q8J (qbv ht _) (fun op=>by cases op<;>rfl) rfl,.blit _⟩
   | ptr b o=>
    cases ay<;>simp only at h<;>try (cases h)
    cases hd:(E.ty t).d<;>rw[hd] at h<;>try (cases h)
    have ht:=qEi hE hd;cases hb:X.h[b]? with
    | none=>rw[hb] at h;cases h
    | some k=>
     rw[hb] at h;cases k<;>try (cases h)
     obtain⟨n,c,T,e1,_,_⟩:=hs.blk b _ hb;cases hy;cases hx with
     | ptr _ _ n0 hbl hσ=>
      cases op<;>simp only[okv] at h<;>cases h
      ·exact⟨_,_,rfl,qc8 (q3j ht _ _) (fun op=>by cases op<;>rfl) rfl,.blit _⟩
      ·exact⟨_,_,rfl,q8J (q3j ht _ _) (fun op=>by cases op<;>rfl) rfl,.blit _⟩
   | eptr sh l i o=>
    cases ay<;>simp only at h<;>try (cases h)
    cases hd:(E.ty t).d<;>rw[hd] at h<;>try (cases h)
    have ht:=qEi hE hd;cases hy;cases hx;cases op<;>simp only[okv] at h<;>cases h
    ·exact⟨_,_,rfl,qc8 (q3j ht _ _) (fun op=>by cases op<;>rfl) rfl,.blit _⟩
    ·exact⟨_,_,rfl,q8J (q3j ht _ _) (fun op=>by cases op<;>rfl) rfl,.blit _⟩
   | imm sh l=>
    cases ay<;>simp only at h<;>try (cases h)
    cases hd:(E.ty t).d<;>rw[hd] at h<;>try (cases h)
    have ht:=q1i hE hd;cases hy;cases hx with
    | imm _ _ _ himm=>
     have hne:ilt 0 (qg l)=true->∃a c,vx=.slice (some a) l.length c:=by
      intro hl;have hl':(0:Int)<qg l:=of_decide_eq_true hl;rcases himm with⟨rfl,rfl⟩|⟨a,cap,rfl,_⟩
      ·simp[qg] at hl'
      ·exact⟨a,cap,rfl⟩
     cases op<;>simp only[okv] at h<;>try (cases h)
     ·obtain⟨g1,g2⟩:=j9 h;cases g2;obtain⟨a,c,rfl⟩:=hne g1;exact⟨_,_,rfl,qc8 (qjp ht.1 _ _ _) (fun op=>by cases op<;>rfl) rfl,.blit _⟩
     ·obtain⟨g1,g2⟩:=j9 h;cases g2;obtain⟨a,c,rfl⟩:=hne g1;exact⟨_,_,rfl,q8J (qjp ht.1 _ _ _) (fun op=>by cases op<;>rfl) rfl,.blit _⟩
   | mptr c sh l i o=>
    cases ay<;>simp only at h<;>try (cases h)
    cases hd:(E.ty t).d<;>rw[hd] at h<;>try (cases h)
    have ht:=qEi hE hd;cases hy;cases hx with
    | mnil=>
     cases op<;>simp only[okb] at h<;>cases h
     ·exact⟨_,_,rfl,qc8 (qbv ht _) (fun op=>by cases op<;>rfl) rfl,.bool _⟩
     ·exact⟨_,_,rfl,q8J (qbv ht _) (fun op=>by cases op<;>rfl) rfl,.bool _⟩
    | mptr=>
     cases op<;>simp only[okb] at h<;>cases h
     ·exact⟨_,_,rfl,qc8 (q3j ht _ _) (fun op=>by cases op<;>rfl) rfl,.bool _⟩
     ·exact⟨_,_,rfl,q8J (q3j ht _ _) (fun op=>by cases op<;>rfl) rfl,.bool _⟩
   | _=>simp only at h;cases h
end Go.Eng

namespace Go.Eng
variable {E:Env}{P:Program}{X:Ctx}{r:Res}{t:TypeId}{v:Value}{w:World}
theorem qEE {op:UnOp}{a:AV}(hv:Rep X a v)(h:(qLR X.h op a).run=some r) :∃av u,r=(av,X.h,none)/\(Op.unary op v).run P X.w=.ok u X.w/\Rep X av u:=by
 unfold qLR at h;cases op<;>cases hv<;>simp only[okv] at h<;>cases h
 ·exact⟨_,_,rfl,rfl,.ilit _ _⟩
 ·exact⟨_,_,rfl,rfl,.int _ _⟩
 ·exact⟨_,_,rfl,rfl,.blit _⟩
 ·exact⟨_,_,rfl,rfl,.bool _⟩
theorem qAi (hE:E.tok P){src dst:TypeId}{a:AV}(hv:Rep X a v)(h:(qsa E X.h src dst a).run=some r) :∃av u,r=(av,X.h,none)/\(convert src dst v).run P X.w=.ok u X.w/\Rep X av u:=by
 unfold qsa at h;cases hs:(E.ty src).d<;>rw[hs] at h<;>try (cases h)
 ·rename_i k1;cases hd:(E.ty dst).d<;>rw[hd] at h<;>try (cases h)
  rename_i k2;have e1:=qvw hE hs;have e2:=qvw hE hd;cases hv<;>simp only[okv] at h<;>cases h
  ·refine⟨_,_,rfl,?_,.ilit _ _⟩;simp only[convert,qOQ,run_underlying e1,run_underlying e2,qOW];rfl
  ·refine⟨_,_,rfl,?_,.int _ _⟩;simp only[convert,qOQ,run_underlying e1,run_underlying e2,qOW];rfl
 ·cases hd:(E.ty dst).d<;>rw[hd] at h<;>try (cases h)
  have e1:=qiJ hE hs;have e2:=qiJ hE hd;cases hv<;>simp only[okv] at h<;>cases h;refine⟨_,_,rfl,?_,.str _⟩;simp only[convert,qOQ,run_underlying e1,run_underlying e2,qOW];rfl
theorem qwh {a:Addr}{f:Field}(h:0<P.cellsOf f.type):(fieldPlace a f).run P w=.ok (a.add f.offset) w:=by
 have:P.cellsOf f.type≠0:=by omega
 simp[fieldPlace,zw h,this]
theorem qqD (hE:E.tok P){s:TypeId}{a:AV}(hv:Rep X a v){f:Nat}(h:(q2D E X.h s a f).run=some r) :∃av u,r=(av,X.h,none)/\(Instr.fieldAt s v f).run P X.w=.ok u X.w/\Rep X av u:=by
 unfold q2D at h;cases hs:(E.ty s).d<;>rw[hs] at h<;>try (cases h)
 rename_i fs;obtain⟨fields,e1,e2⟩:=q9g hE hs;simp only at h;cases hf:fs[f]? with
 | none=>rw[hf] at h;cases h
 | some x=>
  obtain⟨o,t,sz⟩:=x;rw[hf] at h;simp only at h;have hfield:∃fd,fields[f]?=some fd/\fd.offset=o/\P.cellsOf fd.type=sz:=by
   rw[e2,qOU] at hf;cases hg:fields.toList[f]? with
   | none=>rw[hg] at hf;cases hf
   | some fd=>
    rw[hg] at hf;simp only[qPk,qOL,qPl] at hf;exact⟨fd,by simpa using hg,hf.1,hf.2.2⟩
  obtain⟨fd,g1,rfl,g3⟩:=hfield;by_cases hz:sz=0
  ·rw[if_pos hz] at h;cases h
  rw[if_neg hz] at h;have hp:0<P.cellsOf fd.type:=by omega
  have hrun:∀a:Addr,(Instr.fieldAt s (.pointer (some a)) f).run P X.w=.ok (.pointer (some (a.add fd.offset))) X.w:=by intro a;simp[Instr.fieldAt,run_underlying e1,g1,Instr.sureAddr,qwh hp]
  cases hv with
  | ptr b off n hb hσ=>
   simp only[okv] at h;cases h;refine⟨_,_,rfl,hrun _,?_⟩;rw[qPy];exact .ptr _ _ _ hb hσ
  | eptr sh l i off a hsp h0 h1 hr=>
   simp only[okv] at h;cases h;refine⟨_,_,rfl,hrun _,?_⟩;rw[qPy,qQj];exact .eptr _ _ _ _ _ hsp h0 h1 hr
  | vptr b i off n k hb hσ hp=>
   simp only[okv] at h;cases h;refine⟨_,_,rfl,hrun _,?_⟩;rw[qPy,qQj];exact .vptr _ _ _ _ _ hb hσ hp
  | _=>simp only at h;cases h
theorem q64 (hE:E.tok P){cs:List AV}{vs:List Value}(hv:RepL X cs vs){off:Nat}{a:AV}(h:qiP E t cs off=some a) (w:World):∃u,(part t vs.toArray off).run P w=.ok u w/\Rep X a u:=by
 unfold qiP at h;by_cases hk:(E.ty t).d.known=false
 ·simp only[hk,if_true] at h;cases h
 simp only[hk] at h;have hk':(E.ty t).d.known=true:=by simpa using hk
 unfold part;rw[qOQ,qgh hE hk',qOW];cases ha:(E.ty t).d.isAgg with
 | true=>
  rw[ha] at h;simp only[if_true] at h ⊢;by_cases hle:off+(E.ty t).size<=cs.length
  ·have h':(some (AV.agg ((cs.drop off).take (E.ty t).size)):Option AV)=some a:=by simpa[hle] using h
   cases h';refine⟨.agg ((vs.drop off).take (E.ty t).size).toArray,?_,.agg _ _ ((hv.drop off).take _)⟩;rw[qOQ,qlf hE hk',qOW,qPh];congr 2;apply qQ1;simp[List.extract,Nat.add_sub_cancel_left]
  ·simp[hle] at h
 | false=>
  rw[ha] at h;simp only[qPo,if_false] at h ⊢;obtain⟨u,e1,e2⟩:=hv.get off a h;exact⟨u,by simp[e1],e2⟩
theorem qxd {h:List Blk}{cs:List AV}{off:Nat}(hr:(qkN E h t cs off).run=some r):∃a,qiP E t cs off=some a/\r=(a,h,none):=by
 unfold qkN at hr;cases hp:qiP E t cs off with
 | none=>rw[hp] at hr;cases hr
 | some a=>rw[hp] at hr;cases hr;exact⟨a,rfl,rfl⟩
theorem qyS (hE:E.tok P){s:TypeId}{a:AV}(hv:Rep X a v){f:Nat}(h:(qkH E X.h s a f).run=some r) :∃av u,r=(av,X.h,none)/\(Instr.field s v f).run P X.w=.ok u X.w/\Rep X av u:=by
 unfold qkH at h;cases hs:(E.ty s).d<;>rw[hs] at h<;>try (cases h)
 rename_i fs;obtain⟨fields,e1,e2⟩:=q9g hE hs;cases hv<;>simp only at h<;>try (cases h)
 rename_i cs vs hv;cases hf:fs[f]? with
 | none=>rw[hf] at h;cases h
 | some x=>
  obtain⟨o,t,sz⟩:=x;rw[hf] at h;simp only at h;rw[e2,qOU] at hf;cases hg:fields.toList[f]? with
  | none=>rw[hg] at hf;cases hf
  | some fd=>
   rw[hg] at hf;simp only[qPk,qOL,qPl] at hf;obtain⟨rfl,rfl,_⟩:=hf;obtain⟨a,h1,rfl⟩:=qxd h;obtain⟨u,h2,h3⟩:=q64 hE hv h1 X.w;have hg':fields[f]?=some fd:=by simpa using hg
   exact⟨_,u,rfl,by simp[Instr.field,run_underlying e1,hg',asAgg,h2],h3⟩
theorem qnn {i n:Int}(h:inb i n=true):0<=i/\i<n:=by simpa[inb] using h
theorem q0d {i n:Int}(h:q7O i n=true):0<=i/\i<=n:=by simpa[q7O] using h
theorem qgw {t e:TypeId}{a:Addr}{n c:Nat}{k:IntKind}{i:Int}(ht:P.underlying t=some (.slice e))(hp:0<P.cellsOf e)(h0:0<=i)(h1:i<n) :(Instr.indexAt t (.slice (some a) n c) (.int k i)).run P w=.ok (.pointer (some (a.add (i.toNat*P.cellsOf e)))) w:=by simp[Instr.indexAt,asIntOf,run_underlying ht,h0,h1,zw hp]
theorem q0m {t e:TypeId}{a:Addr}{n:Nat}{k:IntKind}{i:Int}(ht:P.underlying t=some (.array n e))(hp:0<P.cellsOf e)(h0:0<=i)(h1:i<n) :(Instr.indexAt t (.pointer (some a)) (.int k i)).run P w=.ok (.pointer (some (a.add (i.toNat*P.cellsOf e)))) w:=by simp[Instr.indexAt,asIntOf,run_underlying ht,h0,h1,zw hp,Instr.sureAddr]
theorem Addr.add_of {a:Addr}(h:a.spot=none)(n:Nat):a.add n=⟨a.block,a.off+n,none⟩:=by obtain⟨b,o,s⟩:=a;subst h;exact qPy b o n
theorem qo6{h:List Blk}{i:Int}{f:Nat->AV}{r:Res}:∀n,(qjC h i f n).run=some r->∃m:Nat,m<n/\i=m/\r=(f m,h,none)
 | 0,h=>by cases h
 | n+1,hr=>by
  simp only[qjC,Tree.run] at hr;cases hb:ieq i n with
  | true=>
   rw[hb] at hr;cases hr;exact⟨n,qQA n,by simpa[ieq] using hb,rfl⟩
  | false=>
   rw[hb] at hr;obtain⟨m,h1,h2,h3⟩:=qo6 n hr;exact⟨m,by omega,h2,h3⟩
theorem q3N (hE:E.tok P){B:Base}(hs:HSim B X){a ai:AV}{v vi:Value}(hv:Rep X a v)(hi:Rep X ai vi)(h:(yY E X.h t a ai).run=some r):∃av u,r=(av,X.h,none)/\(Instr.indexAt t v vi).run P X.w=.ok u X.w/\Rep X av u:=by
 unfold yY at h;cases hd:(E.ty t).d<;>rw[hd] at h<;>try (cases h)
 ·rename_i e es;obtain⟨ht,rfl⟩:=q1i hE hd;cases hai:asI ai with
  | none=>rw[hai] at h;cases hv<;>simp only at h<;>cases h
  | some p=>
   obtain⟨k,i⟩:=p;rw[hai] at h;obtain rfl:=q49 hi hai;cases hv<;>simp only at h<;>try (cases h)
   ·rename_i sh l himm;by_cases hc:sh.length=P.cellsOf e/\0<P.cellsOf e
    ·rw[if_pos hc] at h;obtain⟨g1,g2⟩:=j9 h;cases g2;obtain⟨g3,g4⟩:=qnn g1;rcases himm with⟨rfl,rfl⟩|⟨a,cap,rfl,hsp,hcap,hr⟩
     ·simp[qg] at g4;omega
     ·refine⟨_,_,rfl,qgw ht hc.2 g3 g4,?_⟩;have hsp:=hsp (by simp[qg] at g4;omega);rw[Addr.add_of hsp,<-hc.1];have:Rep X (.eptr sh l i 0) (.pointer (some ⟨a.block,a.off+i.toNat*sh.length+0,none⟩)):=.eptr _ _ _ _ _ hsp g3 (by simp[qg] at g4;omega) hr;simpa using this
    ·rw[if_neg hc] at h;cases h
   ·rename_i b p n c hb hv;cases hr:vr X.h (.vec b) with
    | none=>rw[hr] at h;cases h
    | some x=>
     obtain⟨sh,l⟩:=x;rw[hr] at h;simp only at h;by_cases hc:sh.length=P.cellsOf e/\0<P.cellsOf e
     ·rw[if_pos hc] at h;obtain⟨g1,g2⟩:=j9 h;cases g2;obtain⟨g3,g4⟩:=qnn g1;obtain⟨e0,hh⟩:=qgr hr;have hvv:=hv sh l.length ⟨e0,l,hh,rfl⟩;unfold qzF at hvv;rcases hs.rows hh with⟨e1,rfl⟩|⟨n0,c0,e1,e2,e3⟩
      ·simp[qg] at g4;omega
      ·rw[e1] at hvv;obtain⟨cap,f1,f2,f3,c1,T1,fr1,f4,f5⟩:=hvv;cases f1;refine⟨_,_,rfl,qgw ht hc.2 g3 g4,?_⟩;rw[qPy,<-hc.1];have:Rep X (.vptr b i 0) (.pointer (some ⟨n0,i.toNat*sh.length+0,none⟩)):=.vptr _ _ _ _ _ hb e1 fun sh' m ⟨e',l',q1,q2⟩=>by
        have:sh'=sh/\l'=l:=by rcases hh with hh|hh<;>rcases q1 with q1|q1<;>rw[hh] at q1<;>cases q1<;>exact⟨rfl,rfl⟩
        obtain⟨rfl,rfl⟩:=this;exact⟨g3,by simp[qg] at g4;omega,rfl⟩
       simpa using this
     ·rw[if_neg hc] at h;cases h
 ·rename_i n e es;obtain⟨ht,rfl⟩:=q8Z hE hd;cases hv<;>simp only at h<;>try (cases h)
  ·rename_i b off n0 hb hσ;cases hi<;>simp only at h<;>try (cases h)
   ·rename_i k i;by_cases hc:0<=i/\i<n/\0<P.cellsOf e
    ·rw[if_pos hc] at h;cases h;refine⟨_,_,rfl,q0m ht hc.2.2 hc.1 hc.2.1,?_⟩;rw[qPy];exact .ptr _ _ _ hb hσ
    ·rw[if_neg hc] at h;cases h
   ·rename_i k i;by_cases hc:n<=16/\0<P.cellsOf e
    ·rw[if_pos hc] at h;obtain⟨m,g1,rfl,rfl⟩:=qo6 _ h;refine⟨_,_,rfl,q0m ht hc.2 (by omega) (by omega),?_⟩;rw[qPy];exact .ptr _ _ _ hb hσ
    ·rw[if_neg hc] at h;cases h
  ·rename_i sh l i0 off a hsp h0 h1 hr;cases hi<;>simp only at h<;>try (cases h)
   ·rename_i k i;by_cases hc:0<=i/\i<n/\0<P.cellsOf e
    ·rw[if_pos hc] at h;cases h;refine⟨_,_,rfl,q0m ht hc.2.2 hc.1 hc.2.1,?_⟩;rw[qPy,qQj];exact .eptr _ _ _ _ _ hsp h0 h1 hr
    ·rw[if_neg hc] at h;cases h
   ·rename_i k i;by_cases hc:n<=16/\0<P.cellsOf e
    ·rw[if_pos hc] at h;obtain⟨m,g1,rfl,rfl⟩:=qo6 _ h;refine⟨_,_,rfl,q0m ht hc.2 (by omega) (by omega),?_⟩;rw[qPy,qQj];exact .eptr _ _ _ _ _ hsp h0 h1 hr
    ·rw[if_neg hc] at h;cases h
end Go.Eng

namespace Go.Eng
variable {P:Program}
theorem qua{X:Ctx}{k:IntKind}:∀{cs:List AV} {l:List Int} {vs:List Value},qoj k cs=some l->RepL X cs vs->vs=l.map (Value.int k)
 | [],l,vs,h,hr=>by cases hr;simp[qoj] at h;subst h;rfl
 | a::cs,l,vs,h,hr=>by
  cases hr with
  | cons ha ht=>
   simp only[qoj] at h;cases h1:asI a with
   | none=>rw[h1] at h;cases h
   | some p=>
    obtain⟨k',n⟩:=p;cases h2:qoj k cs with
    | none=>rw[h1,h2] at h;cases h
    | some r=>
     rw[h1,h2] at h;simp only at h;by_cases hk:k=k'
     ·subst hk;rw[if_pos rfl] at h;cases h;rw[q49 ha h1,qua h2 ht];rfl
     ·rw[if_neg hk] at h;cases h
theorem qyh {E:Env}(hE:E.tok P){X:Ctx}{t:TypeId}{a ai:AV}{v vi:Value}(hv:Rep X a v)(hi:Rep X ai vi){r:Res}(h:(qjS E X.h t a ai).run=some r):∃av u,r=(av,X.h,none)/\(Instr.index t v vi).run P X.w=.ok u X.w/\Rep X av u:=by
 unfold qjS at h;cases hd:(E.ty t).d<;>rw[hd] at h<;>try (cases h)
 ·cases hai:asI ai with
  | none=>rw[hai] at h;cases hv<;>simp only at h<;>cases h
  | some p=>
   obtain⟨k,i⟩:=p;rw[hai] at h;obtain rfl:=q49 hi hai;have ht:=qiJ hE hd;cases hv<;>simp only at h<;>try (cases h)
   rename_i s;obtain⟨g1,g2⟩:=j9 h;cases g2;obtain⟨g3,g4⟩:=qnn g1;refine⟨_,.int .u8 (sat s i),rfl,?_,.int _ _⟩;have hlt:i.toNat<s.length:=by simp only[qv] at g4;omega
   have hsz:(ByteArray.mk s.toArray)[i.toNat]?=some s[i.toNat]:=by
    have:(ByteArray.mk s.toArray)[i.toNat]?=(s.toArray)[i.toNat]?:=by simp only[getElem?_def];rfl
    rw[this];simp[hlt]
   simp only[Instr.index,asIntOf,qOQ,qPh,qOW,run_underlying ht,g3,if_true,hsz];simp[sat,hlt]
 ·rename_i n e es;obtain⟨ht,rfl⟩:=q8Z hE hd;cases hai:asI ai with
  | none=>rw[hai] at h;cases hv<;>simp only at h<;>cases h
  | some p=>
   obtain⟨k,i⟩:=p;rw[hai] at h;obtain rfl:=q49 hi hai;cases hv<;>simp only at h<;>try (cases h)
   rename_i cs vs hv;have lit:∀(_:0<=i) (_:i<n) (_:0<P.cellsOf e) (_:(qkN E X.h e cs (i.toNat*P.cellsOf e)).run=some r),
     ∃av u,r=(av,X.h,none)/\(Instr.index t (.agg vs.toArray) (.int k i)).run P X.w=.ok u X.w/\Rep X av u:=by
    intro h0 h1 hp hh;obtain⟨a,q1,rfl⟩:=qxd hh;obtain⟨u,q2,q3⟩:=q64 hE hv q1 X.w;exact⟨_,u,rfl,by simp[Instr.index,asIntOf,run_underlying ht,h0,h1,zw hp,q2],q3⟩
   have sym:∀(_:(match (E.ty e).d with
     | .int k=>if P.cellsOf e=1/\cs.length=n then (match qoj k cs with
      | some l=>Tree.br (inb i n) (okv X.h (.int k (qqf l i))) .fail
      | none=>.fail) else .fail
     | .slice _ _=>if 0<P.cellsOf e then (match Nat.ble n 4 with|true=>qrX E X.h e cs (P.cellsOf e) i 0 n|false=>.fail) else .fail
     | _=>.fail).run=some r),
     ∃av u,r=(av,X.h,none)/\(Instr.index t (.agg vs.toArray) (.int k i)).run P X.w=.ok u X.w/\Rep X av u:=by
    intro hh;cases he:(E.ty e).d<;>rw[he] at hh<;>try (cases hh)
    case slice e' es'=>
     simp only at hh;split at hh
     case isFalse=>cases hh
     rename_i hp;split at hh
     case h_2=>cases hh
     have go:∀(m j:Nat),j+m=n->(qrX E X.h e cs (P.cellsOf e) i j m).run=some r->∃av u,r=(av,X.h,none)/\(Instr.index t (.agg vs.toArray) (.int k i)).run P X.w=.ok u X.w/\Rep X av u:=by
      intro m;induction m with
      | zero=>intro j _ hh;cases hh
      | succ m ih=>
       intro j hj hh;unfold qrX at hh;simp only[Tree.run] at hh;split at hh
       ·rename_i hi;have hij:i=(j:Int):=by simpa[ieq] using hi
        exact lit (by omega) (by omega) hp (by rw[hij,qOX];exact hh)
       ·exact ih (j+1) (by omega) hh
     exact go n 0 (by omega) hh
    rename_i k';simp only at hh;by_cases hc:P.cellsOf e=1/\cs.length=n
    ·rw[if_pos hc] at hh;cases hl:qoj k' cs with
     | none=>rw[hl] at hh;cases hh
     | some l=>
      rw[hl] at hh;obtain⟨g1,g2⟩:=j9 hh;cases g2;obtain⟨g3,g4⟩:=qnn g1;have hvs:=qua hl hv;have hlen:=hv.length;refine⟨_,.int k' (qqf l i),rfl,?_,.int _ _⟩;have hlt:i.toNat<l.length:=by rw[hvs] at hlen;simp at hlen;omega
      have hag:(isAgg e).run P X.w=.ok false X.w:=by rw[qgh hE (by rw[he];rfl),he];rfl
      have hget:vs[i.toNat]?=some (.int k' (qqf l i)):=by rw[hvs];simp[hlt,qqf]
      simp[Instr.index,asIntOf,run_underlying ht,g3,g4,zw (show 0<P.cellsOf e by omega),part,hag,hc.1,hget]
    ·rw[if_neg hc] at hh;cases hh
   cases ai with
   | ilit k2 i2=>
    simp only[asI] at hai;cases hai;simp only at h;by_cases hc:0<=i/\i<n/\0<P.cellsOf e
    ·rw[if_pos hc] at h;exact lit hc.1 hc.2.1 hc.2.2 h
    ·rw[if_neg hc] at h;cases h
   | int k2 i2=>exact sym h
   | _=>simp[asI] at hai
theorem qCZ {E:Env}(hE:E.tok P){B:Base}{X:Ctx}(hs:HSim B X){t ty:TypeId}{ts:Array TypeId}(h0:ts[0]?=some t){a:AV}{v:Value}(hv:Rep X a v){r:Res}(h:(qGf E X.h t a).run=some r):∃av u,r=(av,X.h,none)/\(Builtin.len_ ts ty #[v]).run P X.w=.ok u X.w/\Rep X av u:=by
 unfold qGf at h;cases hd:(E.ty t).d<;>rw[hd] at h<;>try (cases h)
 ·have ht:=qiJ hE hd;cases hv<;>simp only at h<;>try (cases h)
  rename_i s;refine⟨_,.int .i64 (qv s),rfl,?_,.int _ _⟩;simp[Builtin.len_,h0,run_underlying ht,goInt,qv];rfl
 ·rename_i e es;obtain⟨ht,rfl⟩:=q1i hE hd;have run:∀p n c,(Builtin.len_ ts ty #[.slice p n c]).run P X.w=.ok (.int .i64 n) X.w:=by intro p n c;simp[Builtin.len_,h0,run_underlying ht,goInt]
  have gen:∀(_:(match vr X.h a with|some (_,l)=>okv X.h (.int .i64 (qg l))|none=>.fail).run=some r),
    ∃av u,r=(av,X.h,none)/\(Builtin.len_ ts ty #[v]).run P X.w=.ok u X.w/\Rep X av u:=by
   intro hh;cases hr:vr X.h a with
   | none=>rw[hr] at hh;cases hh
   | some x=>
    obtain⟨sh,l⟩:=x;rw[hr] at hh;cases hh;cases hv<;>simp only[vr] at hr<;>try (cases hr)
    ·rename_i himm;rcases himm with⟨rfl,rfl⟩|⟨a,cap,rfl,_⟩
     ·exact⟨_,_,rfl,run _ _ _,.int _ _⟩
     ·exact⟨_,_,rfl,run _ _ _,.int _ _⟩
    ·rename_i b p n c hb hv;obtain⟨e0,hh⟩:=qgr (b:=b) (h:=X.h) (sh:=sh) (l:=l) (by simpa only [vr] using hr);have hvv:=hv sh l.length ⟨e0,l,hh,rfl⟩;unfold qzF at hvv;rcases hs.rows hh with⟨e1,rfl⟩|⟨n0,c0,e1,e2,e3⟩
     ·rw[e1] at hvv;obtain⟨p,hvv⟩:=hvv;cases hvv;exact⟨_,_,rfl,run _ _ _,.int _ _⟩
     ·rw[e1] at hvv;obtain⟨cap,f1,_⟩:=hvv;cases f1;exact⟨_,_,rfl,run _ _ _,.int _ _⟩
  cases hv with
  | nils=>simp only at h;cases h;exact⟨_,_,rfl,run _ _ _,.ilit _ _⟩
  | _=>exact gen h
 ·rename_i n e es;obtain⟨ht,rfl⟩:=q8Z hE hd;refine⟨_,.int .i64 n,rfl,?_,.ilit _ _⟩;simp[Builtin.len_,h0,run_underlying ht,goInt]
theorem qKf {k k':IntKind}{x y:Int}{w:World}:(Builtin.max2 (.int k x) (.int k' y)).run P w=.ok (.int k (qzG x y)) w:=rfl
theorem qJK {k k':IntKind}{x y:Int}{w:World}:(Builtin.min2 (.int k x) (.int k' y)).run P w=.ok (.int k (qo8 x y)) w:=rfl
theorem qul{P:Program}{X:Ctx}{f:Int->Int->Int}{g:Value->Value->Sem Value}(hg:∀k k' x y w,(g (.int k x) (.int k' y)).run P w=.ok (.int k (f x y)) w)(k:IntKind) :
  ∀(l:List AV) (a m:Int) (vs:List Value),qCg f k a l=some m->RepL X l vs->(vs.foldlM g (.int k a)).run P X.w=.ok (.int k m) X.w
 | [],a,m,vs,h,hr=>by cases hr;simp[qCg] at h;subst h;rfl
 | x::l,a,m,vs,h,hr=>by
  cases hr with
  | cons hx ht=>
   simp only[qCg] at h;cases h1:asI x with
   | none=>rw[h1] at h;cases h
   | some p=>
    obtain⟨k',b⟩:=p;rw[h1] at h;simp only at h;by_cases hk:k=k'
    ·rw[if_pos hk] at h;rw[q49 hx h1,List.foldlM_cons,qOQ,hg,qOW];exact qul hg k l _ m _ h ht
    ·rw[if_neg hk] at h;cases h
theorem qrP{E:Env}{P:Program}(hE:E.tok P){X:Ctx}{e:TypeId}{c:Nat}(he:P.underlying e=some .string){xs ys:List AV}{vxs vys:List Value}(hx:RepL X xs vxs)(hy:RepL X ys vys)(d:Nat)(w:World) :
  ∀(is:List Nat) (r:Bool),qAR E e c xs ys is=some r->(Op.eqItems (d+1) e c vxs.toArray vys.toArray is).run P w=.ok r w
 | [],r,h=>by
  simp only[qAR] at h;cases h;rfl
 | i::is,r,h=>by
  simp only[qAR] at h;split at h
  ·rename_i a b r' h1 h2 h3;cases h;obtain⟨u1,q1,q2⟩:=q64 hE hx h1 w;obtain⟨u2,q3,q4⟩:=q64 hE hy h2 w;cases q2;cases q4;have q5:=run_equalIn_string w d e ⟨a.toArray⟩ ⟨b.toArray⟩ he;have q6:=qrP hE he hx hy d w is r' h3;rw[qyX] at q5;simp only[Op.eqItems,qOQ,q1,q3,q5,qOW];cases hs:Eng.seq a b with
   | true=>simp[qHC,q6]
   | false=>simp[qHC]
  ·cases h
mutual
theorem qzK{E:Env}{P:Program}(hE:E.tok P){X:Ctx}:∀(n:Nat) (t:TypeId) (x y:AV) (r:Bool) (vx vy:Value),eqT E n t x y=some r->Rep X x vx->Rep X y vy ->
  ∀d,n<=d->∀w,(Op.equalIn d t vx vy).run P w=.ok r w
 | 0,_,_,_,_,_,_,h,_,_,_,_,_=>by simp[eqT] at h
 | n+1,t,x,y,r,vx,vy,h,hx,hy,d,hd,w=>by
  obtain⟨d,rfl⟩:∃d',d=d'+1:=⟨d-1,by omega⟩;simp only[eqT] at h;cases ht:(E.ty t).d<;>rw[ht] at h<;>try (cases h)
  ·have hu:=quS hE ht;simp only at h;cases h1:asB x with
   | none=>rw[h1] at h;cases h
   | some a=>
    cases h2:asB y with
    | none=>rw[h1,h2] at h;cases h
    | some b=>
     rw[h1,h2] at h;cases h;rw[qzx hx h1,qzx hy h2];exact run_equalIn_bool' w d t a b hu
  ·have hu:=qvw hE ht;simp only at h;cases h1:asI x with
   | none=>rw[h1] at h;cases h
   | some a=>
    cases h2:asI y with
    | none=>rw[h1,h2] at h;cases h
    | some b=>
     obtain⟨k,a⟩:=a;obtain⟨k',b⟩:=b;rw[h1,h2] at h;simp only at h;by_cases hk:k=k'
     ·subst hk;rw[if_pos rfl] at h;cases h;rw[q49 hx h1,q49 hy h2];exact run_equalIn_int w d t k _ a b hu
     ·rw[if_neg hk] at h;cases h
  ·have hu:=qiJ hE ht;simp only at h;cases hx<;>try (cases h)
   cases hy<;>try (cases h)
   rw[run_equalIn_string w d t _ _ hu,qyX]
  ·rename_i m e es;simp only at h;obtain⟨hta,rfl⟩:=q8Z hE ht;split at h
   ·rename_i n' hte;have hue:=qiJ hE hte;obtain⟨d',rfl⟩:∃d',d=d'+1:=⟨d-1,by omega⟩;obtain⟨_,i,dd,h1,_⟩:=q0c hE (t:=e) (by rw[hte];rfl);cases hx with
    | agg _ vxs hxs=>
     cases hy with
     | agg _ vys hys=>
      rw[run_equalIn_array w (d'+1) vxs.toArray vys.toArray hta h1];exact qrP hE hue hxs hys d' w _ r h
   ·cases h
  ·rename_i fs;simp only at h;by_cases hok:(E.ty t).eqok=true
   ·rw[if_pos hok] at h;cases hx<;>try (cases h)
    cases hy<;>try (cases h)
    rename_i xs vxs hxs ys vys hys;obtain⟨fields,e1,e2⟩:=q9g hE ht;have hk:=q0c hE (t:=t) (by rw[ht];rfl);have hst:P.stoodInHeld t=false/\∀f∈fields.toList,f.name ≠ "_" := by rw[hk.1] at hok;unfold qBr at hok;obtain⟨_,i,dd,h1,h2,_⟩:=hk;rw[h1] at hok;simp only[e1,qP0,qQn,qPi,bne_iff_ne] at hok;exact⟨hok.1.1,hok.2⟩
    have hfo:P.fieldsOf t=fields:=by simp[Program.fieldsOf,e1]
    have hrun:=run_equalIn_struct (P:=P) w d t vxs.toArray vys.toArray (by rw[hfo];exact e1) hst.1;rw[hrun,hfo];rw[e2] at h;exact qx6 hE n fields.toList xs ys r vxs vys h hxs hys hst.2 d (by omega) w
   ·rw[if_neg hok] at h;cases h
theorem qx6{E:Env}{P:Program}(hE:E.tok P){X:Ctx}:∀(n:Nat) (fs:List Field) (xs ys:List AV) (r:Bool) (vxs vys:List Value),
  qLx E n (fs.map fun f=>(f.offset,f.type,P.cellsOf f.type)) xs ys=some r->RepL X xs vxs->RepL X ys vys->(∀f∈fs,f.name ≠ "_") ->
  ∀d,n<=d->∀w,(Op.eqFields d vxs.toArray vys.toArray fs).run P w=.ok r w
 | n,[],xs,ys,r,vxs,vys,h,hx,hy,hn,d,hd,w=>by
  cases n<;>simp[qLx] at h<;>subst h<;>rfl
 | 0,f::fs,xs,ys,r,vxs,vys,h,hx,hy,hn,d,hd,w=>by simp[qLx] at h
 | n+1,f::fs,xs,ys,r,vxs,vys,h,hx,hy,hn,d,hd,w=>by
  simp only[qPS,qLx] at h;cases h1:qiP E f.type xs f.offset with
  | none=>rw[h1] at h;cases h
  | some a=>
   cases h2:qiP E f.type ys f.offset with
   | none=>rw[h1,h2] at h;cases h
   | some b=>
    rw[h1,h2] at h;simp only at h;cases h3:eqT E n f.type a b with
    | none=>rw[h3] at h;cases h
    | some r1=>
     cases h4:qLx E n (fs.map fun f=>(f.offset,f.type,P.cellsOf f.type)) xs ys with
     | none=>rw[h3,h4] at h;cases h
     | some r2=>
      rw[h3,h4] at h;cases h;obtain⟨u1,q1,q2⟩:=q64 hE hx h1 w;obtain⟨u2,q3,q4⟩:=q64 hE hy h2 w;have q5:=qzK hE n f.type a b r1 u1 u2 h3 q2 q4 d (by omega) w;have q6:=qx6 hE n fs xs ys r2 vxs vys h4 hx hy (fun g hg=>hn g (qPc _ hg)) d (by omega) w;have hn0:=hn f qP8;simp only[Op.eqFields,hn0,ne_eq,not_false_eq_true,if_true,qOQ,q1,q3,q5,qOW];cases r1 with
      | true=>simp[qHC,q6]
      | false=>simp[qHC]
end
end Go.Eng

namespace Go.Eng
variable {B:Base}{E:Env}{P:Program}{X:Ctx}{t:TypeId}{v:Value}
theorem qxU (hE:E.tok P){op:BinOp}{x y:Operand}{xs ys:List AV}{vx vy:Value}(hx:Rep X (.agg xs) vx)(hy:Rep X (.agg ys) vy){r:Res}(h:(qvs E X.h op t (.agg xs) (.agg ys)).run=some r):∃av u,r=(av,X.h,none)/\(do eqGuard op t x y vx vy;binOp op t vx vy:Sem Value).run P X.w=.ok u X.w/\Rep X av u:=by
 unfold qvs at h;cases he:eqT E 32 t (.agg xs) (.agg ys) with
 | none=>rw[he] at h;cases h
 | some b=>
  rw[he] at h;simp only at h;have heq:=qk4 (qzK hE 32 t _ _ b vx vy he hx hy (9999+1) (by omega) X.w);have hg:∀op w,(eqGuard op t x y vx vy).run P w=.ok () w:=by
   intro op w;simp only[eqT] at he;cases ht:(E.ty t).d<;>rw[ht] at he<;>try (simp only[asI,asB] at he;cases he)
   ·rename_i m e es;simp only at he;obtain⟨hta,rfl⟩:=q8Z hE ht;cases hte:(E.ty e).d<;>rw[hte] at he<;>try (cases he)
    ·have hue:=qiJ hE hte;cases hx;cases hy;have hgt:P.eqGuardType P.depth t=false:=by rw[show P.depth=(2*(P.types.size+Made.depth))+1+1 from rfl];simp[Program.eqGuardType,hta,hue]
     unfold eqGuard;cases op<;>simp[run_program,hgt]
   ·rename_i fs;simp only at he;by_cases hok:(E.ty t).eqok=true
    ·have hk:=q0c hE (t:=t) (by rw[ht];rfl);obtain⟨fields,e1,e2⟩:=q9g hE ht;rw[hk.1] at hok;unfold qBr at hok;obtain⟨_,i,dd,h1,h2,_⟩:=hk;rw[h1] at hok;simp only[e1,qP0,qQn] at hok;cases hx;cases hy;unfold eqGuard;cases op<;>simp[run_program,hok.1.2]
    ·rw[if_neg hok] at he;cases he
  cases hx with
  | agg _ vxs hxs=>
   cases hy with
   | agg _ vys hys=>
    cases op<;>simp only[okb] at h<;>cases h
    ·refine⟨_,_,rfl,?_,.bool b⟩;rw[qOQ,hg,qOW];simp[binOp,heq]
    ·refine⟨_,_,rfl,?_,.bool (!b)⟩;rw[qOQ,hg,qOW];simp[binOp,heq]
theorem qAN {a:AV}(h:Rep X a v)(hc:a.isCell=true):v.cells=#[v]/\v.oneCell'=true:=by
 cases h with
 | imm sh l v h=>
  rcases h with⟨rfl,rfl⟩|⟨a,cap,rfl,h1,h2,h3⟩<;>exact⟨rfl,rfl⟩
 | undef=>simp[AV.isCell] at hc
 | skip=>simp[AV.isCell] at hc
 | agg=>simp[AV.isCell] at hc
 | tuple=>simp[AV.isCell] at hc
 | bagg=>simp[AV.isCell] at hc
 | _=>exact⟨rfl,rfl⟩
theorem qjT {a:AV}(h:Rep X a v)(hc:yu a.cells=true):RepL X a.cells v.cells.toList:=by
 cases h with
 | agg cs vs h=>simpa[AV.cells,Value.cells] using h
 | undef=>simp[AV.cells,yu,AV.isCell] at hc
 | skip=>simp[AV.cells,yu,AV.isCell] at hc
 | tuple=>simp[AV.cells,yu,AV.isCell] at hc
 | bagg=>simp[AV.cells,yu,AV.isCell] at hc
 | yld=>exact .cons .yld .nil
 | blit=>exact .cons (.blit _) .nil
 | bool=>exact .cons (.bool _) .nil
 | ilit=>exact .cons (.ilit _ _) .nil
 | int=>exact .cons (.int _ _) .nil
 | str=>exact .cons (.str _) .nil
 | nilp=>exact .cons .nilp .nil
 | ptr b off n h1 h2=>exact .cons (.ptr b off n h1 h2) .nil
 | eptr sh l i off a h1 h2 h3 h4=>exact .cons (.eptr sh l i off a h1 h2 h3 h4) .nil
 | mnil sh l i off=>exact .cons (.mnil sh l i off) .nil
 | mptr sh l i off a h1 h2 h3 h4=>exact .cons (.mptr sh l i off a h1 h2 h3 h4) .nil
 | vptr b i off n k h1 h2 h3=>exact .cons (.vptr b i off n k h1 h2 h3) .nil
 | vsub b i n k m c h1 h2 h3=>exact .cons (.vsub b i n k m c h1 h2 h3) .nil
 | aptr b o i n h1 h2 h3=>exact .cons (.aptr b o i n h1 h2 h3) .nil
 | asub b o N i m n k c h1 h2 h3 h4 h5 h6=>exact .cons (.asub b o N i m n k c h1 h2 h3 h4 h5 h6) .nil
 | nils=>exact .cons .nils .nil
 | imm sh l v h=>
  rcases h with⟨rfl,rfl⟩|⟨a,cap,rfl,h1,h2,h3⟩
  ·exact .cons (.imm _ _ _ (.inl ⟨rfl,rfl⟩)) .nil
  ·exact .cons (.imm _ _ _ (.inr ⟨a,cap,rfl,h1,h2,h3⟩)) .nil
 | full sh l p n h=>exact .cons (.full sh l p n h) .nil
 | vec b p n c h1 h2=>exact .cons (.vec b p n c h1 h2) .nil
 | nilf=>exact .cons .nilf .nil
 | fn f first caps vf vc h1 h2=>exact .cons (.fn f first caps vf vc h1 h2) .nil
theorem qe0{X:Ctx}:∀{cs:List AV} {vs:List Value},RepL X cs vs->yu cs=true->∀v∈vs,v.oneCell'=true
 | _,_,.nil,_,v,h=>by simp at h
 | _,_,.cons ha ht,hc,v,h=>by
  simp only[yu,qQL,qP0] at hc;rcases qP5.1 h with rfl|h
  ·exact(qAN ha hc.1).2
  ·exact qe0 ht hc.2 v h
theorem qF7 (hs:HSim B X){cs:List AV}{c:Array Value}{T:TypeId}(hr:RepL X cs c.toList) :HSim B (X.pushW (.cells cs) (some X.w.heap.size) (X.w.alloc (.cells c T))):=by have hw:=PushW.alloc X (.cells c T);refine hs.push hw ⟨X.w.heap.size,c,T,by simp[Ctx.pushW],zU _ _,hr.ext (Ctx.push_ext hs _ hw)⟩
theorem qDo {k:Blk}{n:Nat}{w':World}:Rep (X.pushW k (some n) w') (.ptr X.h.length 0) (.pointer (some ⟨n,0,none⟩)):=.ptr _ _ _ (by simp[Ctx.pushW]) (by simp[Ctx.pushW])
theorem qux (hs:HSim B X){cs:List AV}(hr:RepL X cs v.cells.toList){m:Sem Value}(hm:m.run P X.w=.ok (.pointer (some ⟨X.w.heap.size,0,none⟩)) (X.w.alloc (.cells v.cells t))) :qL P B X (do pure (.value (<-m))) (.ptr X.h.length 0,X.h++[.cells cs],none):=
 ⟨.value (.pointer (some ⟨X.w.heap.size,0,none⟩)),_,X.pushW (.cells cs) (some X.w.heap.size) (X.w.alloc (.cells v.cells t)),by simp[hm];rfl,.inl rfl,qDo,qF7 hs hr,rfl,
  Ctx.push_ext hs _ (PushW.alloc X _)⟩
theorem qc3 (P:Program)(w:World)(t:TypeId)(v:Value):(newVar t v).run P w=.ok ⟨w.heap.size,0,none⟩ (w.alloc (.cells v.cells t)):=rfl
theorem qKj (hs:HSim B X){a:AV}(hv:Rep X a v)(hc:yu a.cells=true) :qL P B X (do pure (.value (<-Instr.box t v))) (.ptr X.h.length 0,X.h++[.cells a.cells],none):=qux (t:=t) hs (qjT hv hc) (by simp[Instr.box,qc3])
theorem qhd (hE:E.tok P)(h:(E.ty t).zero.length≠0)(w:World):∃v,(zeroValue t).run P w=.ok v w/\v.cells.toList=(E.ty t).zero /\∃i,P.info? t=some i/\i.zero=some v:=by
 rcases qti hE t with h1|h1
 ·rw[h1] at h;simp[qNV] at h
 ·rw[h1] at h ⊢;unfold qBr at *;cases hi:P.info? t with
  | none=>rw[hi] at h;simp at h
  | some i=>
   cases hz:i.zero with
   | none=>simp[hi,hz] at h
   | some v=>exact⟨v,by simp[zeroValue,typeInfo,hi,hz],by simp[hz],i,rfl,hz⟩
theorem qFl (hE:E.tok P)(hs:HSim B X)(hz:((E.ty t).zero.map jl).length≠0) :qL P B X (do pure (.value (<-Instr.alloc t true (.tuple #[])))) (.ptr X.h.length 0,X.h++[.cells ((E.ty t).zero.map jl)],none):=by obtain⟨v,h1,h2,_⟩:=qhd hE (t:=t) (by simpa using hz) X.w;refine qux (t:=t) (v:=v) hs (by rw[h2];exact jA X _) ?_;simp[Instr.alloc,h1,qc3]
theorem qgW {cs vs:List AV}{us ws:List Value}(h1:RepL X cs us)(h2:RepL X vs ws)(off:Nat):RepL X (qrU cs off vs) (us.take off++ws++us.drop (off+vs.length)):=((h1.take off).append h2).append (h1.drop _)
mutual
theorem Sh.beq_eq:∀a b:Sh,a.beq b=true->a=b
 | .int k,b,h=>by cases b<;>simp[Sh.beq] at h;rw[h]
 | .bool,b,h=>by cases b<;>simp[Sh.beq] at h;rfl
 | .str,b,h=>by cases b<;>simp[Sh.beq] at h;rfl
 | .sl r,b,h=>by
  cases b<;>simp[Sh.beq] at h;rw[Sh.beqL_eq _ _ h]
theorem Sh.beqL_eq:∀a b:List Sh,Sh.beqL a b=true->a=b
 | [],b,h=>by cases b<;>simp[Sh.beqL] at h;rfl
 | a::l,b,h=>by
  cases b<;>simp[Sh.beqL] at h;rw[Sh.beq_eq _ _ h.1,Sh.beqL_eq _ _ h.2]
end
theorem q9p {s:Sh}{a:AV}{u:U}(h:toU X.h s a=some u)(hm:a.men=[])(hr:Rep X a v):RepU X.w X.M s u v:=by
 cases hr with
 | ilit k n=>
  cases s<;>simp only[toU] at h<;>try (cases h)
  rename_i k';by_cases hk:k'=k
  ·subst hk;rw[if_pos rfl] at h;cases h;exact .int _ (.i n)
  ·rw[if_neg hk] at h;cases h
 | int k n=>
  cases s<;>simp only[toU] at h<;>try (cases h)
  rename_i k';by_cases hk:k'=k
  ·subst hk;rw[if_pos rfl] at h;cases h;exact .int _ (.i n)
  ·rw[if_neg hk] at h;cases h
 | blit b=>cases s<;>simp only[toU] at h<;>cases h;exact .bool (.b b)
 | bool b=>cases s<;>simp only[toU] at h<;>cases h;exact .bool (.b b)
 | str t=>cases s<;>simp only[toU] at h<;>cases h;exact .str (.s t)
 | nils=>cases s<;>simp only[toU] at h<;>cases h;exact .slnil _ _ rfl
 | imm sh l v himm=>
  cases s<;>simp only[toU] at h<;>try (cases h)
  rename_i row;by_cases hb:Sh.beqL row sh=true
  ·rw[if_pos hb] at h;cases h;obtain rfl:=Sh.beqL_eq _ _ hb;exact qbp himm
  ·rw[if_neg hb] at h;cases h
 | vec b p n c h1 h2=>simp[AV.men] at hm
 | _=>cases s<;>simp only[toU] at h<;>cases h
theorem qxu{X:Ctx}:∀{sh:List Sh} {azz:List AV} {us:List U} {vs:List Value},qte X.h sh azz=some us->AV.menL azz=[]->RepL X azz vs ->
  us.length=sh.length/\azz.length=sh.length/\∀j (hj:j<sh.length),∃v,vs[j]?=some v/\RepU X.w X.M sh[j] (us.getD j (.i 0)) v
 | [],[],us,vs,h,_,hr=>by simp[qte] at h;subst h;exact⟨rfl,rfl,fun j hj=>by simp at hj⟩
 | [],_::_,us,vs,h,_,_=>by simp[qte] at h
 | _::_,[],us,vs,h,_,_=>by simp[qte] at h
 | s::sh,a::azz,us,vs,h,hm,hr=>by
  simp only[qte] at h;cases h1:toU X.h s a with
  | none=>rw[h1] at h;cases h
  | some u=>
   cases h2:qte X.h sh azz with
   | none=>rw[h1,h2] at h;cases h
   | some us'=>
    rw[h1,h2] at h;cases h;simp only[AV.menL,List.append_eq_nil_iff] at hm;cases hr with
    | cons ha ht=>
     obtain⟨g1,g2,g3⟩:=qxu h2 hm.2 ht;refine⟨by simp[g1],by simp[g2],fun j hj=>?_⟩;cases j with
     | zero=>exact⟨_,rfl,by simpa using q9p h1 hm.1 ha⟩
     | succ j=>
      obtain⟨v,q1,q2⟩:=g3 j (by simpa using hj);exact⟨v,by simpa using q1,by simpa using q2⟩
theorem q2V {n o:Nat}{c:Array Value}{T:TypeId}(hc:X.w.heap[n]?=some (.cells c T (0,0)))(hsz:(sizeOf t).run P X.w=.ok v.cells.size X.w) (hle:o+v.cells.size<=c.size) (h1:∀u∈v.cells.toList,u.oneCell'=true) :(storeVar t ⟨n,o,none⟩ v).run P X.w=.ok () (X.w.setRow n (c.toList.take o++v.cells.toList++c.toList.drop (o+v.cells.size)).toArray):=by have:=run_storeCells_at P n o T v.cells.toList 0 c X.w hc (by simpa using hle) h1;simp only[qPB,Array.length_toList] at this;simp[storeVar,hsz,this]
theorem qBB (row:List U)(off:Nat)(us:List U)(j:Nat) :(qAa row off us).getD j (.i 0)=if off<=j/\j<off+us.length then us.getD (j-off) (.i 0) else row.getD j (.i 0):=by
 unfold qAa;by_cases hj:j<max row.length (off+us.length)
 ·simp[hj]
 ·have h1:¬(off<=j/\j<off+us.length):=by omega
  have h2:row.length<=j:=by omega
  rw[if_neg h1];simp[hj,h2]
theorem qjm {l:R}{i:Int}{off:Nat}{us:List U}(hi:i.toNat<l.length){j:Nat}:zJ (qcN l i off us) i j = if off<=j/\j<off+us.length then us.getD (j-off) (.i 0) else zJ l i j:=by
 have:(qcN l i off us).getD i.toNat []=qAa (l.getD i.toNat []) off us:=by simp[qcN,hi]
 unfold zJ;rw[this,qBB]
theorem qiK {l:R}{i:Int}{off:Nat}{us:List U}{r:Nat}(hr:r≠i.toNat){j:Nat}:zJ (qcN l i off us) r j=zJ l r j:=by unfold zJ qcN;simp[qOO (qPe hr)]
theorem qbz (hE:E.tok P){n:Nat}(h:n=(E.ty t).size)(h0:n≠0)(w:World):(sizeOf t).run P w=.ok n w:=by
 rcases qti hE t with h1|h1
 ·rw[h1] at h;exact absurd h h0
 ·rw[h1] at h;unfold qBr at h;cases hi:P.info? t with
  | none=>rw[hi] at h;exact absurd h h0
  | some i=>rw[hi] at h;simp[sizeOf,typeInfo,hi];exact h.symm
theorem qHw {r i es j:Nat}(hj:j<es)(h:r≠i):r*es+j<i*es\/i*es+es<=r*es+j:=by
 rcases Nat.lt_or_gt_of_ne h with h|h
 ·left;have:(r+1)*es<=i*es:=qPb _ h;rw[qP2] at this;omega
 ·right;have:(i+1)*es<=r*es:=qPb _ h;rw[qP2] at this;omega
theorem qg8 {c vs:List Value}{o k:Nat}(h:o+vs.length<=c.length):(c.take o++vs++c.drop (o+vs.length))[k]?=if o<=k/\k<o+vs.length then vs[k-o]? else c[k]?:=by
 by_cases h1:k<o
 ·rw[if_neg (by omega),qPj,qOY (by simp;omega),qPQ,if_pos h1]
 ·by_cases h2:k<o+vs.length
  ·rw[if_pos (by omega),qPj,qP4 (by simp;omega),qOY (by simp;omega)];congr 1;simp;omega
  ·rw[if_neg (by omega),qP4 (by simp;omega),qPR];congr 1;simp;omega
theorem qs7 (hE:E.tok P)(hs:HSim B X){p a:AV}{vp v:Value}(hp:Rep X p vp)(hv:Rep X a v){r:Res}(h:(qhc E X.h t p a).run=some r):qL P B X (do Instr.storeAt t vp v;pure .skip) r:=by
 unfold qhc at h;by_cases hc:a.cells.length=(E.ty t).size/\yu a.cells=true/\a.cells.length≠0
 ·rw[if_pos hc] at h;have hrl:=qjT hv hc.2.1;have hlen:v.cells.size=a.cells.length:=by have:=hrl.length;simpa using this.symm
  have hone:=qe0 hrl hc.2.1;have hsz:(sizeOf t).run P X.w=.ok v.cells.size X.w:=by rw[hlen];exact qbz hE hc.1 hc.2.2 X.w
  cases hp with
  | ptr b off n hb hσ=>
   simp only at h;cases hh:X.h[b]? with
   | none=>rw[hh] at h;cases h
   | some k=>
    rw[hh] at h;cases k<;>try (cases h)
    rename_i cs;simp only at h;by_cases hle:off+a.cells.length<=cs.length
    ·rw[if_pos hle] at h;cases h;obtain⟨n',c,T,e1,e2,e3⟩:=hs.blk b _ hh;rw[hσ] at e1;cases e1;have hcl:=e3.length;simp only[Array.length_toList] at hcl;have hrun:=q2V (P:=P) (t:=t) (o:=off) (v:=v) e2 hsz (by omega) hone;have hup:=UpdW.setRow (X:=X) (c':=(c.toList.take off++v.cells.toList++c.toList.drop (off+v.cells.size)).toArray) e2 (by simp;omega);have hown:X.own b n:=⟨hσ,_,hh,rfl⟩;have hx:=Ctx.upd_ext hs hh hown hup (k':=.cells (qrU cs off a.cells)) trivial;refine⟨.skip,Go.undef,X.upd b (.cells (qrU cs off a.cells)) (X.w.setRow n _),?_,.inr ⟨rfl,rfl⟩,.skip,hs.upd hh hown hup trivial ?_,rfl,hx⟩
     ·simp[Instr.storeAt,Instr.sureAddr,hrun];rfl
     ·refine⟨n,_,T,hσ,hup.new,?_⟩;have:=(qgW e3 hrl off).ext hx;rw[<-hlen] at this;simpa using this
    ·rw[if_neg hle] at h;cases h
  | vptr b i off n k hb hσ hk=>
   simp only at h;cases hh:X.h[b]? with
   | none=>rw[hh] at h;cases h
   | some kk=>
    rw[hh] at h;cases kk<;>try (cases h)
    rename_i e sh l;simp only at h;by_cases hm:(AV.menL a.cells).isEmpty=true
    ·rw[if_pos hm] at h;cases hu:qte X.h ((sh.drop off).take a.cells.length) a.cells with
     | none=>rw[hu] at h;cases h
     | some us=>
      rw[hu] at h;cases h;obtain⟨g1,g2,g3⟩:=qxu hu (by simpa using hm) hrl;have g2':off+a.cells.length<=sh.length:=by have:=hc.2.2;simp only[qPJ,qQK] at g2;omega
      have hul:us.length=a.cells.length:=by rw[g1,<-g2]
      obtain⟨q1,q2,q3⟩:=hk sh l.length ⟨e,l,.inl hh,rfl⟩;rcases hs.blk b _ hh with⟨e1,_⟩|⟨n',c,e1,e2,e3⟩
      ·rw[hσ] at e1;cases e1
      rw[hσ] at e1;cases e1;have hlast:i.toNat*sh.length+off+a.cells.length<=c.size:=by
       have hlt:off+a.cells.length-1<sh.length:=by have:=hc.2.2;omega
       obtain⟨v',w1,_⟩:=e3 i.toNat (off+a.cells.length-1) hlt q2;have:=(qOR.1 w1).1;omega
      subst q3;have hrun:=q2V (P:=P) (t:=t) (o:=i.toNat*sh.length+off) (v:=v) e2 hsz (by omega) hone;have hup:=UpdW.setRow (X:=X) (c':=(c.toList.take (i.toNat*sh.length+off)++v.cells.toList++c.toList.drop (i.toNat*sh.length+off+v.cells.size)).toArray) e2 (by simp;omega);have hown:X.own b n:=⟨hσ,_,hh,rfl⟩;have hkk:qiL (.vec e sh l) (.vec e sh (qcN l i off us)):=⟨rfl,rfl,by simp[qcN]⟩;have hx:=Ctx.upd_ext hs hh hown hup hkk;refine⟨.skip,Go.undef,X.upd b (.vec e sh (qcN l i off us)) (X.w.setRow n _),?_,.inr ⟨rfl,rfl⟩,.skip,hs.upd hh hown hup hkk ?_,rfl,hx⟩
      ·simp[Instr.storeAt,Instr.sureAddr,hrun];rfl
      ·refine .inr ⟨n,_,hσ,hup.new,fun r j hj hr=>?_⟩;have hr':r<l.length:=by simpa[qcN] using hr
       have hget:∀k,(c.toList.take (i.toNat*sh.length+off)++v.cells.toList++c.toList.drop (i.toNat*sh.length+off+v.cells.size)).toArray[k]? =
         if i.toNat*sh.length+off<=k/\k<i.toNat*sh.length+off+v.cells.size then v.cells.toList[k-(i.toNat*sh.length+off)]? else c[k]?:=by
        intro k;have:=qg8 (c:=c.toList) (vs:=v.cells.toList) (o:=i.toNat*sh.length+off) (k:=k) (by simp;omega);simpa using this
       rw[hget];by_cases hri:r=i.toNat
       ·subst hri;rw[qi5,qjm q2];by_cases hin:off<=j/\j<off+us.length
        ·rw[if_pos (by omega),if_pos hin];obtain⟨v',w1,w2⟩:=g3 (j-off) (by rw[<-g1];omega);refine⟨v',?_,?_⟩
         ·rw[show i.toNat*sh.length+j-(i.toNat*sh.length+off)=j-off by omega];exact w1
         ·have:((sh.drop off).take a.cells.length)[j-off]'(by rw[<-g1];omega)=sh[j]:=by simp only[List.getElem_take,List.getElem_drop];congr 1;omega
          rw[this] at w2;exact w2.mono hx.M hx.w
        ·rw[if_neg (by omega),if_neg hin];obtain⟨v',w1,w2⟩:=e3 i.toNat j hj q2;rw[qi5] at w2;exact⟨v',w1,w2.mono hx.M hx.w⟩
       ·rw[qiK hri];have:=qHw (i:=i.toNat) hj hri;rw[if_neg (by omega)];obtain⟨v',w1,w2⟩:=e3 r j hj hr';exact⟨v',w1,w2.mono hx.M hx.w⟩
    ·rw[if_neg hm] at h;cases h
  | _=>simp only at h;cases h
 ·rw[if_neg hc] at h;cases h
end Go.Eng

namespace Go.Eng
theorem quP:∀(xs:List Value) (cs:Array Value) (off k:Nat),off+k+xs.length<=cs.size ->
  ((xs.zipIdx k).foldl (fun cs (x:Value×Nat)=>cs.setIfInBounds (off+x.2) x.1) cs).toList=cs.toList.take (off+k)++xs++cs.toList.drop (off+k+xs.length)
 | [],cs,off,k,_=>by simp
 | x::xs,cs,off,k,h=>by
  simp only[List.zipIdx_cons,qQB,qPg] at h ⊢;rw[quP xs (cs.setIfInBounds (off+k) x) off (k+1) (by simp;omega)];rw[Array.toList_setIfInBounds];apply qPC;intro i;have hlen:(cs.toList.set (off+k) x).length=cs.size:=by simp
  rw[qg8 (by simp;omega)];have:=qg8 (c:=cs.toList) (vs:=x::xs) (o:=off+k) (k:=i) (by simp;omega);simp only[qPg] at this;rw[this];by_cases h1:i=off+k
  ·subst h1;rw[if_neg (by omega),if_pos (by omega),qOZ (by simp;omega)];simp
  ·by_cases h2:off+k<=i/\i<off+k+(xs.length+1)
   ·rw[if_pos (by omega),if_pos h2,show i-(off+k)=(i-(off+(k+1)))+1 by omega];simp
   ·rw[if_neg (by omega),if_neg h2,qOO (by omega)]
theorem qwY(v cs:Array Value)(off:Nat)(h:off+v.size<=cs.size) :(v.zipIdx.foldl (fun cs (x:Value×Nat)=>cs.setIfInBounds (off+x.2) x.1) cs).toList=cs.toList.take off++v.toList++cs.toList.drop (off+v.size):=by rw[<-Array.foldl_toList,Array.toList_zipIdx];have:=quP v.toList cs off 0 (by simpa using h);simpa using this
inductive RepP (X:Ctx):List (Nat×AV)->List (Nat×Value)->Prop
 | nil:RepP X [] []
 | cons {i:Nat} {a:AV} {v:Value} {l:List (Nat×AV)} {m:List (Nat×Value)} (h:Rep X a v) (t:RepP X l m):RepP X ((i,a)::l) ((i,v)::m)
theorem ql7{X:Ctx}{place:Nat->Option (Nat×Nat)}:∀{parts:List (Nat×AV)} {vparts:List (Nat×Value)} {cells cs:List AV} {vc:Array Value},
  qgv place cells parts=some cs->RepP X parts vparts->RepL X cells vc.toList->∃vc',Instr.fill place vc vparts=some vc'/\RepL X cs vc'.toList
 | [],_,cells,cs,vc,h,.nil,hr=>by simp[qgv] at h;subst h;exact⟨vc,rfl,hr⟩
 | (i,a)::parts,_,cells,cs,vc,h,.cons (v:=v) ha ht,hr=>by
  simp only[qgv] at h;cases hp:place i with
  | none=>rw[hp] at h;cases h
  | some q=>
   obtain⟨off,size⟩:=q;rw[hp] at h;simp only at h;by_cases hc:a.cells.length=size/\off+a.cells.length<=cells.length/\yu a.cells=true
   ·rw[if_pos hc] at h;have hrl:=qjT ha hc.2.2;have hlen:v.cells.size=a.cells.length:=by have:=hrl.length;simpa using this.symm
    have hvc:cells.length=vc.size:=by have:=hr.length;simpa using this
    have hnot:¬(v.cells.size≠size\/off+v.cells.size>vc.size):=by omega
    have hf:=qwY v.cells vc off (by omega);obtain⟨vc',h1,h2⟩:=ql7 (vc:=v.cells.zipIdx.foldl (fun cs (x:Value×Nat)=>cs.setIfInBounds (off+x.2) x.1) vc) h ht (by rw[hf,hlen];exact qgW hr hrl off);refine⟨vc',?_,h2⟩;simp only[Instr.fill,hp];rw[if_neg (by simpa using hnot)];exact h1
   ·rw[if_neg hc] at h;cases h
theorem qpw{α β:Type}{P:Program}{f:α->Sem β}{g:α->β}:∀(l:List α),(∀a∈l,∀w,(f a).run P w=.ok (g a) w)->∀w,(l.mapM f).run P w=.ok (l.map g) w
 | [],_,w=>rfl
 | a::l,h,w=>by
  rw[List.mapM_cons,qOQ,h a qP8,qOW,qOQ,qpw l (fun b hb=>h b (qPc _ hb)) w];rfl
theorem qDz{α β:Type}{P:Program}{f:α->Sem β}{g:α->β}(l:Array α)(h:∀a∈l.toList,∀w,(f a).run P w=.ok (g a) w)(w:World):(l.mapM f).run P w=.ok (l.map g) w:=by rw[Array.mapM_eq_mapM_toList,Sem.run_map,qpw _ h,qOW];congr 1;apply qQ1;simp
theorem qy2{E:Env}{P:Program}(hE:E.tok P){X:Ctx}{t:TypeId}{parts:List (Nat×AV)}{vparts:Array (Nat×Value)}(hp:RepP X parts vparts.toList){r:Res}(h:(qkP E X.h t parts).run=some r):∃av u,r=(av,X.h,none)/\(Instr.build t vparts).run P X.w=.ok u X.w/\Rep X av u:=by
 unfold qkP at h;by_cases hz:(E.ty t).zero.length=0
 ·rw[if_pos hz] at h;cases h
 rw[if_neg hz] at h;obtain⟨z,z1,z2,_⟩:=qhd hE hz X.w;cases hd:(E.ty t).d<;>rw[hd] at h<;>try (cases h)
 ·rename_i n e es;obtain⟨ht,rfl⟩:=q8Z hE hd;simp only at h;by_cases h0:P.cellsOf e=0
  ·rw[if_pos h0] at h;cases h
  rw[if_neg h0] at h;cases hf:qgv (fun i=>some (i*P.cellsOf e,P.cellsOf e)) ((E.ty t).zero.map jl) parts with
  | none=>rw[hf] at h;cases h
  | some cs=>
   rw[hf] at h;cases h;obtain⟨vc,f1,f2⟩:=ql7 (vc:=z.cells) hf hp (by rw[z2];exact jA X _);have:Rep X (.agg cs) (.agg vc.toList.toArray):=.agg _ _ f2;refine⟨_,.agg vc,rfl,?_,by simpa using this⟩;simp[Instr.build,z1,run_underlying ht,zw (show 0<P.cellsOf e by omega),f1]
 ·rename_i fs;obtain⟨fields,e1,e2⟩:=q9g hE hd;simp only at h;by_cases hok:(E.ty t).fok=true
  ·rw[if_pos hok] at h;have hinfo:∀f∈fields.toList,(P.info? f.type).isSome=true:=by have hk:=q0c hE (t:=t) (by rw[hd];rfl);rw[hk.1] at hok;unfold qBr at hok;obtain⟨_,i,dd,h1,_⟩:=hk;rw[h1] at hok;simpa only [e1,qPi] using hok
   cases hf:qgv (fun i=>(fs[i]?).map fun (f:Nat×TypeId×Nat)=>(f.1,f.2.2)) ((E.ty t).zero.map jl) parts with
   | none=>rw[hf] at h;cases h
   | some cs=>
    rw[hf] at h;cases h;have hpl:(fun i:Nat=>(fs[i]?).map fun (f:Nat×TypeId×Nat)=>(f.1,f.2.2))=fun i:Nat=>(fields.map fun f=>(f.offset,P.cellsOf f.type))[i]?:=by funext i;rw[e2];simp only[qOU,qQS,Array.getElem?_map,Option.map_map];rfl
    rw[hpl] at hf;obtain⟨vc,f1,f2⟩:=ql7 (vc:=z.cells) hf hp (by rw[z2];exact jA X _);have:Rep X (.agg cs) (.agg vc.toList.toArray):=.agg _ _ f2;refine⟨_,.agg vc,rfl,?_,by simpa using this⟩;have hm:=qDz (P:=P) (f:=fun f:Field=>(do pure (f.offset,<-sizeOf f.type):Sem (Nat×Nat))) (g:=fun f=>(f.offset,P.cellsOf f.type)) fields (fun f hf w=>by
     have:=hinfo f hf;cases hi:P.info? f.type with
     | none=>rw[hi] at this;cases this
     | some i=>simp[sizeOf,typeInfo,hi,Program.cellsOf]) X.w
    simp only[Instr.build,qOQ,z1,qOW,run_underlying e1];rw[hm];simp only[qOW,f1];rfl
  ·rw[if_neg hok] at h;cases h
variable {B:Base}{e:TypeId}{h:List Blk}{l:R}{sh:List Sh}
structure Frozen (B:Base) (X X':Ctx) (h':List Blk):Prop where
 h:X'.h=h'
 w:X'.w=X.w
 σ:X'.σ=X.σ
 hs:HSim B X'
 ext:Ext X X'
theorem Move.trans {X Y Z:Ctx}(h:Ext X Y)(k:Ext Y Z):Ext X Z:=by refine Move.of (fun n hn=>k.M n (h.M n hn)) (fun a ha=>(k.w a (h.M _ ha)).trans (h.w a ha)) (fun b b' hb hf=>?_) (k.y.trans h.y) (k.kept.trans h.kept);cases hf;have h1:=h.b b b hb rfl;have h2:=k.b b b h1.lt rfl;refine⟨h2.lt,h2.σ.trans h1.σ,fun sh m hv=>h1.vec sh m (h2.vec sh m hv),fun sh m hv n hn c T fr hc=>?_⟩;obtain⟨c1,T1,fr1,e1,e2⟩:=h1.size sh m (h2.vec sh m hv) n hn c T fr hc;obtain⟨c2,T2,fr2,e3,e4⟩:=h2.size sh m hv n (by rw[h1.σ];exact hn) c1 T1 fr1 e1;exact⟨c2,T2,fr2,e3,e4.trans e2⟩
theorem qjx {X:Ctx}(hs:HSim B X)(b:Nat):∃X',Frozen B X X' (zF X.h b):=by
 unfold zF;cases hb:X.h[b]? with
 | none=>exact⟨X,rfl,rfl,rfl,hs,Ext.refl X⟩
 | some k=>
  cases k with
  | vec e sh l=>exact⟨X.frz b e sh l,rfl,rfl,rfl,hs.frz hb,Ctx.frz_ext hb⟩
  | cells=>exact⟨X,rfl,rfl,rfl,hs,Ext.refl X⟩
  | big=>exact⟨X,rfl,rfl,rfl,hs,Ext.refl X⟩
  | frz=>exact⟨X,rfl,rfl,rfl,hs,Ext.refl X⟩
  | dead=>exact⟨X,rfl,rfl,rfl,hs,Ext.refl X⟩
theorem quN {b b':Nat}(hb:h[b']?=some (.vec e sh l)\/h[b']?=some (.frz e sh l)) :(zF h b)[b']?=some (.vec e sh l)\/(zF h b)[b']?=some (.frz e sh l):=by
 unfold zF;split
 ·rename_i e1 sh1 l1 h1;by_cases hbb:b'=b
  ·subst hbb;rw[qOZ (qq h1)];rcases hb with hb|hb<;>rw[h1] at hb<;>cases hb;exact .inr rfl
  ·rw[qOO (qPe hbb)];exact hb
 ·exact hb
theorem qkn {b:Nat}(hb:h[b]?=some (.vec e sh l)\/h[b]?=some (.frz e sh l)) :(zF h b)[b]?=some (.frz e sh l):=by
 unfold zF;rcases hb with hb|hb<;>rw[hb]
 ·simp only;rw[qOZ (qq hb)]
 ·exact hb
theorem qBR {b b':Nat}(hb:h[b']?=some (.frz e sh l)):(zF h b)[b']?=some (.frz e sh l):=by
 rcases quN (b:=b) (.inr hb) with h1|h1
 ·unfold zF at h1;split at h1
  ·rename_i e1 sh1 l1 h2;by_cases hbb:b'=b
   ·subst hbb;rw[h2] at hb;cases hb
   ·rw[qOO (qPe hbb),hb] at h1;cases h1
  ·rw[hb] at h1;cases h1
 ·exact h1
theorem q60{B:Base}:∀(l:List Nat) {X:Ctx} (_:HSim B X),∃X',Frozen B X X' (qH X.h l)
 | [],X,hs=>⟨X,rfl,rfl,rfl,hs,Ext.refl X⟩
 | b::l,X,hs=>by
  obtain⟨X1,f1⟩:=qjx hs b;obtain⟨X2,f2⟩:=q60 l f1.hs;refine⟨X2,?_,f2.w.trans f1.w,f2.σ.trans f1.σ,f2.hs,f1.ext.trans f2.ext⟩;rw[f2.h,f1.h];rfl
theorem qts:∀(l:List Nat) {h:List Blk} {b:Nat} {e:TypeId} {sh:List Sh} {r:R},h[b]?=some (.frz e sh r)->(qH h l)[b]?=some (.frz e sh r)
 | [],_,_,_,_,_,h=>h
 | _::l,_,_,_,_,_,h=>qts l (qBR h)
theorem qub:∀(l:List Nat) {h:List Blk} {b:Nat} {e:TypeId} {sh:List Sh} {r:R},b∈l->(h[b]?=some (.vec e sh r)\/h[b]?=some (.frz e sh r))->(qH h l)[b]?=some (.frz e sh r)
 | a::l,h,b,e,sh,r,hm,hb=>by
  rcases qP5.1 hm with rfl|hm
  ·exact qts l (qkn hb)
  ·exact qub l hm (quN hb)
def qIg(l:List AV):List Nat:=l.filterMap fun|.vec b=>some b|_=>none
theorem qsc:∀(l:List AV) (h:List Blk),qcR h l=qH h (qIg l)
 | [],h=>rfl
 | a::l,h=>by
  cases a<;>first|(simp only[qcR,qIg,List.filterMap_cons];exact qsc l _)
theorem ql0 {X:Ctx}(hs:HSim B X){b:Nat}{v:Value}(hb:X.h[b]?=some (.frz e sh l))(hv:Rep X (.vec b) v):qhB X.w X.M sh l v:=by
 cases hv with
 | vec _ p n c hlt h=>
  have h1:=h sh l.length ⟨e,l,.inr hb,rfl⟩;unfold qzF at h1;rcases hs.blk b _ hb with⟨e1,rfl⟩|⟨n0,c0,e1,e2,e3,e4⟩
  ·rw[e1] at h1;obtain⟨p',h1⟩:=h1;cases p' with
   | none=>exact .inl ⟨h1,rfl⟩
   | some a=>exact .inr ⟨a,0,h1,fun h=>absurd h (Nat.lt_irrefl 0),qON 0,fun r j hj hr=>absurd hr (qQC r)⟩
  ·rw[e1] at h1;obtain⟨cap,f1,f2,f3,c1,T1,fr1,f4,f5⟩:=h1;refine .inr ⟨⟨n0,0,none⟩,cap,f1,fun _=>rfl,f2,fun r j hj hr=>⟨e4,?_⟩⟩;obtain⟨v,q1,q2⟩:=e3 r j hj hr;exact⟨v,by rw[zS e2];simpa using q1,q2⟩
theorem qFC {X X1:Ctx}{s:Sh}{a:AV}{u:U}{v:Value}(h:toU X.h s a=some u)(hs1:HSim B X1)(hx:Ext X X1)(hf:∀b e sh l,a=.vec b->(X.h[b]?=some (.vec e sh l)\/X.h[b]?=some (.frz e sh l))->X1.h[b]?=some (.frz e sh l)) (hr:Rep X a v):RepU X1.w X1.M s u v:=by
 by_cases hv:∃b,a=.vec b
 ·obtain⟨b,rfl⟩:=hv;cases s<;>simp only[toU] at h<;>try (cases h)
  rename_i row;have key:∀e row' l,(X.h[b]?=some (.vec e row' l)\/X.h[b]?=some (.frz e row' l))->(if Sh.beqL row row' then some (U.l l) else none)=some u->RepU X1.w X1.M (.sl row) u v:=by
   intro e row' l hb hh;by_cases hq:Sh.beqL row row'=true
   ·rw[if_pos hq] at hh;cases hh;obtain rfl:=Sh.beqL_eq _ _ hq;exact qbp (ql0 hs1 (hf b e row l rfl hb) (hr.ext hx))
   ·rw[if_neg hq] at hh;cases hh
  split at h
  ·rename_i e row' l hb;exact key _ _ _ (.inl hb) h
  ·rename_i e row' l hb;exact key _ _ _ (.inr hb) h
  ·cases h
 ·
  have:RepU X.w X.M s u v:=by
   cases hr with
   | vec b=>exact absurd ⟨b,rfl⟩ hv
   | ilit k n=>exact q9p h rfl (.ilit k n)
   | int k n=>exact q9p h rfl (.int k n)
   | blit b=>exact q9p h rfl (.blit b)
   | bool b=>exact q9p h rfl (.bool b)
   | str t=>exact q9p h rfl (.str t)
   | nils=>exact q9p h rfl .nils
   | imm sh l v himm=>exact q9p h rfl (.imm sh l v himm)
   | _=>cases s<;>simp only[toU] at h<;>cases h
  exact this.mono hx.M hx.w
def qp6(w:World)(M:Nat->Prop)(sh:List Sh)(l:R)(xs:List Value):Prop:=xs.length=l.length*sh.length/\∀r j (hj:j<sh.length),r<l.length->∃v,xs[r*sh.length+j]?=some v/\RepU w M sh[j] (zJ l r j) v
theorem quu{B:Base}{X X1:Ctx}(hs1:HSim B X1)(hx:Ext X X1):∀{sh:List Sh} {azz:List AV} {us:List U} {vs:List Value},qte X.h sh azz=some us ->
  (∀a∈azz,∀b e sh l,a=.vec b->(X.h[b]?=some (.vec e sh l)\/X.h[b]?=some (.frz e sh l))->X1.h[b]?=some (.frz e sh l))->RepL X azz vs ->
  us.length=sh.length/\azz.length=sh.length/\∀j (hj:j<sh.length),∃v,vs[j]?=some v/\RepU X1.w X1.M sh[j] (us.getD j (.i 0)) v
 | [],[],us,vs,h,_,hr=>by simp[qte] at h;subst h;exact⟨rfl,rfl,fun j hj=>by simp at hj⟩
 | [],_::_,us,vs,h,_,_=>by simp[qte] at h
 | _::_,[],us,vs,h,_,_=>by simp[qte] at h
 | s::sh,a::azz,us,vs,h,hm,hr=>by
  simp only[qte] at h;cases h1:toU X.h s a with
  | none=>rw[h1] at h;cases h
  | some u=>
   cases h2:qte X.h sh azz with
   | none=>rw[h1,h2] at h;cases h
   | some us'=>
    rw[h1,h2] at h;cases h;cases hr with
    | cons ha ht=>
     obtain⟨g1,g2,g3⟩:=quu hs1 hx h2 (fun a ha=>hm a (qPc _ ha)) ht;refine⟨by simp[g1],by simp[g2],fun j hj=>?_⟩;cases j with
     | zero=>exact⟨_,rfl,by simpa using qFC h1 hs1 hx (hm a qP8) ha⟩
     | succ j=>
      obtain⟨v,q1,q2⟩:=g3 j (by simpa using hj);exact⟨v,by simpa using q1,by simpa using q2⟩
theorem qtj (row:List U)(l:R)(j:Nat):zJ (row::l) (0:Nat) j=row.getD j (.i 0):=by simp[zJ]
theorem qvu (row:List U)(l:R)(r j:Nat):zJ (row::l) ((r+1:Nat):Int) j=zJ l r j:=by unfold zJ;rw[qOX,qOX];simp
theorem qnx{B:Base}{X X1:Ctx}(hs1:HSim B X1)(hx:Ext X X1){sh:List Sh}:∀(n:Nat) {azz:List AV} {l:R} {vs:List Value},qlO X.h sh n azz=some l ->
  (∀a∈azz,∀b e sh l,a=.vec b->(X.h[b]?=some (.vec e sh l)\/X.h[b]?=some (.frz e sh l))->X1.h[b]?=some (.frz e sh l))->RepL X azz vs->l.length=n/\qp6 X1.w X1.M sh l vs
 | 0,azz,l,vs,h,hm,hr=>by
  cases azz with
  | nil=>simp[qlO] at h;subst h;cases hr;exact⟨rfl,by simp,fun r j hj hr=>by simp at hr⟩
  | cons=>simp[qlO] at h
 | n+1,azz,l,vs,h,hm,hr=>by
  simp only[qlO] at h;cases h1:qte X.h sh (azz.take sh.length) with
  | none=>rw[h1] at h;cases h
  | some us=>
   cases h2:qlO X.h sh n (azz.drop sh.length) with
   | none=>rw[h1,h2] at h;cases h
   | some l'=>
    rw[h1,h2] at h;cases h;obtain⟨g1,g2,g3⟩:=quu hs1 hx h1 (fun a ha=>hm a (qQT ha)) (hr.take _);obtain⟨g4,g5,g6⟩:=qnx hs1 hx n h2 (fun a ha=>hm a (qQU ha)) (hr.drop _);have hlen:=hr.length;have g2':sh.length<=azz.length:=by simp only[qPJ] at g2;omega
    refine⟨by simp[g4],?_,fun r j hj hr'=>?_⟩
    ·simp only[qQK] at g5;rw[qPg,qP2,qQo];omega
    ·cases r with
     | zero=>
      obtain⟨v,q1,q2⟩:=g3 j hj;rw[qPQ,if_pos hj] at q1;exact⟨v,by simpa using q1,by rw[qtj];exact q2⟩
     | succ r=>
      obtain⟨v,q1,q2⟩:=g6 r j hj (by simpa using hr');rw[qPR] at q1;refine⟨v,?_,by rw[qvu];exact q2⟩;rw[<-q1];congr 1;rw[qP2];omega
end Go.Eng

namespace Go.Eng
variable {P:Program}{X:Ctx}{l:R}{sh:List Sh}{t:TypeId}{w:World}
theorem qfK (h:List Blk)(b:Nat):(zF h b).length=h.length:=by unfold zF;split<;>simp
theorem qmi:∀(l:List Nat) (h:List Blk),(qH h l).length=h.length
 | [],_=>rfl
 | b::l,h=>by simp[qH,qmi l,qfK]
theorem qpl{α:Type}{l:List α}:∀{n i:Nat},i<n*l.length->(List.replicate n l).flatten[i]?=l[i%l.length]?
 | 0,i,h=>by simp at h
 | n+1,i,h=>by
  rw[qQa,qQV];by_cases hi:i<l.length
  ·rw[qOY hi,Nat.mod_eq_of_lt hi]
  ·rw[qP4 (by omega),qpl (by rw[qP2] at h;omega),Nat.mod_eq_sub_mod (by omega:l.length<=i)]
theorem qDL (z:Array Value)(n:Nat):((Array.range (n*z.size)).map (z[·%z.size]!)).toList=(List.replicate n z.toList).flatten:=by
 apply qPC;intro i;by_cases hi:i<n*z.size
 ·rw[qpl (by simpa using hi)];have hz:0<z.size:=by
   rcases qPT z.size with h|h
   ·rw[h] at hi;omega
   ·exact h
  have hlt:=qQ3 i hz;simp[hi,hlt]
 ·have h1:((Array.range (n*z.size)).map (z[·%z.size]!)).toList.length<=i:=by simp;omega
  have h2:(List.replicate n z.toList).flatten.length<=i:=by simp;omega
  rw[qP7 h1,qP7 h2]
theorem qfd{X:Ctx}{azz:List AV}{vs:List Value}(h:RepL X azz vs):∀n,RepL X (List.replicate n azz).flatten (List.replicate n vs).flatten
 | 0=>.nil
 | n+1=>by simp only[qQa,qQV];exact h.append (qfd h n)
theorem qv2 {e:TypeId}{n cap:Nat}{w':World}{c:Array Value}{T:TypeId}{fr:Nat×Nat}(h1:l.length<=cap)(h2:cap<=maxLen)(h3:w'.heap[n]?=some (.cells c T fr)) (h4:c.size=cap*sh.length):Rep (X.pushW (.vec e sh l) (some n) w') (.vec X.h.length) (.slice (some ⟨n,0,none⟩) l.length cap):=by
 refine .vec _ _ _ _ (by simp[Ctx.pushW]) fun sh' m ⟨e',l',q1,q2⟩=>?_;have:(X.h++[Blk.vec e sh l])[X.h.length]?=some (.vec e sh l):=by simp
 simp only[Ctx.pushW,this] at q1;rcases q1 with q1|q1<;>cases q1;subst q2;unfold qzF;simp only[Ctx.pushW,if_true];exact⟨cap,rfl,h1,h2,c,T,fr,h3,h4⟩
theorem qqq {E:Env}(hE:E.tok P){B:Base}(hs:HSim B X){len:Nat}{parts:List (Nat×AV)}{vparts:Array (Nat×Value)}(hp:RepP X parts vparts.toList){r:Res}(h:(q9i E X.h t len parts).run=some r):qL P B X (do pure (.value (<-Instr.buildSlice t len vparts))) r:=by
 unfold q9i at h;cases hd:(E.ty t).d<;>rw[hd] at h<;>try (cases h)
 rename_i e es;obtain⟨ht,rfl⟩:=q1i hE hd;simp only at h;by_cases hc:len*P.cellsOf e<=16777216/\0<P.cellsOf e/\(E.ty e).zero.length=P.cellsOf e
 ·rw[if_pos hc] at h;obtain⟨hc1,hc2,hc3⟩:=hc;cases hf:qgv (fun i=>some (i*P.cellsOf e,P.cellsOf e)) (List.replicate len ((E.ty e).zero.map jl)).flatten parts with
  | none=>rw[hf] at h;cases h
  | some cs=>
   cases hsh:E.shape 16 e with
   | none=>rw[hf,hsh] at h;cases h
   | some sh=>
    rw[hf,hsh] at h;simp only at h;by_cases hl:sh.length=P.cellsOf e
    ·rw[if_pos hl] at h;cases hch:qlO X.h sh len cs with
     | none=>rw[hch] at h;cases h
     | some l=>
      rw[hch] at h;cases h;obtain⟨z,z1,z2,_⟩:=qhd hE (t:=e) (by omega) X.w;have hzs:z.cells.size=P.cellsOf e:=by rw[<-hc3,<-z2];simp
      have hini:RepL X (List.replicate len ((E.ty e).zero.map jl)).flatten ((Array.range (len*P.cellsOf e)).map (z.cells[·%z.cells.size]!)).toList:=by rw[<-hzs,qDL,z2];exact qfd (jA X _) len
      obtain⟨vc,f1,f2⟩:=ql7 (vc:=(Array.range (len*P.cellsOf e)).map (z.cells[·%z.cells.size]!)) hf hp hini;obtain⟨X1,fz⟩:=q60 (qIg cs) hs;have hmem:∀a∈cs,∀b e sh l,a=.vec b->(X.h[b]?=some (.vec e sh l)\/X.h[b]?=some (.frz e sh l))->X1.h[b]?=some (.frz e sh l):=by intro a ha b e sh l hab hb;subst hab;rw[fz.h];exact qub _ (List.mem_filterMap.2 ⟨_,ha,rfl⟩) hb
      obtain⟨g1,g2,g3⟩:=qnx fz.hs fz.ext len hch hmem f2;have hpw:=PushW.alloc X1 (.cells vc e);have hlenv:vc.size=len*P.cellsOf e:=by rw[<-hl,<-g1];simpa using g2
      have hx2:=Ctx.push_ext fz.hs (.vec e sh l) hpw;have hlenh:X1.h.length=X.h.length:=by rw[fz.h,qmi]
      have hvec:=qv2 (X:=X1) (e:=e) (sh:=sh) (l:=l) (n:=X1.w.heap.size) (cap:=len) (w':=X1.w.alloc (.cells vc e)) (by omega) (by have:len<=len*P.cellsOf e:=Nat.le_mul_of_pos_right _ hc2;unfold maxLen;omega) (zU _ _) (by rw[hl];exact hlenv);rw[g1,hlenh,fz.w] at hvec;refine⟨.value (.slice (some ⟨X.w.heap.size,0,none⟩) len len),_,X1.pushW (.vec e sh l) (some X1.w.heap.size) (X1.w.alloc (.cells vc e)),?_,.inl rfl,?_,fz.hs.push hpw ?_,?_,fz.ext.trans hx2⟩
      ·have hbig:¬(len*P.cellsOf e>2^24):=by omega
       simp only[Instr.buildSlice,qOQ,run_underlying ht,qOW,zw hc2,Sem.run_ite,hbig,if_false,qPh,Result.andThen_ite,z1];by_cases h0:len*P.cellsOf e=0
       ·rw[if_pos h0,show Instr.fill (fun i=>some (i*P.cellsOf e,P.cellsOf e)) (Array.map (fun x=>(#[]:Array Value)[x%(#[]:Array Value).size]!) (Array.range (len*P.cellsOf e))) vparts.toList=some vc by
         have e0:∀f:Nat->Value,Array.map f (Array.range (len*P.cellsOf e))=#[]:=by intro f;rw[h0];simp
         rw[e0] at f1 ⊢;exact f1,fz.w]
        rfl
       ·rw[if_neg h0,f1,fz.w];rfl
      ·rw[fz.w];exact hvec
      ·refine .inr ⟨X1.w.heap.size,vc,by simp[Ctx.pushW],zU _ _,fun r j hj hr=>?_⟩;obtain⟨v,q1,q2⟩:=g3 r j hj hr;exact⟨v,by simpa using q1,q2.mono hx2.M hx2.w⟩
      ·show X1.h++[_]=_;rw[fz.h,qsc]
    ·rw[if_neg hl] at h;cases h
 ·rw[if_neg hc] at h;cases h
inductive RepO (X:Ctx):Option AV->Option Value->Prop
 | none:RepO X none none
 | some {a:AV} {v:Value} (h:Rep X a v):RepO X (some a) (some v)
theorem zl {k:IntKind}{i:Int}{y:Nat}{c:BoundsCode}(h0:0<=i)(h1:i<=y):(Instr.sliceBound (.int k i) y c).run P w=.ok i.toNat w:=by simp[Instr.sliceBound,asIntOf,h0,h1]
theorem qop {o:Option AV}{v:Option Value}(h:RepO X o v){d a:Int}(ha:qgV o d=some a):(v=none/\a=d)\/∃k,v=some (.int k a):=by
 cases h with
 | none=>simp only[qgV,qOL] at ha;exact .inl ⟨rfl,ha.symm⟩
 | some hv=>
  simp only[qgV] at ha;rename_i a0 v0;cases h3:asI a0 with
  | none=>rw[h3] at ha;cases ha
  | some p=>
   obtain⟨k,n⟩:=p;rw[h3] at ha;simp only[qPk,qOL] at ha;subst ha;obtain rfl:=q49 hv h3;exact .inr ⟨k,rfl⟩
theorem q0H {isS:Bool}{len cap:Nat}{lo hi:Option AV}{vlo vhi:Option Value}(hlo:RepO X lo vlo)(hhi:RepO X hi vhi){a b d:Int}(h1:qgV lo 0=some a) (h2:qgV hi d=some b) (hd:d=len) (hb0:0<=b) (hb:b<=cap) (ha0:0<=a) (ha:a<=b) (w:World) :(Instr.sliceBounds isS len cap vlo vhi none).run P w=.ok (a.toNat,b.toNat,cap) w:=by
 have hba:a<=(b.toNat:Nat):=by omega
 rcases qop hlo h1 with⟨rfl,rfl⟩|⟨k,rfl⟩<;>rcases qop hhi h2 with⟨rfl,rfl⟩|⟨k',rfl⟩
 ·subst hd;simp[Instr.sliceBounds]
 ·simp[Instr.sliceBounds,zl hb0 hb]
 ·subst hd;have:a<=(len:Int):=ha;simp[Instr.sliceBounds,zl ha0 this]
 ·simp[Instr.sliceBounds,zl hb0 hb,zl ha0 hba]
theorem qxj {a b:Int}{r:Nat}(h:r<b.toNat-a.toNat){j:Nat}:zJ (qCf l a b) r j=zJ l ((a.toNat+r:Nat):Int) j:=by
 unfold zJ qCf;rw[qOX,qOX];have:((l.take b.toNat).drop a.toNat).getD r []=l.getD (a.toNat+r) []:=by simp only[qOM,qPR,qPQ];rw[if_pos (by omega)]
 rw[this]
theorem q2M {a b:Int}(hb:b.toNat<=l.length):(qCf l a b).length=b.toNat-a.toNat:=by simp[qCf];omega
theorem qvi {M:Nat->Prop}{p:Option Addr}{n c:Nat}{a b:Int}(h:qhB w M sh l (.slice p n c))(ha0:0<=a)(ha:a<=b)(hb:b<=qg l) :b.toNat<=c/\n=l.length/\qhB w M sh (qCf l a b) (.slice (if c=a.toNat then p else p.map (·.add (a.toNat*sh.length))) (b.toNat-a.toNat) (c-a.toNat)):=by
 have hb':b.toNat<=l.length:=by simp only[qg] at hb;omega
 rcases h with⟨h1,h2⟩|⟨ad,cap,h1,h2,h3,h4⟩
 ·cases h1;subst h2;simp at hb';have e1:a.toNat=0:=by omega
  have e2:b.toNat=0:=by omega
  refine⟨by omega,rfl,.inl ⟨?_,by simp[qCf]⟩⟩;rw[e1,e2];simp
 ·cases h1;refine⟨by omega,rfl,.inr ⟨if c=a.toNat then ad else ad.add (a.toNat*sh.length),c-a.toNat,?_,?_,?_,?_⟩⟩
  ·rw[q2M hb'];split<;>rfl
  ·intro hl;rw[q2M hb'] at hl;have h2':=h2 (by omega);split
   ·exact h2'
   ·rw[Addr.add_of h2']
  ·rw[q2M hb'];omega
  ·intro r j hj hr;rw[q2M hb'] at hr;rw[if_neg (by omega),Addr.add_of (h2 (by omega))];obtain⟨g1,v,g2,g3⟩:=h4 (a.toNat+r) j hj (by omega);refine⟨g1,v,?_,by rw[qxj hr];exact g3⟩;rw[<-g2];show _=World.cell? w ⟨ad.block,ad.off+(a.toNat+r)*sh.length+j,none⟩;congr 2;rw[qP2];show ad.off+a.toNat*sh.length+r*sh.length+j=_;omega
theorem qxp {M:Nat->Prop}{p:Option Addr}{n c:Nat}{a b:Int}(h:qhB w M sh l (.slice p n c))(ha0:0<=a)(ha:a<=b)(hb:b<=qg l) :b.toNat<=c/\qhB w M sh (qCf l a b) (.slice (if b.toNat=a.toNat then p else p.map (·.add (a.toNat*sh.length))) (b.toNat-a.toNat) (b.toNat-a.toNat)):=by
 have hb':b.toNat<=l.length:=by simp only[qg] at hb;omega
 rcases h with⟨h1,h2⟩|⟨ad,cap,h1,h2,h3,h4⟩
 ·cases h1;subst h2;simp at hb';have e1:a.toNat=0:=by omega
  have e2:b.toNat=0:=by omega
  refine⟨by omega,.inl ⟨?_,by simp[qCf]⟩⟩;rw[e1,e2];simp
 ·cases h1;refine⟨by omega,.inr ⟨if b.toNat=a.toNat then ad else ad.add (a.toNat*sh.length),b.toNat-a.toNat,?_,?_,?_,?_⟩⟩
  ·rw[q2M hb'];split<;>rfl
  ·intro hl;rw[q2M hb'] at hl;have h2':=h2 (by omega);split
   ·exact h2'
   ·rw[Addr.add_of h2']
  ·rw[q2M hb'];omega
  ·intro r j hj hr;rw[q2M hb'] at hr;rw[if_neg (by omega),Addr.add_of (h2 (by omega))];obtain⟨g1,v,g2,g3⟩:=h4 (a.toNat+r) j hj (by omega);refine⟨g1,v,?_,by rw[qxj hr];exact g3⟩;rw[<-g2];show _=World.cell? w ⟨ad.block,ad.off+(a.toNat+r)*sh.length+j,none⟩;congr 2;rw[qP2];show ad.off+a.toNat*sh.length+r*sh.length+j=_;omega
theorem qxY {a:AV}{v:Value}(h:Rep X a v){q:IntKind×Int}(ha:asI a=some q):∃k,v=.int k q.2:=by
 rcases qop (.some h) (d:=0) (a:=q.2) (by simp[qgV,ha]) with⟨h1,_⟩|⟨k,h1⟩
 ·cases h1
 ·cases h1;exact⟨k,rfl⟩
theorem qw8 {len cap:Nat}{lo:Option AV}{vlo:Option Value}(hlo:RepO X lo vlo){k k':IntKind}{a b:Int}(h1:qgV lo 0=some a) (hb:b<=cap) (ha0:0<=a) (ha:a<=b) (w:World) :(Instr.sliceBounds true len cap vlo (some (.int k b)) (some (.int k' b))).run P w=.ok (a.toNat,b.toNat,b.toNat) w:=by
 have hb0:0<=b:=by omega
 have hba:a<=(b.toNat:Nat):=by omega
 have hbb:b<=(b.toNat:Nat):=by omega
 rcases qop hlo h1 with⟨rfl,rfl⟩|⟨k,rfl⟩
 ·simp[Instr.sliceBounds,zl hb0 hb,zl hb0 hbb]
 ·simp[Instr.sliceBounds,zl hb0 hb,zl hb0 hbb,zl ha0 hba]
theorem qsF {t e:TypeId}{p:Option Addr}{n c:Nat}{vlo vhi vmx:Option Value}{a b:Nat}(ht:P.underlying t=some (.slice e))(hp:0<P.cellsOf e)(hb:(Instr.sliceBounds true n c vlo vhi vmx).run P w=.ok (a,b,b) w) :(Instr.sliceAt t (.slice p n c) vlo vhi vmx).run P w=.ok (.slice (if b=a then p else p.map (·.add (a*P.cellsOf e))) (b-a) (b-a)) w:=by simp only[Instr.sliceAt,qOQ,run_underlying ht,qOW,Instr.slice,hb,zw hp];rfl
theorem q8I {t e:TypeId}{p:Option Addr}{n c:Nat}{vlo vhi:Option Value}{a b:Nat}(ht:P.underlying t=some (.slice e))(hp:0<P.cellsOf e)(hb:(Instr.sliceBounds true n c vlo vhi none).run P w=.ok (a,b,c) w) :(Instr.sliceAt t (.slice p n c) vlo vhi none).run P w=.ok (.slice (if c=a then p else p.map (·.add (a*P.cellsOf e))) (b-a) (c-a)) w:=by simp only[Instr.sliceAt,qOQ,run_underlying ht,qOW,Instr.slice,hb,zw hp];rfl
theorem qp4 {s:qOK}{vlo vhi:Option Value}{a b:Int}(ht:P.underlying t=some .string)(hb:(Instr.sliceBounds false s.length s.length vlo vhi none).run P w=.ok (a.toNat,b.toNat,s.length) w) :(Instr.sliceAt t (.string ⟨s.toArray⟩) vlo vhi none).run P w=.ok (.string ⟨(qfh s a b).toArray⟩) w:=by
 have h1:(ByteArray.mk s.toArray).size=s.length:=rfl;simp only[Instr.sliceAt,qOQ,run_underlying ht,qOW,Instr.slice,h1,hb,Option.isSome_none,qPo,if_false,qPh];congr 2;apply ByteArray.ext;have:(ByteArray.mk s.toArray).extract a.toNat b.toNat=⟨s.toArray.extract a.toNat b.toNat⟩:=by apply ByteArray.ext;simp
 rw[this];simp[qfh,List.extract,List.drop_take]
theorem qB9 {E:Env}(hE:E.tok P){B:Base}(hs:HSim B X){a:AV}{v:Value}{lo hi mx:Option AV}{vlo vhi vmx:Option Value}(hv:Rep X a v)(hlo:RepO X lo vlo) (hhi:RepO X hi vhi) (hmx:RepO X mx vmx) {r:Res} (h:(qfS E X.h t a lo hi mx).run=some r) :qL P B X (do pure (.value (<-Instr.sliceAt t v vlo vhi vmx))) r:=by
 unfold qfS at h;cases hmx with
 | some hm=>
  rename_i m vm;simp only at h;cases hd:(E.ty t).d<;>rw[hd] at h<;>try (cases h)
  rename_i e es;obtain⟨ht,rfl⟩:=q1i hE hd;cases hhi with
  | none=>cases hv<;>cases h
  | some hy=>
   rename_i y vy;cases hv<;>simp only at h<;>try (cases h)
   rename_i sh l himm;cases h1:qgV lo 0 with
   | none=>rw[h1] at h;cases h
   | some x=>
    cases h2:asI y with
    | none=>rw[h1,h2] at h;cases h
    | some q2=>
     cases h3:asI m with
     | none=>rw[h1,h2,h3] at h;cases h
     | some q3=>
      obtain⟨k2,b⟩:=q2;obtain⟨k3,c⟩:=q3;rw[h1,h2,h3] at h;simp only at h;by_cases hc:sh.length=P.cellsOf e/\0<P.cellsOf e
      ·rw[if_pos hc] at h;obtain⟨g1,g2⟩:=j9 h;obtain⟨g3,g4⟩:=j9 g2;obtain⟨g5,g6⟩:=j9 g4;cases g6;obtain⟨q1,q2⟩:=q0d g1;obtain⟨q3,q4⟩:=q0d g3;obtain rfl:b=c:=of_decide_eq_true g5;obtain⟨k,rfl⟩:=qxY hy h2;obtain⟨k',rfl⟩:=qxY hm h3;obtain⟨p,n,cp,rfl⟩:∃p n c,v=.slice p n c:=by rcases himm with⟨rfl,_⟩|⟨ad,cap,rfl,_⟩<;>exact⟨_,_,_,rfl⟩
       obtain⟨w1,w3⟩:=qxp himm q3 q4 q2;rw[hc.1] at w3;exact qL.ofV hs (qsF ht hc.2 (qw8 hlo h1 (by omega) q3 q4 _)) (.full _ _ _ _ w3)
      ·rw[if_neg hc] at h;cases h
 | none=>
  simp only at h;cases hd:(E.ty t).d<;>rw[hd] at h<;>try (cases h)
  ·
   have ht:=qiJ hE hd;cases hv<;>simp only at h<;>try (cases h)
   rename_i s;cases h1:qgV lo 0 with
   | none=>rw[h1] at h;cases h
   | some l=>
    cases h2:qgV hi (qv s) with
    | none=>rw[h1,h2] at h;cases h
    | some b=>
     rw[h1,h2] at h;obtain⟨g1,g2⟩:=j9 h;obtain⟨g3,g4⟩:=j9 g2;cases g4;obtain⟨q1,q2⟩:=q0d g1;obtain⟨q3,q4⟩:=q0d g3;exact qL.ofV hs (qp4 ht (q0H hlo hhi h1 h2 rfl q1 q2 q3 q4 _)) (.str _)
  ·rename_i e es;obtain⟨ht,rfl⟩:=q1i hE hd;cases hv<;>simp only at h<;>try (cases h)
   ·rename_i sh l himm;cases h1:qgV lo 0 with
    | none=>rw[h1] at h;cases h
    | some x=>
     cases h2:qgV hi (qg l) with
     | none=>rw[h1,h2] at h;cases h
     | some y=>
      rw[h1,h2] at h;simp only at h;by_cases hc:sh.length=P.cellsOf e/\0<P.cellsOf e
      ·rw[if_pos hc] at h;obtain⟨g1,g2⟩:=j9 h;obtain⟨g3,g4⟩:=j9 g2;cases g4;obtain⟨q1,q2⟩:=q0d g1;obtain⟨q3,q4⟩:=q0d g3;obtain⟨p,n,c,rfl⟩:∃p n c,v=.slice p n c:=by rcases himm with⟨rfl,_⟩|⟨ad,cap,rfl,_⟩<;>exact⟨_,_,_,rfl⟩
       obtain⟨w1,rfl,w3⟩:=qvi himm q3 q4 q2;rw[hc.1] at w3;exact qL.ofV hs (q8I ht hc.2 (q0H hlo hhi h1 h2 rfl q1 (by omega) q3 q4 _)) (.imm _ _ _ w3)
      ·rw[if_neg hc] at h;cases h
   ·rename_i b p n c hb hv;have hb':=hb;have key:∀e0 sh l (h':List Blk),(X.h[b]?=some (.vec e0 sh l)\/X.h[b]?=some (.frz e0 sh l))->h'=zF X.h b->(match qgV lo 0,qgV hi (qg l) with
     | some x,some y=>if sh.length=P.cellsOf e/\0<P.cellsOf e then Tree.br (q7O y (qg l)) (.br (q7O x y) (.leaf ((.imm sh (qCf l x y),h',none):Res)) .fail) .fail else .fail
     | _,_=>.fail).run=some r->qL P B X (do pure (.value (<-Instr.sliceAt t (.slice p n c) vlo vhi none))) r:=by
     intro e0 sh l h' hh hh' hr;cases h1:qgV lo 0 with
     | none=>rw[h1] at hr;cases hr
     | some x=>
      cases h2:qgV hi (qg l) with
      | none=>rw[h1,h2] at hr;cases hr
      | some y=>
       rw[h1,h2] at hr;simp only at hr;by_cases hc:sh.length=P.cellsOf e/\0<P.cellsOf e
       ·rw[if_pos hc] at hr;obtain⟨g1,g2⟩:=j9 hr;obtain⟨g3,g4⟩:=j9 g2;cases g4;obtain⟨q1,q2⟩:=q0d g1;obtain⟨q3,q4⟩:=q0d g3;obtain⟨X1,fz⟩:=qjx hs b;have hfr:X1.h[b]?=some (.frz e0 sh l):=by rw[fz.h];exact qkn hh
        have hrep:Rep X (.vec b) (.slice p n c):=.vec b p n c hb hv;have himm:=ql0 fz.hs hfr (hrep.ext fz.ext);obtain⟨w1,rfl,w3⟩:=qvi himm q3 q4 q2;rw[hc.1] at w3;refine⟨_,_,X1,?_,.inl rfl,.imm _ _ _ w3,fz.hs,by rw[fz.h,hh'],fz.ext⟩;rw[qOQ,q8I ht hc.2 (q0H hlo hhi h1 h2 rfl q1 (by omega) q3 q4 _),fz.w];rfl
       ·rw[if_neg hc] at hr;cases hr
    cases hbk:X.h[b]? with
    | none=>rw[hbk] at h;cases h
    | some k=>
     rw[hbk] at h;cases k<;>try (cases h;done)
     ·rename_i e0 sh l;simp only at h;cases hbt:qzp sh hi with
      | false=>rw[hbt] at h;exact key _ _ _ _ (.inl hbk) rfl h
      | true=>
       rw[hbt] at h;simp only at h;cases h1:qgV lo 0 with
       | none=>rw[h1] at h;cases h
       | some x=>
        rw[h1] at h;simp only at h;by_cases hc:P.cellsOf e=1
        ·rw[if_pos hc] at h;obtain⟨g1,g2⟩:=j9 h;obtain⟨g3,g4⟩:=j9 g2;cases g4;have hpos:(0:Int)<qg l:=of_decide_eq_true g1;obtain⟨q1,q2⟩:=q0d g3;have hhin:hi=none/\qn5 sh=true:=by
          unfold qzp at hbt;cases hi with
          | none=>exact⟨rfl,hbt⟩
          | some y=>cases hbt
         obtain⟨rfl,hby⟩:=hhin;have hsh:sh.length=1:=by
          unfold qn5 at hby
          split at hby
          ·rfl
          ·cases hby
         have hvv:=hv sh l.length ⟨e0,l,.inl hbk,rfl⟩;unfold qzF at hvv;rcases hs.blk b _ hbk with⟨e1,rfl⟩|⟨n0,c0,e1,e2,e3⟩
         ·simp[qg] at hpos
         ·rw[e1] at hvv;obtain⟨cap,q3,q4,q5,_⟩:=hvv;cases q3;have hb:=q0H (P:=P) (isS:=true) (len:=l.length) (cap:=c) hlo hhi h1 (b:=qg l) (d:=qg l) rfl rfl (by omega) (by unfold qg;omega) q1 q2 X.w;have hrun:=q8I (p:=some ⟨n0,0,none⟩) ht (by omega) hb;refine qL.ofV hs hrun ?_;have hnn:(qg l).toNat=l.length:=by unfold qg;omega
          rw[hnn,hc];by_cases hcx:c=x.toNat
          ·rw[if_pos hcx];refine .vsub b x n0 0 _ _ hb' e1 fun sh' m' hv'=>?_;obtain⟨e',l',w1,w2⟩:=hv';rw[hbk] at w1;rcases w1 with w1|w1<;>cases w1;unfold qg at q2;exact⟨q1,by omega,.inr ⟨by omega,rfl⟩,by omega⟩
          ·rw[if_neg hcx];have hadd:(some (⟨n0,0,none⟩:Addr)).map (·.add (x.toNat*1))=some ⟨n0,x.toNat,none⟩:=by simp only[qPk,Addr.add];congr 1;split<;>(try simp_all)<;>(try omega)
           rw[hadd];refine .vsub b x n0 x.toNat _ _ hb' e1 fun sh' m' hv'=>?_;obtain⟨e',l',w1,w2⟩:=hv';rw[hbk] at w1;rcases w1 with w1|w1<;>cases w1;unfold qg at q2;exact⟨q1,by omega,.inl (by rw[hsh];omega),by omega⟩
        ·rw[if_neg hc] at h;cases h
     ·exact key _ _ _ X.h (.inr hbk) (by simp only[zF,hbk]) h
end Go.Eng

namespace Go.Eng
variable {B:Base}{P:Program}{X:Ctx}{e:TypeId}{l:R}{sh:List Sh}{v:Value}{w:World}
theorem q9A {M:Nat->Prop}{m:R}{ad:Addr}(hp:0<sh.length)(hsp:0<m.length->ad.spot=none)(h:Rows w M sh m ad) :∃news:List Value,qp6 w M sh m news/\(∀j u,news[j]?=some u->w.cell? (ad.add j)=some u)/\∀u∈news,u.oneCell'=true:=by
 have key:∀k,k<m.length*sh.length->∃v,w.cell? ⟨ad.block,ad.off+k,none⟩=some v/\v.oneCell'=true:=by
  intro k hk;have h1:k/sh.length<m.length:=(Nat.div_lt_iff_lt_mul hp).2 hk;have h2:k%sh.length<sh.length:=qQ3 _ hp;obtain⟨_,v,e1,e2⟩:=h (k/sh.length) (k%sh.length) h2 h1;refine⟨v,?_,?_⟩
  ·rw[<-e1];congr 2;have:=qQM k sh.length;rw[Nat.mul_comm] at this;omega
  ·generalize sh[k%sh.length]=s at e2;cases e2<;>rfl
 refine⟨(List.range (m.length*sh.length)).map fun k=>(w.cell? ⟨ad.block,ad.off+k,none⟩).getD undef,⟨by simp,fun r j hj hr=>?_⟩,fun j u hu=>?_,fun u hu=>?_⟩
 ·obtain⟨_,v,e1,e2⟩:=h r j hj hr;have hlt:r*sh.length+j<m.length*sh.length:=by have:(r+1)*sh.length<=m.length*sh.length:=qPb _ hr;rw[qP2] at this;omega
  refine⟨v,?_,e2⟩;rw[qOU,qPp hlt];simp only[qPk,<-qQj,e1,qPI]
 ·rw[qOU] at hu;by_cases hj:j<m.length*sh.length
  ·rw[qPp hj] at hu;obtain⟨v,e1,_⟩:=key j hj;simp only[qPk,e1,qPI,qOL] at hu;rw[Addr.add_of (hsp (Nat.pos_of_ne_zero fun h0=>by rw[h0] at hj;simp at hj)),e1,hu]
  ·rw[qP7 (by simpa using hj)] at hu;cases hu
 ·obtain⟨k,hk,rfl⟩:=qPE.1 hu;obtain⟨v,e1,e2⟩:=key k (by simpa using hk);rw[e1];exact e2
theorem qwD {l m:R}{r j:Nat}(h:r<l.length):zJ (zE l m) r j=zJ l r j:=by unfold zJ zE;rw[qOX];simp[qOY h]
theorem qvn {l m:R}{r j:Nat}(h:l.length<=r):zJ (zE l m) r j=zJ m ((r-l.length:Nat):Int) j:=by unfold zJ zE;rw[qOX,qOX];simp[qP4 h]
theorem qp6.app {M:Nat->Prop}{l m:R}{xs ys:List Value}(h1:qp6 w M sh l xs)(h2:qp6 w M sh m ys):qp6 w M sh (zE l m) (xs++ys):=by
 refine⟨by simp[zE,h1.1,h2.1,qP2],fun r j hj hr=>?_⟩;by_cases hl:r<l.length
 ·obtain⟨v,e1,e2⟩:=h1.2 r j hj hl;exact⟨v,by rw[qOY (qq e1)];exact e1,by rw[qwD hl];exact e2⟩
 ·have hr':r-l.length<m.length:=by simp only[zE,qP6] at hr;omega
  obtain⟨v,e1,e2⟩:=h2.2 (r-l.length) j hj hr';refine⟨v,?_,by rw[qvn (by omega)];exact e2⟩;have h3:l.length*sh.length<=r*sh.length:=qPb _ (by omega);rw[qP4 (by rw[h1.1];omega),h1.1,<-e1];congr 1;rw[Nat.sub_mul];omega
theorem qp6.rowsC {M:Nat->Prop}{xs:List Value}{c:Array Value}(h:qp6 w M sh l xs)(hc:∃rest,c.toList=xs++rest):qBg w M sh l c:=by obtain⟨rest,hc⟩:=hc;intro r j hj hr;obtain⟨v,e1,e2⟩:=h.2 r j hj hr;refine⟨v,?_,e2⟩;rw[<-qQS,hc,qOY (qq e1)];exact e1
theorem qzw {M:Nat->Prop}{c:Array Value}{cap:Nat}(h:qBg w M sh l c)(hsz:c.size=cap*sh.length)(hl:l.length<=cap) :qp6 w M sh l (c.toList.take (l.length*sh.length)):=by
 have h3:l.length*sh.length<=cap*sh.length:=qPb _ hl;refine⟨by simp;omega,fun r j hj hr=>?_⟩;obtain⟨v,e1,e2⟩:=h r j hj hr;refine⟨v,?_,e2⟩;have hlt:r*sh.length+j<l.length*sh.length:=by have:(r+1)*sh.length<=l.length*sh.length:=qPb _ hr;rw[qP2] at this;omega
 rw[qPQ,if_pos hlt];simpa using e1
structure Src (P:Program) (X:Ctx) (sh:List Sh) (m:R) (v:Value):Prop where
 nil:v=.slice none 0 0/\m=[]\/∃ad c,v=.slice (some ad) m.length c/\(0<m.length->ad.spot=none)/\Rows X.w X.M sh m ad
theorem qxr {m:R}(h:qhB X.w X.M sh m v):Src P X sh m v:=by
 rcases h with h|⟨ad,c,h1,h2,_,h3⟩
 ·exact⟨.inl h⟩
 ·exact⟨.inr ⟨ad,c,h1,h2,h3⟩⟩
theorem qCS (h:0<P.cellsOf e):∃i,P.info? e=some i/\i.size=P.cellsOf e:=by
 unfold Program.cellsOf at *;cases hi:P.info? e with
 | none=>rw[hi] at h;simp at h
 | some i=>exact⟨i,rfl,by simp⟩
theorem ki {t e ty:TypeId}{p q:Option Addr}{n c d:Nat}(ht:P.underlying t=some (.slice e))(hp:0<P.cellsOf e)(hnc:n<=c) :(Builtin.append_ #[t,t] ty #[.slice p n c,.slice q 0 d]).run P w=.ok (.slice p n c) w:=by
 cases p with
 | none=>cases q<;>simp[Builtin.append_,run_underlying ht,zw hp,Builtin.lenOf,hnc,Builtin.firstCells,loadCells,loadCellsFrom]
 | some a=>cases q<;>simp[Builtin.append_,run_underlying ht,zw hp,Builtin.lenOf,hnc,Builtin.firstCells,storeCells,loadCells,loadCellsFrom]
structure ElemOk (rm:Int) (P:Program) (e:TypeId) (es:Nat) (i:TypeInfo) (z:Value):Prop where
 hi:P.info? e=some i
 hz:i.zero=some z
 size:i.size=es
 zs:z.cells.size=es
 by_:∀n:Nat,(n:Int)<=rm->n*i.bytes<=140737488355328/\n<=140737488355328
theorem qHQ {E:Env}(hE:E.tok P)(hp:0<P.cellsOf e)(hz:(E.ty e).zero.length=P.cellsOf e):∃i z,ElemOk (qwC (E.ty e).bytes) P e (P.cellsOf e) i z:=by
 obtain⟨z,_,z2,i,hi,hz'⟩:=qhd hE (t:=e) (by omega) default;obtain⟨i',hi',hs⟩:=qCS hp;rw[hi] at hi';cases hi';refine⟨i,z,hi,hz',hs,by rw[<-hz,<-z2];simp,?_⟩;rcases qti hE e with h1|h1
 ·rw[h1] at hz;simp[qNV] at hz;omega
 ·intro n hn;have hb:(E.ty e).bytes=i.bytes:=by rw[h1];unfold qBr;rw[hi]
  rw[hb] at hn;unfold qwC at hn;have hn':n<=140737488355328/(if i.bytes=0 then 1 else i.bytes):=by omega
  by_cases h0:i.bytes=0
  ·rw[if_pos h0] at hn';rw[h0];omega
  ·rw[if_neg h0] at hn';have h2:n*i.bytes<=140737488355328:=qOP (qPb _ hn') (Nat.div_mul_le_self _ _);exact⟨h2,qOP (Nat.le_mul_of_pos_right n (by omega)) h2⟩
theorem qlj {es n cap:Nat}{xs ys:List Value}{z:Value}(h1:xs.length+ys.length=n*es)(h2:z.cells.size=es)(h3:n<=cap) :(xs.toArray++ys.toArray++Builtin.zeroCells z.cells (cap-n)).size=cap*es:=by simp only[Array.size_append,List.size_toArray,size_zeroCells,h2,h1];rw[<-qP2];congr 1;omega
theorem qjA (hs:HSim B X){t e ty:TypeId}{m:R}{i:TypeInfo}{z:Value}(ht:P.underlying t=some (.slice e))(hp:0<P.cellsOf e)(hsh:sh.length=P.cellsOf e) {rm:Int} (he:ElemOk rm P e (P.cellsOf e) i z) (hsrc:Src P X sh m v) (hm:qg m<=rm) :qL P B X (do pure (.value (<-Builtin.append_ #[t,t] ty #[.slice none 0 0,v]))) (.vec X.h.length,X.h++[.vec e sh m],none):=by
 by_cases h0:m=[]
 ·subst h0;have hv:∃q d,v=.slice q 0 d:=by rcases hsrc.nil with⟨rfl,_⟩|⟨ad,c,rfl,_⟩<;>exact⟨_,_,rfl⟩
  obtain⟨q,d,rfl⟩:=hv;have hpw:=PushW.same X;refine⟨.value (.slice none 0 0),_,X.pushW (.vec e sh []) none X.w,?_,.inl rfl,?_,hs.push hpw (.inl ⟨by simp[Ctx.pushW],rfl⟩),rfl,Ctx.push_ext hs _ hpw⟩
  ·rw[qOQ,ki ht hp (qON 0)];rfl
  ·exact .vec _ _ _ _ (by simp[Ctx.pushW]) fun sh' m' _=>by unfold qzF;simp[Ctx.pushW]
 ·rcases hsrc.nil with⟨_,h⟩|⟨ad,c,rfl,hsp,hr⟩
  ·exact absurd h h0
  obtain⟨news,f1,f2,f3⟩:=q9A (by omega) hsp hr;have hml:0<m.length:=qQp.2 h0;have hby:=(he.by_ m.length (by simpa[qg] using hm)).1;have hroom:m.length<=140737488355328:=(he.by_ m.length (by simpa[qg] using hm)).2;have hrun:=run_append_nil (P:=P) X.w t ty e i z ht he.hi he.hz ad m.length c news (by rw[f1.1,he.size,hsh]) f2 hml (by omega) (by omega);have hge:=grownCap_ge X.w m.length 0 e;have hcm:=grownCap_le_maxLen X.w m.length 0 e (by unfold maxLen;omega);have hsz:(news.toArray++Builtin.zeroCells z.cells (grownCap X.w m.length 0 e-m.length)).size=grownCap X.w m.length 0 e*sh.length:=by have:=qlj (es:=P.cellsOf e) (n:=m.length) (cap:=grownCap X.w m.length 0 e) (xs:=[]) (ys:=news) (z:=z) (by rw[qPu,qPD,f1.1,hsh]) he.zs hge;rw[hsh,<-this];simp
  have hpw:PushW X (some X.w.heap.size) (X.w.drew.alloc (.cells (news.toArray++Builtin.zeroCells z.cells (grownCap X.w m.length 0 e-m.length)) e)):=
   ⟨fun _ h=>zW X.w.drew _ h,by simp,rfl,rfl,rfl,fun m h=>by cases h;exact qON _⟩
  have hx:=Ctx.push_ext hs (.vec e sh m) hpw;have hnew:=zU X.w.drew (.cells (news.toArray++Builtin.zeroCells z.cells (grownCap X.w m.length 0 e-m.length)) e);refine⟨_,_,X.pushW (.vec e sh m) (some X.w.heap.size) _,?_,.inl rfl,qv2 (n:=X.w.heap.size) hge hcm hnew hsz,hs.push hpw (.inr ⟨X.w.heap.size,_,by simp[Ctx.pushW],hnew,?_⟩),rfl,hx⟩
  ·rw[qOQ,hrun];rfl
  ·have:=qp6.rowsC (c:=news.toArray++Builtin.zeroCells z.cells (grownCap X.w m.length 0 e-m.length)) f1 ⟨_,by simp;rfl⟩;exact this.mono hx.M hx.w
theorem qsW {b n cap:Nat}{w':World}{c:Array Value}{T:TypeId}{fr:Nat×Nat}(hb:b<X.h.length)(h1:l.length<=cap)(h2:cap<=maxLen)(h3:w'.heap[n]?=some (.cells c T fr)) (h4:c.size=cap*sh.length):Rep (X.repl b (some n) (.vec e sh l) w') (.vec b) (.slice (some ⟨n,0,none⟩) l.length cap):=by
 refine .vec _ _ _ _ (by simpa[Ctx.repl] using hb) fun sh' m ⟨e',l',q1,q2⟩=>?_;have:(X.repl b (some n) (.vec e sh l) w').h[b]?=some (.vec e sh l):=by simp[Ctx.repl,hb,Blk.ren]
 rw[this] at q1;rcases q1 with q1|q1<;>cases q1;subst q2;unfold qzF;simp only[Ctx.repl,if_true];exact⟨cap,rfl,h1,h2,c,T,fr,h3,h4⟩
theorem qk3 (hs:HSim B X){t e ty:TypeId}{l m:R}{b:Nat}{v vs:Value}{i:TypeInfo}{z:Value}(ht:P.underlying t=some (.slice e))(hp:0<P.cellsOf e)(hsh:sh.length=P.cellsOf e) {rm:Int} (he:ElemOk rm P e (P.cellsOf e) i z) (hb:X.h[b]?=some (.vec e sh l)) (hv:Rep X (.vec b) vs) (hsrc:Src P X sh m v) (hm:qg l+qg m<=rm) :qL P B X (do pure (.value (<-Builtin.append_ #[t,t] ty #[vs,v]))) (.vec b,X.h.set b (.vec e sh (zE l m)),some b):=by
 have hbl:=qq hb;have hroom:((l.length+m.length:Nat):Int)<=rm:=by simpa[qg] using hm
 have hroom':l.length+m.length<=140737488355328:=(he.by_ _ hroom).2;have hren:∀k:R,(Blk.vec e sh k).ren (qfO b)=.vec e sh k:=fun _=>rfl;have hvl:(zE l m).length=l.length+m.length:=by simp[zE]
 cases hv with
 | vec _ p n cap hlt hvv=>
  have hvv:=hvv sh l.length ⟨e,l,.inl hb,rfl⟩;unfold qzF at hvv;rcases hs.blk b _ hb with⟨e1,rfl⟩|⟨n0,c0,e1,e2,e3⟩
  ·
   rw[e1] at hvv;obtain⟨p',hvv⟩:=hvv;cases hvv;by_cases h0:m=[]
   ·subst h0;have hv:∃q d,v=.slice q 0 d:=by rcases hsrc.nil with⟨rfl,_⟩|⟨ad,c,rfl,_⟩<;>exact⟨_,_,rfl⟩
    obtain⟨q,d,rfl⟩:=hv;have hw:ReplW X b none X.w:=⟨fun _ _ _=>rfl,fun _ c T fr _ h=>⟨c,T,fr,h,rfl⟩,qON _,rfl,rfl,rfl,.inl e1.symm⟩;refine⟨.value (.slice p 0 0),_,X.repl b none (.vec e sh (zE [] [])) X.w,?_,.inl rfl,?_,hs.repl hb hw (.inl ⟨by simp[Ctx.repl],rfl⟩),rfl,Ctx.repl_move hs hb hw⟩
    ·rw[qOQ,ki ht hp (qON 0)];rfl
    ·exact .vec _ _ _ _ (by simpa[Ctx.repl] using hbl) fun sh' m' _=>by unfold qzF;simp[Ctx.repl]
   ·rcases hsrc.nil with⟨_,h⟩|⟨ad,c,rfl,hsp,hr⟩
    ·exact absurd h h0
    obtain⟨news,f1,f2,f3⟩:=q9A (by omega) hsp hr;have hml:0<m.length:=qQp.2 h0;simp only[qPu,qPD] at hroom hroom';have hby:=(he.by_ _ hroom).1;have hrun:(Builtin.append_ #[t,t] ty #[.slice p 0 0,.slice (some ad) m.length c]).run P X.w=.ok (.slice (some ⟨X.w.heap.size,0,none⟩) m.length (grownCap X.w m.length 0 e)) (X.w.drew.alloc (.cells (news.toArray++Builtin.zeroCells z.cells (grownCap X.w m.length 0 e-m.length)) e)):=by
     cases p with
     | none=>exact run_append_nil (P:=P) X.w t ty e i z ht he.hi he.hz ad m.length c news (by rw[f1.1,he.size,hsh]) f2 hml (by omega) (by omega)
     | some ad0=>
      have:=run_append_grow (P:=P) X.w t ty e i z ht he.hi he.hz ad0 0 0 [] (by simp) (fun j u hu=>by simp at hu) ad m.length c news (by rw[f1.1,he.size,hsh]) f2 (by omega) (by omega) (growslice_fits (by omega) (by simpa using hby));simpa using this
    have hge:=grownCap_ge X.w m.length 0 e;have hcm:=grownCap_le_maxLen X.w m.length 0 e (by unfold maxLen;omega);have hsz:(news.toArray++Builtin.zeroCells z.cells (grownCap X.w m.length 0 e-m.length)).size=grownCap X.w m.length 0 e*sh.length:=by have:=qlj (es:=P.cellsOf e) (n:=m.length) (cap:=grownCap X.w m.length 0 e) (xs:=[]) (ys:=news) (z:=z) (by rw[qPu,qPD,f1.1,hsh]) he.zs hge;rw[hsh,<-this];simp
    have hnew:=zU X.w.drew (.cells (news.toArray++Builtin.zeroCells z.cells (grownCap X.w m.length 0 e-m.length)) e);have hw:ReplW X b (some X.w.heap.size) (X.w.drew.alloc (.cells (news.toArray++Builtin.zeroCells z.cells (grownCap X.w m.length 0 e-m.length)) e)):=
     ⟨fun _ h _=>zW X.w.drew _ h,fun m0 _ _ _ h _=>(by rw[e1] at h;cases h),by simp,rfl,rfl,rfl,.inr fun m h=>by cases h;exact qON _⟩
    have hx:=Ctx.repl_move hs hb (k':=.vec e sh (zE [] m)) hw;have hrl:zE [] m=m:=rfl;rw[hrl] at hx ⊢;refine⟨_,_,X.repl b (some X.w.heap.size) (.vec e sh m) _,?_,.inl rfl,qsW (n:=X.w.heap.size) hbl hge hcm hnew hsz,hs.repl hb hw (.inr ⟨X.w.heap.size,_,by simp[Ctx.repl],hnew,?_⟩),rfl,hx⟩
    ·rw[qOQ,hrun];rfl
    ·have:=qp6.rowsC (c:=news.toArray++Builtin.zeroCells z.cells (grownCap X.w m.length 0 e-m.length)) f1 ⟨_,by simp;rfl⟩;exact this.mono hx.M hx.w
  ·rw[e1] at hvv;obtain⟨cap',q1,q2,q3,c1,T1,fr1,q4,q5⟩:=hvv;cases q1;rw[e2] at q4;cases q4;have hflat:=qzw e3 q5 q2;by_cases h0:m=[]
   ·subst h0;have hv:∃q d,v=.slice q 0 d:=by rcases hsrc.nil with⟨rfl,_⟩|⟨ad,c,rfl,_⟩<;>exact⟨_,_,rfl⟩
    obtain⟨q,d,rfl⟩:=hv;have hrl:zE l []=l:=by simp[zE]
    have hw:ReplW X b (some n0) X.w:=⟨fun _ _ _=>rfl,fun _ c T fr _ h=>⟨c,T,fr,h,rfl⟩,qON _,rfl,rfl,rfl,.inl e1.symm⟩;have hx:=Ctx.repl_move hs hb (k':=.vec e sh l) hw;rw[hrl];refine⟨.value (.slice (some ⟨n0,0,none⟩) l.length cap),_,X.repl b (some n0) (.vec e sh l) X.w,?_,.inl rfl,qsW hbl q2 q3 e2 q5,hs.repl hb hw (.inr ⟨n0,_,by simp[Ctx.repl],e2,e3.mono hx.M hx.w⟩),rfl,hx⟩;rw[qOQ,ki ht hp q2];rfl
   ·rcases hsrc.nil with⟨_,h⟩|⟨ad,c,rfl,hsp,hr⟩
    ·exact absurd h h0
    obtain⟨news,f1,f2,f3⟩:=q9A (by omega) hsp hr;have hml:0<m.length:=qQp.2 h0;have hby:=(he.by_ _ hroom).1;have happ:=hflat.app f1;by_cases hfit:l.length+m.length<=cap
    ·
     have hfitc:l.length*i.size+news.length<=c0.size:=by rw[he.size,f1.1,<-hsh,q5,<-qP2];exact qPb _ hfit
     have hrun:=run_append_room (P:=P) X.w t ty e i ht he.hi n0 l.length cap c0 e2 ad m.length c news (by rw[f1.1,he.size,hsh]) f2 f3 hfit hfitc;have hsz:((c0.toList.take (l.length*i.size)++news++c0.toList.drop (l.length*i.size+news.length)).toArray).size=c0.size:=by simp;omega
     have hup:=UpdW.setRow (X:=X) (c':=(c0.toList.take (l.length*i.size)++news++c0.toList.drop (l.length*i.size+news.length)).toArray) e2 hsz;have hw:ReplW X b (some n0) (X.w.setRow n0 (c0.toList.take (l.length*i.size)++news++c0.toList.drop (l.length*i.size+news.length)).toArray):=
      ⟨fun m' _ hne=>hup.other m' (fun e=>hne (by rw[e];exact e1)),fun m' c' T' fr' hm' hc'=>by rw[e1] at hm';cases hm';rw[e2] at hc';cases hc';exact⟨_,_,_,hup.new,hsz⟩,by simp,rfl,rfl,rfl,.inl e1.symm⟩
     have hx:=Ctx.repl_move hs hb (k':=.vec e sh (zE l m)) hw;have hrep:=qsW (X:=X) (e:=e) (l:=zE l m) (n:=n0) (cap:=cap) (w':=X.w.setRow n0 (c0.toList.take (l.length*i.size)++news++c0.toList.drop (l.length*i.size+news.length)).toArray) hbl (by rw[hvl];exact hfit) q3 hup.new (by rw[hsz];exact q5);rw[hvl] at hrep;refine⟨_,_,X.repl b (some n0) (.vec e sh (zE l m)) _,?_,.inl rfl,hrep,hs.repl hb hw (.inr ⟨n0,_,by simp[Ctx.repl],hup.new,?_⟩),rfl,hx⟩
     ·rw[qOQ,hrun];rfl
     ·have:=qp6.rowsC (c:=(c0.toList.take (l.length*i.size)++news++c0.toList.drop (l.length*i.size+news.length)).toArray) happ ⟨c0.toList.drop (l.length*i.size+news.length),by rw[he.size,<-hsh]⟩;exact this.mono hx.M hx.w
    ·
     have holds:∀j u,(c0.toList.take (l.length*sh.length))[j]?=some u->X.w.cell? ((⟨n0,0,none⟩:Addr).add j)=some u:=by
      intro j u hu;rw[qPQ] at hu;split at hu
      ·rw[qPy,zS e2];simpa using hu
      ·cases hu
     have hrun:=run_append_grow (P:=P) X.w t ty e i z ht he.hi he.hz ⟨n0,0,none⟩ l.length cap (c0.toList.take (l.length*sh.length)) (by rw[hflat.1,he.size,hsh]) holds ad m.length c news (by rw[f1.1,he.size,hsh]) f2 (by omega) (by omega) (growslice_fits (by omega) hby);have hge:=grownCap_ge X.w (l.length+m.length) cap e;have hcm:=grownCap_le_maxLen X.w (l.length+m.length) cap e (by unfold maxLen;omega);have hsz:=qlj (es:=P.cellsOf e) (n:=l.length+m.length) (cap:=grownCap X.w (l.length+m.length) cap e) (xs:=c0.toList.take (l.length*sh.length)) (ys:=news) (z:=z) (by rw[hflat.1,f1.1,hsh,<-qP2]) he.zs hge;rw[<-hsh] at hsz;have hnew:=zU X.w.drew (.cells ((c0.toList.take (l.length*sh.length)).toArray++news.toArray++Builtin.zeroCells z.cells (grownCap X.w (l.length+m.length) cap e-(l.length+m.length))) e);have hw:ReplW X b (some X.w.heap.size) (X.w.drew.alloc (.cells ((c0.toList.take (l.length*sh.length)).toArray++news.toArray++Builtin.zeroCells z.cells (grownCap X.w (l.length+m.length) cap e-(l.length+m.length))) e)):=
      ⟨fun _ h _=>zW X.w.drew _ h,fun m0 c' T' fr' h hc'=>⟨c',T',fr',by rw[zW X.w.drew _ (qOR.1 hc').1];exact hc',rfl⟩,by simp,rfl,rfl,rfl,.inr fun m h=>by cases h;exact qON _⟩
     have hx:=Ctx.repl_move hs hb (k':=.vec e sh (zE l m)) hw;have hrep:=qsW (X:=X) (e:=e) (l:=zE l m) hbl (by rw[hvl];exact hge) hcm hnew hsz;rw[hvl] at hrep;refine⟨_,_,X.repl b (some X.w.heap.size) (.vec e sh (zE l m)) _,?_,.inl rfl,hrep,hs.repl hb hw (.inr ⟨X.w.heap.size,_,by simp[Ctx.repl],hnew,?_⟩),rfl,hx⟩
     ·rw[qOQ,hrun];rfl
     ·have:=qp6.rowsC (c:=(c0.toList.take (l.length*sh.length)).toArray++news.toArray++Builtin.zeroCells z.cells (grownCap X.w (l.length+m.length) cap e-(l.length+m.length))) happ ⟨_,by simp;rfl⟩;exact this.mono hx.M hx.w
theorem qsS (hs:HSim B X){t e ty:TypeId}{p:Option Addr}(ht:P.underlying t=some (.slice e))(hp:0<P.cellsOf e)(hsrc:Src P X sh [] v):qL P B X (do pure (.value (<-Builtin.append_ #[t,t] ty #[.slice p 0 0,v]))) (.vec X.h.length,X.h++[.vec e sh []],none):=by
 have hv:∃q d,v=.slice q 0 d:=by rcases hsrc.nil with⟨rfl,_⟩|⟨ad,c,rfl,_⟩<;>exact⟨_,_,rfl⟩
 obtain⟨q,d,rfl⟩:=hv;have hpw:=PushW.same X;refine⟨.value (.slice p 0 0),_,X.pushW (.vec e sh []) none X.w,?_,.inl rfl,?_,hs.push hpw (.inl ⟨by simp[Ctx.pushW],rfl⟩),rfl,Ctx.push_ext hs _ hpw⟩
 ·rw[qOQ,ki ht hp (qON 0)];rfl
 ·exact .vec _ _ _ _ (by simp[Ctx.pushW]) fun sh' m' _=>by unfold qzF;simp[Ctx.pushW]
theorem qsI (hs:HSim B X){t e ty:TypeId}{l m:R}{p:Option Addr}{n:Nat}{i:TypeInfo}{z:Value}(ht:P.underlying t=some (.slice e))(hp:0<P.cellsOf e)(hsh:sh.length=P.cellsOf e) {rm:Int} (he:ElemOk rm P e (P.cellsOf e) i z) (hv:qhB X.w X.M sh l (.slice p n n)) (hsrc:Src P X sh m v) (h0:0<qg m) (hm:qg l+qg m<=rm) :qL P B X (do pure (.value (<-Builtin.append_ #[t,t] ty #[.slice p n n,v]))) (.vec X.h.length,X.h++[.vec e sh (zE l m)],none):=by
 rcases hv with⟨h1,rfl⟩|⟨ad0,cap,h1,hsp0,hcap,hr0⟩
 ·cases h1;exact qjA hs ht hp hsh he hsrc (m:=m) (by simpa[qg] using hm)
 ·cases h1;rcases hsrc.nil with⟨_,h⟩|⟨ad,c,rfl,hsp,hr⟩
  ·subst h;simp[qg] at h0
  obtain⟨olds,k1,k2,k3⟩:=q9A (by omega) hsp0 hr0;obtain⟨news,f1,f2,f3⟩:=q9A (by omega) hsp hr;have hml:0<m.length:=by simp only[qg] at h0;omega
  have hroom:((l.length+m.length:Nat):Int)<=rm:=by simpa[qg] using hm
  have hroom':l.length+m.length<=140737488355328:=(he.by_ _ hroom).2;have hby:=(he.by_ _ hroom).1;have happ:=k1.app f1;have hvl:(zE l m).length=l.length+m.length:=by simp[zE]
  have hrun:=run_append_grow (P:=P) X.w t ty e i z ht he.hi he.hz ad0 l.length l.length olds (by rw[k1.1,he.size,hsh]) k2 ad m.length c news (by rw[f1.1,he.size,hsh]) f2 (by omega) (by omega) (growslice_fits (by omega) hby);have hge:=grownCap_ge X.w (l.length+m.length) l.length e;have hcm:=grownCap_le_maxLen X.w (l.length+m.length) l.length e (by unfold maxLen;omega);have hsz:=qlj (es:=P.cellsOf e) (n:=l.length+m.length) (cap:=grownCap X.w (l.length+m.length) l.length e) (xs:=olds) (ys:=news) (z:=z) (by rw[k1.1,f1.1,hsh,<-qP2]) he.zs hge;rw[<-hsh] at hsz;have hpw:PushW X (some X.w.heap.size) (X.w.drew.alloc (.cells (olds.toArray++news.toArray++Builtin.zeroCells z.cells (grownCap X.w (l.length+m.length) l.length e-(l.length+m.length))) e)):=
   ⟨fun _ h=>zW X.w.drew _ h,by simp,rfl,rfl,rfl,fun m h=>by cases h;exact qON _⟩
  have hx:=Ctx.push_ext hs (.vec e sh (zE l m)) hpw;have hnew:=zU X.w.drew (.cells (olds.toArray++news.toArray++Builtin.zeroCells z.cells (grownCap X.w (l.length+m.length) l.length e-(l.length+m.length))) e);have hrep:=qv2 (X:=X) (e:=e) (l:=zE l m) (n:=X.w.heap.size) (by rw[hvl];exact hge) hcm hnew hsz;rw[hvl] at hrep;refine⟨_,_,X.pushW (.vec e sh (zE l m)) (some X.w.heap.size) _,?_,.inl rfl,hrep,hs.push hpw (.inr ⟨X.w.heap.size,_,by simp[Ctx.pushW],hnew,?_⟩),rfl,hx⟩
  ·rw[qOQ,hrun];rfl
  ·have:=qp6.rowsC (c:=olds.toArray++news.toArray++Builtin.zeroCells z.cells (grownCap X.w (l.length+m.length) l.length e-(l.length+m.length))) happ ⟨_,by simp;rfl⟩;exact this.mono hx.M hx.w
end Go.Eng

namespace Go.Eng
variable {B:Base}{E:Env}{P:Program}{X:Ctx}{r:Res}
theorem qFF (hs:HSim B X){x:AV}{vx:Value}(hx:Rep X x vx){sh:List Sh}{l:R}(h:vr X.h x=some (sh,l)) :(vx=.slice none 0 0/\l=[])\/∃a cap,vx=.slice (some a) l.length cap/\(0<l.length->a.spot=none) /\∀r j (hj:j<sh.length),r<l.length->∃v,X.w.cell? ⟨a.block,a.off+r*sh.length+j,none⟩=some v/\RepU X.w X.M sh[j] (zJ l r j) v:=by
 cases hx with
 | imm sh' l' v himm=>
  simp only[vr,qOL,qPl] at h;obtain⟨rfl,rfl⟩:=h;rcases himm with h|⟨a,cap,h1,h2,_,h3⟩
  ·exact .inl h
  ·exact .inr ⟨a,cap,h1,h2,fun r j hj hr=>(h3 r j hj hr).2⟩
 | vec b p n c hb hv=>
  obtain⟨e,hh⟩:=qgr h;have hvv:=hv sh l.length ⟨e,l,hh,rfl⟩;unfold qzF at hvv;rcases hs.rows hh with⟨e1,rfl⟩|⟨n0,c0,e1,e2,e3⟩
  ·rw[e1] at hvv;obtain⟨p',hvv⟩:=hvv;cases p' with
   | none=>exact .inl ⟨hvv,rfl⟩
   | some a=>exact .inr ⟨a,0,hvv,fun h=>absurd h (Nat.lt_irrefl 0),fun r j hj hr=>absurd hr (qQC r)⟩
  ·rw[e1] at hvv;obtain⟨cap,q1,_⟩:=hvv;refine .inr ⟨⟨n0,0,none⟩,cap,q1,fun _=>rfl,fun r j hj hr=>?_⟩;obtain⟨v,g1,g2⟩:=e3 r j hj hr;exact⟨v,by rw[zS e2];simpa using g1,g2⟩
 | _=>simp[vr] at h
theorem qx1 {sh:List Sh}(h:qn5 sh=true):sh=[.int .u8]:=by
 unfold qn5 at h;split at h
 ·rfl
 ·cases h
theorem qtD:∀(ns:List Int) (r:ByteArray),ns.foldl (fun r n=>r.push (UInt8.ofNat n.toNat)) r=⟨r.data++(ns.map fun n=>UInt8.ofNat n.toNat).toArray⟩
 | [],r=>by simp
 | n::ns,r=>by
  simp only[qQB,qPS];rw[qtD ns];simp[ByteArray.push]
theorem qyF (hE:E.tok P)(hs:HSim B X){src dst e:TypeId}{es:Nat}(h1:(E.ty src).d=.slice e es)(h2:(E.ty dst).d=.str){a:AV}{v:Value}(hv:Rep X a v)(h:(qtx E X.h e a).run=some r):∃av u,r=(av,X.h,none)/\(convert src dst v).run P X.w=.ok u X.w/\Rep X av u:=by
 unfold qtx at h;cases hd:(E.ty e).d with
 | int k=>
  rw[hd] at h;cases k<;>first|(cases h;done)|skip
  simp only at h;cases hr:vr X.h a with
  | none=>rw[hr] at h;cases h
  | some q=>
   obtain⟨sh,l⟩:=q;rw[hr] at h;simp only at h;split at h
   ·rename_i hb;cases h;have hsh:=qx1 hb;subst hsh;have e1:=(q1i hE h1).1;have e2:=qiJ hE h2;have e3:=qvw hE hd;refine⟨_,.string ⟨(qrw l).toArray⟩,rfl,?_,.str _⟩;rcases qFF hs hv hr with⟨rfl,rfl⟩|⟨ad,cap,rfl,hsp,hc⟩
    ·rw[run_convert_bytes_string X.w src dst e none 0 0 e1 e3 e2];simp[Conv.bytesToString,qrw];rfl
    ·rw[run_convert_bytes_string X.w src dst e (some ad) l.length cap e1 e3 e2];have hl:=run_loadCells_list (P:=P) X.w ad (((List.range l.length).map fun r:Nat=>(zJ l r 0).toI).map (Value.int .u8)) (fun j v hj=>by
      have hj':j<l.length:=by have:=(qQq.1 hj).1;simpa using this
      obtain⟨u,g1,g2⟩:=hc j 0 (by simp) hj';simp only[List.map_map,qOU,qPp hj',qPk,qOL] at hj;have hs0:=hsp (by omega);have hadd:ad.add j=⟨ad.block,ad.off+j,none⟩:=by obtain⟨b,o,s⟩:=ad;simp only at hs0;subst hs0;unfold Addr.add;split<;>simp_all
      rw[hadd];simp only[qPg,qPu,qPD,qQr,qPB] at g1;rw[g1];cases g2;rw[<-hj];rfl)
     simp only[qOV,qPm] at hl;rw[run_bytesToString X.w ad l.length cap _ hl,qtD];congr 3;have he0:ByteArray.empty.data=#[]:=rfl;rw[he0];rw[Array.empty_append];congr 1;unfold qrw;apply qPC;intro i;by_cases hi:i<l.length
     ·simp[hi,zJ]
     ·simp[hi]
   ·cases h
 | _=>rw[hd] at h;cases h
theorem qz9 (hE:E.tok P)(hs:HSim B X){src dst:TypeId}{a:AV}{v:Value}(hv:Rep X a v)(h:(qkS E X.h src dst a).run=some r) :∃av u,r=(av,X.h,none)/\(convert src dst v).run P X.w=.ok u X.w/\Rep X av u:=by
 unfold qkS at h;split at h
 ·rename_i e es h1;split at h
  ·rename_i h2;exact qyF hE hs h1 h2 hv h
  ·cases h
 ·exact qAi hE hv h
theorem qBi (v:Value)(b:Nat):jl v≠.vec b:=by unfold jl;split<;>simp
theorem qjQ{h:List Blk}{sh:List Sh}{zs:List AV}{us:List U}(hu:qte h sh zs=some us)(hl:zs.length=sh.length):∀n,qlO h sh n (List.replicate n zs).flatten=some (List.replicate n us)
 | 0=>by simp[qlO]
 | n+1=>by
  simp only[qQa,qQV,qlO];have h2:=qjQ hu hl n;rw[<-hl,List.take_left,List.drop_left,hu];simp only[h2]
theorem qCQ (hE:E.tok P)(hs:HSim B X){t:TypeId}{x y:AV}{vx vy:Value}(hx:Rep X x vx)(hy:Rep X y vy)(h:(qHi E X.h t x y).run=some r) :qL P B X (do pure (.value (<-Instr.makeSlice t vx vy))) r:=by
 unfold qHi at h;cases hd:(E.ty t).d<;>rw[hd] at h<;>try (cases h;done)
 rename_i e es;obtain⟨ht,rfl⟩:=q1i hE hd;cases h1:asI x with
 | none=>rw[h1] at h;cases h
 | some p=>
  obtain⟨k,n⟩:=p;cases h2:asI y with
  | none=>rw[h1,h2] at h;cases h
  | some q=>
   obtain⟨k',m⟩:=q;rw[h1,h2] at h;simp only at h;obtain rfl:=q49 hx h1;obtain rfl:=q49 hy h2;cases hsh:E.shape 16 e with
   | none=>rw[hsh] at h;cases h
   | some sh=>
    rw[hsh] at h;simp only at h;by_cases hc:sh.length=P.cellsOf e/\0<P.cellsOf e/\(E.ty e).zero.length=P.cellsOf e
    ·rw[if_pos hc] at h;obtain⟨hc1,hc2,hc3⟩:=hc;cases hu:qte X.h sh ((E.ty e).zero.map jl) with
     | none=>rw[hu] at h;cases h
     | some us=>
      rw[hu] at h;obtain⟨g1,g2⟩:=j9 h;obtain⟨g3,g4⟩:=j9 g2;cases g4;have hnm:n=m:=by simpa[ieq] using g1
      subst hnm;obtain⟨q1,q2⟩:=q0d g3;obtain⟨i,z,he⟩:=qHQ hE hc2 hc3;obtain⟨b1,b2⟩:=he.by_ n.toNat (by rw[qQD q1];exact q2);have hzz:(E.ty e).zero.map jl=z.cells.toList.map jl:=by obtain⟨z',z1,z2,i',hi',hz'⟩:=qhd hE (t:=e) (by omega) X.w;rw[he.hi] at hi';cases hi';rw[he.hz] at hz';cases hz';rw[z2]
      have hrun:=run_make (P:=P) X.w t e i z ht he.hi he.hz k k' n n q1 (qPr _) (by
       have:(i.bytes:Int)*n=((n.toNat*i.bytes:Nat):Int):=by rw[qPz,qQD q1,qPU]
       rw[this];omega) (by omega)
      have hmk:madeCells z.cells (n.toNat*i.size)=(Array.range (n.toNat*z.cells.size)).map (z.cells[·%z.cells.size]!):=by rw[he.size,<-he.zs];rfl
      have hini:RepL X (List.replicate n.toNat ((E.ty e).zero.map jl)).flatten (madeCells z.cells (n.toNat*i.size)).toList:=by rw[hmk,qDL,hzz];exact qfd (jA X _) _
      have hzl:((E.ty e).zero.map jl).length=sh.length:=by rw[qOV,hc3,hc1]
      obtain⟨f1,f2⟩:=qnx hs (Ext.refl X) n.toNat (qjQ hu hzl n.toNat) (fun a ha b e sh l hab _=>by exfalso;obtain⟨l',hl',ha'⟩:=List.mem_flatten.1 ha;rw[(qQW.1 hl').2] at ha';obtain⟨v,_,hv⟩:=qPE.1 ha';exact qBi v b (hv.trans hab)) hini;have hpw:=PushW.alloc X (.cells (madeCells z.cells (n.toNat*i.size)) e);have hx2:=Ctx.push_ext hs (.vec e sh (q4e n us)) hpw;have hsz:(madeCells z.cells (n.toNat*i.size)).size=n.toNat*sh.length:=by rw[size_madeCells,he.size,hc1]
      have hvec:=qv2 (X:=X) (e:=e) (sh:=sh) (l:=q4e n us) (n:=X.w.heap.size) (cap:=n.toNat) (w':=X.w.alloc (.cells (madeCells z.cells (n.toNat*i.size)) e)) (Nat.le_of_eq f1) (by unfold maxLen;omega) (zU _ _) hsz;have hvl:(q4e n us).length=n.toNat:=f1;rw[hvl] at hvec;refine⟨.value (.slice (some ⟨X.w.heap.size,0,none⟩) n.toNat n.toNat),_,X.pushW (.vec e sh (q4e n us)) (some X.w.heap.size) _,?_,.inl rfl,hvec,hs.push hpw ?_,rfl,hx2⟩
      ·rw[qOQ,hrun];rfl
      ·refine .inr ⟨X.w.heap.size,_,by simp[Ctx.pushW],zU _ _,fun r j hj hr=>?_⟩;obtain⟨v,w1,w2⟩:=f2.2 r j hj hr;exact⟨v,by simpa using w1,w2.mono hx2.M hx2.w⟩
    ·rw[if_neg hc] at h;cases h
theorem qCo (hE:E.tok P)(hs:HSim B X){ts:List TypeId}{azz:List AV}{vs:List Value}(hv:RepL X azz vs)(h:(qCM E X.h ts azz).run=some r)(ty:TypeId) :qL P B X (do pure (.value (<-Builtin.copy_ ts.toArray ty vs.toArray))) r:=by
 unfold qCM at h;split at h
 ·rename_i t t' b i s;cases hd:(E.ty t).d<;>rw[hd] at h<;>try (cases h;done)
  rename_i e0 es;obtain⟨ht,rfl⟩:=q1i hE hd;cases hb:X.h[b]? with
  | none=>rw[hb] at h;cases h
  | some kb=>
   rw[hb] at h;cases kb with
   | vec e sh l=>
    simp only at h;split at h
    ·rename_i hc;obtain⟨hc1,hc2⟩:=hc;have hsh:=qx1 hc1;subst hsh;obtain⟨g1,g2⟩:=j9 h;cases g2;have hle:(s.length:Int)<=(l.length:Int)-i:=of_decide_eq_true g1;cases hv with
     | cons hv1 hv=>cases hv with
      | cons hv2 hv=>cases hv with
       | nil=>
        obtain rfl:=qD2 hv2;cases hv1 with
        | vsub _ _ n k m c hbl hσ hk=>
         obtain⟨q1,q2,q3,q4⟩:=hk _ _ ⟨e,l,.inl hb,rfl⟩;simp only[qPg,qPu,qPD,qQr] at q3;subst q4;rcases hs.blk b _ hb with⟨e1,_⟩|⟨n',cc,e1,e2,e3⟩
         ·rw[hσ] at e1;cases e1
         rw[hσ] at e1;cases e1;have hsl:i.toNat+s.length<=l.length:=by omega
         have hlast:l.length<=cc.size:=by
          rcases qPT l.length with h0|h0
          ·omega
          ·obtain⟨v',w1,_⟩:=e3 (l.length-1) 0 (by simp) (by omega);have:=(qOR.1 w1).1;simp at this;omega
         have hk2:k=i.toNat\/(s=[]/\k=0):=by
          rcases q3 with h1|⟨h1,h2⟩
          ·exact .inl h1
          ·exact .inr ⟨qQi (by omega),h2⟩
         let cs:List Value:=s.map fun c=>Value.int .u8 (c.toNat:Int)
         have hcl:cs.length=s.length:=by simp[cs]
         have hkl:k+s.length<=cc.size:=by
          rcases hk2 with h1|⟨h1,h2⟩
          ·omega
          ·rw[h1,h2];simp
         have hst:=run_storeCells_at P n k e cs 0 cc X.w e2 (by rw[hcl];omega) (fun v hv=>by obtain⟨c,_,hc⟩:=qPE.1 hv;rw[<-hc];rfl);rw[qPB,hcl] at hst;have hup:=UpdW.setRow (X:=X) (c':=(cc.toList.take k++cs++cc.toList.drop (k+s.length)).toArray) e2 (by simp[hcl];omega);have hown:X.own b n:=⟨hσ,_,hb,rfl⟩;have hrl:(qBw l i s).length=l.length:=by simp[qBw];omega
         have hkk:qiL (.vec e [.int .u8] l) (.vec e [.int .u8] (qBw l i s)):=⟨rfl,rfl,hrl.symm⟩;have hx:=Ctx.upd_ext hs hb hown hup hkk;have hinfo:(P.info? e0).map (·.size)=some 1:=by obtain⟨ii,w1,w2⟩:=qCS (P:=P) (e:=e0) (by omega);rw[w1,qPk,w2,<-hc2]
         have hmin:Nat.min s.length (l.length-i.toNat)=s.length:=qPK (by omega);have hcsE:(((ByteArray.mk s.toArray).extract 0 s.length).data.map fun b=>Value.int .u8 (b.toNat:Int)).toList=cs:=by
          have:((ByteArray.mk s.toArray).extract 0 s.length).data=s.toArray:=by simp
          rw[this];simp[cs]
         refine⟨.value (goInt s.length),goInt s.length,X.upd b (.vec e [.int .u8] (qBw l i s)) (X.w.setRow n _),?_,.inl rfl,?_,hs.upd hb hown hup hkk ?_,rfl,hx⟩
         ·cases hq:P.info? e0 with
          | none=>rw[hq] at hinfo;cases hinfo
          | some ii=>
           have hsize:ii.size=1:=by rw[hq] at hinfo;simpa using hinfo
           have hsz:(ByteArray.mk s.toArray).size=s.length:=rfl;have hcopy:(Builtin.copy_ (List.toArray [t,t']) ty (List.toArray [.slice (some ⟨n,k,none⟩) (l.length-i.toNat) c,.string ⟨s.toArray⟩])).run P X.w =
             .ok (goInt s.length) (X.w.setRow n (cc.toList.take k++cs++cc.toList.drop (k+s.length)).toArray):=by
            have htk:List.take s.length (List.map (fun b:UInt8=>Value.int IntKind.u8 (b.toNat:Int)) s)=cs:=by rw[List.take_of_length_le (by simp)]
            simp[Builtin.copy_,run_underlying ht,Builtin.lenOf,Builtin.firstCells,sizeOf,typeInfo,hq,hsz,hmin];rw[htk,hst];simp[Result.andThen]
           rw[qOQ,hcopy];rfl
         ·have:goInt s.length=.int .i64 (qv s):=rfl;rw[this];exact .int _ _
         ·refine .inr ⟨n,_,hσ,hup.new,fun r j hj hr=>?_⟩;rw[hrl] at hr;have hj0:j=0:=by simpa using hj
          subst hj0;obtain⟨v,w1,w2⟩:=e3 r 0 hj hr;simp only[qPg,qPu,qPD,qQr,qPB] at w1 ⊢;have hcu:∀(f:R) (k:Nat),zJ f (k:Int) 0=(f[k]?.getD []).getD 0 (.i 0):=fun f k=>by unfold zJ;rw[qOX,qOM (l:=f)]
          rw[List.getElem?_toArray];rcases hk2 with hki|⟨hs0,hk0⟩
          ·subst hki;have hcl2:(cc.toList.take i.toNat).length=i.toNat:=by simp;omega
           have hll:(l.take i.toNat).length=i.toNat:=by simp;omega
           rcases qOT r i.toNat with hlt|hge
           ·refine⟨v,?_,?_⟩
            ·rw[qPj,qOY (by omega),qPQ,if_pos hlt];simpa using w1
            ·have:zJ (qBw l i s) r 0=zJ l r 0:=by rw[hcu,hcu];unfold qBw;rw[qPj,qOY (by omega),qPQ,if_pos hlt]
             rw[this];exact w2.mono hx.M hx.w
           ·rcases qOT r (i.toNat+s.length) with hlt2|hge2
            ·have hrs:r-i.toNat<s.length:=by omega
             refine⟨.int .u8 (s[r-i.toNat].toNat:Int),?_,?_⟩
             ·rw[qPj,qP4 (by omega),hcl2,qOY (by rw[hcl];omega)];simp[cs,hrs]
             ·have:zJ (qBw l i s) r 0=.i (s[r-i.toNat].toNat:Int):=by rw[hcu];unfold qBw;rw[qPj,qP4 (by omega),hll,qOY (by simp;omega)];simp[hrs]
              rw[this];exact .int .u8 (.i _)
            ·refine⟨v,?_,?_⟩
             ·rw[qP4 (by simp[hcl2,hcl];omega)];simp only[qP6,hcl2,hcl,qPR];rw[show i.toNat+s.length+(r-(i.toNat+s.length))=r by omega];simpa using w1
             ·have:zJ (qBw l i s) r 0=zJ l r 0:=by rw[hcu,hcu];unfold qBw;rw[qP4 (by simp;omega),qPR];simp only[qP6,hll,qOV];rw[show i.toNat+s.length+(r-(i.toNat+s.length))=r by omega]
              rw[this];exact w2.mono hx.M hx.w
          ·subst hs0 hk0;refine⟨v,by simpa[cs] using w1,?_⟩;have:qBw l i []=l:=by simp[qBw]
           rw[this];exact w2.mono hx.M hx.w
    ·cases h
   | _=>cases h
 ·cases h
end Go.Eng

