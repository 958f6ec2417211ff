/- Texts of the proof, merged: what the code computes, and plain laws. No statement stands here. -/
import Derived.Test.YtlocjddojobamaaGreatDoorM4
namespace Go.Eng
theorem qCy {m:Int} (h:(tN m.natAbs).length≤18):m.natAbs<1000000000000000000:=Nat.lt_of_lt_of_le (q42 h) (by decide)
theorem qgE {n t:Int} (hn:n≠0) (h:-9223372036854775808≤t∧t≤9223372036854775807):uA .i64 (n*t) n=t:=by
 unfold uA
 rw [Int.mul_tdiv_cancel_left _ hn]
 unfold IntKind.wrap
 simp [IntKind.signed,IntKind.bits];omega
theorem qDq (m:Int) (n:Int):(m.tdiv n).natAbs≤m.natAbs:=by
 rw [Int.natAbs_tdiv];exact Nat.div_le_self _ _
theorem qCp {m n:Int} (hn:n≠0) :
  (q69 m n≠0∧¬ ((q69 m n<0)=(n<0))→fq m n=m.tdiv n - 1∧m - fq m n*n=q69 m n+n)∧(¬ (q69 m n≠0∧¬ ((q69 m n<0)=(n<0)))→fq m n=m.tdiv n∧m - fq m n*n=q69 m n):=by
 obtain ⟨h1,h2,h3,h4⟩:=qmp m hn
 generalize m.tdiv n=t at *
 generalize q69 m n=r at *
 have e:n*t=t*n:=Int.mul_comm _ _
 have e2:(t - 1)*n=t*n - n:=by rw [Int.sub_mul,Int.one_mul]
 constructor
 ·intro ⟨c1,c2⟩
  have c3:¬ (r<0↔n<0):=fun h=>c2 (propext h)
  have:fq m n=t - 1:=by
   apply qmf
   rw [e2]
   rcases Int.lt_or_lt_of_ne hn with h | h
   ·have:¬ r<0:=fun q=>c3 ⟨fun _=>h,fun _=>q⟩
    exact .inr ⟨h,by omega,by omega⟩
   ·have:r<0:=by
     rcases Decidable.em (r<0) with q | q
     ·exact q
     ·exact absurd ⟨fun x=>by omega,fun x=>by omega⟩ c3
    exact .inl ⟨h,by omega,by omega⟩
  rw [this,e2]
  exact ⟨rfl,by omega⟩
 ·intro c
  have c':r=0∨(r<0↔n<0):=by
   rcases Decidable.em (r=0) with q | q
   ·exact .inl q
   ·right
    rcases Decidable.em (r<0↔n<0) with q2 | q2
    ·exact q2
    ·exact absurd ⟨q,fun h=>q2 (by rw [h])⟩ c
  have:fq m n=t:=by
   apply qmf
   rcases Int.lt_or_lt_of_ne hn with h | h
   ·rcases c' with q | q
    ·exact .inr ⟨h,by omega,by omega⟩
    ·have:=q.2 h;exact .inr ⟨h,by omega,by omega⟩
   ·rcases c' with q | q
    ·exact .inl ⟨h,by omega,by omega⟩
    ·have:¬ r<0:=fun x=>by have:=q.1 x;omega
     exact .inl ⟨h,by omega,by omega⟩
  rw [this]
  exact ⟨rfl,by omega⟩
theorem qES {m n : Int} (hn : n ≠ 0) :
    (m.natAbs % n.natAbs ≠ 0 ∧ ¬ ((m < 0) = (n < 0)) → fq m n = -((m.natAbs / n.natAbs : Nat) : Int) - 1) ∧
    (¬ (m.natAbs % n.natAbs ≠ 0 ∧ ¬ ((m < 0) = (n < 0))) → fq m n = if ¬ ((m < 0) = (n < 0)) then -((m.natAbs / n.natAbs : Nat) : Int) else ((m.natAbs / n.natAbs : Nat) : Int)) := by
  have hd := Nat.div_add_mod m.natAbs n.natAbs
  have hl := Nat.mod_lt m.natAbs (show 0 < n.natAbs by omega)
  generalize m.natAbs / n.natAbs = q at *
  generalize m.natAbs % n.natAbs = r at *
  have hq : ((n.natAbs * q : Nat) : Int) = (n.natAbs : Int) * (q : Int) := by simp
  have e1 : n < 0 → (n.natAbs : Int) * (q : Int) = -((q : Int) * n) := fun h => by rw [show (n.natAbs : Int) = -n by omega, Int.neg_mul, Int.mul_comm]
  have e2 : 0 < n → (n.natAbs : Int) * (q : Int) = (q : Int) * n := fun h => by rw [show (n.natAbs : Int) = n by omega, Int.mul_comm]
  have e3 : (-(q : Int) - 1) * n = -((q : Int) * n) - n := by rw [Int.sub_mul, Int.neg_mul, Int.one_mul]
  have e4 : (-(q : Int)) * n = -((q : Int) * n) := Int.neg_mul _ _
  constructor
  · intro ⟨c1, c2⟩
    have c3 : ¬ (m < 0 ↔ n < 0) := fun h => c2 (propext h)
    apply qmf
    rw [e3]
    rcases Int.lt_or_lt_of_ne hn with h | h
    · have := e1 h
      have : ¬ m < 0 := fun q => c3 ⟨fun _ => h, fun _ => q⟩
      exact .inr ⟨h, by omega, by omega⟩
    · have := e2 h
      have : m < 0 := by
        rcases Decidable.em (m < 0) with q | q
        · exact q
        · exact absurd ⟨fun x => by omega, fun x => by omega⟩ c3
      exact .inl ⟨h, by omega, by omega⟩
  · intro c
    by_cases c2 : (m < 0) = (n < 0)
    · rw [if_neg (by simpa using c2)]
      have c3 : m < 0 ↔ n < 0 := by rw [c2]
      apply qmf
      rcases Int.lt_or_lt_of_ne hn with h | h
      · have := e1 h
        have := c3.2 h
        exact .inr ⟨h, by omega, by omega⟩
      · have := e2 h
        have : ¬ m < 0 := fun x => by have := c3.1 x; omega
        exact .inl ⟨h, by omega, by omega⟩
    · rw [if_pos c2]
      have hr : r = 0 := by
        rcases Nat.eq_zero_or_pos r with h | h
        · exact h
        · exact absurd ⟨by omega, c2⟩ c
      have c3 : ¬ (m < 0 ↔ n < 0) := fun h => c2 (propext h)
      apply qmf
      rw [e4]
      rcases Int.lt_or_lt_of_ne hn with h | h
      · have := e1 h
        have : ¬ m < 0 := fun q => c3 ⟨fun _ => h, fun _ => q⟩
        exact .inr ⟨h, by omega, by omega⟩
      · have := e2 h
        have : m ≤ 0 := by
          rcases Decidable.em (m < 0) with q | q
          · omega
          · exact absurd ⟨fun x => by omega, fun x => by omega⟩ c3
        exact .inl ⟨h, by omega, by omega⟩
theorem qBc:tI 1=[49]:=rfl
theorem q4J (n:Nat):(tN n=[48])=(n=0):=by
 rw [← qwT];exact propext ⟨fun h=>qsJ h,fun h=>by rw [h]⟩
theorem qC3 (m:Int) {n:Int} (hn:n≠0):nl (fq m n)≤nl m+2:=by
 have h:=qFf m hn
 have h2:=q08 h
 have h3:=qwE m.natAbs 1
 have h4:(tN 1).length=1:=rfl
 have:=qht m.natAbs
 unfold nl
 omega
theorem q4f (m n : Int) (hn0 : n ≠ 0) (hm : nl m ≤ 400000) (hn : nl n ≤ 400000) : (z8 [.s (tI m), .s (tI n)]).run = some (0, [.s (tI (fq m n)), .s (tI (m - fq m n * n))]) := by
  rw [qpe]
  have hbr := q5z m n
  by_cases hb : (tN m.natAbs).length ≤ 18 ∧ (tN n.natAbs).length ≤ 18
  · rw [if_pos hb] at hbr
    have b1 := qCy hb.1
    have b2 := qCy hb.2
    obtain ⟨h1, h2, h3, h4⟩ := qmp m hn0
    obtain ⟨g1, g2⟩ := qCp (m := m) hn0
    have ht := qDq m n
    by_cases c0 : q69 m n = 0
    · obtain ⟨e1, e2⟩ := g2 (fun h => h.1 c0)
      rw [e2, e1]
      have w1 : zi .i64 m (q69 m n) = n * m.tdiv n := by rw [kd (by omega)]; omega
      have w2 := qgE (t := m.tdiv n) hn0 (by omega)
      have o1 := q3g (m.tdiv n) (by omega) (by omega)
      have o2 := q3g (q69 m n) (by omega) (by omega)
      simp only [STD, hbr, hn0, c0] at w1 o2 ⊢
      simp only [STD, w1, w2, o1, o2]
    · by_cases c1 : (q69 m n < 0) = (n < 0)
      · obtain ⟨e1, e2⟩ := g2 (fun h => h.2 c1)
        rw [e2, e1]
        have w1 : zi .i64 m (q69 m n) = n * m.tdiv n := by rw [kd (by omega)]; omega
        have w2 := qgE (t := m.tdiv n) hn0 (by omega)
        have o1 := q3g (m.tdiv n) (by omega) (by omega)
        have o2 := q3g (q69 m n) (by omega) (by omega)
        have hbq : (ilt (q69 m n) 0 = ilt n 0) = True := by
          simp only [ilt, decide_eq_decide, eq_iff_iff, iff_true]
          rw [c1]
        simp only [STD, hbr, hn0, c0, hbq, w1, w2, o1, o2]
      · obtain ⟨e1, e2⟩ := g1 ⟨c0, c1⟩
        rw [e2, e1]
        have w0 : qw .i64 (q69 m n) n = q69 m n + n := wH (by omega)
        have e3 : n * (m.tdiv n - 1) = n * m.tdiv n - n := by rw [Int.mul_sub, Int.mul_one]
        have w1 : zi .i64 m (q69 m n + n) = n * (m.tdiv n - 1) := by rw [kd (by omega)]; omega
        have w2 := qgE (t := m.tdiv n - 1) hn0 (by omega)
        have o1 := q3g (m.tdiv n - 1) (by omega) (by omega)
        have o2 := q3g (q69 m n + n) (by omega) (by omega)
        have hbq : (ilt (q69 m n) 0 = ilt n 0) = False := by
          simp only [ilt, decide_eq_decide, eq_iff_iff, iff_false]
          exact fun h => c1 (propext h)
        simp only [STD, hbr, hn0, c0, hbq, w0, w1, w2, o1, o2]
  · rw [if_neg hb] at hbr
    have hm' : (tN m.natAbs).length ≤ 400000 := hm
    have hn' : (tN n.natAbs).length ≤ 400000 := hn
    have hD := qr4 (m := m.natAbs) (n := n.natAbs) (by omega) (by omega) (by omega)
    have lq : (tN (m.natAbs / n.natAbs)).length ≤ (tN m.natAbs).length := q08 (Nat.div_le_self _ _)
    have hS := fun b => q0B (m.natAbs / n.natAbs) b (by omega)
    have hbq : (decide (m < 0) = decide (n < 0)) = ((m < 0) = (n < 0)) := by
      simp only [decide_eq_decide, eq_iff_iff]
    have lf := qC3 m hn0
    have hT := qkO (fq m n) n (by omega) (by omega)
    have lt := uq (fq m n) n
    have hM := q8P m (fq m n * n) (by omega) (by omega)
    obtain ⟨g1, g2⟩ := qES (m := m) hn0
    by_cases c1 : (m < 0) = (n < 0)
    · have e1 := g2 (fun h => h.2 c1)
      rw [if_neg (by simpa using c1)] at e1
      have hS' := hS false
      simp only [Bool.false_eq_true, if_false] at hS'
      rw [← e1] at hS'
      have hnb : (!Go.Eng.beq (decide (m < 0)) (decide (n < 0))) = false := by
        simp only [Go.Eng.beq, Bool.not_eq_false', beq_iff_eq]; rw [hbq]; exact c1
      by_cases c0 : m.natAbs % n.natAbs = 0
      · simp only [STD, hbr, vS, hD, jH, hnb, hS', wc, q4J, c0, hT, hM]
      · simp only [STD, hbr, vS, hD, jH, hnb, hS', wc, q4J, c0, hT, hM]
    · have hnb : (!Go.Eng.beq (decide (m < 0)) (decide (n < 0))) = true := by
        have : ¬ (decide (m < 0) = decide (n < 0)) := by rw [hbq]; exact c1
        simp only [Go.Eng.beq, Bool.not_eq_true', beq_eq_false_iff_ne]; exact this
      have hS' := hS true
      simp only [if_true] at hS'
      by_cases c0 : m.natAbs % n.natAbs = 0
      · have e1 := g2 (fun h => h.1 c0)
        rw [if_pos c1] at e1
        rw [← e1] at hS'
        simp only [STD, hbr, vS, hD, jH, hnb, hS', wc, q4J, c0, hT, hM]
      · have e1 := g1 ⟨c0, c1⟩
        have hMi := q8P (-((m.natAbs / n.natAbs : Nat) : Int)) 1 (by rw [qpS]; show (tN (m.natAbs / n.natAbs)).length ≤ _; omega) (by decide)
        rw [qBc, ← e1] at hMi
        simp only [STD, hbr, vS, hD, jH, hnb, hS', wc, q4J, c0, hMi, hT, hM]
end Go.Eng

namespace Go.Eng
theorem qEW (x:Nat) {y:Nat} (h:0<y):fq (x:Int) (y:Int)=((x / y:Nat):Int)∧(x:Int) - fq (x:Int) (y:Int)*(y:Int)=((x % y:Nat):Int):=by
 have e:fq (x:Int) (y:Int)=((x / y:Nat):Int):=by unfold fq;rw [if_pos (by omega)];rfl
 refine ⟨e,?_⟩
 rw [e]
 have:=Nat.div_add_mod x y
 have h2:((y*(x / y):Nat):Int)=((x / y:Nat):Int)*(y:Int):=by rw [Nat.mul_comm];simp
 omega
theorem qCF (a b:Nat) (hb:b<9223372036854775808):(qg jq [.i (a:Int),.i (b:Int)]).run=some (0,[.i ((Nat.gcd a b:Nat):Int)]):=by
 obtain ⟨j,qs,h1,rfl,rfl⟩:=yu (S:=jq) (fun k ps=>∃ x y:Nat,ps=[.i (x:Int),.i (y:Int)]∧y=k∧Nat.gcd x y=Nat.gcd a b)
  (fun j qs=>j=0∧qs=[.i ((Nat.gcd a b:Nat):Int)]) (n:=b) hb (fun k ps hk ⟨x,y,hps,hy,hg⟩=>by
  subst hps
  rw [qlq]
  by_cases h0:y=0
  ·right
   refine ⟨0,[.i (x:Int)],?_,rfl,?_⟩
   ·simp only [STD,h0];simp []
   ·rw [← hg,h0,Nat.gcd_zero_right]
  ·left
   refine ⟨x % y,[.i (y:Int),.i ((x % y:Nat):Int)],by rw [← hy];exact Nat.mod_lt _ (by omega),?_,y,x % y,rfl,rfl,?_⟩
   ·simp only [STD,show (0:Int)<(y:Int) by omega,show ¬ ((y:Int)=0) by omega,qos]
   ·rw [← hg,Nat.gcd_comm y,← Nat.gcd_rec,Nat.gcd_comm]) (ps:=[.i (a:Int),.i (b:Int)]) ⟨a,b,rfl,rfl,rfl⟩
 exact h1
def eM (a b:Nat):Nat:=if b=0 then 0 else Nat.log2 (a*b)+1+if a<b then 1 else 0
theorem qBq {m n:Nat} (h:m≤n):Nat.log2 m≤Nat.log2 n:=by
 by_cases hm:m=0
 ·subst hm;simp
 ·rcases Nat.lt_or_ge (Nat.log2 n) (Nat.log2 m) with h1 | h1
  ·have:=(Nat.log2_lt (show n≠0 by omega)).1 h1
   have h2:=Nat.log2_self_le hm
   omega
  ·exact h1
theorem qB5 {a b : Nat} (hb : b ≠ 0) : eM b (a % b) < eM a b := by
  have hlt := Nat.mod_lt a (show 0 < b by omega)
  unfold eM
  rw [if_neg hb]
  by_cases hr : a % b = 0
  · rw [if_pos hr]; omega
  · rw [if_neg hr, if_neg (show ¬ b < a % b by omega)]
    by_cases hab : a < b
    · rw [if_pos hab, Nat.mod_eq_of_lt hab, Nat.mul_comm b a]; omega
    · rw [if_neg hab]
      have hd := Nat.div_add_mod a b
      have hq : 1 ≤ a / b := (Nat.le_div_iff_mul_le (by omega)).2 (by omega)
      have h1 : b * 1 ≤ b * (a / b) := Nat.mul_le_mul_left _ hq
      have h2 : 2 * (b * (a % b)) ≤ a * b := by
        have : 2 * (a % b) ≤ a := by omega
        have := Nat.mul_le_mul_right b this
        rw [Nat.mul_assoc, Nat.mul_comm (a % b) b] at this
        exact this
      have h3 := qBq h2
      have h4 : Nat.log2 (2 * (b * (a % b))) = Nat.log2 (b * (a % b)) + 1 := by
        apply Nat.log2_two_mul
        exact Nat.mul_ne_zero hb hr
      omega
theorem qyt0 {x k j:Nat} (h:(tN x).length≤k) (hj:4*k=j):x<2 ^ j:=by
 have h3:x<10 ^ k:=q42 h
 have h4:(10:Nat) ^ k≤16 ^ k:=Nat.pow_le_pow_left (by omega) _
 have h5:(16:Nat) ^ k=2 ^ j:=by rw [show (16:Nat)=2 ^ 4 from rfl,← Nat.pow_mul,hj]
 rw [h5] at h4
 exact Nat.lt_of_lt_of_le h3 h4
theorem qyt {a b:Nat} (ha:(tN a).length≤400000) (hb:(tN b).length≤400000):eM a b<9223372036854775808:=by
 unfold eM
 have h1:=qoN a b
 by_cases h0:a*b=0
 ·rw [h0];simp;split <;> (try split) <;> omega
 ·obtain ⟨j,hj⟩:∃ j,j=3200000:=⟨_,rfl⟩
  have h2:a*b<2 ^ j:=qyt0 (k:=800000) (by omega) (by omega)
  have:=(Nat.log2_lt h0).2 h2
  split <;> (try split) <;> omega
theorem qhY (m n:Int) (hm:nl m≤400000) (hn:nl n≤400000):(z7 [.s (tI m),.s (tI n)]).run=some (0,[.s (tN (Nat.gcd m.natAbs n.natAbs))]):=by
 rw [qpM]
 have hm':(tN m.natAbs).length≤400000:=hm
 have hn':(tN n.natAbs).length≤400000:=hn
 have hS:=fun x (h:(tN x).length≤400000)=>q0B x false (by omega)
 simp only [Bool.false_eq_true,if_false,q1f] at hS
 obtain ⟨j,qs,h1,h2,rfl⟩:=yu (S:=jY) (fun k ps=>∃ x y:Nat,ps=[.s (tN x),.s (tN y)]∧eM x y=k∧Nat.gcd x y=Nat.gcd m.natAbs n.natAbs∧(tN x).length≤400000∧(tN y).length≤400000)
  (fun j qs=>(j=0∨j=1)∧qs=[.s (tN (Nat.gcd m.natAbs n.natAbs))]) (n:=eM m.natAbs n.natAbs) (qyt hm' hn') (fun k ps hk ⟨x,y,hps,hy,hg,lx,ly⟩=>by
  subst hps
  rw [qlQ]
  by_cases h0:y=0
  ·right
   refine ⟨0,[.s (tN x)],?_,.inl rfl,?_⟩
   ·simp only [STD,wc,q4J,h0]
   ·rw [← hg,h0,Nat.gcd_zero_right]
  ·have hbr:=q5z (x:Int) (y:Int)
   rw [q1f,q1f] at hbr
   simp only [Int.natAbs_natCast] at hbr
   by_cases hb:(tN x).length≤18∧(tN y).length≤18
   ·right
    rw [if_pos hb] at hbr
    have b1:=qCy (m:=(x:Int)) hb.1
    have b2:=qCy (m:=(y:Int)) hb.2
    simp only [Int.natAbs_natCast] at b1 b2
    have hE:=qCF x y (by omega)
    have hgl:Nat.gcd x y≤y:=Nat.gcd_le_right _ (by omega)
    have hO:=q3g ((Nat.gcd x y:Nat):Int) (by omega) (by omega)
    rw [q1f] at hO
    refine ⟨1,[.s (tN (Nat.gcd x y))],?_,.inr rfl,by rw [hg]⟩
    simp only [STD,wc,q4J,h0,hbr,hE,hO]
   ·left
    rw [if_neg hb] at hbr
    have hP:=q4f (x:Int) (y:Int) (by omega) (by exact lx) (by exact ly)
    rw [q1f,q1f,(qEW x (show 0<y by omega)).2,q1f] at hP
    refine ⟨eM y (x % y),[.s (tN y),.s (tN (x % y))],by rw [← hy];exact qB5 h0,?_,y,x % y,rfl,rfl,?_,ly,Nat.le_trans (q08 (Nat.le_of_lt (Nat.mod_lt _ (by omega)))) ly⟩
    ·simp only [STD,wc,q4J,h0,hbr,hP]
    ·rw [← hg,Nat.gcd_comm y,← Nat.gcd_rec,Nat.gcd_comm]) (ps:=[.s (tN m.natAbs),.s (tN n.natAbs)]) ⟨_,_,rfl,rfl,rfl,hm',hn'⟩
 rcases h2 with rfl | rfl
 ·simp only [STD,vS,hS _ hm',hS _ hn',h1,zb h1,ite_self]
 ·simp only [STD,vS,hS _ hm',hS _ hn',h1,zb h1,ite_self]
def mag (s:List UInt8):List UInt8:=if s.getD 0 0=45 then s.drop 1 else s
theorem quO (m:Int):mag (tI m)=tN m.natAbs:=by
 unfold mag
 by_cases h:m<0
 ·rw [qbq h];simp
 ·rw [qiW h]
  obtain ⟨c,t,e,h1,h2⟩:=qgR (vz m.natAbs) (qpJ _)
  rw [e]
  simp only [List.getD_cons_zero]
  rw [if_neg]
  intro hc;subst hc;revert h1;decide
theorem qw7 (s:List UInt8):(∃ m:Int,s=tI m)↔mag s≠[]∧q57 (mag s)∧((mag s).getD 0 0=48→s.length=1):=by
 constructor
 ·rintro ⟨m,rfl⟩
  rw [quO]
  refine ⟨qpJ _,vz _,fun h=>?_⟩
  rcases qBj m.natAbs with h1 | h1
  ·have h2:=quM m.natAbs
   have hv:m.natAbs=0:=by
    obtain ⟨c,e⟩:∃ c,tN m.natAbs=[c]:=List.length_eq_one_iff.1 h1
    rw [e] at h
    simp at h
    have:=q1i m.natAbs
    rw [e,h] at this
    simpa [val,dv] using this.symm
   have hm0:m=0:=by omega
   rw [hm0];rfl
  ·exact absurd h h1
 ·rintro ⟨h1,h2,h3⟩
  by_cases h45:s.getD 0 0=45
  ·have hm:mag s=s.drop 1:=by unfold mag;rw [if_pos h45]
   obtain ⟨c,t,rfl⟩:∃ c t,s=c :: t:=by
    cases s with
    | nil=>simp at h45
    | cons c t=>exact ⟨c,t,rfl⟩
   simp at h45
   subst h45
   rw [hm] at h1 h2 h3
   simp only [List.drop_succ_cons,List.drop_zero] at h1 h2 h3
   have h4:t.getD 0 0≠48:=fun h=>by
    have:=h3 h
    simp at this
    exact h1 this
   have hv:=qy5 h2 h1 h4
   have hp:0<10 ^ (t.length - 1):=Nat.pow_pos (by omega)
   refine ⟨-((val t:Nat):Int),?_⟩
   rw [qbq (by omega)]
   simp only [Int.natAbs_neg,Int.natAbs_natCast]
   rw [← qpi h2 h1 (.inr h4)]
  ·have hm:mag s=s:=by unfold mag;rw [if_neg h45]
   rw [hm] at h1 h2 h3
   refine ⟨((val s:Nat):Int),?_⟩
   rw [q1f]
   refine qpi h2 h1 ?_
   by_cases h4:s.getD 0 0=48
   ·exact .inl (h3 h4)
   ·exact .inr h4
open Classical in
noncomputable def qwi (s:List UInt8):Int:=if ∃ m:Int,s=tI m then (if (mag s).length≤1024 then 0 else 11) else 3
theorem qEr (s:List UInt8) (hl:s.length≤9223372036854775807):(ql [.s s]).run=some (0,[.s (mag s)]):=by
 rw [qki]
 cases s with
 | nil=>simp only [STD,wc];rfl
 | cons c t=>
  have h1:(0:Int)<qF (c :: t):=by unfold qF;simp only [List.length_cons];omega
  have h2:(1:Int)≤qF (c :: t):=by omega
  have hs:sat (c :: t) 0=(c.toNat:Int):=by simp [sat]
  have hc:((c.toNat:Int)=45)=(c=45):=by
   simp only [eq_iff_iff]
   exact ⟨fun h=>UInt8.toNat_inj.1 (by show c.toNat=45;omega),fun h=>by rw [h];rfl⟩
  simp only [STD,wc,show ¬ (c :: t=[]) by simp,h1,h2,hs,hc,Int.le_refl,and_self,show (0:Int)≤qF (c :: t) by omega,show (0:Int)≤1 by omega]
  unfold mag
  simp only [List.getD_cons_zero]
  by_cases h:c=45
  ·rw [if_pos h,if_pos h];simp [q70,qF]
  ·rw [if_neg h,if_neg h]
theorem ql6 (s : List UInt8) (hl : s.length ≤ 1000000000) : (jc [.s s]).run = some (0, [.i (qwi s)]) := by
  rw [qsf]
  have hsz := qEr s (by omega)
  have hml : (mag s).length ≤ s.length := by unfold mag; split <;> simp
  obtain ⟨j, qs, h1, h2⟩ := yu (S := vb) (fun k ps => ∃ i : Nat, ps = [.s (mag s), .i (i : Int)] ∧ i + k = (mag s).length ∧ q57 ((mag s).take i))
    (fun j qs => (q57 (mag s) ∧ j = 0 ∧ qs = [.s (mag s)]) ∨ (¬ q57 (mag s) ∧ j = 1 ∧ qs = [.i 3])) (n := (mag s).length) (by omega) (fun k ps hk ⟨i, hps, hi, hd⟩ => by
    subst hps
    rw [qoa]
    by_cases hlt : i < (mag s).length
    · have a1 : (i : Int) < qF (mag s) := by unfold qF; omega
      have a2 : (0 : Int) ≤ (i : Int) := by omega
      have hs := qiV hlt
      have hw : qw .i64 (i : Int) 1 = ((i + 1 : Nat) : Int) := by rw [wH (by omega)]; omega
      by_cases b1 : ((mag s)[i].toNat : Int) < 48
      · right
        refine ⟨1, [.i 3], ?_, .inr ⟨fun h => ?_, rfl, rfl⟩⟩
        · simp only [STD, a1, a2, hs, b1, and_self]
        · have := (qgF h hlt).1; omega
      · by_cases b2 : (57 : Int) < ((mag s)[i].toNat : Int)
        · right
          refine ⟨1, [.i 3], ?_, .inr ⟨fun h => ?_, rfl, rfl⟩⟩
          · simp only [STD, a1, a2, hs, b1, b2, and_self]
          · have := (qgF h hlt).2; omega
        · left
          refine ⟨k - 1, [.s (mag s), .i ((i + 1 : Nat) : Int)], by omega, ?_, i + 1, rfl, by omega, ?_⟩
          · simp only [STD, a1, a2, hs, b1, b2, and_self, hw]
          · rw [List.take_succ_eq_append_getElem hlt]
            exact q74.2 ⟨hd, fun c hc => by simp at hc; subst hc; omega⟩
    · right
      have a1 : ¬ ((i : Int) < qF (mag s)) := by unfold qF; omega
      refine ⟨0, [.s (mag s)], ?_, .inl ⟨?_, rfl, rfl⟩⟩
      · simp only [STD, a1]
      · rwa [List.take_of_length_le (by omega)] at hd) (ps := [.s (mag s), .i 0]) ⟨0, rfl, by omega, by simpa using qkT⟩
  have hcan := qw7 s
  unfold qwi
  by_cases hne : mag s = []
  · rw [if_neg (fun h => (hcan.1 h).1 hne)]
    simp only [STD, hsz, wc, hne]
  · have hp : 0 < (mag s).length := List.length_pos_iff.2 hne
    have a1 : (0 : Int) < qF (mag s) := by unfold qF; omega
    have hs : sat (mag s) 0 = ((mag s)[0].toNat : Int) := qiV (i := 0) hp
    have h48 : ((mag s)[0].toNat : Int) = 48 ↔ (mag s).getD 0 0 = 48 := by
      have : (mag s).getD 0 0 = (mag s)[0] := by simp [List.getD_eq_getElem?_getD, hp]
      rw [this]
      exact ⟨fun h => UInt8.toNat_inj.1 (by show (mag s)[0].toNat = 48; omega), fun h => by rw [h]; rfl⟩
    have hl1 : (1 < qF s) = (1 < s.length) := by unfold qF; simp only [eq_iff_iff]; omega
    have hl2 : (1 < qF (mag s)) = (1 < (mag s).length) := by unfold qF; simp only [eq_iff_iff]; omega
    have hl3 : (1024 < qF (mag s)) = ¬ ((mag s).length ≤ 1024) := by unfold qF; simp only [eq_iff_iff]; omega
    by_cases hz : ((mag s)[0].toNat : Int) = 48
    · by_cases hs1 : 1 < s.length
      · rw [if_neg (fun h => by have := (hcan.1 h).2.2 (h48.1 hz); omega)]
        by_cases hs2 : 1 < (mag s).length
        · simp only [STD, hsz, wc, hne, a1, hs, hz, hl1, hl2, hs1, hs2, Int.le_refl, and_self]
        · simp only [STD, hsz, wc, hne, a1, hs, hz, hl1, hl2, hs1, hs2, Int.le_refl, and_self]
      · have hs2 : ¬ 1 < (mag s).length := by omega
        rcases h2 with ⟨hd, rfl, rfl⟩ | ⟨hd, rfl, rfl⟩
        · rw [if_pos (hcan.2 ⟨hne, hd, fun _ => by omega⟩)]
          simp only [STD, hsz, wc, hne, a1, hs, hz, hl1, hl2, hl3, hs1, hs2, Int.le_refl, and_self, h1, zb h1]
          split <;> simp_all
        · rw [if_neg (fun h => hd (hcan.1 h).2.1)]
          simp only [STD, hsz, wc, hne, a1, hs, hz, hl1, hl2, hs1, hs2, Int.le_refl, and_self, h1, zb h1, show ¬ (1 = 0) by omega]
    · rcases h2 with ⟨hd, rfl, rfl⟩ | ⟨hd, rfl, rfl⟩
      · rw [if_pos (hcan.2 ⟨hne, hd, fun h => absurd (h48.2 h) hz⟩)]
        simp only [STD, hsz, wc, hne, a1, hs, hz, hl1, hl2, hl3, Int.le_refl, and_self, h1, zb h1]
        split <;> simp_all
      · rw [if_neg (fun h => hd (hcan.1 h).2.1)]
        simp only [STD, hsz, wc, hne, a1, hs, hz, hl1, hl2, Int.le_refl, and_self, h1, zb h1, show ¬ (1 = 0) by omega]
end Go.Eng

namespace Go.Eng
def tQ (q:Rat):List UInt8:=if q.den=1 then tI q.num else tI q.num++47 :: tN q.den
def dl (n:Nat):Nat:=(tN n).length
def qn (q:Rat):Nat:=nl q.num
def qd (q:Rat):Nat:=dl q.den
theorem qBM {s:List UInt8} (h:q57 s):∀ c,c ∈ s→c≠47:=fun c hc e=>by
 have:=h c hc
 rw [e] at this
 revert this;decide
theorem qs4 (m:Int):∀ c,c ∈ tI m→c≠47:=by
 intro c hc
 unfold tI at hc
 split at hc
 ·rcases List.mem_cons.1 hc with rfl | hc
  ·decide
  ·exact qBM (vz _) c hc
 ·exact qBM (vz _) c hc
theorem qxV:∀ {s s' t t':List UInt8},(∀ c,c ∈ s→c≠47)→(∀ c,c ∈ s'→c≠47)→s++47 :: t=s'++47 :: t'→s=s'∧t=t'
 | [],[],t,t',_,_,h=>⟨rfl,by simpa using h⟩
 | [],c :: s',t,t',_,h2,h=>by
  simp only [List.nil_append,List.cons_append,List.cons.injEq] at h
  exact absurd h.1.symm (h2 c List.mem_cons_self)
 | c :: s,[],t,t',h1,_,h=>by
  simp only [List.nil_append,List.cons_append,List.cons.injEq] at h
  exact absurd h.1 (h1 c List.mem_cons_self)
 | c :: s,c' :: s',t,t',h1,h2,h=>by
  simp only [List.cons_append,List.cons.injEq] at h
  obtain ⟨e1,e2⟩:=qxV (fun c hc=>h1 c (List.mem_cons_of_mem _ hc)) (fun c hc=>h2 c (List.mem_cons_of_mem _ hc)) h.2
  exact ⟨by rw [h.1,e1],e2⟩
theorem q9P {q:Rat} (h:q.den=1):tQ q=tI q.num:=by unfold tQ;rw [if_pos h]
theorem q5Y {q:Rat} (h:q.den≠1):tQ q=tI q.num++47 :: tN q.den:=by unfold tQ;rw [if_neg h]
theorem qEw {a b:Rat} (h:tQ a=tQ b):a=b:=by
 by_cases ha:a.den=1 <;> by_cases hb:b.den=1
 ·rw [q9P ha,q9P hb] at h
  exact Rat.ext (qw4 h) (ha.trans hb.symm)
 ·rw [q9P ha,q5Y hb] at h
  exact absurd rfl (qs4 a.num 47 (by rw [h];simp))
 ·rw [q5Y ha,q9P hb] at h
  exact absurd rfl (qs4 b.num 47 (by rw [← h];simp))
 ·rw [q5Y ha,q5Y hb] at h
  obtain ⟨e1,e2⟩:=qxV (qs4 _) (qs4 _) h
  exact Rat.ext (qw4 e1) (qsJ e2)
theorem qyX (a b:Rat):(tQ a=tQ b)=(a=b):=propext ⟨qEw,fun h=>by rw [h]⟩
theorem qBK (m:Int):tQ (m:Rat)=tI m:=q9P (by simp)
theorem qC8 (n:Nat):tQ (OfNat.ofNat n:Rat)=tN n:=by
 rw [q9P (by simp)]
 simp only [Rat.num_ofNat]
 exact q1f n
theorem qmS {m n:Int} (h:m.natAbs≤n.natAbs):nl m≤nl n:=q08 h
theorem qzW {m n:Nat} (h:m≤n):dl m≤dl n:=q08 h
theorem qfx (n:Nat):nl (n:Int)=dl n:=rfl
theorem qBO (m n:Nat):dl (m*n)≤dl m+dl n:=qoN m n
theorem qyo (m n:Int):nl (m - n)≤max (nl m) (nl n)+1:=by
 rw [Int.sub_eq_add_neg]
 have:=qsB m (-n)
 rwa [qpS] at this
theorem qgD (N:Int) (D:Nat):nl (mkRat N D).num≤nl N∧dl (mkRat N D).den≤dl D:=by
 rw [Rat.num_mkRat,Rat.den_mkRat]
 by_cases h:D=0
 ·rw [if_pos h,if_pos h,h]
  exact ⟨qmS (by simp),dl_mono' ⟩
 ·rw [if_neg h,if_neg h]
  exact ⟨qmS (Int.natAbs_ediv_le_natAbs _ _),qzW (Nat.div_le_self _ _)⟩
 where dl_mono':dl 1≤dl 0:=by decide
theorem qBB (a b:Rat):qn (a*b)≤qn a+qn b:=by
 unfold qn
 rw [Rat.mul_def']
 exact Nat.le_trans (qgD _ _).1 (uq _ _)
theorem qAg (a b:Rat):qd (a*b)≤qd a+qd b:=by
 unfold qd
 rw [Rat.mul_def']
 exact Nat.le_trans (qgD _ _).2 (qBO _ _)
theorem qEI (a b:Rat):qn (a+b)≤max (qn a+qd b) (qn b+qd a)+1:=by
 unfold qn qd
 rw [Rat.add_def']
 have h1:=(qgD (a.num*b.den+b.num*a.den) (a.den*b.den)).1
 have h2:=qsB (a.num*b.den) (b.num*a.den)
 have h3:=uq a.num b.den
 have h4:=uq b.num a.den
 rw [qfx] at h3 h4
 omega
theorem qEH (a b:Rat):qd (a+b)≤qd a+qd b:=by
 unfold qd
 rw [Rat.add_def']
 exact Nat.le_trans (qgD _ _).2 (qBO _ _)
theorem qEZ (a b:Rat):qn (a - b)≤max (qn a+qd b) (qn b+qd a)+1:=by
 unfold qn qd
 rw [Rat.sub_def']
 have h1:=(qgD (a.num*b.den - b.num*a.den) (a.den*b.den)).1
 have h2:=qyo (a.num*b.den) (b.num*a.den)
 have h3:=uq a.num b.den
 have h4:=uq b.num a.den
 rw [qfx] at h3 h4
 omega
theorem qED (a b:Rat):qd (a - b)≤qd a+qd b:=by
 unfold qd
 rw [Rat.sub_def']
 exact Nat.le_trans (qgD _ _).2 (qBO _ _)
theorem qEk (a:Rat):qn (-a)=qn a:=by unfold qn;rw [Rat.neg_num,qpS]
theorem ql9 (a:Rat):0<qn a:=qpB _
theorem qvf (a:Rat):0<qd a:=qht _
theorem qEN {a:Rat} (h:a≠0):qn a⁻¹≤qd a:=by
 unfold qn qd
 rw [Rat.num_inv,← qfx]
 apply qmS
 rw [Int.natAbs_mul,Int.natAbs_sign_of_ne_zero (by rwa [Ne,Rat.num_eq_zero])]
 simp
theorem qEy {a:Rat} (h:a≠0):qd a⁻¹≤qn a:=by
 unfold qn qd
 rw [Rat.den_inv,if_neg (by rwa [Rat.num_eq_zero])]
 exact Nat.le_refl _
theorem qEF (a:Rat) {b:Rat} (h:b≠0):qn (a / b)≤qn a+qd b:=by
 rw [Rat.div_def]
 exact Nat.le_trans (qBB _ _) (Nat.add_le_add_left (qEN h) _)
theorem qF4 (a:Rat) {b:Rat} (h:b≠0):qd (a / b)≤qd a+qn b:=by
 rw [Rat.div_def]
 exact Nat.le_trans (qAg _ _) (Nat.add_le_add_left (qEy h) _)
def sgq (q:Rat):Int:=sgn q.num
theorem qe5 {m k:Int} (hk:0<k):sgn (m*k)=sgn m:=by
 unfold sgn
 rcases Int.lt_trichotomy m 0 with h | h | h
 ·have:=Int.mul_neg_of_neg_of_pos h hk
  rw [if_pos h,if_pos this]
 ·subst h;simp
 ·have:=Int.mul_pos h hk
  rw [if_neg (by omega),if_neg (by omega),if_neg (by omega),if_neg (by omega)]
theorem qDO (m:Int):sgn (-m)=-sgn m:=by
 unfold sgn
 rcases Int.lt_trichotomy m 0 with h | h | h
 ·rw [if_pos h,if_neg (by omega),if_neg (by omega)];rfl
 ·subst h;rfl
 ·rw [if_pos (by omega),if_neg (by omega),if_neg (by omega)]
theorem qtt {q:Rat} (h:0<q):sgq q=1:=by
 unfold sgq sgn
 have h1:0≤q.num:=Rat.num_nonneg.2 (Rat.le_of_lt h)
 have h2:q.num≠0:=fun e=>by rw [Rat.num_eq_zero] at e;rw [e] at h;exact Rat.lt_irrefl h
 rw [if_neg (by omega),if_neg h2]
theorem qDw (q:Rat):sgq (-q)=-sgq q:=by unfold sgq;rw [Rat.neg_num,qDO]
theorem qzR {q:Rat} (h:q<0):sgq q=-1:=by
 have h1:0< -q:=by grind
 have:=qtt h1
 rw [qDw] at this
 omega
theorem qcZ (q:Rat):(q<0∧sgq q=-1)∨(q=0∧sgq q=0)∨(0<q∧sgq q=1):=by
 by_cases h1:q<0
 ·exact .inl ⟨h1,qzR h1⟩
 ·by_cases h2:q=0
  ·exact .inr (.inl ⟨h2,by rw [h2];rfl⟩)
  ·exact .inr (.inr ⟨by grind,qtt (by grind)⟩)
theorem qzw (q:Rat):(sgq q≤0)=(q≤0):=by
 rcases qcZ q with ⟨h,e⟩ | ⟨h,e⟩ | ⟨h,e⟩ <;> rw [e] <;> simp <;> grind
theorem qsA (q:Rat):(sgq q<0)=(q<0):=by
 rcases qcZ q with ⟨h,e⟩ | ⟨h,e⟩ | ⟨h,e⟩ <;> rw [e] <;> simp <;> grind
theorem qAW (N:Int) {D:Nat} (h:D≠0):sgq (mkRat N D)=sgn N:=by
 have hp:(0:Rat)<(D:Rat):=by
  have:0<D:=by omega
  exact Rat.natCast_pos.2 this
 have e:(mkRat N D)*(D:Rat)=(N:Rat):=by
  rw [Rat.mkRat_eq_div]
  exact Rat.div_mul_cancel (by grind)
 have h2:sgn N=sgq (N:Rat):=by unfold sgq;simp
 rw [h2,← e]
 rcases qcZ (mkRat N D) with ⟨h,e⟩ | ⟨h,e⟩ | ⟨h,e⟩
 ·rw [e,qzR]
  exact (Rat.mul_neg_iff_of_pos_right hp).2 h
 ·rw [e,h,Rat.zero_mul];rfl
 ·rw [e,qtt]
  exact Rat.mul_pos h hp
theorem qDl (a b:Rat):sgq (a - b)=sgn (a.num*b.den - b.num*a.den):=by
 rw [Rat.sub_def',qAW]
 exact Nat.mul_ne_zero a.den_nz b.den_nz
end Go.Eng

namespace Go.Eng
def sP (s:List UInt8):Nat:=s.findIdx (·==47)
def spn (s:List UInt8):List UInt8:=s.take (sP s)
def spd (s:List UInt8):List UInt8:=if sP s<s.length then s.drop (sP s+1) else [49]
theorem qCu (s:List UInt8):sP s≤s.length:=List.findIdx_le_length
theorem qDM {s:List UInt8} {i:Nat} (h:i<s.length) (h1:s[i]=47) (h2:∀ j (hj:j<i),s[j]≠47):sP s=i:=by
 unfold sP
 rw [List.findIdx_eq h]
 exact ⟨by simp [h1],fun j hj=>by simp [h2 j hj]⟩
theorem quz {s:List UInt8} (h:∀ c,c ∈ s→c≠47):sP s=s.length:=by
 unfold sP
 rw [List.findIdx_eq_length]
 intro x hx
 simpa using h x hx
theorem qBh {s t:List UInt8} (h:∀ c,c ∈ s→c≠47):sP (s++47 :: t)=s.length:=by
 apply qDM (by simp)
 ·simp
 ·intro j hj
  rw [List.getElem_append_left hj]
  exact h _ (List.getElem_mem hj)
theorem qAl (q:Rat):spn (tQ q)=tI q.num:=by
 unfold spn
 by_cases h:q.den=1
 ·rw [q9P h,quz (qs4 _),List.take_length]
 ·rw [q5Y h,qBh (qs4 _)];simp
theorem qAd (q:Rat):spd (tQ q)=tN q.den:=by
 unfold spd
 by_cases h:q.den=1
 ·rw [q9P h,quz (qs4 _),if_neg (Nat.lt_irrefl _),h];rfl
 ·rw [q5Y h,qBh (qs4 _),if_pos (by simp)];simp
theorem qA8 (s : List UInt8) (hl : s.length ≤ 1000000000) : (vm [.s s]).run = some (0, [.i (if sP s < s.length then (sP s : Int) else -1)]) := by
  rw [qrm]
  obtain ⟨j, qs, h1, h2⟩ := yu (S := ki) (fun k ps => ∃ i : Nat, ps = [.s s, .i (i : Int)] ∧ i + k = s.length ∧ ∀ j (hj : j < i) (hj2 : j < s.length), s[j] ≠ 47)
    (fun j qs => (¬ sP s < s.length ∧ j = 0 ∧ qs = []) ∨ (sP s < s.length ∧ j = 1 ∧ qs = [.i (sP s : Int)])) (n := s.length) (by omega) (fun k ps hk ⟨i, hps, hi, hd⟩ => by
    subst hps
    rw [qo7]
    by_cases hlt : i < s.length
    · have a1 : (i : Int) < qF s := by unfold qF; omega
      have a2 : (0 : Int) ≤ (i : Int) := by omega
      have hs := qiV hlt
      have hw : qw .i64 (i : Int) 1 = ((i + 1 : Nat) : Int) := by rw [wH (by omega)]; omega
      by_cases b1 : s[i] = 47
      · right
        have e := qDM hlt b1 (fun j hj => hd j hj (by omega))
        have b2 : (s[i].toNat : Int) = 47 := by rw [b1]; rfl
        refine ⟨1, [.i (i : Int)], ?_, .inr ⟨by rw [e]; exact hlt, rfl, by rw [e]⟩⟩
        simp only [STD, a1, a2, hs, b2, and_self]
      · left
        have b2 : ¬ (s[i].toNat : Int) = 47 := fun h => b1 (UInt8.toNat_inj.1 (by show s[i].toNat = 47; omega))
        refine ⟨k - 1, [.s s, .i ((i + 1 : Nat) : Int)], by omega, ?_, i + 1, rfl, by omega, ?_⟩
        · simp only [STD, a1, a2, hs, b2, and_self, hw]
        · intro j hj hj2
          rcases Nat.lt_or_ge j i with h | h
          · exact hd j h hj2
          · obtain rfl : j = i := by omega
            exact b1
    · right
      have a1 : ¬ ((i : Int) < qF s) := by unfold qF; omega
      refine ⟨0, [], ?_, .inl ⟨?_, rfl, rfl⟩⟩
      · simp only [STD, a1]
      · rw [quz]
        · omega
        · intro c hc
          obtain ⟨j, hj, rfl⟩ := List.mem_iff_getElem.1 hc
          exact hd j (by omega) hj) (ps := [.s s, .i 0]) ⟨0, rfl, by omega, fun j hj => by omega⟩
  rcases h2 with ⟨h2, rfl, rfl⟩ | ⟨h2, rfl, rfl⟩
  · rw [if_neg h2]; simp only [STD, h1, zb h1]
  · rw [if_pos h2]; simp only [STD, h1, zb h1, show ¬ (1 = 0) by omega]
theorem qA2 (s:List UInt8) (hl:s.length≤1000000000):(qA [.s s]).run=some (0,[.s (spn s),.s (spd s)]):=by
 rw [qrK]
 have hs:=qA8 s hl
 have hle:=qCu s
 unfold spd spn
 by_cases h:sP s<s.length
 ·rw [if_pos h] at hs ⊢
  have a1:¬ ((sP s:Int)<0):=by omega
  have a2:(sP s:Int)≤qF s:=by unfold qF;omega
  have hw:qw .i64 (sP s:Int) 1=((sP s+1:Nat):Int):=by rw [wH (by omega)];omega
  have a3:((sP s+1:Nat):Int)≤qF s:=by unfold qF;omega
  have e1:q70 s 0 (sP s:Int)=s.take (sP s):=by simp [q70]
  have e2:q70 s ((sP s+1:Nat):Int) (qF s)=s.drop (sP s+1):=by
   unfold q70 qF
   simp only [Int.toNat_natCast,List.take_length]
  simp only [STD,hs,a1,a2,hw,a3,e1,e2,show (0:Int)≤(sP s:Int) by omega,show (0:Int)≤((sP s+1:Nat):Int) by omega,show (0:Int)≤qF s by unfold qF;omega,Int.le_refl,and_self]
 ·rw [if_neg h] at hs ⊢
  have e:s.take (sP s)=s:=List.take_of_length_le (by omega)
  rw [e]
  simp only [STD,hs,show (-1:Int)<0 by omega]
theorem qD2 (q:Rat):(tQ q).length≤qn q+qd q+2:=by
 have h1:=qv9 q.num
 unfold qn qd nl dl
 by_cases h:q.den=1
 ·rw [q9P h];omega
 ·rw [q5Y h];simp;omega
theorem qum (q:Rat) (hn:qn q≤400000) (hd:qd q≤400000):(qA [.s (tQ q)]).run=some (0,[.s (tI q.num),.s (tI (q.den:Int))]):=by
 have:=qD2 q
 rw [qA2 _ (by omega),qAl,qAd,q1f]
theorem qfw (a b:Rat) (ha:qn a≤400000) (ha':qd a≤400000) (hb:qn b≤400000) (hb':qd b≤400000) :
  (qp [.s (tQ a),.s (tQ b)]).run=some (0,[.r [[.s (tI (a.num*b.den))],[.s (tI (b.num*a.den))],[.s (tI (a.den*b.den))],[.s (tI (a.num*b.num))],[.s (tI (a.den*b.num))]]]):=by
 rw [qo4]
 have t:=fun (m n:Int) (h1:nl m≤400000) (h2:nl n≤400000)=>qkO m n (by omega) (by omega)
 simp only [STD,qum a ha ha',qum b hb hb',t a.num b.den ha hb',t b.num a.den hb ha',t a.den b.den ha' hb',t a.num b.num ha hb,t a.den b.num ha' hb]
theorem q50 (n:Nat):(tN n=[49])=(n=1):=by
 have:tN 1=[49]:=rfl
 rw [← this];exact propext ⟨fun h=>qsJ h,fun h=>by rw [h]⟩
theorem qou (m n:Int) (hn:n≠0) (hm':nl m≤400000) (hn':nl n≤400000):(wA [.s (tI m),.s (tI n)]).run=some (0,[.s (tQ (Rat.divInt m n))]):=by
 rw [qoF]
 have hS:=qhY m n hm' hn'
 have hg0:0<Nat.gcd m.natAbs n.natAbs:=Nat.gcd_pos_of_pos_right _ (by omega)
 have hgn:Nat.gcd m.natAbs n.natAbs≤n.natAbs:=Nat.gcd_le_right _ (by omega)
 have hgl:(tN (Nat.gcd m.natAbs n.natAbs)).length≤400000:=Nat.le_trans (q08 hgn) hn'
 have hnum:=Rat.num_divInt m n
 have hden:=Rat.den_divInt m n
 rw [if_neg hn] at hden
 have hgc:Int.gcd n m=Nat.gcd m.natAbs n.natAbs:=by unfold Int.gcd;exact Nat.gcd_comm _ _
 rw [hgc] at hnum hden
 obtain ⟨k,hk⟩:((Nat.gcd m.natAbs n.natAbs:Nat):Int) ∣ m:=Int.ofNat_dvd_left.2 (Nat.gcd_dvd_left _ _)
 obtain ⟨l,hl⟩:((Nat.gcd m.natAbs n.natAbs:Nat):Int) ∣ n:=Int.ofNat_dvd_left.2 (Nat.gcd_dvd_right _ _)
 generalize Nat.gcd m.natAbs n.natAbs=g at *
 generalize Rat.divInt m n=q at *
 have hB:=jH n
 have hm2:k*(g:Int)=m:=by rw [Int.mul_comm];exact hk.symm
 have hn2:l*(g:Int)=n:=by rw [Int.mul_comm];exact hl.symm
 have hql:nl q.num≤400000:=by
  refine Nat.le_trans (qmS ?_) hm'
  rw [hnum]
  refine Nat.le_trans (Int.natAbs_ediv_le_natAbs _ _) ?_
  rw [Int.natAbs_mul,Int.natAbs_sign_of_ne_zero hn];omega
 have hdl:(tN q.den).length≤400000:=by
  refine Nat.le_trans (q08 ?_) hn'
  rw [hden];exact Nat.div_le_self _ _
 have hil:=qv9 q.num
 have hil2:(tN q.num.natAbs).length≤400000:=hql
 have fin:(Tree.br (seq (tI (q.den:Int)) [49]) (Tree.leaf (0,[PV.s (tI q.num)])) (Tree.br (ile (qF (tI q.num)+qF [47]) 140737488355328) (Tree.br (ile (qF (q7O (tI q.num) [47])+qF (tI (q.den:Int))) 140737488355328)
   (Tree.leaf (0,[PV.s (q7O (q7O (tI q.num) [47]) (tI (q.den:Int)))])) Tree.fail) Tree.fail)).run=some (0,[PV.s (tQ q)]):=by
  rw [q1f]
  have a1:qF (tI q.num)+qF [47]≤140737488355328:=by unfold qF;simp;omega
  have a2:qF (q7O (tI q.num) [47])+qF (tN q.den)≤140737488355328:=by unfold qF q7O;simp;omega
  by_cases h1:q.den=1
  ·simp only [STD,wc,q50,h1,q9P h1]
  ·simp only [STD,wc,q50,h1,q5Y h1,a1,a2]
   simp [q7O]
 by_cases hneg:n<0
 ·have hT:=qc8 (g:Int) (by simp only [Int.natAbs_natCast];omega)
  rw [q1f] at hT
  have e1:fq m (-(g:Int))=q.num:=by
   have:fq ((-k)*(-(g:Int))) (-(g:Int))=-k:=qot (by omega)
   rw [show (-k)*(-(g:Int))=m by rw [Int.neg_mul_neg];exact hm2] at this
   rw [this,hnum,Int.sign_eq_neg_one_of_neg hneg,← hm2]
   rw [show (-1:Int)*(k*(g:Int))=(-k)*(g:Int) by rw [Int.neg_mul,Int.one_mul,Int.neg_mul]]
   exact (Int.mul_ediv_cancel _ (by omega)).symm
  have e2:fq n (-(g:Int))=(q.den:Int):=by
   have:fq ((-l)*(-(g:Int))) (-(g:Int))=-l:=qot (by omega)
   rw [show (-l)*(-(g:Int))=n by rw [Int.neg_mul_neg];exact hn2] at this
   rw [this,hden]
   have h3:(n.natAbs:Int)=(-l)*(g:Int):=by rw [Int.neg_mul];omega
   rw [Int.natCast_ediv,h3,Int.mul_ediv_cancel _ (by omega)]
  have P1:=q4f m (-(g:Int)) (by omega) hm' (by rw [qpS];exact hgl)
  have P2:=q4f n (-(g:Int)) (by omega) hn' (by rw [qpS];exact hgl)
  rw [e1] at P1
  rw [e2] at P2
  simp only [STD,hS,hB,hneg,hT,P1,P2] at fin ⊢
  exact fin
 ·have e1:fq m (g:Int)=q.num:=by
   have:fq (k*(g:Int)) (g:Int)=k:=qot (by omega)
   rw [hm2] at this
   rw [this,hnum,Int.sign_eq_one_of_pos (by omega),Int.one_mul,← hm2]
   exact (Int.mul_ediv_cancel _ (by omega)).symm
  have e2:fq n (g:Int)=(q.den:Int):=by
   have:fq (l*(g:Int)) (g:Int)=l:=qot (by omega)
   rw [hn2] at this
   rw [this,hden]
   have h3:(n.natAbs:Int)=l*(g:Int):=by omega
   rw [Int.natCast_ediv,h3,Int.mul_ediv_cancel _ (by omega)]
  have P1:=q4f m (g:Int) (by omega) hm' hgl
  have P2:=q4f n (g:Int) (by omega) hn' hgl
  rw [e1,q1f] at P1
  rw [e2,q1f] at P2
  simp only [STD,hS,hB,hneg,P1,P2] at fin ⊢
  rw [q1f] at fin
  exact fin
def sm (K:Nat) (q:Rat):Prop:=qn q≤K∧qd q≤K
theorem qwe (a:Rat):(0:Int)<(a.den:Int):=by have:=a.den_nz;omega
theorem q4Z {a b:Rat} (ha:sm 100000 a) (hb:sm 100000 b):(zO [.s (tQ a),.s (tQ b)]).run=some (0,[.s (tQ (a+b))]):=by
 rw [qtr]
 obtain ⟨h1,h2⟩:=ha
 obtain ⟨h3,h4⟩:=hb
 have hc:=qfw a b (by omega) (by omega) (by omega) (by omega)
 simp only [qn,qd] at h1 h2 h3 h4
 have l1:=uq a.num b.den
 have l2:=uq b.num a.den
 have l3:=uq a.den b.den
 rw [qfx] at l1 l2 l3
 rw [qfx] at l3
 have l4:=qsB (a.num*b.den) (b.num*a.den)
 have hP:=qn6 (a.num*b.den) (b.num*a.den) (by omega) (by omega)
 have hL:=qou (a.num*b.den+b.num*a.den) (a.den*b.den) (by have:=Int.mul_pos (qwe a) (qwe b);omega) (by omega) (by omega)
 have e:Rat.divInt (a.num*b.den+b.num*a.den) ((a.den:Int)*(b.den:Int))=a+b:=by
  rw [Rat.add_def',← Rat.divInt_ofNat];simp
 rw [e] at hL
 simp only [STD,hc,cS,jA,qH,List.length_cons,List.length_nil,Int.toNat_zero,List.getD_cons_zero,U.toS,show (1:Int).toNat=1 from rfl,show (2:Int).toNat=2 from rfl,List.getD_cons_succ,hP,hL]
 simp []
theorem q1X {a b:Rat} (ha:sm 100000 a) (hb:sm 100000 b):(zw [.s (tQ a),.s (tQ b)]).run=some (0,[.s (tQ (a - b))]):=by
 rw [qrV]
 obtain ⟨h1,h2⟩:=ha
 obtain ⟨h3,h4⟩:=hb
 have hc:=qfw a b (by omega) (by omega) (by omega) (by omega)
 simp only [qn,qd] at h1 h2 h3 h4
 have l1:=uq a.num b.den
 have l2:=uq b.num a.den
 have l3:=uq a.den b.den
 rw [qfx] at l1 l2 l3
 rw [qfx] at l3
 have l4:=qyo (a.num*b.den) (b.num*a.den)
 have hP:=q8P (a.num*b.den) (b.num*a.den) (by omega) (by omega)
 have hL:=qou (a.num*b.den - b.num*a.den) (a.den*b.den) (by have:=Int.mul_pos (qwe a) (qwe b);omega) (by omega) (by omega)
 have e:Rat.divInt (a.num*b.den - b.num*a.den) ((a.den:Int)*(b.den:Int))=a - b:=by
  rw [Rat.sub_def',← Rat.divInt_ofNat];simp
 rw [e] at hL
 simp only [STD,hc,cS,jA,qH,List.length_cons,List.length_nil,Int.toNat_zero,List.getD_cons_zero,U.toS,show (1:Int).toNat=1 from rfl,show (2:Int).toNat=2 from rfl,List.getD_cons_succ,hP,hL]
 simp []
theorem jb {a b:Rat} (ha:sm 100000 a) (hb:sm 100000 b):(qI [.s (tQ a),.s (tQ b)]).run=some (0,[.s (tQ (a*b))]):=by
 rw [qrH]
 obtain ⟨h1,h2⟩:=ha
 obtain ⟨h3,h4⟩:=hb
 have hc:=qfw a b (by omega) (by omega) (by omega) (by omega)
 simp only [qn,qd] at h1 h2 h3 h4
 have l1:=uq a.num b.num
 have l3:=uq a.den b.den
 rw [qfx,qfx] at l3
 have hL:=qou (a.num*b.num) (a.den*b.den) (by have:=Int.mul_pos (qwe a) (qwe b);omega) (by omega) (by omega)
 have e:Rat.divInt (a.num*b.num) ((a.den:Int)*(b.den:Int))=a*b:=by
  rw [Rat.mul_def',← Rat.divInt_ofNat];simp
 rw [e] at hL
 simp only [STD,hc,cS,jA,qH,List.length_cons,List.length_nil,U.toS,show (3:Int).toNat=3 from rfl,show (2:Int).toNat=2 from rfl,List.getD_cons_succ,List.getD_cons_zero,hL]
 simp []
theorem qsQ {a b:Rat} (hb0:b≠0) (ha:sm 100000 a) (hb:sm 100000 b):(q99 [.s (tQ a),.s (tQ b)]).run=some (0,[.s (tQ (a / b))]):=by
 rw [qx6]
 obtain ⟨h1,h2⟩:=ha
 obtain ⟨h3,h4⟩:=hb
 have hc:=qfw a b (by omega) (by omega) (by omega) (by omega)
 simp only [qn,qd] at h1 h2 h3 h4
 have l1:=uq a.num b.den
 have l3:=uq a.den b.num
 rw [qfx] at l1 l3
 have hbn:b.num≠0:=fun h=>hb0 (Rat.num_eq_zero.1 h)
 have hL:=qou (a.num*b.den) (a.den*b.num) (by have:=qwe a;exact Int.mul_ne_zero (by omega) hbn) (by omega) (by omega)
 have e:Rat.divInt (a.num*b.den) ((a.den:Int)*b.num)=a / b:=by
  rw [Rat.div_def,Rat.inv_def,← Rat.divInt_mul_divInt,Rat.num_divInt_den]
 rw [e] at hL
 simp only [STD,hc,cS,jA,qH,List.length_cons,List.length_nil,U.toS,Int.toNat_zero,show (4:Int).toNat=4 from rfl,List.getD_cons_succ,List.getD_cons_zero,hL]
 simp []
theorem qdo {a b:Rat} (ha:sm 100000 a) (hb:sm 100000 b):(jf [.s (tQ a),.s (tQ b)]).run=some (0,[.i (sgq (a - b))]):=by
 rw [qri]
 obtain ⟨h1,h2⟩:=ha
 obtain ⟨h3,h4⟩:=hb
 have hc:=qfw a b (by omega) (by omega) (by omega) (by omega)
 simp only [qn,qd] at h1 h2 h3 h4
 have l1:=uq a.num b.den
 have l2:=uq b.num a.den
 rw [qfx] at l1 l2
 have hP:=qed (a.num*b.den) (b.num*a.den) (by omega) (by omega)
 rw [← qDl] at hP
 simp only [STD,hc,cS,jA,qH,List.length_cons,List.length_nil,U.toS,Int.toNat_zero,show (1:Int).toNat=1 from rfl,List.getD_cons_succ,List.getD_cons_zero,hP]
 simp []
theorem q4c {a:Rat} (ha:sm 100000 a):(zx [.s (tQ a)]).run=some (0,[.i (sgq a)]):=by
 rw [qpr]
 obtain ⟨h1,h2⟩:=ha
 have hP:=qed a.num 0 (by unfold qn at h1;omega) (by decide)
 rw [Int.sub_zero,show tI 0=[48] from rfl] at hP
 simp only [STD,qum a (by omega) (by omega),hP]
 rfl
theorem qE0 (K:Nat):sm (K+1) 0:=⟨by show 1≤K+1;omega,by show 1≤K+1;omega⟩
theorem qbX {a:Rat} (ha:sm 100000 a):(jC [.s (tQ a)]).run=some (0,[.s (tQ (-a))]):=by
 rw [qpg]
 have h:=q1X (a:=0) (b:=a) (qE0 99999) ha
 rw [show tQ 0=[48] from rfl,show (0:Rat) - a=-a by grind] at h
 simp only [STD,h]
def qf4 (a b c:Rat):Int:=if 0≤sgq a*(sgq b*sgq c) then (if sgq a=0 then sgq b*sgq c else sgq a) else sgq a*sgq (a*a - b*b*c)
theorem q7b (q:Rat):-1≤sgq q∧sgq q≤1:=by rcases qcZ q with ⟨_,e⟩ | ⟨_,e⟩ | ⟨_,e⟩ <;> rw [e] <;> decide
theorem qE8 {x y:Int} (hx:-1≤x∧x≤1) (hy:-1≤y∧y≤1):-1≤x*y∧x*y≤1:=by
 have:=qFa (A:=1) (B:=1) hx.1 hx.2 hy.1 hy.2
 omega
theorem qdW {x y:Int} (hx:-1≤x∧x≤1) (hy:-1≤y∧y≤1):q0K .i64 x y=x*y:=qaD (by have:=qE8 hx hy;omega)
theorem quV {K L:Nat} {a b:Rat} (ha:sm K a) (hb:sm L b):sm (K+L) (a*b):=
 ⟨Nat.le_trans (qBB a b) (Nat.add_le_add ha.1 hb.1),Nat.le_trans (qAg a b) (Nat.add_le_add ha.2 hb.2)⟩
theorem q1O {K L:Nat} {a:Rat} (ha:sm K a) (h:K≤L):sm L a:=⟨Nat.le_trans ha.1 h,Nat.le_trans ha.2 h⟩
theorem qge {a b c:Rat} (ha:sm 30000 a) (hb:sm 30000 b) (hc:sm 30000 c):(yS [.s (tQ a),.s (tQ b),.s (tQ c)]).run=some (0,[.i (qf4 a b c)]):=by
 rw [qtM]
 have ba:=q7b a
 have bb:=q7b b
 have bc:=q7b c
 have bd:=q7b (a*a - b*b*c)
 have h1:=jb (q1O ha (by omega)) (q1O ha (by omega))
 have h2:=jb (q1O hb (by omega)) (q1O hb (by omega))
 have hbb:=quV hb hb
 have h3:=jb (a:=b*b) (b:=c) (q1O hbb (by omega)) (q1O hc (by omega))
 have h4:=qdo (a:=a*a) (b:=b*b*c) (q1O (quV ha ha) (by omega)) (q1O (quV hbb hc) (by omega))
 simp only [STD,q4c (q1O ha (show 30000≤100000 by omega)),q4c (q1O hb (show 30000≤100000 by omega)),q4c (q1O hc (show 30000≤100000 by omega)),
  qdW bb bc,qdW ba (qE8 bb bc),h1,h2,h3,h4,qdW ba bd]
 unfold qf4
 split
 ·split <;> rfl
 ·rfl
end Go.Eng

namespace Go.Eng
def mv:List Int→Int
 | []=>0
 | x :: l=>x+1000000000*mv l
def pB (n:Nat):Int:=1000000000 ^ n
theorem q5k:pB 0=1:=rfl
theorem q9Y (n:Nat):pB (n+1)=pB n*1000000000:=Int.pow_succ _ _
theorem qbp:∀ n,0<pB n
 | 0=>by decide
 | n+1=>by rw [q9Y];have:=qbp n;omega
theorem qEQ (m n:Nat):pB (m+n)=pB m*pB n:=Int.pow_add _ _ _
theorem qci {m n:Nat} (h:m≤n):pB m≤pB n:=by
 obtain ⟨k,rfl⟩:∃ k,n=m+k:=⟨n - m,by omega⟩
 induction k with
 | zero=>simp
 | succ k ih=>
  have h1:=ih (by omega)
  rw [show m+(k+1)=(m+k)+1 by omega,q9Y]
  have:=qbp (m+k)
  omega
def dgs (l:List Int):Prop:=∀ x,x ∈ l→0≤x∧x<1000000000
theorem qyy:∀ (l:List Int) (j:Nat) (h:j<l.length) (y:Int),mv (l.set j y)=mv l+(y - l[j])*pB j
 | [],j,h,_=>by simp at h
 | x :: l,0,_,y=>by simp only [List.set_cons_zero,mv,List.getElem_cons_zero,q5k];omega
 | x :: l,j+1,h,y=>by
  have ih:=qyy l j (by simpa using h) y
  simp only [List.set_cons_succ,mv,List.getElem_cons_succ,q9Y]
  rw [ih]
  grind
theorem qzA:∀ (l:List Int) (n:Nat),dgs l→(∀ i,n≤i→l.getD i 0=0)→0≤mv l∧mv l<pB n
 | [],n,_,_=>⟨Int.le_refl _,qbp n⟩
 | x :: l,0,hd,hz=>by
  have ih:=qzA l 0 (fun y hy=>hd y (List.mem_cons_of_mem _ hy)) (fun i _=>by have:=hz (i+1) (by omega);simpa using this)
  have hx:x=0:=by simpa using hz 0 (by omega)
  rw [q5k] at ih ⊢
  simp only [mv];omega
 | x :: l,n+1,hd,hz=>by
  have ih:=qzA l n (fun y hy=>hd y (List.mem_cons_of_mem _ hy)) (fun i hi=>by have:=hz (i+1) (by omega);simpa using this)
  have hx:=hd x List.mem_cons_self
  rw [q9Y]
  simp only [mv]
  generalize pB n=p at *
  omega
theorem qEv:∀ (l:List Int) (j:Nat) (h:j<l.length),dgs l→l[j]≠0→pB j≤mv l
 | [],j,h,_,_=>by simp at h
 | x :: l,0,_,hd,hx=>by
  have h1:=hd x List.mem_cons_self
  have h2:=(qzA l l.length (fun y hy=>hd y (List.mem_cons_of_mem _ hy)) (fun i hi=>by simp [List.getD_eq_getElem?_getD,hi])).1
  simp only [List.getElem_cons_zero] at hx
  simp only [mv,q5k];omega
 | x :: l,j+1,h,hd,hx=>by
  have ih:=qEv l j (by simpa using h) (fun y hy=>hd y (List.mem_cons_of_mem _ hy)) (by simpa using hx)
  have h1:=hd x List.mem_cons_self
  rw [q9Y]
  simp only [mv];omega
theorem qya:∀ (s t:List Int),mv (s++t)=mv s+pB s.length*mv t
 | [],t=>by simp [mv,q5k]
 | x :: s,t=>by
  simp only [List.cons_append,mv,List.length_cons,q9Y]
  rw [qya s t];grind
theorem qdB (n:Nat):mv (List.replicate n 0)=0:=by
 induction n with
 | zero=>rfl
 | succ n ih=>simp [List.replicate_succ,mv,ih]
theorem qc1 {l:List Int} {i:Nat} (h:i<l.length):mv (l.drop i)=l[i]+1000000000*mv (l.drop (i+1)):=by
 rw [List.drop_eq_getElem_cons h];rfl
theorem jr {l:List Int} {n i:Nat} (hd:dgs l) (hz:∀ i,n≤i→l.getD i 0=0) (hi:n≤i):mv (l.drop i)=0:=by
 have:=qzA (l.drop i) 0 (fun x hx=>hd x (List.mem_of_mem_drop hx)) (fun j _=>by
  have:=hz (i+j) (by omega)
  simpa [List.getD_eq_getElem?_getD] using this)
 rw [q5k] at this
 omega
structure WOK (n:Nat) (l:List Int):Prop where
 len:l.length=232
 le:n≤232
 dig:dgs l
 z:∀ i,n≤i→l.getD i 0=0
def nrm (n:Nat) (l:List Int):Prop:=n=0∨l.getD (n - 1) 0≠0
theorem WOK.bd {n:Nat} {l:List Int} (h:WOK n l):0≤mv l∧mv l<pB n:=qzA l n h.dig h.z
theorem WOK.lo {n:Nat} {l:List Int} (h:WOK n l) (hn:nrm n l) (h0:n≠0):pB (n - 1)≤mv l:=by
 have h1:=h.le
 have h2:=h.len
 rcases hn with hn | hn
 ·exact absurd hn h0
 ·refine qEv l (n - 1) (by omega) h.dig ?_
  rwa [yt (by omega)] at hn
theorem quR (N i:Nat):(List.replicate N (0:Int)).getD i 0=0:=by
 rw [List.getD_eq_getElem?_getD,List.getElem?_replicate];split <;> rfl
theorem qAQ (N:Nat):dgs (List.replicate N 0):=fun x hx=>by
 have:=(List.mem_replicate.1 hx).2
 omega
theorem WOK.zero:WOK 0 (List.replicate 232 0):=
 ⟨List.length_replicate,by omega,qAQ 232,fun i _=>quR 232 i⟩
theorem WOK.get {n:Nat} {l:List Int} (h:WOK n l) (i:Nat):0≤l.getD i 0∧l.getD i 0<1000000000:=by
 rcases Nat.lt_or_ge i l.length with hi | hi
 ·rw [yt hi];exact h.dig _ (List.getElem_mem hi)
 ·simp [List.getD_eq_getElem?_getD,hi]
theorem WOK.setW {n:Nat} {l:List Int} (h:WOK n l) {j:Nat} {y:Int} (hj:j<232) (hy:0≤y∧y<1000000000):WOK (max n (j+1)) (l.set j y):=by
 have h1:=h.le
 refine ⟨by simp [h.len],by omega,fun x hx=>?_,fun i hi=>?_⟩
 ·rcases List.mem_or_eq_of_mem_set hx with hx | rfl
  ·exact h.dig x hx
  ·exact hy
 ·have:=h.z i (by omega)
  rw [List.getD_eq_getElem?_getD,List.getElem?_set_ne (by omega),← List.getD_eq_getElem?_getD]
  exact this
theorem q4S (l:List Int) (i:Nat):cI (rI l) (i:Int) 0=l.getD i 0:=by rw [qDJ,Int.toNat_natCast]
theorem qiC (l:List Int) (i:Nat) (v:Int):qdh (rI l) (i:Int) 0 [.i v]=rI (l.set i v):=by rw [qw6,Int.toNat_natCast]
theorem qkY {n : Nat} {l : List Int} (h : WOK n l) (b : Bool) : ∃ m, (qP [.b b, .i (n : Int), .r (rI l)]).run = some (0, [.b b, .i ((m : Nat) : Int), .r (rI l)]) ∧ WOK m l ∧ nrm m l := by
  rw [qfa]
  have h232 := h.le
  obtain ⟨j, qs, h1, rfl, m, rfl, h3, h4⟩ := yu (S := wJ) (fun k ps => ps = [.b b, .i (k : Int), .r (rI l)] ∧ WOK k l)
    (fun j qs => j = 0 ∧ ∃ m : Nat, qs = [.b b, .i (m : Int), .r (rI l)] ∧ WOK m l ∧ nrm m l) (n := n) (by omega) (fun k ps hk ⟨hps, hw⟩ => by
    subst hps
    rw [qdN]
    have hk2 := hw.le
    by_cases h0 : k = 0
    · right
      refine ⟨0, _, ?_, rfl, k, rfl, hw, .inl h0⟩
      simp only [STD, h0]
      rfl
    · have hs : zi .i64 (k : Int) 1 = ((k - 1 : Nat) : Int) := by rw [kd (by omega)]; omega
      have a1 : (0 : Int) < (k : Int) := by omega
      have a2 : (0 : Int) ≤ ((k - 1 : Nat) : Int) ∧ ((k - 1 : Nat) : Int) < 232 := by omega
      by_cases hz : l.getD (k - 1) 0 = 0
      · left
        refine ⟨k - 1, [.b b, .i ((k - 1 : Nat) : Int), .r (rI l)], by omega, ?_, rfl, hw.len, by omega, hw.dig, fun i hi => ?_⟩
        · simp only [STD, a1, hs, a2, q4S, hz, and_self]
        · rcases Nat.eq_or_lt_of_le hi with e | e
          · rw [← e]; exact hz
          · exact hw.z i (by omega)
      · right
        refine ⟨0, [.b b, .i (k : Int), .r (rI l)], ?_, rfl, k, rfl, hw, .inr hz⟩
        simp only [STD, a1, hs, a2, q4S, hz, and_self]) (ps := [.b b, .i (n : Int), .r (rI l)]) ⟨rfl, h⟩
  exact ⟨m, by simp only [STD, h1], h3, h4⟩
theorem qEb (s:Int):∃ q r:Int,s.tdiv 1000000000=q∧s=q*1000000000+r∧(0≤s→0≤r)∧(s≤0→r≤0)∧-1000000000<r∧r<1000000000:=by
 obtain ⟨h1,h2,h3,h4⟩:=qmp s (show (1000000000:Int)≠0 by decide)
 refine ⟨_,q69 s 1000000000,rfl,by omega,h3,h4,by omega,by omega⟩
theorem qze {f up rest:Int} {i n j:Nat} {l ly:List Int} {bx b2:Bool} {ny:Nat} {S:Int} (hj:((j:Nat):Int)=qw .i64 (i:Int) up) (hj2:j<232) (hw:WOK n l) (hin:i<233)
  (hS:S=if i<ny then l.getD j 0+rest+f*ly.getD i 0 else l.getD j 0+rest) (hr:-1000000000≤rest∧rest≤1000000000) (hfy:-999999999999999999≤f*ly.getD i 0∧f*ly.getD i 0≤999999999999999999) (hny:ny≤232)
  (hgo:i<ny∨rest≠0) :
  ∃ q s:Int,S=q*1000000000+s∧0≤s∧s<1000000000 ∧
   (qK [.i f,.i up,.i rest,.i (i:Int),.b bx,.i (n:Int),.r (rI l),.b b2,.i (ny:Int),.r (rI ly)]).run=some (0,[.i f,.i up,.i q,.i ((i+1:Nat):Int),.b bx,.i ((max n (j+1):Nat):Int),.r (rI (l.set j s)),.b b2,.i (ny:Int),.r (rI ly)]):=by
 have hg:=hw.get j
 obtain ⟨q,r,e1,e2,e3,e4,e5,e6⟩:=qEb S
 have hSb:-1000000000999999999≤S∧S≤1000000001999999998:=by rw [hS];split <;> omega
 have w1:uA .i64 S 1000000000=q:=by
  unfold uA
  rw [e1]
  unfold IntKind.wrap
  simp [IntKind.signed,IntKind.bits];omega
 have w2:q0K .i64 q 1000000000=q*1000000000:=qaD (by omega)
 have w3:zi .i64 S (q*1000000000)=r:=by rw [kd (by omega)];omega
 have w4:qw .i64 (l.getD j 0) rest=l.getD j 0+rest:=wH (by omega)
 have w5:qw .i64 (i:Int) 1=((i+1:Nat):Int):=by rw [wH (by omega)];omega
 have w6:qw .i64 (j:Int) 1=((j+1:Nat):Int):=by rw [wH (by omega)];omega
 have w7:q9d (n:Int) ((j+1:Nat):Int)=((max n (j+1):Nat):Int):=qu4 _ _
 have a1:(0:Int)≤(j:Int)∧(j:Int)<232:=by omega
 have hw8:r<0→qw .i64 r 1000000000=r+1000000000:=fun _=>wH (by omega)
 have hw9:r<0→zi .i64 q 1=q - 1:=fun _=>kd (by omega)
 rw [q7l]
 by_cases hi:i<ny
 ·rw [if_pos hi] at hS
  have a2:(i:Int)<(ny:Int):=by omega
  have a3:(0:Int)≤(i:Int)∧(i:Int)<232:=by omega
  have w10:q0K .i64 f (ly.getD i 0)=f*ly.getD i 0:=qaD (by omega)
  have w11:qw .i64 (l.getD j 0+rest) (f*ly.getD i 0)=S:=by rw [wH (by omega),hS]
  by_cases hneg:r<0
  ·refine ⟨q - 1,r+1000000000,by omega,by omega,by omega,?_⟩
   simp only [STD,a2,← hj,a1,a3,q4S,w4,w10,w11,w1,w2,w3,hneg,hw8 hneg,hw9 hneg,w5,w6,w7,qiC,and_self]
  ·refine ⟨q,r,by omega,by omega,by omega,?_⟩
   simp only [STD,a2,← hj,a1,a3,q4S,w4,w10,w11,w1,w2,w3,hneg,w5,w6,w7,qiC,and_self]
 ·rw [if_neg hi] at hS
  have hr0:rest≠0:=hgo.resolve_left hi
  have a2:¬ (i:Int)<(ny:Int):=by omega
  rw [← hS] at w4
  by_cases hneg:r<0
  ·refine ⟨q - 1,r+1000000000,by omega,by omega,by omega,?_⟩
   simp only [STD,a2,hr0,← hj,a1,q4S,w4,w1,w2,w3,hneg,hw8 hneg,hw9 hneg,w5,w6,w7,qiC,and_self]
  ·refine ⟨q,r,by omega,by omega,by omega,?_⟩
   simp only [STD,a2,hr0,← hj,a1,q4S,w4,w1,w2,w3,hneg,w5,w6,w7,qiC,and_self]
theorem qqZ {f : Int} {up nx ny : Nat} {lx ly : List Int} (hx : WOK nx lx) (hy : WOK ny ly) (hf : -999999999 ≤ f ∧ f ≤ 999999999) (hup : ny + up ≤ 232) {T : Int} (hT : T = mv lx + f * mv ly * pB up) (h0 : 0 ≤ T) (h1 : T < pB 232) (bx b2 : Bool) :
    ∃ (n : Nat) (l : List Int), (qZ [.i f, .i (up : Int), .b bx, .i (nx : Int), .r (rI lx), .b b2, .i (ny : Int), .r (rI ly)]).run = some (0, [.b bx, .i (n : Int), .r (rI l), .b b2, .i (ny : Int), .r (rI ly)]) ∧ WOK n l ∧ nrm n l ∧ mv l = T := by
  rw [qjs]
  have hny := hy.le
  obtain ⟨j, qs, g1, rfl, n, l, rfl, g3, g4⟩ := yu (S := qK) (fun k ps => ∃ (i n : Nat) (rest : Int) (l : List Int), ps = [.i f, .i (up : Int), .i rest, .i (i : Int), .b bx, .i (n : Int), .r (rI l), .b b2, .i (ny : Int), .r (rI ly)] ∧
      i + k = 300 ∧ i ≤ 232 ∧ WOK n l ∧ -1000000000 ≤ rest ∧ rest ≤ 1000000000 ∧ mv l + rest * pB (i + up) + f * mv (ly.drop i) * pB (i + up) = T)
    (fun j qs => j = 0 ∧ ∃ (n : Nat) (l : List Int), qs = [.b bx, .i (n : Int), .r (rI l), .b b2, .i (ny : Int), .r (rI ly)] ∧ WOK n l ∧ mv l = T) (n := 300) (by omega) (fun k ps hk ⟨i, n, rest, l, hps, hik, hi, hw, hr1, hr2, hv⟩ => by
    subst hps
    have hg := hy.get i
    have hfy := qFa (A := 999999999) (B := 999999999) hf.1 hf.2 (show -(999999999 : Int) ≤ ly.getD i 0 by omega) (show ly.getD i 0 ≤ 999999999 by omega)
    have hbd := hw.bd
    have hn232 := hw.le
    by_cases hgo : i < ny ∨ rest ≠ 0
    · left
      have hj : i + up < 232 := by
        rcases Nat.lt_or_ge i ny with h | h
        · omega
        · rcases Nat.lt_or_ge (i + up) 232 with h2 | h2
          · exact h2
          · exfalso
            have hr0 := hgo.resolve_left (by omega)
            rw [jr hy.dig hy.z h] at hv
            have hP := qci h2
            have hlt := qci hn232
            simp only [Int.mul_zero, Int.zero_mul, Int.add_zero] at hv
            generalize pB (i + up) = P at *
            rcases Int.lt_or_lt_of_ne hr0 with h3 | h3
            · have : rest * P ≤ -1 * P := Int.mul_le_mul_of_nonneg_right (by omega) (by have := qbp 232; omega)
              omega
            · have : 1 * P ≤ rest * P := Int.mul_le_mul_of_nonneg_right (by omega) (by have := qbp 232; omega)
              omega
      have hjw : (((i + up : Nat)) : Int) = qw .i64 (i : Int) (up : Int) := by rw [wH (by omega)]; omega
      obtain ⟨q, s, s1, s2, s3, s4⟩ := qze (bx := bx) (b2 := b2) (f := f) (ly := ly) hjw hj hw (by omega) rfl ⟨hr1, hr2⟩ (by omega) hny hgo
      refine ⟨k - 1, _, by omega, s4, i + 1, _, q, _, rfl, by omega, by omega, hw.setW hj ⟨s2, s3⟩, ?_, ?_, ?_⟩
      · have hgl := hw.get (i + up)
        split at s1 <;> omega
      · have hgl := hw.get (i + up)
        split at s1 <;> omega
      · have hjl : i + up < l.length := by rw [hw.len]; exact hj
        rw [qyy l (i + up) hjl, ← hv, show i + 1 + up = (i + up) + 1 by omega, q9Y]
        rw [yt hjl] at s1
        have hil : i < ly.length := by rw [hy.len]; omega
        rw [qc1 hil]
        rw [yt hil] at s1
        generalize pB (i + up) = P at *
        generalize l[i + up] = d at *
        by_cases hiny : i < ny
        · rw [if_pos hiny] at s1
          generalize ly[i] = y at *
          generalize mv (ly.drop (i + 1)) = m at *
          grind
        · rw [if_neg hiny] at s1
          have z1 : ly[i] = 0 := by rw [← yt hil]; exact hy.z i (by omega)
          rw [z1, jr hy.dig hy.z (show ny ≤ i + 1 by omega)]
          grind
    · right
      have c1 : ¬ i < ny := fun h => hgo (.inl h)
      have c2 : rest = 0 := Decidable.byContradiction fun h => hgo (.inr h)
      refine ⟨0, [.b bx, .i (n : Int), .r (rI l), .b b2, .i (ny : Int), .r (rI ly)], ?_, rfl, n, l, rfl, hw, ?_⟩
      · rw [q7l]
        have a2 : ¬ (i : Int) < (ny : Int) := by omega
        simp only [STD, a2, c2]
      · rw [jr hy.dig hy.z (by omega), c2] at hv
        simp only [Int.mul_zero, Int.zero_mul, Int.add_zero] at hv
        exact hv) (ps := [.i f, .i (up : Int), .i 0, .i 0, .b bx, .i (nx : Int), .r (rI lx), .b b2, .i (ny : Int), .r (rI ly)])
    ⟨0, nx, 0, lx, rfl, by omega, by omega, hx, by omega, by omega, by simp [hT]⟩
  obtain ⟨m, t1, t2, t3⟩ := qkY g3 bx
  exact ⟨m, l, by simp only [STD, g1, t1], t2, t3, g4⟩
end Go.Eng

namespace Go.Eng
theorem qb5 (l:List Int) (j:Nat) (h:j≤l.length):mv l=mv (l.take j)+pB j*mv (l.drop j):=by
 have:=qya (l.take j) (l.drop j)
 rw [List.take_append_drop,List.length_take,Nat.min_eq_left h] at this
 exact this
theorem qC5 {l:List Int} (h:dgs l) (j:Nat):dgs (l.take j):=fun x hx=>h x (List.mem_of_mem_take hx)
theorem q97 {l:List Int} (h:dgs l) (j:Nat):0≤mv (l.take j)∧mv (l.take j)<pB j:=
 qzA (l.take j) j (qC5 h j) fun i hi=>by
  rw [List.getD_eq_getElem?_getD,List.getElem?_eq_none (by simp;omega)];rfl
theorem qnl {l:List Int} {i:Nat} (h:i<l.length):mv (l.take (i+1))=mv (l.take i)+l[i]*pB i:=by
 rw [List.take_succ_eq_append_getElem h,qya,List.length_take,Nat.min_eq_left (by omega)]
 simp only [mv]
 grind
theorem WOK.mono {n m:Nat} {l:List Int} (h:WOK n l) (hm:n≤m) (h2:m≤232):WOK m l:=⟨h.len,h2,h.dig,fun i hi=>h.z i (by omega)⟩
theorem qkq {n:Nat} {l:List Int} (h:WOK n l) (hn:nrm n l):(n=0)=(mv l=0):=by
 apply propext
 constructor
 ·intro h0
  have:=h.bd
  rw [h0,q5k] at this;omega
 ·intro h0
  rcases Nat.eq_zero_or_pos n with h1 | h1
  ·exact h1
  ·have:=h.lo hn (by omega)
   have:=qbp (n - 1)
   omega
theorem qFq {n m:Nat} {l k:List Int} (h:WOK n l) (hn:nrm n l) (h2:WOK m k) (hle:mv l≤mv k):n≤m:=by
 rcases Nat.lt_or_ge m n with h3 | h3
 ·exfalso
  have h4:=h.lo hn (by omega)
  have h5:=h2.bd.2
  have h6:=qci (show m≤n - 1 by omega)
  omega
 ·exact h3
theorem qyj {nx ny : Nat} {lx ly : List Int} (hx : WOK nx lx) (hnx : nrm nx lx) (hy : WOK ny ly) (hny : nrm ny ly) (bx b2 : Bool) :
    ∃ r : Int, (v6 [.b bx, .i (nx : Int), .r (rI lx), .b b2, .i (ny : Int), .r (rI ly)]).run = some (0, [.i r, .b bx, .i (nx : Int), .r (rI lx), .b b2, .i (ny : Int), .r (rI ly)]) ∧ ((0 ≤ r) = (mv ly ≤ mv lx)) := by
  rw [qhj]
  have h1 := hx.le
  have h2 := hy.le
  by_cases hne : nx = ny
  · subst hne
    have hs : zi .i64 (nx : Int) 1 = (nx : Int) - 1 := kd (by omega)
    obtain ⟨j, qs, g1, g2⟩ := yu (S := qN) (fun k ps => ps = [.i ((k : Int) - 1), .b bx, .i (nx : Int), .r (rI lx), .b b2, .i (nx : Int), .r (rI ly)] ∧ k ≤ nx ∧ mv (lx.drop k) = mv (ly.drop k))
      (fun j qs => (j = 0 ∧ qs = [.b bx, .i (nx : Int), .r (rI lx), .b b2, .i (nx : Int), .r (rI ly)] ∧ mv lx = mv ly) ∨ (j = 1 ∧ ∃ r : Int, qs = [.i r, .b bx, .i (nx : Int), .r (rI lx), .b b2, .i (nx : Int), .r (rI ly)] ∧ ((0 ≤ r) = (mv ly ≤ mv lx)))) (n := nx) (by omega) (fun k ps hk ⟨hps, hkn, hd⟩ => by
      subst hps
      rw [qf0]
      by_cases h0 : k = 0
      · right
        refine ⟨0, _, ?_, .inl ⟨rfl, rfl, ?_⟩⟩
        · have a : ¬ (0 : Int) ≤ (k : Int) - 1 := by omega
          simp only [STD, a]
        · rw [h0] at hd; simpa using hd
      · obtain ⟨i, rfl⟩ : ∃ i, k = i + 1 := ⟨k - 1, by omega⟩
        have e : (((i + 1 : Nat) : Int) - 1) = (i : Int) := by omega
        rw [e]
        have a1 : (0 : Int) ≤ (i : Int) := by omega
        have a2 : (i : Int) < 232 := by omega
        have gx := hx.get i
        have gy := hy.get i
        have hxl : i < lx.length := by rw [hx.len]; omega
        have hyl : i < ly.length := by rw [hy.len]; omega
        by_cases hc : lx.getD i 0 = ly.getD i 0
        · left
          refine ⟨i, [.i ((i : Int) - 1), .b bx, .i (nx : Int), .r (rI lx), .b b2, .i (nx : Int), .r (rI ly)], by omega, ?_, rfl, by omega, ?_⟩
          · have w : zi .i64 (i : Int) 1 = (i : Int) - 1 := kd (by omega)
            simp only [STD, a1, a2, and_self, q4S, hc, w]
          · rw [qc1 hxl, qc1 hyl, hd]
            rw [yt hxl, yt hyl] at hc
            rw [hc]
        · right
          have w : zi .i64 (lx.getD i 0) (ly.getD i 0) = lx.getD i 0 - ly.getD i 0 := kd (by omega)
          refine ⟨1, [.i (lx.getD i 0 - ly.getD i 0), .b bx, .i (nx : Int), .r (rI lx), .b b2, .i (nx : Int), .r (rI ly)], ?_, .inr ⟨rfl, _, rfl, ?_⟩⟩
          · simp only [STD, a1, a2, and_self, q4S, hc, w]
          · have sx := qb5 lx i (by omega)
            have sy := qb5 ly i (by omega)
            rw [qc1 hxl] at sx
            rw [qc1 hyl] at sy
            have tx := q97 hx.dig i
            have ty := q97 hy.dig i
            rw [yt hxl, yt hyl] at hc ⊢
            rw [hd] at sx
            have hp := qbp i
            generalize pB i = P at *
            generalize lx[i] = u at *
            generalize ly[i] = v at *
            generalize mv (ly.drop (i + 1)) = w at *
            have e1 : P * (u + 1000000000 * w) = P * u + P * (1000000000 * w) := Int.mul_add _ _ _
            have e2 : P * (v + 1000000000 * w) = P * v + P * (1000000000 * w) := Int.mul_add _ _ _
            have e3 : P * (u - v) = P * u - P * v := Int.mul_sub _ _ _
            apply propext
            rcases Int.lt_or_lt_of_ne (show u - v ≠ 0 by omega) with h | h
            · have : P * (u - v) ≤ P * (-1) := Int.mul_le_mul_of_nonneg_left (by omega) (by omega)
              constructor
              · intro; omega
              · intro; omega
            · have : P * 1 ≤ P * (u - v) := Int.mul_le_mul_of_nonneg_left (by omega) (by omega)
              constructor
              · intro; omega
              · intro; omega) (ps := [.i ((nx : Int) - 1), .b bx, .i (nx : Int), .r (rI lx), .b b2, .i (nx : Int), .r (rI ly)])
      ⟨rfl, Nat.le_refl _, by rw [jr hx.dig hx.z (Nat.le_refl _), jr hy.dig hy.z (Nat.le_refl _)]⟩
    rcases g2 with ⟨rfl, rfl, g2⟩ | ⟨rfl, r, rfl, g2⟩
    · refine ⟨0, ?_, ?_⟩
      · simp only [STD, hs, g1, zb g1]
      · apply propext; simp; omega
    · refine ⟨r, ?_, g2⟩
      simp only [STD, hs, g1, zb g1, show ¬ (1 = 0) by omega]
  · have hs : zi .i64 (nx : Int) (ny : Int) = (nx : Int) - (ny : Int) := kd (by omega)
    refine ⟨(nx : Int) - (ny : Int), ?_, ?_⟩
    · have a : ¬ (nx : Int) = (ny : Int) := by omega
      simp only [STD, a, hs]
    · apply propext
      have b1 := hx.bd
      have b2 := hy.bd
      rcases Nat.lt_or_gt_of_ne hne with h | h
      · have := hy.lo hny (by omega)
        have := qci (show nx ≤ ny - 1 by omega)
        constructor
        · intro; omega
        · intro; omega
      · have := hx.lo hnx (by omega)
        have := qci (show ny ≤ nx - 1 by omega)
        constructor
        · intro; omega
        · intro; omega
def sv (b:Bool) (l:List Int):Int:=if b then -mv l else mv l
theorem qDa {nx ny:Nat} {lx ly:List Int} (hx:WOK nx lx) (hnx:nrm nx lx) (hy:WOK ny ly) (hny:nrm ny ly) (hb:mv lx+mv ly<pB 232) (bx b2:Bool) :
  ∃ (b:Bool) (n:Nat) (l:List Int),(wl [.b bx,.i (nx:Int),.r (rI lx),.b b2,.i (ny:Int),.r (rI ly)]).run=some (0,[.b b,.i (n:Int),.r (rI l),.b b2,.i (ny:Int),.r (rI ly)])∧WOK n l∧nrm n l∧sv b l=sv bx lx+sv b2 ly:=by
 rw [qjD]
 have h1:=hx.bd
 have h2:=hy.bd
 have l1:=hx.le
 have l2:=hy.le
 by_cases hs:bx=b2
 ·subst hs
  obtain ⟨n,l,g1,g2,g3,g4⟩:=qqZ (f:=1) (up:=0) hx hy (by omega) (by omega) (T:=mv lx+mv ly) (by rw [q5k];omega) (by omega) hb bx bx
  refine ⟨bx,n,l,?_,g2,g3,?_⟩
  ·simp only [STD,show ((0:Nat):Int)=0 from rfl] at g1 ⊢
   simp only [STD,g1]
  ·unfold sv;rw [g4];cases bx <;> simp <;> omega
 ·obtain ⟨r,r1,r2⟩:=qyj hx hnx hy hny bx b2
  by_cases hr:mv ly≤mv lx
  ·have hr':0≤r:=by rw [r2];exact hr
   obtain ⟨n,l,g1,g2,g3,g4⟩:=qqZ (f:=-1) (up:=0) hx hy (by omega) (by omega) (T:=mv lx - mv ly) (by rw [q5k];omega) (by omega) (by omega) bx b2
   refine ⟨bx,n,l,?_,g2,g3,?_⟩
   ·simp only [show ((0:Nat):Int)=0 from rfl] at g1
    simp only [STD,hs,r1,hr',g1]
   ·unfold sv;rw [g4];cases bx <;> cases b2 <;> simp_all <;> omega
  ·have hr':¬ 0≤r:=by rw [r2];exact hr
   obtain ⟨n,l,g1,g2,g3,g4⟩:=qqZ (f:=-1) (up:=0) hy hx (by omega) (by omega) (T:=mv ly - mv lx) (by rw [q5k];omega) (by omega) (by omega) b2 bx
   refine ⟨b2,n,l,?_,g2,g3,?_⟩
   ·simp only [show ((0:Nat):Int)=0 from rfl] at g1
    simp only [STD,hs,r1,hr',g1]
   ·unfold sv;rw [g4];cases bx <;> cases b2 <;> simp_all <;> omega
theorem qzV {x y:Int} {m n:Nat} (h0:0≤x) (h1:x<pB m) (h2:0≤y) (h3:y≤pB n):x*y<pB (m+n)∨y=0:=by
 rcases Int.lt_or_eq_of_le h2 with h | h
 ·left
  rw [qEQ]
  have e1:x*y<pB m*y:=Int.mul_lt_mul_of_pos_right h1 h
  have e2:pB m*y≤pB m*pB n:=Int.mul_le_mul_of_nonneg_left h3 (by omega)
  omega
 ·exact .inr h.symm
theorem qDn {nx ny:Nat} {lx ly:List Int} (hx:WOK nx lx) (hy:WOK ny ly) (hb:nx+ny≤232) (bx b2:Bool) :
  ∃ (n:Nat) (l:List Int),(q00 [.b bx,.i (nx:Int),.r (rI lx),.b b2,.i (ny:Int),.r (rI ly)]).run=some (0,[.b bx,.i (nx:Int),.r (rI lx),.b b2,.i (ny:Int),.r (rI ly),.b (!(Go.Eng.beq bx b2)),.i (n:Int),.r (rI l)])∧WOK n l∧nrm n l∧mv l=mv lx*mv ly:=by
 rw [qj8]
 have hbx:=hx.bd
 have e0:wh 232 [.i 0]=rI (List.replicate 232 0):=qiH 232 0
 obtain ⟨j,qs,g1,rfl,n,l,rfl,g2,g3,g4⟩:=yu (S:=zv) (fun k ps=>∃ (i n:Nat) (l:List Int),ps=[.i (ny:Int),.i (i:Int),.b bx,.i (nx:Int),.r (rI lx),.b b2,.i (ny:Int),.r (rI ly),.b (!(Go.Eng.beq bx b2)),.i (n:Int),.r (rI l)] ∧
   i+k=ny∧WOK n l∧nrm n l∧mv l=mv lx*mv (ly.take i))
  (fun j qs=>j=0∧∃ (n:Nat) (l:List Int),qs=[.b bx,.i (nx:Int),.r (rI lx),.b b2,.i (ny:Int),.r (rI ly),.b (!(Go.Eng.beq bx b2)),.i (n:Int),.r (rI l)]∧WOK n l∧nrm n l∧mv l=mv lx*mv ly) (n:=ny) (by omega) (fun k ps hk ⟨i,n,l,hps,hik,hw,hn,hv⟩=>by
  subst hps
  rw [qgh]
  by_cases hi:i<ny
  ·left
   have hil:i<ly.length:=by rw [hy.len];omega
   have gy:=hy.get i
   have tb:=q97 hy.dig i
   have tb2:=q97 hy.dig (i+1)
   have hT:mv lx*mv (ly.take (i+1))=mv l+ly.getD i 0*mv lx*pB i:=by
    rw [qnl hil,hv,yt hil];grind
   have hlt:mv lx*mv (ly.take (i+1))<pB 232:=by
    rcases qzV (n:=i+1) hbx.1 hbx.2 tb2.1 (by omega) with h | h
    ·exact Int.lt_of_lt_of_le h (qci (by omega))
    ·rw [h,Int.mul_zero];exact qbp _
   obtain ⟨n',l',c1,c2,c3,c4⟩:=qqZ (f:=ly.getD i 0) (up:=i) hw hx (by omega) (by omega) hT (Int.mul_nonneg hbx.1 tb2.1) hlt (!(Go.Eng.beq bx b2)) bx
   have w:qw .i64 (i:Int) 1=((i+1:Nat):Int):=by rw [wH (by omega)];omega
   refine ⟨k - 1,_,by omega,?_,i+1,n',l',rfl,by omega,c2,c3,c4⟩
   have a1:(i:Int)<(ny:Int):=by omega
   have a2:(0:Int)≤(i:Int)∧(i:Int)<232:=by omega
   simp only [STD,a1,a2,and_self,q4S,c1,w]
  ·right
   have hi2:i=ny:=by omega
   have a1:¬ (i:Int)<(ny:Int):=by omega
   refine ⟨0,[.b bx,.i (nx:Int),.r (rI lx),.b b2,.i (ny:Int),.r (rI ly),.b (!(Go.Eng.beq bx b2)),.i (n:Int),.r (rI l)],?_,rfl,n,l,rfl,hw,hn,?_⟩
   ·simp only [STD,a1]
   ·have:=qb5 ly ny (by rw [hy.len];exact hy.le)
    rw [jr hy.dig hy.z (Nat.le_refl _),Int.mul_zero,Int.add_zero] at this
    rw [hv,hi2,← this])
  (ps:=[.i (ny:Int),.i 0,.b bx,.i (nx:Int),.r (rI lx),.b b2,.i (ny:Int),.r (rI ly),.b (!(Go.Eng.beq bx b2)),.i 0,.r (rI (List.replicate 232 0))])
  ⟨0,0,_,rfl,by omega,WOK.zero,.inl rfl,by rw [qdB];simp [mv]⟩
 refine ⟨n,l,?_,g2,g3,g4⟩
 simp only [e0]
 simp only [STD,g1]
theorem qzn {nx ny:Nat} {lx ly:List Int} (hx:WOK nx lx) (hnx:nrm nx lx) (hy:WOK ny ly) (hny:nrm ny ly) (h0:ny≠0) (hle:mv ly≤mv lx) (hlt:mv lx<pB (ny+1)) (hn231:ny≤231) (bx b2:Bool) :
  ∃ k:Int,(ud [.b bx,.i (nx:Int),.r (rI lx),.b b2,.i (ny:Int),.r (rI ly)]).run=some (0,[.i k,.b bx,.i (nx:Int),.r (rI lx),.b b2,.i (ny:Int),.r (rI ly)])∧1≤k∧k≤999999999∧k*mv ly≤mv lx:=by
 rw [qms]
 obtain ⟨m,rfl⟩:∃ m,ny=m+1:=⟨ny - 1,by omega⟩
 have hxl:=hx.len
 have hyl:=hy.len
 have hnx1:m+1≤nx:=qFq hy hny hx hle
 have hnx2:nx≤m+2:=by
  rcases Nat.lt_or_ge (m+2) nx with h | h
  ·exfalso
   have h1:=hx.lo hnx (by omega)
   have h2:=qci (show m+1+1≤nx - 1 by omega)
   omega
  ·exact h
 have gx1:=hx.get m
 have gx2:=hx.get (m+1)
 have gy:=hy.get m
 have sx:=qb5 lx m (by omega)
 have sy:=qb5 ly m (by omega)
 rw [qc1 (show m<lx.length by omega),qc1 (show m+1<lx.length by omega),jr hx.dig hx.z (show nx≤m+1+1 by omega)] at sx
 rw [qc1 (show m<ly.length by omega),jr hy.dig hy.z (Nat.le_refl _)] at sy
 have tx:=q97 hx.dig m
 have ty:=q97 hy.dig m
 have hyn:ly.getD m 0≠0:=by
  rcases hny with h | h
  ·omega
  ·simpa using h
 have w1:zi .i64 ((m+1:Nat):Int) 1=(m:Int):=by rw [kd (by omega)];omega
 have c1:¬ ((m+1:Nat):Int)<0:=by omega
 have c2:¬ (nx:Int)≤(m:Int):=by omega
 have c3:¬ (m:Int)<0:=by omega
 have c4:¬ ((m+1:Nat):Int)≤(m:Int):=by omega
 have c5:(0:Int)≤(m:Int)∧(m:Int)<232:=by omega
 have c6:(0:Int)≤((m+1:Nat):Int)∧((m+1:Nat):Int)<232:=by omega
 have gex:lx[m]'(by omega)=lx.getD m 0:=(yt (by omega)).symm
 have gex1:lx[m+1]'(by omega)=lx.getD (m+1) 0:=(yt (by omega)).symm
 have gey:ly[m]'(by omega)=ly.getD m 0:=(yt (by omega)).symm
 rw [gex,gex1] at sx
 rw [gey] at sy
 have hp:=qbp m
 have key:∀ a b:Int,a=lx.getD m 0+1000000000*lx.getD (m+1) 0→0<b→mv ly≤b*pB m→∀ k,k=a / b→k*mv ly≤mv lx∧q9t k 999999999*mv ly≤mv lx:=by
  intro a b ha hb hbY k hk
  have hk0:0≤k:=by rw [hk];exact Int.ediv_nonneg (by omega) (by omega)
  have hkb:k*b≤a:=by rw [hk];exact Int.ediv_mul_le a (by omega)
  have hY:=(hy.bd).1
  have f1:k*mv ly≤k*(b*pB m):=Int.mul_le_mul_of_nonneg_left hbY hk0
  have f2:k*b*pB m≤a*pB m:=Int.mul_le_mul_of_nonneg_right hkb (by omega)
  have f3:k*(b*pB m)=k*b*pB m:=(Int.mul_assoc _ _ _).symm
  have f4:a*pB m=pB m*(lx.getD m 0+1000000000*(lx.getD (m+1) 0+1000000000*0)):=by rw [ha];grind
  have f5:k*mv ly≤mv lx:=by omega
  refine ⟨f5,?_⟩
  have:q9t k 999999999≤k:=by unfold q9t;split <;> omega
  have:=Int.mul_le_mul_of_nonneg_right this hY
  omega
 have wq:∀ a b:Int,0≤a→a<1000000000000000000→0<b→uA .i64 a b=a / b:=by
  intro a b h1 h2 h3
  unfold uA
  rw [Int.tdiv_eq_ediv_of_nonneg h1]
  have q1:0≤a / b:=Int.ediv_nonneg h1 (by omega)
  have q2:a / b≤a:=Int.ediv_le_self _ h1
  generalize a / b=q at *
  unfold IntKind.wrap
  simp [IntKind.signed,IntKind.bits];omega
 have fin:∀ k:Int,(0<k→k*mv ly≤mv lx∧q9t k 999999999*mv ly≤mv lx)→∃ k':Int,(if 0<k then q9t k 999999999 else 1)=k'∧1≤k'∧k'≤999999999∧k'*mv ly≤mv lx:=by
  intro k hk
  by_cases h:0<k
  ·rw [if_pos h]
   refine ⟨_,rfl,?_,?_,(hk h).2⟩
   ·unfold q9t;split <;> omega
   ·unfold q9t;split <;> omega
  ·rw [if_neg h];exact ⟨1,rfl,by omega,by omega,by omega⟩
 by_cases hcase:nx≤m+1
 ·have c7:(nx:Int)≤((m+1:Nat):Int):=by omega
  have z1:lx.getD (m+1) 0=0:=hx.z _ (by omega)
  have wa:qw .i64 0 (lx.getD m 0)=lx.getD m 0:=by rw [wH (by omega)];omega
  by_cases hm:m=0
  ·subst hm
   have c8:¬ (1:Int)<((0+1:Nat):Int):=by omega
   have hq:=wq (lx.getD 0 0) (ly.getD 0 0) (by omega) (by omega) (by omega)
   have hbY:mv ly≤ly.getD 0 0*pB 0:=by rw [q5k] at sy ty ⊢;omega
   obtain ⟨k',f1,f2,f3,f4⟩:=fin (lx.getD 0 0 / ly.getD 0 0) (fun _=>key _ _ (by rw [z1];omega) (by omega) hbY _ rfl)
   refine ⟨k',?_,f2,f3,f4⟩
   rw [← f1]
   simp only [STD,c1,w1,c2,c3,c4,c5,c6,c7,c8,and_self,q4S,wa,hyn,hq]
   split <;> rfl
  ·have c8:(1:Int)<((m+1:Nat):Int):=by omega
   have wb:qw .i64 (ly.getD m 0) 1=ly.getD m 0+1:=wH (by omega)
   have hq:=wq (lx.getD m 0) (ly.getD m 0+1) (by omega) (by omega) (by omega)
   have hbY:mv ly≤(ly.getD m 0+1)*pB m:=by
    have:(ly.getD m 0+1)*pB m=pB m*(ly.getD m 0+1000000000*0)+pB m:=by grind
    omega
   obtain ⟨k',f1,f2,f3,f4⟩:=fin (lx.getD m 0 / (ly.getD m 0+1)) (fun _=>key _ _ (by rw [z1];omega) (by omega) hbY _ rfl)
   refine ⟨k',?_,f2,f3,f4⟩
   rw [← f1]
   have hne:¬ ly.getD m 0+1=0:=by omega
   simp only [STD,c1,w1,c2,c3,c4,c5,c6,c7,c8,and_self,q4S,wa,wb,hne,hq]
   split <;> rfl
 ·have c7:¬ (nx:Int)≤((m+1:Nat):Int):=by omega
  have wm:q0K .i64 (lx.getD (m+1) 0) 1000000000=lx.getD (m+1) 0*1000000000:=qaD (by omega)
  have wa:qw .i64 (lx.getD (m+1) 0*1000000000) (lx.getD m 0)=lx.getD (m+1) 0*1000000000+lx.getD m 0:=wH (by omega)
  by_cases hm:m=0
  ·subst hm
   have c8:¬ (1:Int)<((0+1:Nat):Int):=by omega
   have hq:=wq (lx.getD (0+1) 0*1000000000+lx.getD 0 0) (ly.getD 0 0) (by omega) (by omega) (by omega)
   have hbY:mv ly≤ly.getD 0 0*pB 0:=by rw [q5k] at sy ty ⊢;omega
   obtain ⟨k',f1,f2,f3,f4⟩:=fin ((lx.getD (0+1) 0*1000000000+lx.getD 0 0) / ly.getD 0 0) (fun _=>key _ _ (by omega) (by omega) hbY _ rfl)
   refine ⟨k',?_,f2,f3,f4⟩
   rw [← f1]
   simp only [STD,c1,w1,c2,c3,c4,c5,c6,c7,c8,and_self,q4S,wm,wa,hyn,hq]
   split <;> rfl
  ·have c8:(1:Int)<((m+1:Nat):Int):=by omega
   have wb:qw .i64 (ly.getD m 0) 1=ly.getD m 0+1:=wH (by omega)
   have hq:=wq (lx.getD (m+1) 0*1000000000+lx.getD m 0) (ly.getD m 0+1) (by omega) (by omega) (by omega)
   have hbY:mv ly≤(ly.getD m 0+1)*pB m:=by
    have:(ly.getD m 0+1)*pB m=pB m*(ly.getD m 0+1000000000*0)+pB m:=by grind
    omega
   obtain ⟨k',f1,f2,f3,f4⟩:=fin ((lx.getD (m+1) 0*1000000000+lx.getD m 0) / (ly.getD m 0+1)) (fun _=>key _ _ (by omega) (by omega) hbY _ rfl)
   refine ⟨k',?_,f2,f3,f4⟩
   rw [← f1]
   have hne:¬ ly.getD m 0+1=0:=by omega
   simp only [STD,c1,w1,c2,c3,c4,c5,c6,c7,c8,and_self,q4S,wm,wa,wb,hne,hq]
   split <;> rfl
end Go.Eng

namespace Go.Eng
theorem qD5 (u:Nat):Lib.decDigits u=tN u:=by
 induction u using Nat.strongRecOn with
 | _ u ih=>
  rw [Lib.decDigits]
  split
  ·rename_i h
   rw [qvK h];rfl
  ·rename_i h
   rw [ih (u / 10) (by omega)]
   exact (qwP (n:=u) (by omega)).symm
theorem qxF (n:Int):Lib.itoa n=tI n:=by
 unfold Lib.itoa
 by_cases h:n<0
 ·rw [if_pos h,qD5,qbq h]
 ·rw [if_neg h,qD5,qiW h];congr 1;omega
theorem qEx (n:Int) (h:-9223372036854775808≤n∧n≤9223372036854775807):(q3W [.i n]).run=some (0,[.s (tI n)]):=by
 show (qA6 [.i n]).run=_
 unfold qA6
 simp only
 rw [if_pos h,qxF];rfl
theorem qw1 {c:UInt8} (h:48≤c.toNat∧c.toNat≤57):Lib.digitVal c=some (dv c):=by
 unfold Lib.digitVal dv
 simp_all
theorem qqo:∀ {s:List UInt8} (a:Nat),q57 s→Lib.decFrom a s=some (a*10 ^ s.length+val s)
 | [],a,_=>by simp [Lib.decFrom,val]
 | c :: s,a,h=>by
  obtain ⟨h1,h2⟩:=q1d.1 h
  rw [Lib.decFrom,qw1 h1]
  simp only
  rw [qqo _ h2,q5L,List.length_cons,Nat.pow_succ]
  congr 1
  grind
theorem qsV {s:List UInt8} (h:q57 s) (hn:s≠[]):Lib.decNat s=some (val s):=by
 unfold Lib.decNat
 rw [if_neg (by simpa using hn),qqo 0 h];simp
theorem qvO {s:List UInt8} (h:q57 s) (hn:s≠[]):Lib.atoi s=some (val s:Int):=by
 obtain ⟨c,t,e,h1,h2⟩:=qgR h hn
 rw [e] at h ⊢
 have n1:(c==45)=false:=by
  rw [beq_eq_false_iff_ne];intro hc;subst hc;revert h1;decide
 have n2:(c==43)=false:=by
  rw [beq_eq_false_iff_ne];intro hc;subst hc;revert h1;decide
 unfold Lib.atoi
 simp only [n1,n2,Bool.false_eq_true,if_false]
 rw [qsV h (by simp)];rfl
theorem qAt (m:Int):Lib.atoi (tI m)=some m:=by
 by_cases h:m<0
 ·rw [qbq h]
  unfold Lib.atoi
  simp only [beq_self_eq_true,if_true]
  rw [qsV (vz _) (qpJ _),q1i]
  simp;omega
 ·rw [qiW h,qvO (vz _) (qpJ _),q1i]
  congr 1;omega
theorem qAZ {s:List UInt8} {n:Int} (hl:s.length≤18) (h:Lib.atoi s=some n):(j1 [.s s]).run=some (0,[.i n]):=by
 show (qAI [.s s]).run=_
 unfold qAI
 simp only
 rw [if_pos hl,h];rfl
theorem qyf:∀ s:List UInt8,Lib.indexByte s 47=if sP s<s.length then (sP s:Int) else -1
 | []=>by simp [Lib.indexByte,sP]
 | c :: s=>by
  have ih:=qyf s
  have hle:=qCu s
  unfold Lib.indexByte
  by_cases h:c=47
  ·subst h
   have:sP (47 :: s)=0:=qDM (by simp) (by simp) (fun j hj=>by omega)
   rw [this];simp
  ·have hc:(c==47)=false:=by simpa using h
   have e:sP (c :: s)=sP s+1:=by
    unfold sP
    rw [List.findIdx_cons,hc];rfl
   rw [e]
   generalize sP s=k at *
   have el:(c :: s).length=s.length+1:=rfl
   simp only [hc,el,ih,Bool.false_eq_true,if_false]
   grind
theorem qDD (s:List UInt8):(zg [.s s,.s [47]]).run=some (0,[.i (if sP s<s.length then (sP s:Int) else -1)]):=by
 show (qvm [.s s,.s [47]]).run=_
 unfold qvm
 simp only
 rw [← qyf];rfl
theorem qyA:∀ {s t:List UInt8},q57 s→q57 t→s.length=t.length→Lib.compareBytes s t=sgn ((val s:Int) - (val t:Int))
 | [],[],_,_,_=>by simp [Lib.compareBytes,val,sgn]
 | [],_ :: _,_,_,h=>by simp at h
 | _ :: _,[],_,_,h=>by simp at h
 | a :: s,b :: t,hs,ht,h=>by
  obtain ⟨h1,h2⟩:=q1d.1 hs
  obtain ⟨h3,h4⟩:=q1d.1 ht
  have hl:s.length=t.length:=by simpa using h
  have ih:=qyA h2 h4 hl
  have v1:=q68 h2
  have v2:=q68 h4
  unfold Lib.compareBytes
  rw [q5L,q5L,hl]
  rw [hl] at v1
  have hp:0<10 ^ t.length:=Nat.pow_pos (by omega)
  generalize 10 ^ t.length=P at *
  unfold dv
  by_cases c1:a.toNat<b.toNat
  ·rw [if_pos (show a<b from c1)]
   have:(a.toNat - 48+1)*P≤(b.toNat - 48)*P:=Nat.mul_le_mul_right _ (by omega)
   rw [Nat.add_mul,Nat.one_mul] at this
   unfold sgn
   rw [if_pos (by omega)]
  ·rw [if_neg (show ¬ a<b from c1)]
   by_cases c2:b.toNat<a.toNat
   ·rw [if_pos (show b<a from c2)]
    have:(b.toNat - 48+1)*P≤(a.toNat - 48)*P:=Nat.mul_le_mul_right _ (by omega)
    rw [Nat.add_mul,Nat.one_mul] at this
    unfold sgn
    rw [if_neg (by omega),if_neg (by omega)]
   ·rw [if_neg (show ¬ b<a from c2),ih]
    have:a.toNat=b.toNat:=by omega
    rw [this]
    congr 1;omega
theorem qyG {s t:List UInt8} (hs:q57 s) (ht:q57 t) (h:s.length=t.length):(q1x [.s s,.s t]).run=some (0,[.i (sgn ((val s:Int) - (val t:Int)))]):=by
 show (qor [.s s,.s t]).run=_
 unfold qor
 simp only
 rw [qyA hs ht h];rfl
def qAY:List UInt8:=[48,49,50,51,52,53,54,55,56,57]
theorem qyi (c:UInt8):(qAY.contains c=true)↔(48≤c.toNat∧c.toNat≤57):=by
 constructor
 ·intro h
  simp only [qAY,List.contains_eq_mem,List.mem_cons,List.not_mem_nil,or_false,decide_eq_true_eq] at h
  rcases h with rfl | rfl | rfl | rfl | rfl | rfl | rfl | rfl | rfl | rfl <;> decide
 ·rintro ⟨h1,h2⟩
  have hk:∃ k,c=UInt8.ofNat k∧48≤k∧k≤57:=⟨c.toNat,by simp,h1,h2⟩
  obtain ⟨k,rfl,k1,k2⟩:=hk
  have:k=48∨k=49∨k=50∨k=51∨k=52∨k=53∨k=54∨k=55∨k=56∨k=57:=by omega
  rcases this with rfl | rfl | rfl | rfl | rfl | rfl | rfl | rfl | rfl | rfl <;> decide
theorem q8L {p:UInt8→Bool}:∀ {l:List UInt8},l.dropWhile p=[]↔∀ x,x ∈ l→p x=true
 | []=>by simp
 | a :: l=>by
  rw [List.dropWhile_cons]
  by_cases h:p a=true
  ·rw [if_pos h,q8L];simp [h]
  ·rw [if_neg h];simp [h]
theorem qgV (s:List UInt8):(Lib.trimS s qAY=[])=q57 s:=by
 apply propext
 unfold Lib.trimS Lib.trimLeftS Lib.trimRightS
 constructor
 ·intro h
  have h1:∀ c,c ∈ (s.reverse.dropWhile (qAY.contains ·)).reverse→qAY.contains c=true:=by
   intro c hc
   have:=q8L.1 h c hc
   simpa using this
  have h2:s.reverse.dropWhile (qAY.contains ·)=[]:=by
   cases hd:s.reverse.dropWhile (qAY.contains ·) with
   | nil=>rfl
   | cons c t=>
    exfalso
    have h3:=List.head_dropWhile_not (p:=(qAY.contains ·)) (l:=s.reverse) (by rw [hd];simp)
    simp only [hd,List.head_cons] at h3
    have:=h1 c (by rw [hd];simp)
    rw [this] at h3;cases h3
  intro c hc
  have:=q8L.1 h2 c (by simpa using hc)
  exact (qyi c).1 (by simpa using this)
 ·intro h
  have h2:s.reverse.dropWhile (qAY.contains ·)=[]:=by
   rw [q8L]
   intro c hc
   exact (qyi c).2 (h c (by simpa using hc))
  rw [h2];rfl
theorem qEs (s:List UInt8) (hl:s.length≤9223372036854775807):(q4e [.s s,.s [48,49,50,51,52,53,54,55,56,57]]).run=some (0,[.s (Lib.trimS s qAY)]):=by
 show (qBs [.s s,.s qAY]).run=_
 unfold qBs
 simp only
 rw [if_pos ⟨hl,by decide,by decide⟩];rfl
end Go.Eng

namespace Go.Eng
theorem qAj (n:Nat):pB n=((10 ^ (9*n):Nat):Int):=by
 unfold pB
 rw [Nat.pow_mul]
 simp
theorem qzt:∀ k:Nat,k≤9→q70 [48,48,48,48,48,48,48,48,48] (k:Int) 9=List.replicate (9 - k) 48
 | 0,_=>rfl
 | 1,_=>rfl
 | 2,_=>rfl
 | 3,_=>rfl
 | 4,_=>rfl
 | 5,_=>rfl
 | 6,_=>rfl
 | 7,_=>rfl
 | 8,_=>rfl
 | 9,_=>rfl
 | n+10,h=>by omega
theorem qDz {v:Nat} (h:v<1000000000):q57 (qAP (tN v))∧(qAP (tN v)).length=9∧val (qAP (tN v))=v:=by
 have hl:(tN v).length≤9:=q5P 8 v (by omega)
 have e:qAP (tN v)=List.replicate (9 - (tN v).length) 48++tN v:=by
  unfold qAP q7O
  rw [show qF (tN v)=((tN v).length:Int) from rfl,qzt _ hl]
 rw [e]
 refine ⟨q74.2 ⟨qlR _,vz v⟩,by simp;omega,by rw [qqB,q1i]⟩
theorem qsm {l:List Int} (hl:l.length=232) (hd:dgs l):∀ i:Nat,i≤232→q57 (qkn (rI l) i)∧(qkn (rI l) i).length=9*i∧((val (qkn (rI l) i):Nat):Int)=mv (l.take i)
 | 0,_=>⟨qkT,rfl,by simp [qkn,qee,mv]⟩
 | i+1,h=>by
  obtain ⟨h1,h2,h3⟩:=qsm hl hd i (by omega)
  have hil:i<l.length:=by omega
  have hg:=hd _ (List.getElem_mem hil)
  have e:cI (rI l) (i:Int) 0=l[i]:=by rw [q4S,yt hil]
  have e2:Lib.itoa l[i]=tN l[i].toNat:=by rw [qxF,qiW (by omega)];congr 1;omega
  obtain ⟨p1,p2,p3⟩:=qDz (v:=l[i].toNat) (by omega)
  unfold qkn
  rw [e,e2]
  refine ⟨q74.2 ⟨p1,h1⟩,by rw [List.length_append,p2,h2];omega,?_⟩
  rw [qu2,p3,h2,qnl hil,qAj]
  simp only [Int.natCast_add,Int.natCast_mul,h3]
  rw [Int.toNat_of_nonneg hg.1];omega
theorem qCG {n : Nat} {l : List Int} (h : WOK n l) (hn : nrm n l) (b : Bool) : qB8 b (n : Int) (rI l) = tI (sv b l) := by
  unfold qB8
  by_cases h0 : n = 0
  · have h1 : mv l = 0 := by rw [← qkq h hn]; exact h0
    rw [if_pos (by omega)]
    unfold sv; rw [h1]; cases b <;> rfl
  · rw [if_neg (by omega)]
    obtain ⟨m, rfl⟩ : ∃ m, n = m + 1 := ⟨n - 1, by omega⟩
    have hle := h.le
    have hml : m < l.length := by rw [h.len]; omega
    have e1 : (((m + 1 : Nat) : Int) - 1) = (m : Int) := by omega
    rw [e1, Int.toNat_natCast, q4S, yt hml]
    have hg := h.dig _ (List.getElem_mem hml)
    have e2 : Lib.itoa l[m] = tN l[m].toNat := by rw [qxF, qiW (by omega)]; congr 1; omega
    obtain ⟨t1, t2, t3⟩ := qsm h.len h.dig m (by omega)
    have hnz : l[m] ≠ 0 := by
      rcases hn with hn | hn
      · omega
      · rw [Nat.add_sub_cancel, yt hml] at hn; exact hn
    have hlo := h.lo hn h0
    have hp := qbp m
    simp only [Nat.add_sub_cancel] at hlo
    have hv : ((val (tN l[m].toNat ++ qkn (rI l) m) : Nat) : Int) = mv l := by
      rw [qu2, q1i, t2, qb5 l m (by omega), qc1 hml, jr h.dig h.z (Nat.le_refl _), qAj]
      simp only [Int.natCast_add, Int.natCast_mul, t3]
      rw [Int.toNat_of_nonneg hg.1]
      grind
    have hT : tN l[m].toNat ++ qkn (rI l) m = tN (mv l).toNat := by
      have hd : q57 (tN l[m].toNat ++ qkn (rI l) m) := q74.2 ⟨vz _, t1⟩
      have hne : tN l[m].toNat ++ qkn (rI l) m ≠ [] := by simp [qpJ]
      have hz : (tN l[m].toNat ++ qkn (rI l) m).getD 0 0 ≠ 48 := by
        have hv0 := q1i l[m].toNat
        have hd0 := vz l[m].toNat
        rcases qBj l[m].toNat with h1 | h1
        · obtain ⟨c, e⟩ := List.length_eq_one_iff.1 h1
          rw [e] at hv0 ⊢
          simp only [List.cons_append, List.getD_cons_zero]
          intro hc; subst hc
          rw [qwD] at hv0
          simp [dv] at hv0; omega
        · obtain ⟨c, t, e, _⟩ := qgR hd0 (qpJ _)
          rw [e] at h1 ⊢
          simpa using h1
      have := qpi hd hne (.inr hz)
      rw [this]; congr 1; omega
    rw [e2, List.append_assoc, hT]
    unfold sv
    cases b
    · rw [if_neg (by simp), if_neg (by simp), qiW (by omega)]; simp; congr 1; omega
    · rw [if_pos rfl, if_pos rfl, qbq (by omega)]; simp; congr 1; omega
theorem qzv {n:Nat} {l:List Int} (h:WOK n l):qtH (n:Int) (rI l)=true:=by
 unfold qtH
 have:=h.le
 simp only [Bool.and_eq_true,decide_eq_true_eq,List.all_eq_true,List.mem_range]
 refine ⟨⟨by omega,by omega⟩,fun i _=>?_⟩
 have:=h.get i
 rw [q4S];exact this
theorem qy1 {n:Nat} {l:List Int} (h:WOK n l) (hn:nrm n l) (b:Bool):(qJ [.b b,.i (n:Int),.r (rI l)]).run=some (0,[.s (tI (sv b l)),.b b,.i (n:Int),.r (rI l)]):=by
 show (qAG [.b b,.i (n:Int),.r (rI l)]).run=_
 unfold qAG
 simp only
 rw [if_pos (qzv h),qCG h hn];rfl
end Go.Eng

namespace Go.Eng
theorem qCE {nr ny : Nat} {lr ly : List Int} (hr : WOK nr lr) (hnr : nrm nr lr) (hy : WOK ny ly) (hny : nrm ny ly) (h0 : ny ≠ 0) (hy231 : ny ≤ 231) (hlt : mv lr < mv ly * 1000000000) (y0 : Int) (xb : Bool) (xi : Int) (xr : R) (b2 : Bool) (qb : Bool) (qi : Int) (qr : R) (br : Bool) :
    ∃ (d : Int) (n : Nat) (l : List Int), (qg yV [.i y0, .i 0, .b xb, .i xi, .r xr, .b b2, .i (ny : Int), .r (rI ly), .b qb, .i qi, .r qr, .b br, .i (nr : Int), .r (rI lr)]).run =
      some (0, [.i y0, .i d, .b xb, .i xi, .r xr, .b b2, .i (ny : Int), .r (rI ly), .b qb, .i qi, .r qr, .b br, .i (n : Int), .r (rI l)]) ∧ WOK n l ∧ nrm n l ∧ 0 ≤ d ∧ d < 1000000000 ∧ mv lr = d * mv ly + mv l ∧ mv l < mv ly := by
  have hyp : 0 < mv ly := by
    have := hy.lo hny h0
    have := qbp (ny - 1)
    omega
  have hyb := hy.bd
  obtain ⟨j, qs, g1, rfl, d, n, l, rfl, g2⟩ := yu (S := yV) (fun k ps => ∃ (d : Int) (n : Nat) (l : List Int), ps = [.i y0, .i d, .b xb, .i xi, .r xr, .b b2, .i (ny : Int), .r (rI ly), .b qb, .i qi, .r qr, .b br, .i (n : Int), .r (rI l)] ∧
      WOK n l ∧ nrm n l ∧ 0 ≤ d ∧ d + k = 1000000000 ∧ mv lr = d * mv ly + mv l)
    (fun j qs => j = 0 ∧ ∃ (d : Int) (n : Nat) (l : List Int), qs = [.i y0, .i d, .b xb, .i xi, .r xr, .b b2, .i (ny : Int), .r (rI ly), .b qb, .i qi, .r qr, .b br, .i (n : Int), .r (rI l)] ∧ WOK n l ∧ nrm n l ∧ 0 ≤ d ∧ d < 1000000000 ∧ mv lr = d * mv ly + mv l ∧ mv l < mv ly) (n := 1000000000) (by omega)
    (fun k ps hk ⟨d, n, l, hps, hw, hn, hd0, hdk, hv⟩ => by
      subst hps
      have hlb := hw.bd
      have hdlt : d < 1000000000 := by
        rcases Int.lt_or_le d 1000000000 with h | h
        · exact h
        · have := Int.mul_le_mul_of_nonneg_right h (show 0 ≤ mv ly by omega)
          rw [Int.mul_comm (mv ly)] at hlt
          omega
      rw [qje]
      obtain ⟨r, r1, r2⟩ := qyj hw hn hy hny br b2
      by_cases hle : mv ly ≤ mv l
      · left
        have hr0 : 0 ≤ r := by rw [r2]; exact hle
        have hdm := Int.mul_nonneg hd0 (show 0 ≤ mv ly by omega)
        have hl9 : mv l < pB (ny + 1) := by rw [q9Y]; omega
        obtain ⟨q, e1, e2, e3, e4⟩ := qzn hw hn hy hny h0 hle hl9 hy231 br b2
        obtain ⟨n', l', c1, c2, c3, c4⟩ := qqZ (f := -q) (up := 0) hw hy (by omega) (by omega) (T := mv l - q * mv ly) (by rw [q5k, Int.mul_one, Int.neg_mul]; omega) (by omega)
          (by have := hlb.2; have := qci hw.le; have := Int.mul_nonneg (show 0 ≤ q by omega) (show 0 ≤ mv ly by omega); omega) br b2
        have hq2 : (d + q) * mv ly + (mv l - q * mv ly) = d * mv ly + mv l := by rw [Int.add_mul]; omega
        have hdq : d + q < 1000000000 := by
          rcases Int.lt_or_le (d + q) 1000000000 with h | h
          · exact h
          · have := Int.mul_le_mul_of_nonneg_right h (show 0 ≤ mv ly by omega)
            rw [Int.mul_comm (mv ly)] at hlt
            omega
        have w1 : zi .i64 0 q = -q := qp1 (by omega)
        have w2 : qw .i64 d q = d + q := wH (by omega)
        simp only [show ((0 : Nat) : Int) = 0 from rfl] at c1
        refine ⟨(1000000000 - (d + q)).toNat, [.i y0, .i (d + q), .b xb, .i xi, .r xr, .b b2, .i (ny : Int), .r (rI ly), .b qb, .i qi, .r qr, .b br, .i (n' : Int), .r (rI l')], by omega, ?_, d + q, n', l', rfl, c2, c3, by omega, by omega, by rw [c4]; omega⟩
        simp only [STD, r1, hr0, e1, w1, w2, c1]
      · right
        have hr0 : ¬ 0 ≤ r := by rw [r2]; exact hle
        refine ⟨0, _, ?_, rfl, d, n, l, rfl, hw, hn, hd0, hdlt, hv, by omega⟩
        simp only [STD, r1, hr0]) (ps := [.i y0, .i 0, .b xb, .i xi, .r xr, .b b2, .i (ny : Int), .r (rI ly), .b qb, .i qi, .r qr, .b br, .i (nr : Int), .r (rI lr)]) ⟨0, nr, lr, rfl, hr, hnr, by omega, by omega, by omega⟩
  exact ⟨d, n, l, g1, g2⟩
theorem qCz {n:Nat} {l:List Int} {d:Int} (h:WOK n l) (hn:n≤231) (hd:0≤d∧d<1000000000) :
  qdh (qkc (rI l) 1 (rI l) 0 (q9t (qxi (n:Int) 0) (qxi 232 1))) 0 0 [.i d]=rI (d :: (l.take n++l.drop (1+n)))∧WOK (n+1) (d :: (l.take n++l.drop (1+n)))∧mv (d :: (l.take n++l.drop (1+n)))=d+1000000000*mv l:=by
 have hlen:=h.len
 have e1:q9t (qxi (n:Int) 0) (qxi 232 1)=(n:Int):=by unfold q9t qxi;split <;> omega
 obtain ⟨x,t,rfl⟩:∃ x t,l=x :: t:=by
  cases l with
  | nil=>simp at hlen
  | cons x t=>exact ⟨x,t,rfl⟩
 refine ⟨?_,⟨by simp;simp at hlen;omega,by omega,?_,?_⟩,?_⟩
 ·rw [e1]
  unfold qkc
  have:(rI (x :: t)).take (1:Int).toNat++((rI (x :: t)).drop (0:Int).toNat).take (n:Int).toNat++(rI (x :: t)).drop ((1:Int).toNat+(n:Int).toNat)=rI (x :: ((x :: t).take n++(x :: t).drop (1+n))):=by
   rw [Int.toNat_natCast]
   simp [rI,List.map_take,List.map_drop]
  rw [this,show (0:Int)=((0:Nat):Int) from rfl,qiC]
  rfl
 ·intro y hy
  rcases List.mem_cons.1 hy with rfl | hy
  ·exact hd
  ·rcases List.mem_append.1 hy with hy | hy
   ·exact h.dig _ (List.mem_of_mem_take hy)
   ·exact h.dig _ (List.mem_of_mem_drop hy)
 ·intro i hi
  obtain ⟨j,rfl⟩:∃ j,i=j+1:=⟨i - 1,by omega⟩
  have hz:=h.z (j+1) (by omega)
  rw [List.getD_eq_getElem?_getD] at hz ⊢
  rw [List.getElem?_cons_succ,List.getElem?_append_right (by simp;omega)]
  rw [List.getElem?_drop,List.length_take,Nat.min_eq_left (by omega)]
  rw [show 1+n+(j - n)=j+1 by omega]
  exact hz
 ·show d+1000000000*mv _=_
  rw [qya,List.length_take,Nat.min_eq_left (by omega),jr h.dig h.z (show n≤1+n by omega)]
  have:=qb5 (x :: t) n (by omega)
  rw [jr h.dig h.z (Nat.le_refl n)] at this
  omega
theorem qfd {nx ny : Nat} {lx ly : List Int} (hx : WOK nx lx) (hy : WOK ny ly) (hny : nrm ny ly) (h0 : ny ≠ 0) (hy231 : ny ≤ 231) (bx b2 : Bool) :
    ∃ (nq : Nat) (lq : List Int) (nr : Nat) (lr : List Int), (zf [.b bx, .i (nx : Int), .r (rI lx), .b b2, .i (ny : Int), .r (rI ly)]).run =
      some (0, [.b bx, .i (nx : Int), .r (rI lx), .b b2, .i (ny : Int), .r (rI ly), .b false, .i (nq : Int), .r (rI lq), .b false, .i (nr : Int), .r (rI lr)]) ∧ WOK nq lq ∧ nrm nq lq ∧ WOK nr lr ∧ nrm nr lr ∧ mv lx = mv lq * mv ly + mv lr ∧ mv lr < mv ly := by
  rw [qnw]
  have hyp : 0 < mv ly := by
    have := hy.lo hny h0
    have := qbp (ny - 1)
    omega
  have hx232 := hx.le
  have e0 : wh 232 [.i 0] = rI (List.replicate 232 0) := qiH 232 0
  have hxl := hx.len
  obtain ⟨j, qs, g1, rfl, nq, lq, nr, lr, rfl, g2, g3, g4, g5, g6⟩ := yu (S := q1j) (fun k ps => ∃ (Q : Int) (nq : Nat) (lq : List Int) (nr : Nat) (lr : List Int),
      ps = [.i ((k : Int) - 1), .b bx, .i (nx : Int), .r (rI lx), .b b2, .i (ny : Int), .r (rI ly), .b false, .i (nq : Int), .r (rI lq), .b false, .i (nr : Int), .r (rI lr)] ∧ k ≤ nx ∧ WOK nq lq ∧ WOK nr lr ∧ nrm nr lr ∧ mv (lx.drop k) = Q * mv ly + mv lr ∧ mv lr < mv ly ∧ mv lq = pB k * Q ∧ ∀ i, i < k → lq.getD i 0 = 0)
    (fun j qs => j = 0 ∧ ∃ (nq : Nat) (lq : List Int) (nr : Nat) (lr : List Int), qs = [.b bx, .i (nx : Int), .r (rI lx), .b b2, .i (ny : Int), .r (rI ly), .b false, .i (nq : Int), .r (rI lq), .b false, .i (nr : Int), .r (rI lr)] ∧ WOK nq lq ∧ WOK nr lr ∧ nrm nr lr ∧ mv lx = mv lq * mv ly + mv lr ∧ mv lr < mv ly) (n := nx) (by omega)
    (fun k ps hk ⟨Q, nq, lq, nr, lr, hps, hkn, hwq, hwr, hnr, hv, hlt, hq, hz⟩ => by
      subst hps
      rw [qkp]
      rcases Nat.eq_zero_or_pos k with rfl | hk0
      · right
        have a1 : ¬ (0 : Int) ≤ ((0 : Nat) : Int) - 1 := by omega
        refine ⟨0, [.b bx, .i (nx : Int), .r (rI lx), .b b2, .i (ny : Int), .r (rI ly), .b false, .i (nq : Int), .r (rI lq), .b false, .i (nr : Int), .r (rI lr)], ?_, rfl, nq, lq, nr, lr, rfl, hwq, hwr, hnr, ?_, hlt⟩
        · simp only [STD, a1]
        · rw [hq, q5k, Int.one_mul, ← hv, List.drop_zero]
      · left
        obtain ⟨i, rfl⟩ : ∃ i, k = i + 1 := ⟨k - 1, by omega⟩
        have e : (((i + 1 : Nat) : Int) - 1) = (i : Int) := by omega
        rw [e]
        have hnr231 : nr ≤ 231 := Nat.le_trans (qFq hwr hnr hy (by omega)) hy231
        have hil : i < lx.length := by omega
        have gx := hx.get i
        obtain ⟨s1, s2, s3⟩ := qCz hwr hnr231 (d := lx.getD i 0) gx
        obtain ⟨m, t1, t2, t3⟩ := qkY s2 false
        have hX : mv (lx.drop i) = lx.getD i 0 + 1000000000 * (Q * mv ly + mv lr) := by rw [qc1 hil, ← hv, yt hil]
        have hlt2 : mv (lx.getD i 0 :: (lr.take nr ++ lr.drop (1 + nr))) < mv ly * 1000000000 := by rw [s3]; omega
        obtain ⟨d, n', l', d1, d2, d3, d4, d5, d6, d7⟩ := qCE t2 t3 hy hny h0 hy231 hlt2 (i : Int) bx (nx : Int) (rI lx) b2 false (nq : Int) (rI lq) false
        rw [s3] at d6
        have a1 : (0 : Int) ≤ (i : Int) := by omega
        have a2 : (i : Int) < 232 := by omega
        have a3 : (0 : Int) ≤ 232 ∧ (232 : Int) ≤ 232 := by omega
        have a4 : (0 : Int) ≤ 1 ∧ (1 : Int) ≤ 232 := by omega
        have a5 : (0 : Int) ≤ (nr : Int) ∧ (nr : Int) ≤ 232 := by omega
        have a6 : (0 : Int) ≤ 0 ∧ (0 : Int) ≤ (nr : Int) := by omega
        have w1 : qw .i64 (nr : Int) 1 = ((nr + 1 : Nat) : Int) := by rw [wH (by omega)]; omega
        have w2 : qw .i64 (i : Int) 1 = ((i + 1 : Nat) : Int) := by rw [wH (by omega)]; omega
        have w3 : zi .i64 (i : Int) 1 = (i : Int) - 1 := kd (by omega)
        have w4 : q9d (nq : Int) ((i + 1 : Nat) : Int) = ((max nq (i + 1) : Nat) : Int) := qu4 _ _
        have hiq : i < lq.length := by rw [hwq.len]; omega
        have hzi : lq[i] = 0 := by rw [← yt hiq]; exact hz i (by omega)
        refine ⟨i, [.i ((i : Int) - 1), .b bx, .i (nx : Int), .r (rI lx), .b b2, .i (ny : Int), .r (rI ly), .b false, .i ((max nq (i + 1) : Nat) : Int), .r (rI (lq.set i d)), .b false, .i (n' : Int), .r (rI l')], by omega, ?_, Q * 1000000000 + d, _, _, _, _, rfl, by omega, hwq.setW (by omega) ⟨d4, d5⟩, d2, d3, ?_, d7, ?_, ?_⟩
        · simp only [q4S, s1, w1]
          simp only [STD, a1, a2, a3, a4, a5, a6, and_self, t1, d1, w2, w3, w4, qiC]
        · rw [hX, Int.add_mul, Int.mul_add]
          have : Q * 1000000000 * mv ly = 1000000000 * (Q * mv ly) := by grind
          omega
        · rw [qyy lq i hiq, hzi, hq, q9Y]; grind
        · intro a ha
          rw [List.getD_eq_getElem?_getD, List.getElem?_set_ne (by omega), ← List.getD_eq_getElem?_getD]
          exact hz a (by omega))
    (ps := [.i ((nx : Int) - 1), .b bx, .i (nx : Int), .r (rI lx), .b b2, .i (ny : Int), .r (rI ly), .b false, .i 0, .r (rI (List.replicate 232 0)), .b false, .i 0, .r (rI (List.replicate 232 0))])
    ⟨0, 0, _, 0, _, rfl, Nat.le_refl _, WOK.zero, WOK.zero, .inl rfl, by rw [jr hx.dig hx.z (Nat.le_refl _), qdB]; omega, by rw [qdB]; exact hyp, by rw [qdB, Int.mul_zero], fun i _ => quR 232 i⟩
  obtain ⟨m, t1, t2, t3⟩ := qkY g2 false
  refine ⟨m, lq, nr, lr, ?_, t2, t3, g3, g4, g5, g6⟩
  have hs : zi .i64 (nx : Int) 1 = (nx : Int) - 1 := kd (by omega)
  simp only [e0, hs]
  simp only [STD, g1, t1]
end Go.Eng

namespace Go.Eng
theorem qEV {c:UInt8} {t:List UInt8}:q70 (c :: t) 0 1=[c]:=by simp [q70]
theorem qBb (s:List UInt8):(zd [.s s,.s [45]]).run=some (0,[.b (decide (s.getD 0 0=45))]):=by
 rw [q5j]
 have h1:qF [45]=1:=rfl
 cases s with
 | nil=>
  have a:¬ (1:Int)≤qF []:=by decide
  simp only [STD,h1,a];rfl
 | cons c t=>
  have a:(1:Int)≤qF (c :: t):=by unfold qF;simp only [List.length_cons];omega
  simp only [STD,h1,a,show (0:Int)≤1 by omega,show (0:Int)≤0 by omega,and_self,qEV]
  have e:seq [c] [45]=decide ((c :: t).getD 0 0=45):=by rw [Bool.eq_iff_iff,wc];simp
  rw [e]
theorem qus (s:List UInt8):(qu [.s s,.s [45]]).run=some (0,[.s (mag s)]):=by
 rw [qgr]
 have h:(zH [.s s,.s [45]]).run=some (0,[.s (mag s)]):=by
  rw [q58]
  have h1:qF [45]=1:=rfl
  unfold mag
  by_cases h:s.getD 0 0=45
  ·rw [if_pos h]
   have a:(1:Int)≤qF s:=by
    cases s with
    | nil=>simp at h
    | cons c t=>unfold qF;simp only [List.length_cons];omega
   have e:q70 s 1 (qF s)=s.drop 1:=by unfold q70 qF;simp
   simp only [STD,qBb,h,h1,a,and_self,Int.le_refl,show (0:Int)≤qF s by omega,show (0:Int)≤1 by omega,e]
  ·rw [if_neg h]
   simp only [STD,qBb,h]
 simp only [STD,h]
theorem qdv (s:List UInt8) (hl:s.length≤1000000000):(qT [.s s]).run=some (0,[.i (qwi s)]):=by
 rw [qrW]
 have hT:=qus s
 have hml:(mag s).length≤s.length:=by unfold mag;split <;> simp
 have hR:=qEs (mag s) (by omega)
 have hcan:=qw7 s
 unfold qwi
 have hl3:(1024<qF (mag s))=¬ ((mag s).length≤1024):=by unfold qF;simp only [eq_iff_iff];omega
 by_cases hne:mag s=[]
 ·rw [if_neg (fun h=>(hcan.1 h).1 hne)]
  simp only [STD,hT,wc,hne]
 ·have hp:0<(mag s).length:=List.length_pos_iff.2 hne
  have a1:(0:Int)<qF (mag s):=by unfold qF;omega
  have hs:sat (mag s) 0=((mag s)[0].toNat:Int):=qiV (i:=0) hp
  have h48:((mag s)[0].toNat:Int)=48↔(mag s).getD 0 0=48:=by
   have:(mag s).getD 0 0=(mag s)[0]:=by simp [List.getD_eq_getElem?_getD,hp]
   rw [this]
   exact ⟨fun h=>UInt8.toNat_inj.1 (by show (mag s)[0].toNat=48;omega),fun h=>by rw [h];rfl⟩
  by_cases hd:q57 (mag s)
  ·have hs1:((mag s).getD 0 0=48→s.length=1)↔(((mag s)[0].toNat:Int)=48→s=[48]):=by
    rw [h48]
    constructor
    ·intro h h2
     obtain ⟨c,e⟩:=List.length_eq_one_iff.1 (h h2)
     subst e
     by_cases hc:c=45
     ·subst hc;exact absurd rfl hne
     ·have:mag [c]=[c]:=by unfold mag;rw [if_neg (by simpa using hc)]
      rw [this] at h2
      simp at h2
      rw [h2]
    ·intro h h2
     rw [h h2];rfl
   by_cases hz:((mag s)[0].toNat:Int)=48
   ·by_cases h0:s=[48]
    ·rw [if_pos (hcan.2 ⟨hne,hd,hs1.2 fun _=>h0⟩)]
     by_cases hL:(mag s).length≤1024
     ·simp only [STD,hT,hR,wc,hne,qgV,hd,a1,hs,hz,hl3,hL,Int.le_refl,and_self]
      simp only [STD,h0]
     ·simp only [STD,hT,hR,wc,hne,qgV,hd,a1,hs,hz,hl3,hL,Int.le_refl,and_self]
      simp only [STD,h0]
    ·rw [if_neg (fun h=>h0 (hs1.1 (hcan.1 h).2.2 hz))]
     simp only [STD,hT,hR,wc,hne,qgV,hd,a1,hs,hz,h0,Int.le_refl,and_self]
   ·rw [if_pos (hcan.2 ⟨hne,hd,fun h=>absurd (h48.2 h) hz⟩)]
    by_cases hL:(mag s).length≤1024
    ·simp only [STD,hT,hR,wc,hne,qgV,hd,a1,hs,hz,hl3,hL,Int.le_refl,and_self]
    ·simp only [STD,hT,hR,wc,hne,qgV,hd,a1,hs,hz,hl3,hL,Int.le_refl,and_self]
  ·rw [if_neg (fun h=>hd (hcan.1 h).2.1)]
   simp only [STD,hT,hR,wc,hne,qgV,hd]
def okL (m:Int):Prop:=nl m≤1024
theorem qxA {m:Int} (h:okL m):qwi (tI m)=0:=by
 unfold qwi
 rw [if_pos ⟨m,rfl⟩,quO,if_pos (show (tN m.natAbs).length≤1024 from h)]
theorem qx3 {m:Int} (h:okL m):(tI m).length≤1025:=by
 have:=qv9 m
 unfold okL nl at h
 omega
theorem qkk {m:Int} (h:okL m):(qT [.s (tI m)]).run=some (0,[.i 0]):=by
 have:=qx3 h
 rw [qdv _ (by omega),qxA h]
def rS (l:List (List UInt8)):R:=l.map fun s=>[.s s]
theorem qsX (l:List (List UInt8)):qH (rS l)=l.length:=by simp [rS,qH]
theorem qAc {l:List (List UInt8)} {i:Nat} (h:i<l.length):cS (rS l) (i:Int) 0=l[i]:=by simp [cS,jA,rS,List.getD_eq_getElem?_getD,h,U.toS]
theorem qEj {l:List (List UInt8)} (hn:l.length<1000000) (h:∀ s,s ∈ l→(qT [.s s]).run=some (0,[.i 0])):(zG [.r (rS l)]).run=some (0,[.i 0]):=by
 rw [quQ,qsX]
 have key:=kP (S:=q1J) (fun i=>[.r (rS l),.i (l.length:Int),.i (i:Int)]) (0,[]) l.length (by omega) (fun i hi=>by
  rw [qhs,qAc hi]
  have a1:(i:Int)<(l.length:Int):=by omega
  have a2:(i:Int)<qH (rS l):=by rw [qsX];exact a1
  simp only [STD,a1,a2,yq,and_self,h _ (List.getElem_mem hi),q0e hi (show l.length<9223372036854775808 by omega)]) (by
  rw [qhs]
  have a1:¬ (l.length:Int)<(l.length:Int):=by omega
  simp only [STD,a1])
 simp only [show (((0:Nat)):Int)=0 from rfl] at key
 simp only [STD,key,zb key]
theorem qex {m n:Int} (hm:okL m) (hn:okL n):(zG [.r [[.s (tI m)],[.s (tI n)]]]).run=some (0,[.i 0]):=by
 have:=qEj (l:=[tI m,tI n]) (by simp) (fun s hs=>by
  simp only [List.mem_cons,List.not_mem_nil,or_false] at hs
  rcases hs with rfl | rfl
  ·exact qkk hm
  ·exact qkk hn)
 exact this
theorem qgy (n:Int) (h:-9223372036854775808≤n∧n≤9223372036854775807):(vV [.i n]).run=some (0,[.s (tI n)]):=by
 rw [qx1]
 simp only [STD,qEx n h]
theorem q9j (m:Int):(tI m=[48])=(m=0):=propext ⟨fun h=>qw4 (n:=0) h,fun h=>by rw [h];rfl⟩
theorem q2L (m:Int):(wu [.s (tI m)]).run=some (0,[.i (sgn m)]):=by
 rw [qu6]
 have a1:(0:Int)<qF (tI m):=by have:=qq3 m;unfold qF;omega
 have hs:(sat (tI m) 0=45)=(m<0):=qyh m
 unfold sgn
 by_cases h0:m=0
 ·simp only [STD,wc,q9j,h0];rfl
 ·by_cases h1:m<0
  ·simp only [STD,wc,q9j,h0,a1,hs,h1,Int.le_refl,and_self]
  ·simp only [STD,wc,q9j,h0,a1,hs,h1,Int.le_refl,and_self]
theorem qve {m:Int} (h:okL m):(q32 [.s (tI m)]).run=some (0,[.i (sgn m),.i 0]):=by
 rw [quv]
 simp only [STD,qkk h,q2L]
theorem qDx (m n:Nat):(q3e [.s (tN m),.s (tN n)]).run=some (0,[.i (sgn ((m:Int) - (n:Int)))]):=by
 rw [qsj]
 have hl:(qF (tN m)=qF (tN n))=((tN m).length=(tN n).length):=by unfold qF;simp only [eq_iff_iff];omega
 have hl2:(qF (tN m)<qF (tN n))=((tN m).length<(tN n).length):=by unfold qF;simp only [eq_iff_iff];omega
 by_cases he:(tN m).length=(tN n).length
 ·have h:=qyG (vz m) (vz n) he
  rw [q1i,q1i] at h
  simp only [STD,hl,he,h]
 ·by_cases hlt:(tN m).length<(tN n).length
  ·have h:=(qxc m n).1 (.inl hlt)
   simp only [STD,hl,hl2,he,hlt]
   unfold sgn
   rw [if_pos (by omega)]
  ·have h:=(qxc n m).1 (.inl (by omega))
   simp only [STD,hl,hl2,he,hlt]
   unfold sgn
   rw [if_neg (by omega),if_neg (by omega)]
theorem qd2 (m:Int):(m<0∧sgn m=-1)∨(m=0∧sgn m=0)∨(0<m∧sgn m=1):=by
 unfold sgn
 rcases Int.lt_trichotomy m 0 with h | h | h
 ·rw [if_pos h];omega
 ·subst h;simp
 ·rw [if_neg (by omega),if_neg (by omega)];omega
theorem qox (m:Int):-1≤sgn m∧sgn m≤1:=by rcases qd2 m with ⟨_,e⟩ | ⟨_,e⟩ | ⟨_,e⟩ <;> omega
theorem qDk (m n:Int):(if sgn m<sgn n then -1 else if sgn n<sgn m then 1 else sgn m*sgn ((m.natAbs:Int) - (n.natAbs:Int)))=sgn (m - n):=by
 rcases qd2 m with ⟨a,ea⟩ | ⟨a,ea⟩ | ⟨a,ea⟩ <;> rcases qd2 n with ⟨b,eb⟩ | ⟨b,eb⟩ | ⟨b,eb⟩ <;> rw [ea,eb] <;> simp only [Int.reduceLT,Int.reduceNeg,if_true,if_false] <;>
  rcases qd2 (m - n) with ⟨c,ec⟩ | ⟨c,ec⟩ | ⟨c,ec⟩ <;> rcases qd2 ((m.natAbs:Int) - (n.natAbs:Int)) with ⟨d,ed⟩ | ⟨d,ed⟩ | ⟨d,ed⟩ <;> omega
theorem qpt {m n:Int} (hm:okL m) (hn:okL n):(uX [.s (tI m),.s (tI n)]).run=some (0,[.i (sgn (m - n)),.i 0]):=by
 rw [qnN]
 have h1:=qus (tI m)
 have h2:=qus (tI n)
 rw [quO] at h1 h2
 have h3:=qDx m.natAbs n.natAbs
 have hw:∀ a b:Int,-1≤a∧a≤1→-1≤b∧b≤1→q0K .i64 a b=a*b:=fun a b ha hb=>qaD (by have:=qFa (A:=1) (B:=1) ha.1 ha.2 hb.1 hb.2;omega)
 have ba:=qox m
 have bb:=qox n
 have bc:=qox ((m.natAbs:Int) - (n.natAbs:Int))
 have e:=qDk m n
 by_cases c1:sgn m<sgn n
 ·rw [if_pos c1] at e
  simp only [STD,qex hm hn,q2L,h1,h2,h3,c1,← e]
 ·rw [if_neg c1] at e
  by_cases c2:sgn n<sgn m
  ·rw [if_pos c2] at e
   simp only [STD,qex hm hn,q2L,h1,h2,h3,c1,c2,← e]
  ·rw [if_neg c2] at e
   simp only [STD,qex hm hn,q2L,h1,h2,h3,c1,c2,hw _ _ ba bc,← e]
theorem qnd (m : Int) (hm : nl m ≤ 2000) : ∃ (n : Nat) (l : List Int), (qo [.s (tI m)]).run = some (0, [.b (decide (m < 0)), .i (n : Int), .r (rI l)]) ∧ WOK n l ∧ nrm n l ∧ mv l = m.natAbs ∧ 9 * n ≤ nl m + 8 := by
  rw [qu3]
  have h1 := qus (tI m)
  rw [quO] at h1
  have a1 : (0 : Int) < qF (tI m) := by have := qq3 m; unfold qF; omega
  have hb : ieq (sat (tI m) 0) 45 = decide (m < 0) := by
    rw [Bool.eq_iff_iff, qzZ, qyh]; simp
  have e0 : wh 232 [.i 0] = rI (List.replicate 232 0) := qiH 232 0
  have hL : (tN m.natAbs).length ≤ 2000 := hm
  obtain ⟨j, qs, g1, rfl, n, l, rfl, g2, g3, g4⟩ := yu (S := zS) (fun k ps => ∃ (n : Nat) (l : List Int), ps = [.s ((tN m.natAbs).take k), .b (decide (m < 0)), .i (n : Int), .r (rI l)] ∧ k ≤ (tN m.natAbs).length ∧ WOK n l ∧
      (k = 0 ∧ 9 * n ≤ (tN m.natAbs).length + 8 ∨ k + 9 * n = (tN m.natAbs).length) ∧ ((val (tN m.natAbs) : Nat) : Int) = ((val ((tN m.natAbs).take k) : Nat) : Int) * pB n + mv l)
    (fun j qs => j = 0 ∧ ∃ (n : Nat) (l : List Int), qs = [.b (decide (m < 0)), .i (n : Int), .r (rI l)] ∧ WOK n l ∧ mv l = m.natAbs ∧ 9 * n ≤ (tN m.natAbs).length + 8) (n := (tN m.natAbs).length) (by omega)
    (fun k ps hk ⟨n, l, hps, hkl, hw, hkn, hv⟩ => by
      subst hps
      rw [qp4]
      have hlk : qF ((tN m.natAbs).take k) = (k : Int) := by unfold qF; rw [List.length_take, Nat.min_eq_left hkl]
      rcases Nat.eq_zero_or_pos k with rfl | hk0
      · right
        refine ⟨0, [.b (decide (m < 0)), .i (n : Int), .r (rI l)], ?_, rfl, n, l, rfl, hw, ?_, by omega⟩
        · have a : ¬ (0 : Int) < qF ((tN m.natAbs).take 0) := by rw [hlk]; omega
          simp only [STD, a]
        · rw [q1i, List.take_zero, qee] at hv
          simp at hv; omega
      · left
        have hn231 : n ≤ 231 := by omega
        obtain ⟨q, hq, hq9⟩ : ∃ q : Nat, q9d 0 (zi .i64 (k : Int) 9) = (q : Int) ∧ q = k - 9 := by
          refine ⟨k - 9, ?_, rfl⟩
          rw [kd (by omega)]; unfold q9d; split <;> omega
        have hqk : q ≤ k := by omega
        have hsub : q70 ((tN m.natAbs).take k) (q : Int) (k : Int) = ((tN m.natAbs).take k).drop q := by unfold q70; simp [List.take_take]
        have hsub2 : q70 ((tN m.natAbs).take k) 0 (q : Int) = (tN m.natAbs).take q := by unfold q70; simp [List.take_take, Nat.min_eq_left hqk]
        have hdg : q57 (((tN m.natAbs).take k).drop q) := qBo (qv7 (vz _) k) q
        have hdl : (((tN m.natAbs).take k).drop q).length = k - q := by rw [List.length_drop, List.length_take, Nat.min_eq_left hkl]
        have hdn : ((tN m.natAbs).take k).drop q ≠ [] := by intro h; rw [h] at hdl; simp at hdl; omega
        have hA := qAZ (s := ((tN m.natAbs).take k).drop q) (by omega) (qvO hdg hdn)
        have hvl := q68 hdg
        rw [hdl] at hvl
        have hv9 : val (((tN m.natAbs).take k).drop q) < 1000000000 := Nat.lt_of_lt_of_le hvl (by
          have : (10 : Nat) ^ (k - q) ≤ 10 ^ 9 := Nat.pow_le_pow_right (by omega) (by omega)
          simpa using this)
        have b1 : (0 : Int) < (k : Int) := by omega
        have b2 : (0 : Int) ≤ (q : Int) ∧ (q : Int) ≤ (k : Int) := by omega
        have b3 : (0 : Int) ≤ (k : Int) ∧ (k : Int) ≤ (k : Int) := by omega
        have b4 : (0 : Int) ≤ (n : Int) ∧ (n : Int) < 232 := by omega
        have b5 : (0 : Int) ≤ 0 ∧ (0 : Int) ≤ (q : Int) := by omega
        have w1 : qw .i64 (n : Int) 1 = ((n + 1 : Nat) : Int) := by rw [wH (by omega)]; omega
        have hnl : n < l.length := by rw [hw.len]; omega
        have hz : l[n] = 0 := by rw [← yt hnl]; exact hw.z n (Nat.le_refl _)
        have hW := hw.setW (j := n) (y := ((val (((tN m.natAbs).take k).drop q) : Nat) : Int)) (by omega) (by omega)
        rw [Nat.max_eq_right (by omega)] at hW
        refine ⟨q, [.s ((tN m.natAbs).take q), .b (decide (m < 0)), .i ((n + 1 : Nat) : Int), .r (rI (l.set n ((val (((tN m.natAbs).take k).drop q) : Nat) : Int)))], by omega, ?_, n + 1, _, rfl, by omega, hW, by omega, ?_⟩
        · simp only [STD, hlk, b1, hq, b2, b3, b4, b5, and_self, hsub, hsub2, hA, w1, qiC]
        · rw [qyy l n hnl, hz, hv]
          have hsp : val ((tN m.natAbs).take k) = val ((tN m.natAbs).take q) * 10 ^ (k - q) + val (((tN m.natAbs).take k).drop q) := by
            have h1 : (tN m.natAbs).take k = ((tN m.natAbs).take k).take q ++ ((tN m.natAbs).take k).drop q := (List.take_append_drop q _).symm
            have h2 : ((tN m.natAbs).take k).take q = (tN m.natAbs).take q := by rw [List.take_take, Nat.min_eq_left hqk]
            rw [h2] at h1
            generalize ((tN m.natAbs).take k).drop q = D at *
            rw [h1, qu2, hdl]
          rw [hsp, q9Y]
          rcases Nat.lt_or_ge k 9 with h9 | h9
          · have : q = 0 := by omega
            subst this
            rw [List.take_zero, qee]
            simp; omega
          · have : k - q = 9 := by omega
            rw [this]
            simp only [Int.natCast_add, Int.natCast_mul]
            have e9 : (((10 : Nat) ^ 9 : Nat) : Int) = 1000000000 := by simp
            rw [e9]
            grind) (ps := [.s ((tN m.natAbs).take (tN m.natAbs).length), .b (decide (m < 0)), .i 0, .r (rI (List.replicate 232 0))])
    ⟨0, _, rfl, Nat.le_refl _, WOK.zero, .inr (by omega), by rw [q5k, List.take_length, qdB]; simp⟩
  rw [List.take_length] at g1
  obtain ⟨n2, t1, t2, t3⟩ := qkY g2 (decide (m < 0))
  refine ⟨n2, l, ?_, t2, t3, g3, ?_⟩
  · simp only [STD, e0, hb, h1, a1, Int.le_refl, and_self, g1, t1]
  · have := qFq t2 t3 g2 (Int.le_refl _)
    unfold nl; omega
end Go.Eng

namespace Go.Eng
theorem qsE0 {m:Int} {k n:Nat} (h:nl m≤k) (hk:k≤9*n):(m.natAbs:Int)<pB n:=by
 rw [qAj]
 have h1:=qFi h
 have h2:(10:Nat) ^ k≤10 ^ (9*n):=Nat.pow_le_pow_right (by omega) hk
 omega
theorem qsE {m:Int} (h:okL m):(m.natAbs:Int)<pB 114:=qsE0 (k:=1024) h (by omega)
theorem quE {m:Int} (h:okL m):okL (-m):=by unfold okL;rw [qpS];exact h
theorem qzU {n:Nat}:pB n+pB n≤pB (n+1):=by rw [q9Y];have:=qbp n;omega
theorem qF0 {b:Bool} {l:List Int} (h:0≤mv l):((sv b l).natAbs:Int)=mv l:=by unfold sv;cases b <;> simp <;> omega
theorem qvt {n:Nat} {l:List Int} (h:WOK n l) (hn:nrm n l) (b:Bool) (hk:okL (sv b l)):(wd [.b b,.i (n:Int),.r (rI l)]).run=some (0,[.s (tI (sv b l)),.i 0,.b b,.i (n:Int),.r (rI l)]):=by
 rw [qfC]
 simp only [STD,qy1 h hn,qkk hk]
theorem qxH (m n:Int):(wK [.s (tI m),.s (tI n)]).run=some (0,if (tI m).length≤9∧(tI n).length≤9 then [.i m,.i n,.b true] else [.i 0,.i 0,.b false]):=by
 rw [qrh]
 have h1:(9<qF (tI m))=¬ (tI m).length≤9:=by unfold qF;simp only [eq_iff_iff];omega
 have h2:(9<qF (tI n))=¬ (tI n).length≤9:=by unfold qF;simp only [eq_iff_iff];omega
 by_cases a:(tI m).length≤9
 ·by_cases b:(tI n).length≤9
  ·simp only [STD,h1,h2,a,b,and_self,qAZ (s:=tI m) (by omega) (qAt m),qAZ (s:=tI n) (by omega) (qAt n)]
  ·simp only [STD,h1,h2,a,b,and_false]
 ·simp only [STD,h1,a,false_and]
theorem qgU {m:Int} (h:(tI m).length≤9):m.natAbs<1000000000:=by
 have:(tN m.natAbs).length≤9:=by
  unfold tI at h
  split at h
  ·simp at h;omega
  ·exact h
 exact Nat.lt_of_lt_of_le (q42 this) (by simp)
theorem qyr (n:Int) (h:-9223372036854775808≤n∧n≤9223372036854775807):(yF [.i n]).run=some (0,[.s (tI n),.i 0]):=by
 rw [qqy]
 simp only [STD,qgy n h]
theorem qBr {m:Int} {l:List Int} (h:mv l=m.natAbs):sv (decide (m<0)) l=m:=by
 unfold sv
 by_cases hm:m<0
 ·rw [decide_eq_true hm,if_pos rfl];omega
 ·rw [decide_eq_false hm,if_neg (by simp)];omega
theorem qEc {m n:Int} (hm:okL m) (hn:okL n) (hs:okL (m+n)):(q4D [.r [[.s (tI m)],[.s (tI n)]]]).run=some (0,[.s (tI (m+n)),.i 0]):=by
 rw [qvH]
 have e0:wh 232 [.i 0]=rI (List.replicate 232 0):=qiH 232 0
 have lm:=qsE hm
 have ln:=qsE hn
 obtain ⟨q1,l1,r1,w1,n1,v1,_⟩:=qnd m (by unfold okL at hm;omega)
 obtain ⟨q2,l2,r2,w2,n2,v2,_⟩:=qnd n (by unfold okL at hn;omega)
 have hb2:=qci (show 115≤232 by omega)
 have hb1:pB 114+pB 114≤pB 115:=qzU
 have hb0:=qbp 114
 obtain ⟨b1,k1,m1,a1,a2,a3,a4⟩:=qDa (lx:=List.replicate 232 0) (nx:=0) WOK.zero (.inl rfl) w1 n1 (by rw [qdB,v1];omega) false (decide (m<0))
 rw [qBr v1] at a4
 have a5:sv b1 m1=m:=by
  have:sv false (List.replicate 232 0)=0:=by unfold sv;rw [if_neg (by simp),qdB]
  rw [a4,this];omega
 obtain ⟨b2,k2,m2,c1,c2,c3,c4⟩:=qDa a2 a3 w2 n2 (by rw [← qF0 (b:=b1) a2.bd.1,a5,v2];omega) b1 (decide (n<0))
 rw [qBr v2,a5] at c4
 have key:=kP (S:=vk) (fun i=>match i with
  | 0=>[.r [[.s (tI m)],[.s (tI n)]],.i 2,.i 0,.b false,.i 0,.r (rI (List.replicate 232 0))]
  | 1=>[.r [[.s (tI m)],[.s (tI n)]],.i 2,.i 1,.b b1,.i (k1:Int),.r (rI m1)]
  | _=>[.r [[.s (tI m)],[.s (tI n)]],.i 2,.i 2,.b b2,.i (k2:Int),.r (rI m2)]) (0,[.b b2,.i (k2:Int),.r (rI m2)]) 2 (by omega) (fun i hi=>by
   have:i=0∨i=1:=by omega
   have d0:cS [[.s (tI m)],[.s (tI n)]] 0 0=tI m:=rfl
   have d1:cS [[.s (tI m)],[.s (tI n)]] 1 0=tI n:=rfl
   have d2:qH [[U.s (tI m)],[U.s (tI n)]]=2:=rfl
   rcases this with rfl | rfl
   ·simp only
    rw [qc0,d0,d2]
    simp only [show ((0:Nat):Int)=0 from rfl] at a1
    have w:qw .i64 0 1=1:=by decide
    simp only [STD,r1,a1,w,show (0:Int)<2 by omega,show (0:Int)≤0 by omega,and_self]
   ·simp only
    rw [qc0,d1,d2]
    have w:qw .i64 1 1=2:=by decide
    simp only [STD,r2,c1,w,show (1:Int)<2 by omega,show (0:Int)≤1 by omega,and_self]) (by
   simp only
   rw [qc0]
   simp only [STD,show ¬ (2:Int)<2 by omega])
 simp only at key
 have hL:=qvt c2 c3 b2 (by rw [c4];exact hs)
 rw [c4] at hL
 have d2:qH [[U.s (tI m)],[U.s (tI n)]]=2:=rfl
 simp only [e0,d2]
 simp only [STD,key,hL]
theorem qEm {m n:Int} (hm:okL m) (hn:okL n) (hs:okL (m+n)):(jO [.s (tI m),.s (tI n)]).run=some (0,[.s (tI (m+n)),.i 0]):=by
 rw [qvQ]
 have h:=qxH m n
 by_cases hc:(tI m).length≤9∧(tI n).length≤9
 ·rw [if_pos hc] at h
  have b1:=qgU hc.1
  have b2:=qgU hc.2
  have w:qw .i64 m n=m+n:=wH (by omega)
  simp only [STD,qex hm hn,h,w,qyr (m+n) (by omega)]
 ·rw [if_neg hc] at h
  simp only [STD,qex hm hn,h,qEc hm hn hs]
theorem qyY {m:Int} (hm:okL m):(jZ [.s (tI m)]).run=some (0,[.s (tI (-m))]):=by
 rw [qmL]
 have hl:=qx3 hm
 have hp:=qq3 m
 rcases qd2 m with ⟨h,e⟩ | ⟨h,e⟩ | ⟨h,e⟩
 ·have a1:(0:Int)≤qF (tI m)∧qF (tI m)≤qF (tI m):=by unfold qF;omega
  have a2:(0:Int)≤1∧1≤qF (tI m):=by unfold qF;omega
  have a3:q70 (tI m) 1 (qF (tI m))=tI (-m):=by
   unfold q70 qF
   rw [qbq h,qiW (m:=-m) (by omega),Int.natAbs_neg];simp
  simp only [STD,q2L,e,a1,a2,a3,and_self,show ¬ ((-1:Int)=0) by omega,show ¬ ((-1:Int)=1) by omega]
 ·simp only [STD,q2L,e]
  rw [h];rfl
 ·have a1:qF [45]+qF (tI m)≤140737488355328:=by unfold qF;simp;omega
  have a3:q7O [45] (tI m)=tI (-m):=by
   unfold q7O
   rw [qbq (m:=-m) (by omega),qiW (m:=m) (by omega),Int.natAbs_neg];rfl
  simp only [STD,q2L,e,a1,a3,show ¬ ((1:Int)=0) by omega]
theorem qFk {m n:Int} (hm:okL m) (hn:okL n) (hs:okL (m - n)):(q0s [.s (tI m),.s (tI n)]).run=some (0,[.s (tI (m - n)),.i 0]):=by
 rw [qvY]
 have h:=qEm hm (quE hn) (by rwa [← Int.sub_eq_add_neg])
 rw [← Int.sub_eq_add_neg] at h
 simp only [STD,qex hm hn,qyY hn,h]
theorem qFl {m n : Int} (hm : okL m) (hn : okL n) (hs : okL (m * n)) : (kr [.s (tI m), .s (tI n)]).run = some (0, [.s (tI (m * n)), .i 0]) := by
  rw [qvs]
  have h := qxH m n
  by_cases hc : (tI m).length ≤ 9 ∧ (tI n).length ≤ 9
  · rw [if_pos hc] at h
    have b1 := qgU hc.1
    have b2 := qgU hc.2
    have b3 := qFa (A := 999999999) (B := 999999999) (a := m) (b := n) (by omega) (by omega) (by omega) (by omega)
    have w : q0K .i64 m n = m * n := qaD (by omega)
    simp only [STD, qex hm hn, h, w, qyr (m * n) (by omega)]
  · rw [if_neg hc] at h
    unfold okL at hm hn
    obtain ⟨q1, l1, r1, w1, n1, v1, z1⟩ := qnd m (by omega)
    obtain ⟨q2, l2, r2, w2, n2, v2, z2⟩ := qnd n (by omega)
    obtain ⟨k, l, t1, t2, t3, t4⟩ := qDn w1 w2 (by omega) (decide (m < 0)) (decide (n < 0))
    have hv : sv (!(Go.Eng.beq (decide (m < 0)) (decide (n < 0)))) l = m * n := by
      unfold sv
      rw [t4, v1, v2]
      have e : ((m.natAbs : Int) * (n.natAbs : Int)) = (((m * n).natAbs : Nat) : Int) := by rw [Int.natAbs_mul]; simp
      rw [e]
      unfold Go.Eng.beq
      rcases Int.lt_trichotomy m 0 with a | a | a
      · rcases Int.lt_trichotomy n 0 with b | b | b
        · have := Int.mul_pos_of_neg_of_neg a b
          simp [a, b]; omega
        · subst b; simp
        · have := Int.mul_neg_of_neg_of_pos a b
          have b' : ¬ n < 0 := by omega
          simp [a, b']; omega
      · subst a; simp
      · have a' : ¬ m < 0 := by omega
        rcases Int.lt_trichotomy n 0 with b | b | b
        · have := Int.mul_neg_of_pos_of_neg a b
          simp [a', b]; omega
        · subst b; simp
        · have := Int.mul_pos a b
          have b' : ¬ n < 0 := by omega
          simp [a', b']; omega
    have hL := qvt t2 t3 (!(Go.Eng.beq (decide (m < 0)) (decide (n < 0)))) (by rw [hv]; exact hs)
    rw [hv] at hL
    simp only [STD, qex hm hn, h, r1, r2, t1, hL]
theorem qBL {n:Nat} {l:List Int} (h:WOK n l) (hn:nrm n l) {k:Nat} (hl:mv l<pB k):n≤k:=by
 rcases Nat.lt_or_ge k n with h1 | h1
 ·have:=h.lo hn (by omega)
  have:=qci (show k≤n - 1 by omega)
  omega
 ·exact h1
theorem qCb {k n : Int} (h0 : n ≠ 0) (hm : okL (k * n)) (hn : okL n) : (j7 [.s (tI (k * n)), .s (tI n)]).run = some (0, [.s (tI k), .s (tI 0), .i 0]) := by
  rw [qoM]
  have h := qxH (k * n) n
  have hz : ¬ tI n = [48] := by rw [q9j]; exact h0
  by_cases hc : (tI (k * n)).length ≤ 9 ∧ (tI n).length ≤ 9
  · rw [if_pos hc] at h
    have b1 := qgU hc.1
    have b2 := qgU hc.2
    have hk : k.natAbs ≤ (k * n).natAbs := by
      rw [Int.natAbs_mul]
      have : k.natAbs * 1 ≤ k.natAbs * n.natAbs := Nat.mul_le_mul_left _ (by omega)
      omega
    have w1 : q69 (k * n) n = 0 := by unfold q69; exact Int.mul_tmod_left k n
    have w2 : uA .i64 (k * n) n = k := by
      rw [Int.mul_comm]; exact qgE h0 (by omega)
    simp only [STD, qex hm hn, wc, hz, h, h0, w1, w2, qgy k (by omega), qgy 0 (by omega)]
  · rw [if_neg hc] at h
    have lm := qsE hm
    have ln := qsE hn
    obtain ⟨q1, l1, r1, w1, n1, v1, z1⟩ := qnd (k * n) (by unfold okL at hm; omega)
    obtain ⟨q2, l2, r2, w2, n2, v2, z2⟩ := qnd n (by unfold okL at hn; omega)
    have hq2 : q2 ≤ 114 := qBL w2 n2 (by omega)
    have hq0 : q2 ≠ 0 := fun h => by rw [qkq w2 n2] at h; omega
    obtain ⟨nq, lq, nr, lr, d1, d2, d3, d4, d5, d6, d7⟩ := qfd w1 w2 n2 hq0 (by omega) (decide (k * n < 0)) (decide (n < 0))
    have e1 : ((k * n).natAbs : Int) = (k.natAbs : Int) * (n.natAbs : Int) := by rw [Int.natAbs_mul]; simp
    rw [v1, v2, e1] at d6
    rw [v2] at d7
    have b4 := d4.bd.1
    have hr0 : mv lr = 0 ∧ mv lq = k.natAbs := by
      have hn0 : (0 : Int) < (n.natAbs : Int) := by omega
      have e2 : ((k.natAbs : Int) - mv lq) * (n.natAbs : Int) = mv lr := by rw [Int.sub_mul]; omega
      rcases Int.lt_trichotomy ((k.natAbs : Int) - mv lq) 0 with a | a | a
      · have := Int.mul_neg_of_neg_of_pos a hn0; omega
      · rw [a, Int.zero_mul] at e2; omega
      · have := Int.mul_le_mul_of_nonneg_right (show 1 ≤ (k.natAbs : Int) - mv lq by omega) (show 0 ≤ (n.natAbs : Int) by omega)
        omega
    have hnr : nr = 0 := by rw [qkq d4 d5]; exact hr0.1
    have hv : sv (!(Go.Eng.beq (decide (k * n < 0)) (decide (n < 0)))) lq = k := by
      unfold sv
      rw [hr0.2]
      unfold Go.Eng.beq
      rcases Int.lt_trichotomy k 0 with a | a | a
      · rcases Int.lt_trichotomy n 0 with b | b | b
        · have := Int.mul_pos_of_neg_of_neg a b
          have c : ¬ k * n < 0 := by omega
          simp [b, c]; omega
        · exact absurd b h0
        · have c := Int.mul_neg_of_neg_of_pos a b
          have b' : ¬ n < 0 := by omega
          simp [b', c]; omega
      · subst a; simp
      · rcases Int.lt_trichotomy n 0 with b | b | b
        · have c := Int.mul_neg_of_pos_of_neg a b
          simp [b, c]; omega
        · exact absurd b h0
        · have := Int.mul_pos a b
          have c : ¬ k * n < 0 := by omega
          have b' : ¬ n < 0 := by omega
          simp [b', c]; omega
    have hT := qy1 d2 d3 (!(Go.Eng.beq (decide (k * n < 0)) (decide (n < 0))))
    rw [hv] at hT
    have hT2 := qy1 d4 d5 (decide (k * n < 0))
    have hv0 : sv (decide (k * n < 0)) lr = 0 := by unfold sv; rw [hr0.1]; split <;> rfl
    rw [hv0] at hT2
    have hnr' : ¬ (0 : Int) < (nr : Int) := by omega
    simp only [STD, qex hm hn, wc, hz, h, r1, r2, d1, hnr', hT, hT2]
theorem qD1 {m n:Int} (h:m.natAbs≤n.natAbs) (hn:okL n):okL m:=Nat.le_trans (q08 h) hn
theorem qFp {k n:Int} (h0:n≠0) (hm:okL (k*n)) (hn:okL n):(q0y [.s (tI (k*n)),.s (tI n)]).run=some (0,[.s (tI k),.i 0]):=by
 rw [qvi]
 have hk:okL k:=qD1 (by
  rw [Int.natAbs_mul]
  have:k.natAbs*1≤k.natAbs*n.natAbs:=Nat.mul_le_mul_left _ (by omega)
  omega) hm
 simp only [STD,qCb h0 hm hn,qkk hk]
theorem qzQ (a b:Nat) (hb:b<9223372036854775808):(qg uH [.i (a:Int),.i (b:Int)]).run=some (0,[.i ((Nat.gcd a b:Nat):Int)]):=by
 obtain ⟨j,qs,h1,rfl,rfl⟩:=yu (S:=uH) (fun k ps=>∃ x y:Nat,ps=[.i (x:Int),.i (y:Int)]∧y=k∧Nat.gcd x y=Nat.gcd a b)
  (fun j qs=>j=0∧qs=[.i ((Nat.gcd a b:Nat):Int)]) (n:=b) hb (fun k ps hk ⟨x,y,hps,hy,hg⟩=>by
  subst hps
  rw [qq2]
  by_cases h0:y=0
  ·right
   refine ⟨0,[.i (x:Int)],?_,rfl,?_⟩
   ·simp only [STD,h0];simp []
   ·rw [← hg,h0,Nat.gcd_zero_right]
  ·left
   refine ⟨x % y,[.i (y:Int),.i ((x % y:Nat):Int)],by rw [← hy];exact Nat.mod_lt _ (by omega),?_,y,x % y,rfl,rfl,?_⟩
   ·simp only [STD,show ¬ ((y:Int)=0) by omega,qos]
   ·rw [← hg,Nat.gcd_comm y,← Nat.gcd_rec,Nat.gcd_comm]) (ps:=[.i (a:Int),.i (b:Int)]) ⟨a,b,rfl,rfl,rfl⟩
 exact h1
theorem qDc {n:Nat} {l:List Int} (h:WOK n l) (hn:n≤1):mv l=l.getD 0 0:=by
 have:=qb5 l 1 (by rw [h.len];omega)
 rw [jr h.dig h.z hn,Int.mul_zero,Int.add_zero] at this
 have hl:=h.len
 obtain ⟨x,t,rfl⟩:∃ x t,l=x :: t:=by
  cases l with
  | nil=>simp at hl
  | cons x t=>exact ⟨x,t,rfl⟩
 rw [this];simp [mv]
theorem qEP {m n : Int} (hm : okL m) (hn : okL n) : (jQ [.s (tI m), .s (tI n)]).run = some (0, [.s (tN (Nat.gcd m.natAbs n.natAbs)), .i 0]) := by
  rw [qvb]
  have lm := qsE hm
  have ln := qsE hn
  obtain ⟨q1, l1, r1, w1, n1, v1, _⟩ := qnd m (by unfold okL at hm; omega)
  obtain ⟨q2, l2, r2, w2, n2, v2, _⟩ := qnd n (by unfold okL at hn; omega)
  have hm' : (tN m.natAbs).length ≤ 1024 := hm
  have hn' : (tN n.natAbs).length ≤ 1024 := hn
  obtain ⟨j, qs, g1, g2⟩ := yu (S := ji) (fun k ps => ∃ (x y : Nat) (b1 b2 : Bool) (nx ny : Nat) (lx ly : List Int), ps = [.b b1, .i (nx : Int), .r (rI lx), .b b2, .i (ny : Int), .r (rI ly)] ∧
      WOK nx lx ∧ nrm nx lx ∧ WOK ny ly ∧ nrm ny ly ∧ mv lx = x ∧ mv ly = y ∧ eM x y = k ∧ Nat.gcd x y = Nat.gcd m.natAbs n.natAbs ∧ (x : Int) < pB 114 ∧ (y : Int) < pB 114)
    (fun j qs => (j = 0 ∧ ∃ (b : Bool) (n' : Nat) (l : List Int), qs = [.b b, .i (n' : Int), .r (rI l)] ∧ WOK n' l ∧ nrm n' l ∧ mv l = ((Nat.gcd m.natAbs n.natAbs : Nat) : Int)) ∨ (j = 1 ∧ qs = [.s (tN (Nat.gcd m.natAbs n.natAbs)), .i 0])) (n := eM m.natAbs n.natAbs) (qyt (by omega) (by omega))
    (fun k ps hk ⟨x, y, b1, b2, nx, ny, lx, ly, hps, hw, hnw, hw2, hn2, hx, hy, he, hg, lx1, ly1⟩ => by
    subst hps
    rw [qs8]
    have hxl := hw.len
    have hyl := hw2.len
    by_cases h0 : ny = 0
    · right
      have hy0 : mv ly = 0 := by rw [← qkq hw2 hn2]; exact h0
      have hy0' : y = 0 := by omega
      refine ⟨0, [.b b1, .i (nx : Int), .r (rI lx)], ?_, .inl ⟨rfl, b1, nx, lx, rfl, hw, hnw, ?_⟩⟩
      · simp only [STD, h0, show ¬ (0 : Int) < ((0 : Nat) : Int) by omega]
      · rw [hx, ← hg, hy0', Nat.gcd_zero_right]
    · have a0 : (0 : Int) < (ny : Int) := by omega
      have hy0 : y ≠ 0 := fun h => h0 (by rw [qkq hw2 hn2]; omega)
      by_cases hc : nx ≤ 1 ∧ ny ≤ 1
      · right
        have e1 := qDc hw hc.1
        have e2 := qDc hw2 hc.2
        have d1 : cI (rI lx) 0 0 = (x : Int) := by rw [show (0 : Int) = ((0 : Nat) : Int) from rfl, q4S, ← e1, hx]
        have d2 : cI (rI ly) 0 0 = (y : Int) := by rw [show (0 : Int) = ((0 : Nat) : Int) from rfl, q4S, ← e2, hy]
        have hy9 := hw2.get 0
        rw [← e2, hy] at hy9
        have hE := qzQ x y (by omega)
        have hgl : Nat.gcd x y ≤ y := Nat.gcd_le_right _ (by omega)
        have hO := qgy ((Nat.gcd x y : Nat) : Int) (by omega)
        rw [q1f] at hO
        have c1 : (nx : Int) ≤ 1 := by omega
        have c2 : (ny : Int) ≤ 1 := by omega
        refine ⟨1, [.s (tN (Nat.gcd x y)), .i 0], ?_, .inr ⟨rfl, by rw [hg]⟩⟩
        simp only [STD, a0, c1, c2, d1, d2, hE, hO]
      · left
        have hny : ny ≤ 114 := qBL hw2 hn2 (by omega)
        obtain ⟨nq, lq, nr, lr, d1, d2, d3, d4, d5, d6, d7⟩ := qfd hw hw2 hn2 h0 (by omega) b1 b2
        have hr : mv lr = ((x % y : Nat) : Int) := by
          have b4 := d4.bd.1
          rw [hx, hy] at d6
          rw [hy] at d7
          have hy1 : (0 : Int) < (y : Int) := by omega
          have := (Int.ediv_emod_unique hy1 (a := (x : Int)) (r := mv lr) (q := mv lq)).2 ⟨by rw [Int.mul_comm]; omega, b4, d7⟩
          rw [← this.2]; simp
        refine ⟨eM y (x % y), [.b b2, .i (ny : Int), .r (rI ly), .b false, .i (nr : Int), .r (rI lr)], by rw [← he]; exact qB5 hy0, ?_, y, x % y, b2, false, ny, nr, ly, lr, rfl, hw2, hn2, d4, d5, hy, hr, rfl, ?_, ly1, ?_⟩
        · by_cases c1 : nx ≤ 1
          · have c2 : ¬ (ny : Int) ≤ 1 := by omega
            have c1' : (nx : Int) ≤ 1 := by omega
            simp only [STD, a0, c1', c2, d1]
          · have c1' : ¬ (nx : Int) ≤ 1 := by omega
            simp only [STD, a0, c1', d1]
        · rw [← hg, Nat.gcd_comm y, ← Nat.gcd_rec, Nat.gcd_comm]
        · have := Nat.mod_lt x (show 0 < y by omega)
          omega) (ps := [.b (decide (m < 0)), .i (q1 : Int), .r (rI l1), .b (decide (n < 0)), .i (q2 : Int), .r (rI l2)])
    ⟨m.natAbs, n.natAbs, _, _, q1, q2, l1, l2, rfl, w1, n1, w2, n2, v1, v2, rfl, rfl, lm, ln⟩
  rcases g2 with ⟨rfl, b, n', l, rfl, a1, a2, a3⟩ | ⟨rfl, rfl⟩
  · have hT := qy1 a1 a2 false
    have hv : sv false l = ((Nat.gcd m.natAbs n.natAbs : Nat) : Int) := by unfold sv; rw [a3]; rfl
    rw [hv, q1f] at hT
    simp only [STD, qex hm hn, r1, r2, g1, zb g1, hT]
  · simp only [STD, qex hm hn, r1, r2, g1, zb g1, show ¬ (1 = 0) by omega]
end Go.Eng

namespace Go.Eng
theorem qa5:okL 1:=by show nl 1≤1024;decide
theorem q91:okL 0:=by show nl 0≤1024;decide
theorem qEX (s:List UInt8) (hl:s.length≤1000000000):(jI [.s s,.s [47]]).run=some (0,if sP s<s.length then [.s (s.take (sP s)),.s (s.drop (sP s+1)),.b true] else [.s s,.s [],.b false]):=by
 rw [qrP]
 have h:(zN [.s s,.s [47]]).run=some (0,if sP s<s.length then [.s (s.take (sP s)),.s (s.drop (sP s+1)),.b true] else [.s s,.s [],.b false]):=by
  rw [q9r]
  have hI:=qDD s
  by_cases hc:sP s<s.length
  ·rw [if_pos hc] at hI ⊢
   have w:qw .i64 (sP s:Int) (qF [47])=((sP s+1:Nat):Int):=by
    show qw .i64 (sP s:Int) 1=_
    rw [wH (by omega)];omega
   have a1:(0:Int)≤(sP s:Int)∧(sP s:Int)≤qF s:=by unfold qF;omega
   have a2:(0:Int)≤0∧(0:Int)≤(sP s:Int):=by omega
   have a3:(0:Int)≤qF s∧qF s≤qF s:=by unfold qF;omega
   have a4:(0:Int)≤((sP s+1:Nat):Int)∧((sP s+1:Nat):Int)≤qF s:=by unfold qF;omega
   have e1:q70 s 0 (sP s:Int)=s.take (sP s):=by unfold q70;simp
   have e2:q70 s ((sP s+1:Nat):Int) (qF s)=s.drop (sP s+1):=by unfold q70 qF;simp only [Int.toNat_natCast];rw [List.take_length]
   simp only [STD,hI,a1.1,a1.2,a2,a3,a4,and_self,w,e1,e2]
  ·rw [if_neg hc] at hI ⊢
   have a:¬ (0:Int)≤-1:=by omega
   simp only [STD,hI,a]
 by_cases hc:sP s<s.length
 ·rw [if_pos hc] at h ⊢
  simp only [STD,h]
 ·rw [if_neg hc] at h ⊢
  simp only [STD,h]
theorem qEO (s:List UInt8) (hl:s.length≤1000000000):(q9 [.s s]).run=some (0,[.s (spn s),.s (spd s),.b (decide (sP s<s.length))]):=by
 rw [qvS]
 have h:=qEX s hl
 unfold spn spd
 by_cases hc:sP s<s.length
 ·rw [if_pos hc] at h ⊢
  rw [decide_eq_true hc]
  simp only [STD,h]
 ·rw [if_neg hc] at h ⊢
  have:sP s=s.length:=by have:=qCu s;omega
  rw [decide_eq_false hc,this,List.take_length]
  simp only [STD,h]
theorem qEJ (q:Rat):(sP (tQ q)<(tQ q).length)=(q.den≠1):=by
 by_cases h:q.den=1
 ·rw [q9P h,quz (qs4 _)];simp [h]
 ·rw [q5Y h,qBh (qs4 _)];simp [h]
def okQ (q:Rat):Prop:=qn q≤1024∧qd q≤1024
theorem q4P {q:Rat} (h:okQ q):okL q.num:=h.1
theorem q1m {q:Rat} (h:okQ q):okL (q.den:Int):=h.2
theorem q5J {q:Rat} (h:okQ q):(tQ q).length≤3000:=by have:=qD2 q;have:=h.1;have:=h.2;omega
theorem qad {q:Rat} (h:okQ q):(q9 [.s (tQ q)]).run=some (0,[.s (tI q.num),.s (tI (q.den:Int)),.b (decide (q.den≠1))]):=by
 have:=q5J h
 rw [qEO _ (by omega),qAl,qAd,q1f]
 simp only [qEJ]
open Classical in
noncomputable def vI (s:List UInt8):Int:=if h:∃ m:Int,s=tI m then h.choose else 0
theorem qx5 (m:Int):vI (tI m)=m:=by
 unfold vI
 have h:∃ k:Int,tI m=tI k:=⟨m,rfl⟩
 rw [dif_pos h]
 exact (qw4 h.choose_spec).symm
theorem qlU {s:List UInt8} (h:qwi s=0):∃ m:Int,s=tI m∧okL m:=by
 unfold qwi at h
 split at h
 ·rename_i hm
  obtain ⟨m,rfl⟩:=hm
  rw [quO] at h
  split at h
  ·rename_i hl;exact ⟨m,rfl,hl⟩
  ·omega
 ·omega
theorem qjS (s:List UInt8):qwi s=0∨qwi s=3∨qwi s=11:=by
 unfold qwi
 split
 ·split <;> simp
 ·simp
noncomputable def qcp (s:List UInt8):Int:=
 if qwi (spn s)=3 then 3 else if qwi (spd s)=3 then 3 else if qwi (spn s)≠0 then 11 else if qwi (spd s)≠0 then 11
 else if sP s<s.length then (if sgn (vI (spd s) - 1)≤0 then 3 else if Nat.gcd (vI (spn s)).natAbs (vI (spd s)).natAbs=1 then 0 else 3) else 0
theorem qCX (s:List UInt8):(spn s).length≤s.length:=by unfold spn;rw [List.length_take];omega
theorem qD4 (s:List UInt8):(spd s).length≤s.length+1:=by unfold spd;split <;> simp <;> omega
theorem q3t (s:List UInt8) (hl:s.length≤100000000):(zt [.s s]).run=some (0,[.i (qcp s)]):=by
 rw [qsl]
 have hn:=qCX s
 have hd:=qD4 s
 have h1:=qdv (spn s) (by omega)
 have h2:=qdv (spd s) (by omega)
 have hc:=qEO s (by omega)
 have mx:q9d 11 0=11∧q9d 11 11=11∧q9d 0 11=11:=by decide
 unfold qcp
 rcases qjS (spn s) with a | a | a <;> rcases qjS (spd s) with b | b | b <;> rw [a] at h1 ⊢ <;> rw [b] at h2 ⊢
 ·obtain ⟨m,em,om⟩:=qlU a
  obtain ⟨n,en,on⟩:=qlU b
  rw [em] at h1 hc ⊢
  rw [en] at h2 hc ⊢
  have hC:=qpt on (n:=1) qa5
  rw [qBc] at hC
  have hG:=qEP om on
  rw [qx5,qx5]
  by_cases hs:sP s<s.length
  ·by_cases ho:sgn (n - 1)≤0
   ·simp only [STD,hc,h1,h2,hs,hC,hG,ho,show ¬ ((0:Int)=3) by omega,show ¬ ((0:Int)≠0) by omega]
   ·by_cases hg:Nat.gcd m.natAbs n.natAbs=1
    ·simp only [STD,hc,h1,h2,hs,hC,hG,ho,hg,wc,q50,show ¬ ((0:Int)=3) by omega,show ¬ ((0:Int)≠0) by omega]
    ·simp only [STD,hc,h1,h2,hs,hC,hG,ho,hg,wc,q50,show ¬ ((0:Int)=3) by omega,show ¬ ((0:Int)≠0) by omega]
  ·simp only [STD,hc,h1,h2,hs,show ¬ ((0:Int)=3) by omega,show ¬ ((0:Int)≠0) by omega]
 all_goals simp only [STD,hc,h1,h2,mx,show ¬ ((0:Int)=3) by omega,show ¬ ((11:Int)=3) by omega,show ¬ ((11:Int)=0) by omega,show ¬ ((3:Int)=0) by omega]
theorem q61 (s:List UInt8) (hl:s.length≤100000000):(v8 [.s s]).run=some (0,[.i (qcp s)]):=by
 rw [qsc]
 have hn:=qCX s
 have hd:=qD4 s
 have h1:=ql6 (spn s) (by omega)
 have h2:=ql6 (spd s) (by omega)
 have hc:=qA2 s (by omega)
 have hsl:=qA8 s (by omega)
 unfold qcp
 rcases qjS (spn s) with a | a | a <;> rcases qjS (spd s) with b | b | b <;> rw [a] at h1 ⊢ <;> rw [b] at h2 ⊢
 ·obtain ⟨m,em,om⟩:=qlU a
  obtain ⟨n,en,on⟩:=qlU b
  rw [em] at h1 hc ⊢
  rw [en] at h2 hc ⊢
  unfold okL at om on
  have hC:=qed n 1 (by omega) (by decide)
  rw [qBc] at hC
  have hG:=qhY m n (by omega) (by omega)
  rw [qx5,qx5]
  by_cases hs:sP s<s.length
  ·rw [if_pos hs] at hsl
   have a0:(0:Int)≤(sP s:Int):=by omega
   by_cases ho:sgn (n - 1)≤0
   ·simp only [STD,hc,h1,h2,hsl,hs,a0,hC,hG,ho,show ¬ ((0:Int)=3) by omega]
   ·by_cases hg:Nat.gcd m.natAbs n.natAbs=1
    ·simp only [STD,hc,h1,h2,hsl,hs,a0,hC,hG,ho,hg,wc,q50,show ¬ ((0:Int)=3) by omega]
    ·simp only [STD,hc,h1,h2,hsl,hs,a0,hC,hG,ho,hg,wc,q50,show ¬ ((0:Int)=3) by omega]
  ·rw [if_neg hs] at hsl
   simp only [STD,hc,h1,h2,hsl,hs,show ¬ ((0:Int)=3) by omega,show ¬ ((0:Int)≤-1) by omega]
 all_goals simp only [STD,hc,h1,h2,show ¬ ((0:Int)=3) by omega,show ¬ ((11:Int)=3) by omega,show ¬ ((11:Int)=0) by omega,show ¬ ((3:Int)=0) by omega]
theorem qux {q:Rat} (h:okQ q):qcp (tQ q)=0:=by
 unfold qcp
 have e1:spd (tQ q)=tI (q.den:Int):=by rw [qAd,q1f]
 rw [qAl,e1,qxA (q4P h),qxA (q1m h)]
 simp only [qx5,qEJ]
 by_cases hd:q.den=1
 ·simp [hd]
 ·have:=q.den_nz
  have hs:¬ sgn ((q.den:Int) - 1)≤0:=by
   unfold sgn;rw [if_neg (by omega),if_neg (by omega)];omega
  have hr:Nat.gcd q.num.natAbs q.den=1:=q.reduced
  simp [hd,hs,hr]
theorem qiR {s:List UInt8} (h:qcp s=0):∃ q:Rat,s=tQ q∧okQ q:=by
 unfold qcp at h
 split at h
 ·omega
 split at h
 ·omega
 split at h
 ·omega
 split at h
 ·omega
 rename_i h1 h2 h3 h4
 obtain ⟨m,em,om⟩:=qlU (Decidable.byContradiction fun h=>h3 h)
 obtain ⟨n,en,on⟩:=qlU (Decidable.byContradiction fun h=>h4 h)
 rw [em,en,qx5,qx5] at h
 split at h
 ·rename_i hs
  split at h
  ·omega
  rename_i hsg
  split at h
  ·rename_i hg
   have hn1:1<n:=by
    unfold sgn at hsg
    by_cases c1:n - 1<0
    ·rw [if_pos c1] at hsg;omega
    ·rw [if_neg c1] at hsg
     by_cases c2:n - 1=0
     ·rw [if_pos c2] at hsg;omega
     ·omega
   obtain ⟨k,rfl⟩:∃ k:Nat,n=(k:Int):=⟨n.toNat,by omega⟩
   refine ⟨⟨m,k,by omega,hg⟩,?_,om,on⟩
   rw [q5Y (show k≠1 by omega)]
   have hslash:s=spn s++47 :: spd s:=by
    unfold spn spd
    rw [if_pos hs]
    have h47:s[sP s]=47:=by
     have:=List.findIdx_getElem (p:=(·==47)) (w:=hs)
     exact eq_of_beq this
    rw [← h47,List.getElem_cons_drop,List.take_append_drop]
   rw [hslash,em,en,q1f]
  ·omega
 ·rename_i hs
  have e:sP s=s.length:=by have:=qCu s;omega
  have hsn:spn s=s:=by unfold spn;rw [e,List.take_length]
  refine ⟨(m:Rat),?_,?_,?_⟩
  ·rw [qBK,← em,hsn]
  ·have:nl m≤1024:=om
   unfold qn;simpa using this
  ·unfold qd;simp;decide
theorem qFd (m:Int):nl m≤(tI m).length:=by unfold nl tI;split <;> simp
theorem qg1 (q:Rat):qn q≤(tQ q).length∧(q.den=1∨qn q+1+qd q≤(tQ q).length):=by
 have h1:=qFd q.num
 by_cases h:q.den=1
 ·rw [q9P h];exact ⟨h1,.inl h⟩
 ·rw [q5Y h]
  unfold qn qd dl
  simp
  omega
theorem qvq {l:List (List UInt8)} (hn:l.length<1000000) (h:∀ s,s ∈ l→(zt [.s s]).run=some (0,[.i 0])):(za [.r (rS l)]).run=some (0,[.i 0]):=by
 rw [qoV,qsX]
 have key:=kP (S:=ue) (fun i=>[.r (rS l),.i (l.length:Int),.i (i:Int)]) (0,[]) l.length (by omega) (fun i hi=>by
  rw [qcA,qAc hi]
  have a1:(i:Int)<(l.length:Int):=by omega
  have a2:(i:Int)<qH (rS l):=by rw [qsX];exact a1
  simp only [STD,a1,a2,yq,and_self,h _ (List.getElem_mem hi),q0e hi (show l.length<9223372036854775808 by omega)]) (by
  rw [qcA]
  have a1:¬ (l.length:Int)<(l.length:Int):=by omega
  simp only [STD,a1])
 simp only [show (((0:Nat)):Int)=0 from rfl] at key
 simp only [STD,key,zb key]
theorem qb8 {q:Rat} (h:okQ q):(zt [.s (tQ q)]).run=some (0,[.i 0]):=by
 have:=q5J h
 rw [q3t _ (by omega),qux h]
theorem qgs {a b:Rat} (ha:okQ a) (hb:okQ b):(za [.r [[.s (tQ a)],[.s (tQ b)]]]).run=some (0,[.i 0]):=by
 exact qvq (l:=[tQ a,tQ b]) (by simp) (fun s hs=>by
  simp only [List.mem_cons,List.not_mem_nil,or_false] at hs
  rcases hs with rfl | rfl
  ·exact qb8 ha
  ·exact qb8 hb)
theorem qDf {m n:Int} (hm:okL m) (hn:okL n) (h:okL (m+n)):(vd [.s (tI m),.s (tI n),.i 0]).run=some (0,[.s (tI (m+n)),.i 0]):=by
 rw [qmU]
 have:(wB [.s (tI m),.s (tI n),.i 0]).run=some (0,[.s (tI (m+n)),.i 0]):=by
  rw [qaU]
  simp only [STD,qEm hm hn h]
 simp only [STD,this]
theorem qx2 {m n:Int} (hm:okL m) (hn:okL n) (h:okL (m - n)):(zE [.s (tI m),.s (tI n),.i 0]).run=some (0,[.s (tI (m - n)),.i 0]):=by
 rw [qlH]
 have:(wG [.s (tI m),.s (tI n),.i 0]).run=some (0,[.s (tI (m - n)),.i 0]):=by
  rw [qaN]
  simp only [STD,qFk hm hn h]
 simp only [STD,this]
theorem qDv {m n:Int} (hm:okL m) (hn:okL n) (h:okL (m*n)):(zT [.s (tI m),.s (tI n),.i 0]).run=some (0,[.s (tI (m*n)),.i 0]):=by
 rw [qaZ]
 simp only [STD,qFl hm hn h]
theorem qDE {m n:Int} (hm:okL m) (hn:okL n):(j0 [.s (tI m),.s (tI n),.i 0]).run=some (0,[.s (tN (Nat.gcd m.natAbs n.natAbs)),.i 0]):=by
 rw [qaV]
 simp only [STD,qEP hm hn]
theorem quy {k n:Int} (h0:n≠0) (hm:okL (k*n)) (hn:okL n):(zR [.s (tI (k*n)),.s (tI n),.i 0]).run=some (0,[.s (tI k),.i 0]):=by
 rw [qaW]
 simp only [STD,qFp h0 hm hn]
def prd:Int→List Int→Int
 | a,[]=>a
 | a,m :: l=>prd (a*m) l
def qDY:Int→List Int→Prop
 | a,[]=>okL a
 | a,m :: l=>okL a∧okL m∧qDY (a*m) l
theorem qA4:∀ (l:List Int) (pre:List Int) (a:Int),qDY a l→pre.length+l.length<1000→∀ f,l.length<f →
  (qkJ vR f [.s (tI a),.r (rS ((pre++l).map tI)),.i ((pre++l).length:Int),.i (pre.length:Int),.i 0]).run=some (0,[.s (tI (prd a l)),.i 0])
 | [],pre,a,h,hl,f,hf=>by
  obtain ⟨f,rfl⟩:∃ g,f=g+1:=⟨f - 1,by simp at hf;omega⟩
  refine q3X ?_
  rw [q9m,List.append_nil]
  have a1:¬ (pre.length:Int)<(pre.length:Int):=by omega
  simp only [STD,a1];rfl
 | m :: l,pre,a,h,hl,f,hf=>by
  obtain ⟨f,rfl⟩:∃ g,f=g+1:=⟨f - 1,by simp at hf;omega⟩
  obtain ⟨h1,h2,h3⟩:=h
  have hlt:pre.length<(pre++m :: l).length:=by simp
  have ih:=qA4 l (pre++[m]) (a*m) h3 (by simp at hl ⊢;omega) f (by simp at hf;omega)
  rw [List.append_assoc,List.singleton_append] at ih
  have hok:okL (a*m):=by
   cases l with
   | nil=>exact h3
   | cons x l=>exact h3.1
  rw [qgQ (qs:=[.s (tI (a*m)),.r (rS ((pre++m :: l).map tI)),.i ((pre++m :: l).length:Int),.i ((pre++[m]).length:Int),.i 0])]
  ·exact ih
  ·rw [q9m]
   have hlt2:pre.length<((pre++m :: l).map tI).length:=by simp
   rw [qAc hlt2]
   have e:((pre++m :: l).map tI)[pre.length]=tI m:=by simp
   rw [e]
   have a1:(pre.length:Int)<((pre++m :: l).length:Int):=by omega
   have a2:(pre.length:Int)<qH (rS ((pre++m :: l).map tI)):=by rw [qsX];omega
   have w:qw .i64 (pre.length:Int) 1=((pre++[m]).length:Int):=by
    rw [wH (by omega)];simp
   simp only [STD,a1,a2,yq,and_self,qDv h1 h2 hok,w]
theorem qwb (l:List Int) (h:qDY 1 l) (hl:l.length<1000):(qe [.r (rS (l.map tI)),.i 0]).run=some (0,[.s (tI (prd 1 l)),.i 0]):=by
 rw [qlL,qsX]
 have h1:=qA4 l [] 1 h (by simp;omega) q7j (by unfold q7j;omega)
 simp only [List.nil_append,List.length_nil] at h1
 have e:(qg vR [.s [49],.r (rS (l.map tI)),.i ((l.map tI).length:Int),.i 0,.i 0]).run=some (0,[.s (tI (prd 1 l)),.i 0]):=by
  rw [List.length_map]
  exact h1
 simp only [STD,e]
theorem qcI {m n:Int} (hm:okL m) (hn:okL n) (h:okL (m*n)):(qe [.r [[.s (tI m)],[.s (tI n)]],.i 0]).run=some (0,[.s (tI (m*n)),.i 0]):=by
 have:=qwb [m,n] ⟨qa5,hm,by rw [Int.one_mul];exact hm,hn,by rw [Int.one_mul];exact h⟩ (by simp)
 simp only [prd,Int.one_mul] at this
 exact this
theorem qvu {q:Rat} (h:okQ q):(q29 [.s (tI q.num),.s (tI (q.den:Int))]).run=some (0,[.s (tQ q)]):=by
 rw [qr0,q1f]
 have l1:=qx3 (q4P h)
 have l2:(tN q.den).length≤1024:=h.2
 have a1:qF (tI q.num)+qF [47]≤140737488355328:=by unfold qF;simp;omega
 have a2:qF (q7O (tI q.num) [47])+qF (tN q.den)≤140737488355328:=by unfold qF q7O;simp;omega
 by_cases h1:q.den=1
 ·simp only [STD,wc,q50,h1,q9P h1]
 ·simp only [STD,wc,q50,h1,q5Y h1,a1,a2]
  simp [q7O]
theorem qCe (s:List UInt8):(kj [.s s,.s [45]]).run=some (0,[.b (decide (s.getD 0 0=45))]):=by
 rw [qgW]
 simp only [STD,qBb]
theorem qAU (n:Int):((tI n).getD 0 0=45)=(n<0):=by
 by_cases h:n<0
 ·rw [qbq h];simp [h]
 ·rw [qiW h]
  obtain ⟨c,t,e,h1,h2⟩:=qgR (vz n.natAbs) (qpJ _)
  rw [e]
  simp only [List.getD_cons_zero,h,eq_iff_iff,iff_false]
  intro hc;subst hc;revert h1;decide
theorem qop {m n:Int} (hn0:n≠0) (hm:okL m) (hn:okL n):(qX [.s (tI m),.s (tI n),.i 0]).run=some (0,[.s (tQ (Rat.divInt m n)),.i 0])∧okQ (Rat.divInt m n):=by
 have hG:=qDE hm hn
 have hg0:0<Nat.gcd m.natAbs n.natAbs:=Nat.gcd_pos_of_pos_right _ (by omega)
 have hgn:Nat.gcd m.natAbs n.natAbs≤n.natAbs:=Nat.gcd_le_right _ (by omega)
 have hnum:=Rat.num_divInt m n
 have hden:=Rat.den_divInt m n
 rw [if_neg hn0] at hden
 have hgc:Int.gcd n m=Nat.gcd m.natAbs n.natAbs:=by unfold Int.gcd;exact Nat.gcd_comm _ _
 rw [hgc] at hnum hden
 obtain ⟨k,hk⟩:((Nat.gcd m.natAbs n.natAbs:Nat):Int) ∣ m:=Int.ofNat_dvd_left.2 (Nat.gcd_dvd_left _ _)
 obtain ⟨l,hl⟩:((Nat.gcd m.natAbs n.natAbs:Nat):Int) ∣ n:=Int.ofNat_dvd_left.2 (Nat.gcd_dvd_right _ _)
 generalize Nat.gcd m.natAbs n.natAbs=g at *
 generalize Rat.divInt m n=q at *
 have hgok:okL (g:Int):=qD1 (by simpa using hgn) hn
 have hm2:k*(g:Int)=m:=by rw [Int.mul_comm];exact hk.symm
 have hn2:l*(g:Int)=n:=by rw [Int.mul_comm];exact hl.symm
 have hgz:(g:Int)≠0:=by omega
 have hok:okQ q:=by
  constructor
  ·refine Nat.le_trans (qmS ?_) hm
   rw [hnum]
   refine Nat.le_trans (Int.natAbs_ediv_le_natAbs _ _) ?_
   rw [Int.natAbs_mul,Int.natAbs_sign_of_ne_zero hn0];omega
  ·refine Nat.le_trans (q08 ?_) hn
   rw [hden];exact Nat.div_le_self _ _
 refine ⟨?_,hok⟩
 rw [qh9]
 have hP:=qCe (tI n)
 simp only [qAU] at hP
 by_cases hneg:n<0
 ·have e1:-k=q.num:=by
   rw [hnum,Int.sign_eq_neg_one_of_neg hneg,← hm2]
   rw [show (-1:Int)*(k*(g:Int))=(-k)*(g:Int) by rw [Int.neg_mul,Int.one_mul,Int.neg_mul]]
   exact (Int.mul_ediv_cancel _ hgz).symm
  have e2:-l=(q.den:Int):=by
   rw [hden]
   have h3:(n.natAbs:Int)=(-l)*(g:Int):=by rw [Int.neg_mul];omega
   rw [Int.natCast_ediv,h3,Int.mul_ediv_cancel _ hgz]
  have hS:=qx2 (m:=0) (n:=(g:Int)) q91 hgok (by rw [Int.zero_sub];exact quE hgok)
  rw [Int.zero_sub,q1f] at hS
  have Q1:=quy (k:=-k) (n:=-(g:Int)) (by omega) (by rw [Int.neg_mul_neg,hm2];exact hm) (quE hgok)
  have Q2:=quy (k:=-l) (n:=-(g:Int)) (by omega) (by rw [Int.neg_mul_neg,hn2];exact hn) (quE hgok)
  rw [Int.neg_mul_neg,hm2,e1] at Q1
  rw [Int.neg_mul_neg,hn2,e2] at Q2
  have hS':(zE [.s [48],.s (tN g),.i 0]).run=some (0,[.s (tI (-(g:Int))),.i 0]):=hS
  simp only [STD,hG,hP,hneg,hS',Q1,Q2,qvu hok]
 ·have e1:k=q.num:=by
   rw [hnum,Int.sign_eq_one_of_pos (by omega),Int.one_mul,← hm2]
   exact (Int.mul_ediv_cancel _ hgz).symm
  have e2:l=(q.den:Int):=by
   rw [hden]
   have h3:(n.natAbs:Int)=l*(g:Int):=by omega
   rw [Int.natCast_ediv,h3,Int.mul_ediv_cancel _ hgz]
  have Q1:=quy (k:=k) (n:=(g:Int)) hgz (by rw [hm2];exact hm) hgok
  have Q2:=quy (k:=l) (n:=(g:Int)) hgz (by rw [hn2];exact hn) hgok
  rw [hm2,e1,q1f] at Q1
  rw [hn2,e2,q1f] at Q2
  simp only [STD,hG,hP,hneg,Q1,Q2,qvu hok]
end Go.Eng

namespace Go.Eng
theorem qyI (a b:Rat):Rat.divInt (a.num*b.den+b.num*a.den) ((a.den:Int)*(b.den:Int))=a+b:=by
 rw [Rat.add_def',← Rat.divInt_ofNat];simp
theorem qyZ (a b:Rat):Rat.divInt (a.num*b.den - b.num*a.den) ((a.den:Int)*(b.den:Int))=a - b:=by
 rw [Rat.sub_def',← Rat.divInt_ofNat];simp
theorem qz2 (a b:Rat):Rat.divInt (a.num*b.num) ((a.den:Int)*(b.den:Int))=a*b:=by
 rw [Rat.mul_def',← Rat.divInt_ofNat];simp
theorem qyT (a b:Rat):Rat.divInt (a.num*b.den) ((a.den:Int)*b.num)=a / b:=by
 rw [Rat.div_def,Rat.inv_def,← Rat.divInt_mul_divInt,Rat.num_divInt_den]
theorem qmq (a b:Rat):(a.den:Int)*(b.den:Int)≠0:=by have:=Int.mul_pos (qwe a) (qwe b);omega
theorem qF8 {m:Int} (h:m≠0):¬ tI m=[48]:=by rw [q9j];exact h
def bnd (N D:Nat) (q:Rat):Prop:=qn q≤N∧qd q≤D
theorem bnd.ok {N D:Nat} {q:Rat} (h:bnd N D q) (hN:N≤1024) (hD:D≤1024):okQ q:=⟨Nat.le_trans h.1 hN,Nat.le_trans h.2 hD⟩
theorem bnd.sm {N D K:Nat} {q:Rat} (h:bnd N D q) (hN:N≤K) (hD:D≤K):sm K q:=⟨Nat.le_trans h.1 hN,Nat.le_trans h.2 hD⟩
theorem bnd.mono {N D N' D':Nat} {q:Rat} (h:bnd N D q) (hN:N≤N') (hD:D≤D'):bnd N' D' q:=⟨Nat.le_trans h.1 hN,Nat.le_trans h.2 hD⟩
theorem bnd.mul {N D N' D':Nat} {a b:Rat} (ha:bnd N D a) (hb:bnd N' D' b):bnd (N+N') (D+D') (a*b):=
 ⟨Nat.le_trans (qBB a b) (Nat.add_le_add ha.1 hb.1),Nat.le_trans (qAg a b) (Nat.add_le_add ha.2 hb.2)⟩
theorem bnd.add {N D N' D' K:Nat} {a b:Rat} (ha:bnd N D a) (hb:bnd N' D' b) (h1:N+D'+1≤K) (h2:N'+D+1≤K):bnd K (D+D') (a+b):=
 ⟨by have:=qEI a b;have:=ha.1;have:=ha.2;have:=hb.1;have:=hb.2;omega,by have:=qEH a b;have:=ha.2;have:=hb.2;omega⟩
theorem bnd.sub {N D N' D' K:Nat} {a b:Rat} (ha:bnd N D a) (hb:bnd N' D' b) (h1:N+D'+1≤K) (h2:N'+D+1≤K):bnd K (D+D') (a - b):=
 ⟨by have:=qEZ a b;have:=ha.1;have:=ha.2;have:=hb.1;have:=hb.2;omega,by have:=qED a b;have:=ha.2;have:=hb.2;omega⟩
theorem bnd.div {N D N' D':Nat} {a b:Rat} (h0:b≠0) (ha:bnd N D a) (hb:bnd N' D' b):bnd (N+D') (D+N') (a / b):=
 ⟨by have:=qEF a h0;have:=ha.1;have:=hb.2;omega,by have:=qF4 a h0;have:=ha.2;have:=hb.1;omega⟩
theorem bnd.neg {N D:Nat} {a:Rat} (h:bnd N D a):bnd N D (-a):=⟨by rw [qEk];exact h.1,h.2⟩
theorem q6Y:bnd 1 1 0:=⟨by decide,by decide⟩
theorem qdk:bnd 1 1 2:=⟨by decide,by decide⟩
theorem qxW:bnd 1 1 (-2):=⟨by decide,by decide⟩
theorem qbH {m n:Int} {N M:Nat} (hm:nl m≤N) (hn:nl n≤M) (h:N+M≤1024):okL (m*n):=by
 have:=uq m n
 unfold okL;omega
theorem qwL {N D N' D':Nat} {a b:Rat} (ha:bnd N D a) (hb:bnd N' D' b) (h1:N+N'≤1024) (h2:D+D'≤1024):(q0F [.s (tQ a),.s (tQ b)]).run=some (0,[.s (tQ (a*b)),.i 0]):=by
 have oa:=ha.ok (by omega) (by omega)
 have ob:=hb.ok (by omega) (by omega)
 have k1:okL (a.num*b.num):=qbH ha.1 hb.1 h1
 have k2:okL ((a.den:Int)*(b.den:Int)):=qbH ha.2 hb.2 h2
 have m1:=qcI (q4P oa) (q4P ob) k1
 have m2:=qcI (q1m oa) (q1m ob) k2
 have hL:=(qop (qmq a b) k1 k2).1
 rw [qz2] at hL
 rw [quX]
 have key:(wU [.s (tQ a),.s (tQ b)]).run=some (0,[.s (tQ (a*b)),.i 0]):=by
  rw [qck]
  have h1:(w9 [.s (tI a.num),.s (tI (a.den:Int)),.s (tI b.num),.s (tI (b.den:Int)),.i 0]).run=some (0,[.s (tI (a.num*b.num)),.s (tI ((a.den:Int)*(b.den:Int))),.i 0]):=by
   rw [qrT]
   simp only [STD,m1,m2]
  simp only [STD,qgs oa ob,qad oa,qad ob,h1,wc,qF8 (qmq a b),hL]
 simp only [STD,key]
theorem qwW {N D N' D':Nat} {a b:Rat} (ha:bnd N D a) (hb:bnd N' D' b) (h1:N+D'≤1023) (h2:N'+D≤1023) (h3:D+D'≤1024):(q0u [.s (tQ a),.s (tQ b)]).run=some (0,[.s (tQ (a+b)),.i 0]):=by
 have p1:=ql9 a
 have p2:=ql9 b
 have p3:=qvf a
 have p4:=qvf b
 have oa:okQ a:=⟨by have:=ha.1;have:=hb.2;omega,by have:=ha.2;have:=hb.2;omega⟩
 have ob:okQ b:=⟨by have:=hb.1;have:=ha.2;omega,by have:=ha.2;have:=hb.2;omega⟩
 have k1:okL (a.num*(b.den:Int)):=qbH ha.1 hb.2 (by omega)
 have k2:okL (b.num*(a.den:Int)):=qbH hb.1 ha.2 (by omega)
 have k3:okL ((a.den:Int)*(b.den:Int)):=qbH ha.2 hb.2 h3
 have k4:okL (a.num*(b.den:Int)+b.num*(a.den:Int)):=by
  have q1:=qsB (a.num*(b.den:Int)) (b.num*(a.den:Int))
  have q2:=uq a.num (b.den:Int)
  have q3:=uq b.num (a.den:Int)
  have q4:nl a.num≤N:=ha.1
  have q5:nl (b.den:Int)≤D':=hb.2
  have q6:nl b.num≤N':=hb.1
  have q7:nl (a.den:Int)≤D:=ha.2
  unfold okL;omega
 have m1:=qcI (q4P oa) (q1m ob) k1
 have m2:=qcI (q4P ob) (q1m oa) k2
 have m3:=qcI (q1m oa) (q1m ob) k3
 have hL:=(qop (qmq a b) k4 k3).1
 rw [qyI] at hL
 rw [qw2]
 have key:(wW [.s (tQ a),.s (tQ b)]).run=some (0,[.s (tQ (a+b)),.i 0]):=by
  rw [qbZ]
  have h1:(zW [.s (tI a.num),.s (tI (a.den:Int)),.s (tI b.num),.s (tI (b.den:Int)),.i 0]).run=some (0,[.s (tI (a.num*b.den+b.num*a.den)),.s (tI ((a.den:Int)*(b.den:Int))),.i 0]):=by
   rw [qrr]
   simp only [STD,m1,m2,m3,qDf k1 k2 k4]
  simp only [STD,qgs oa ob,qad oa,qad ob,h1,wc,qF8 (qmq a b),hL]
 simp only [STD,key]
theorem qwC {N D N' D':Nat} {a b:Rat} (ha:bnd N D a) (hb:bnd N' D' b) (h1:N+D'≤1023) (h2:N'+D≤1023) (h3:D+D'≤1024):(q0i [.s (tQ a),.s (tQ b)]).run=some (0,[.s (tQ (a - b)),.i 0]):=by
 have p1:=ql9 a
 have p2:=ql9 b
 have p3:=qvf a
 have p4:=qvf b
 have oa:okQ a:=⟨by have:=ha.1;have:=hb.2;omega,by have:=ha.2;have:=hb.2;omega⟩
 have ob:okQ b:=⟨by have:=hb.1;have:=ha.2;omega,by have:=ha.2;have:=hb.2;omega⟩
 have k1:okL (a.num*(b.den:Int)):=qbH ha.1 hb.2 (by omega)
 have k2:okL (b.num*(a.den:Int)):=qbH hb.1 ha.2 (by omega)
 have k3:okL ((a.den:Int)*(b.den:Int)):=qbH ha.2 hb.2 h3
 have k4:okL (a.num*(b.den:Int) - b.num*(a.den:Int)):=by
  have q1:=qyo (a.num*(b.den:Int)) (b.num*(a.den:Int))
  have q2:=uq a.num (b.den:Int)
  have q3:=uq b.num (a.den:Int)
  have q4:nl a.num≤N:=ha.1
  have q5:nl (b.den:Int)≤D':=hb.2
  have q6:nl b.num≤N':=hb.1
  have q7:nl (a.den:Int)≤D:=ha.2
  unfold okL;omega
 have m1:=qcI (q4P oa) (q1m ob) k1
 have m2:=qcI (q4P ob) (q1m oa) k2
 have m3:=qcI (q1m oa) (q1m ob) k3
 have hL:=(qop (qmq a b) k4 k3).1
 rw [qyZ] at hL
 rw [qva]
 have key:(wO [.s (tQ a),.s (tQ b)]).run=some (0,[.s (tQ (a - b)),.i 0]):=by
  rw [qbG]
  have h1:(zX [.s (tI a.num),.s (tI (a.den:Int)),.s (tI b.num),.s (tI (b.den:Int)),.i 0]).run=some (0,[.s (tI (a.num*b.den - b.num*a.den)),.s (tI ((a.den:Int)*(b.den:Int))),.i 0]):=by
   rw [qrn]
   simp only [STD,m1,m2,m3,qx2 k1 k2 k4]
  simp only [STD,qgs oa ob,qad oa,qad ob,h1,wc,qF8 (qmq a b),hL]
 simp only [STD,key]
theorem qpP (q:Rat):(tQ q=[48])=(q=0):=by
 have:([48]:List UInt8)=tQ 0:=rfl
 rw [this,qyX]
theorem qww {N D N' D':Nat} {a b:Rat} (hb0:b≠0) (ha:bnd N D a) (hb:bnd N' D' b) (h1:N+D'≤1024) (h2:D+N'≤1024):(q0m [.s (tQ a),.s (tQ b)]).run=some (0,[.s (tQ (a / b)),.i 0]):=by
 have oa:okQ a:=⟨by have:=ha.1;omega,by have:=ha.2;omega⟩
 have ob:okQ b:=⟨by have:=hb.1;omega,by have:=hb.2;omega⟩
 have k1:okL (a.num*(b.den:Int)):=qbH ha.1 hb.2 h1
 have k2:okL ((a.den:Int)*b.num):=qbH ha.2 hb.1 h2
 have hbn:b.num≠0:=fun h=>hb0 (Rat.num_eq_zero.1 h)
 have hz:(a.den:Int)*b.num≠0:=by have:=qwe a;exact Int.mul_ne_zero (by omega) hbn
 have m1:=qcI (q4P oa) (q1m ob) k1
 have m2:=qcI (q1m oa) (q4P ob) k2
 have hL:=(qop hz k1 k2).1
 rw [qyT] at hL
 rw [qvV]
 have key:(wQ [.s (tQ a),.s (tQ b)]).run=some (0,[.s (tQ (a / b)),.i 0]):=by
  rw [qc9]
  have h1:(zZ [.s (tI a.num),.s (tI (a.den:Int)),.s (tI b.num),.s (tI (b.den:Int)),.i 0]).run=some (0,[.s (tI (a.num*b.den)),.s (tI ((a.den:Int)*b.num)),.i 0]):=by
   rw [qrJ]
   simp only [STD,m1,m2]
  simp only [STD,qgs oa ob,qad oa,qad ob,h1,wc,qF8 hz,hL]
 simp only [STD,qgs oa ob,wc,qpP,hb0,key]
theorem q80 {m:Int} (h:okL m):(wS [.s (tI m),.i 0]).run=some (0,[.i (sgn m),.i 0]):=by
 rw [qla]
 simp only [STD,qve h]
theorem qDj (m:Int):sgn m=sgq (m:Rat):=by unfold sgq;simp
theorem qwU {q k:Rat} (hk:0<k):sgq (k*q)=sgq q:=by
 rcases qcZ q with ⟨h,e⟩ | ⟨h,e⟩ | ⟨h,e⟩
 ·rw [e,qzR]
  have:=(Rat.mul_neg_iff_of_pos_left hk).2 h
  exact this
 ·rw [e,h,Rat.mul_zero];rfl
 ·rw [e,qtt]
  exact Rat.mul_pos hk h
theorem q3r (a:Rat):(0:Rat)<(a.den:Rat):=by
 have:=a.den_nz
 exact Rat.natCast_pos.2 (by omega)
theorem qew (a:Rat):(a.num:Rat)=a*(a.den:Rat):=by
 have h:a=(a.num:Rat) / (a.den:Rat):=by rw [← Rat.mkRat_eq_div,Rat.mkRat_self]
 have h2:=Rat.div_mul_cancel (a:=(a.num:Rat)) (b:=(a.den:Rat)) (by have:=q3r a;grind)
 rw [← h] at h2
 exact h2.symm
def rX (a b c:Rat):Int:=a.num*b.den*c.den
def rY (a b:Rat):Int:=b.num*a.den
def rR (c:Rat):Int:=c.num*c.den
theorem qF3 (a b c:Rat):sgn (rX a b c)=sgq a:=by
 unfold rX sgq
 rw [qe5 (qwe c),qe5 (qwe b)]
theorem qEp (a b:Rat):sgn (rY a b)=sgq b:=by unfold rY sgq;rw [qe5 (qwe a)]
theorem qEY (c:Rat):sgn (rR c)=sgq c:=by unfold rR sgq;rw [qe5 (qwe c)]
theorem qEo (a b c:Rat):sgn (rX a b c*rX a b c - rY a b*rY a b*rR c)=sgq (a*a - b*b*c):=by
 rw [qDj]
 have h1:=q3r a
 have h2:=q3r b
 have h3:=q3r c
 have hk:(0:Rat)<((a.den:Rat)*b.den*c.den)*((a.den:Rat)*b.den*c.den):=by
  have:=Rat.mul_pos (Rat.mul_pos h1 h2) h3
  exact Rat.mul_pos this this
 rw [← qwU (q:=a*a - b*b*c) hk]
 congr 1
 unfold rX rY rR
 simp only [Rat.intCast_sub,Rat.intCast_mul,qew,Rat.intCast_natCast]
 grind
theorem qBl (a b c:Rat):qf4 a b c=if 0≤sgn (rX a b c)*(sgn (rY a b)*sgn (rR c)) then (if sgn (rX a b c)=0 then sgn (rY a b)*sgn (rR c) else sgn (rX a b c)) else sgn (rX a b c)*sgn (rX a b c*rX a b c - rY a b*rY a b*rR c):=by
 unfold qf4
 rw [qF3,qEp,qEY,qEo]
theorem qDF {x y r:Int} (hx:okL x) (hy:okL y) (hr:okL r) (hxx:okL (x*x)) (hyy:okL (y*y)) (hyr:okL (y*y*r)) (hd:okL (x*x - y*y*r)) :
  (uS [.s (tI x),.s (tI y),.s (tI r),.i 0]).run=some (0,[.i (if 0≤sgn x*(sgn y*sgn r) then (if sgn x=0 then sgn y*sgn r else sgn x) else sgn x*sgn (x*x - y*y*r)),.i 0]):=by
 rw [qk2]
 have bx:=qox x
 have bY:=qox y
 have br:=qox r
 have bd:=qox (x*x - y*y*r)
 have m1:=qcI hx hx hxx
 have m2:=qwb [y,y,r] ⟨qa5,hy,by rw [Int.one_mul];exact hy,hy,by rw [Int.one_mul];exact hyy,hr,by rw [Int.one_mul];exact hyr⟩ (by simp)
 simp only [prd,Int.one_mul] at m2
 have m2':(qe [.r [[.s (tI y)],[.s (tI y)],[.s (tI r)]],.i 0]).run=some (0,[.s (tI (y*y*r)),.i 0]):=m2
 by_cases hc:0≤sgn x*(sgn y*sgn r)
 ·by_cases h0:sgn x=0
  ·have w0:q0K .i64 0 (sgn y*sgn r)=0:=by rw [qaD (by rw [Int.zero_mul];omega),Int.zero_mul]
   simp only [STD,q80 hx,q80 hy,q80 hr,qdW bY br,h0,w0,Int.zero_mul,Int.le_refl,eq_self]
  ·simp only [STD,q80 hx,q80 hy,q80 hr,qdW bY br,qdW bx (qE8 bY br),hc,h0]
 ·simp only [STD,q80 hx,q80 hy,q80 hr,qdW bY br,qdW bx (qE8 bY br),hc,m1,m2',qx2 hxx hyr hd,q80 hd,qdW bx bd]
theorem qyc (m:Int):okL (0*m):=by rw [Int.zero_mul];exact q91
theorem qBS {c:Rat} (h:0≤c):¬ (tQ c).getD 0 0=45:=by
 have hn:¬ c.num<0:=by have:=Rat.num_nonneg.2 h;omega
 have e:(tQ c).getD 0 0=(tI c.num).getD 0 0:=by
  by_cases hd:c.den=1
  ·rw [q9P hd]
  ·rw [q5Y hd]
   obtain ⟨x,t,ex⟩:∃ x t,tI c.num=x :: t:=List.exists_cons_of_ne_nil (List.length_pos_iff.1 (qq3 _))
   rw [ex];simp
 rw [e,qAU];exact hn
theorem qB0 {c:Rat} (h:c<0):(tQ c).getD 0 0=45:=by
 have h1:¬ 0≤c:=by grind
 have hn:c.num<0:=by
  have h2:¬ 0≤c.num:=fun h=>h1 (Rat.num_nonneg.1 h)
  omega
 have e:(tQ c).getD 0 0=(tI c.num).getD 0 0:=by
  by_cases hd:c.den=1
  ·rw [q9P hd]
  ·rw [q5Y hd]
   obtain ⟨x,t,ex⟩:∃ x t,tI c.num=x :: t:=List.exists_cons_of_ne_nil (List.length_pos_iff.1 (qq3 _))
   rw [ex];simp
 rw [e,qAU];exact hn
theorem ql1 (s:List UInt8):(sat s 0=45)=(s.getD 0 0=45):=by
 unfold sat
 simp only [Int.toNat_zero,eq_iff_iff]
 exact ⟨fun h=>UInt8.toNat_inj.1 (by show (s.getD 0 0).toNat=45;omega),fun h=>by rw [h];rfl⟩
structure RootOk (a b c:Rat):Prop where
 oa:okQ a
 ob:okQ b
 oc:okQ c
 x1:okL (a.num*b.den)
 x:okL (rX a b c)
 y:okL (rY a b)
 r:okL (rR c)
 xx:okL (rX a b c*rX a b c)
 yy:okL (rY a b*rY a b)
 yr:okL (rY a b*rY a b*rR c)
 d:okL (rX a b c*rX a b c - rY a b*rY a b*rR c)
theorem qzf {a b c:Rat} (h:RootOk a b c) (hc:0≤c):(ug [.s (tQ a),.s (tQ b),.s (tQ c)]).run=some (0,[.i (qf4 a b c),.i 0]):=by
 rw [qml]
 have key:(yn [.s (tQ a),.s (tQ b),.s (tQ c),.s [48],.s [48]]).run=some (0,[.i (qf4 a b c),.i 0]):=by
  rw [qk8]
  have o0:okQ 0:=q6Y.ok (by omega) (by omega)
  have hz:=qb8 o0
  rw [show tQ 0=[48] from rfl] at hz
  have hch:=qvq (l:=[tQ a,tQ b,tQ c,[48],[48]]) (by simp) (fun s hs=>by
   simp only [List.mem_cons,List.not_mem_nil,or_false] at hs
   rcases hs with rfl | rfl | rfl | rfl | rfl
   ·exact qb8 h.oa
   ·exact qb8 h.ob
   ·exact qb8 h.oc
   ·exact hz
   ·exact hz)
  have hch':(za [.r [[.s (tQ a)],[.s (tQ b)],[.s (tQ c)],[.s [48]],[.s [48]]]]).run=some (0,[.i 0]):=hch
  have c0:=qad o0
  rw [show tQ 0=[48] from rfl] at c0
  replace c0:(q9 [.s [48]]).run=some (0,[.s [48],.s [49],.b false]):=c0
  have l1:(0:Int)<qF (tQ c):=by
   have h1:=qg1 c
   have h2:=ql9 c
   unfold qF;omega
  have l2:(0:Int)<qF [48]:=by decide
  have n1:¬ sat (tQ c) 0=45:=by rw [ql1];exact qBS hc
  have n2:¬ sat [48] 0=45:=by decide
  have mx:=qwb [a.num,b.den,c.den,1,1] ⟨qa5,q4P h.oa,by rw [Int.one_mul];exact q4P h.oa,q1m h.ob,by rw [Int.one_mul];exact h.x1,q1m h.oc,by rw [Int.one_mul];exact h.x,qa5,by rw [Int.one_mul,Int.mul_one];exact h.x,qa5,by rw [Int.one_mul,Int.mul_one,Int.mul_one];exact h.x⟩ (by simp)
  have my:=qwb [b.num,a.den,1,1] ⟨qa5,q4P h.ob,by rw [Int.one_mul];exact q4P h.ob,q1m h.oa,by rw [Int.one_mul];exact h.y,qa5,by rw [Int.one_mul,Int.mul_one];exact h.y,qa5,by rw [Int.one_mul,Int.mul_one,Int.mul_one];exact h.y⟩ (by simp)
  have mr:=qcI (q4P h.oc) (q1m h.oc) h.r
  have mz:=qwb [0,a.den,b.den,c.den] ⟨qa5,q91,by rw [Int.mul_zero];exact q91,q1m h.oa,by simp only [Int.mul_zero];exact qyc _,q1m h.ob,by simp only [Int.mul_zero,Int.zero_mul];exact q91,q1m h.oc,by simp only [Int.mul_zero,Int.zero_mul];exact q91⟩ (by simp)
  have mt:=qcI (m:=0) (n:=1) q91 qa5 (qyc _)
  simp only [prd,Int.one_mul,Int.mul_one,Int.zero_mul] at mx my mz mt
  have mx':(qe [.r [[.s (tI a.num)],[.s (tI (b.den:Int))],[.s (tI (c.den:Int))],[.s [49]],[.s [49]]],.i 0]).run=some (0,[.s (tI (rX a b c)),.i 0]):=mx
  have my':(qe [.r [[.s (tI b.num)],[.s (tI (a.den:Int))],[.s [49]],[.s [49]]],.i 0]).run=some (0,[.s (tI (rY a b)),.i 0]):=my
  have mr':(qe [.r [[.s (tI c.num)],[.s (tI (c.den:Int))]],.i 0]).run=some (0,[.s (tI (rR c)),.i 0]):=mr
  have mz':(qe [.r [[.s [48]],[.s (tI (a.den:Int))],[.s (tI (b.den:Int))],[.s (tI (c.den:Int))]],.i 0]).run=some (0,[.s (tI 0),.i 0]):=mz
  have mt':(qe [.r [[.s [48]],[.s [49]]],.i 0]).run=some (0,[.s (tI 0),.i 0]):=mt
  have hR:=qDF h.x h.y h.r h.xx h.yy h.yr h.d
  rw [← qBl] at hR
  have w1:q0K .i64 (sgn 0) (sgn 0)=0:=by decide
  have w2:q0K .i64 (qf4 a b c) 0=0:=by rw [qaD (by rw [Int.mul_zero];omega),Int.mul_zero]
  by_cases h0:qf4 a b c=0
  ·simp only [STD,hch',l1,l2,n1,n2,Int.le_refl,and_self,qad h.oa,qad h.ob,qad h.oc,c0,mx',my',mr',mz',mt',hR,q80 q91,w1,h0,show q0K .i64 0 0=0 from rfl]
  ·simp only [STD,hch',l1,l2,n1,n2,Int.le_refl,and_self,qad h.oa,qad h.ob,qad h.oc,c0,mx',my',mr',mz',mt',hR,q80 q91,w1,w2,h0]
 simp only [STD,key]
theorem RootOk.of {N D N' D' R E:Nat} {a b c:Rat} (ha:bnd N D a) (hb:bnd N' D' b) (hc:bnd R E c) (h1:2*(N+D'+E)≤1023) (h2:2*(N'+D)+R+E≤1023):RootOk a b c:=by
 have q1:nl a.num≤N:=ha.1
 have q2:nl (a.den:Int)≤D:=ha.2
 have q3:nl b.num≤N':=hb.1
 have q4:nl (b.den:Int)≤D':=hb.2
 have q5:nl c.num≤R:=hc.1
 have q6:nl (c.den:Int)≤E:=hc.2
 have x1:=uq a.num b.den
 have x2:=uq (a.num*b.den) c.den
 have y1:=uq b.num a.den
 have r1:=uq c.num c.den
 have xx:=uq (rX a b c) (rX a b c)
 have yy:=uq (rY a b) (rY a b)
 have yr:=uq (rY a b*rY a b) (rR c)
 have dd:=qyo (rX a b c*rX a b c) (rY a b*rY a b*rR c)
 have e1:nl (rX a b c)=nl (a.num*b.den*c.den):=rfl
 have e2:nl (rY a b)=nl (b.num*a.den):=rfl
 have e3:nl (rR c)=nl (c.num*c.den):=rfl
 have p1:=qpB a.num
 have p2:=qpB b.num
 have p3:=qpB c.num
 have p4:=qpB (a.den:Int)
 have p5:=qpB (b.den:Int)
 have p6:=qpB (c.den:Int)
 exact { oa:=⟨by show nl a.num≤1024;omega,by show nl (a.den:Int)≤1024;omega⟩,ob:=⟨by show nl b.num≤1024;omega,by show nl (b.den:Int)≤1024;omega⟩,oc:=⟨by show nl c.num≤1024;omega,by show nl (c.den:Int)≤1024;omega⟩,x1:=by unfold okL;omega,x:=by unfold okL;omega,y:=by unfold okL;omega,r:=by unfold okL;omega,xx:=by unfold okL;omega,yy:=by unfold okL;omega,yr:=by unfold okL;omega,d:=by unfold okL;omega }
end Go.Eng

namespace Go.Eng
theorem qzH {a b:Rat} {N D N' D':Nat} (ha:bnd N D a) (hb:bnd N' D' b) (h1:N+D'≤1023) (h2:N'+D≤1023) (h3:D+D'≤1024):(zM [.s (tQ a),.s (tQ b),.i 0]).run=some (0,[.s (tQ (a+b)),.i 0]):=by
 rw [qlK]
 have:(wD [.s (tQ a),.s (tQ b),.i 0]).run=some (0,[.s (tQ (a+b)),.i 0]):=by
  rw [qaI]
  simp only [STD,qwW ha hb h1 h2 h3]
 simp only [STD,this]
theorem qt0 {a b:Rat} {N D N' D':Nat} (ha:bnd N D a) (hb:bnd N' D' b) (h1:N+D'≤1023) (h2:N'+D≤1023) (h3:D+D'≤1024):(qG [.s (tQ a),.s (tQ b),.i 0]).run=some (0,[.s (tQ (a - b)),.i 0]):=by
 rw [qmF]
 have:(wE [.s (tQ a),.s (tQ b),.i 0]).run=some (0,[.s (tQ (a - b)),.i 0]):=by
  rw [qaS]
  simp only [STD,qwC ha hb h1 h2 h3]
 simp only [STD,this]
theorem qtU {a b:Rat} {N D N' D':Nat} (ha:bnd N D a) (hb:bnd N' D' b) (h1:N+N'≤1024) (h2:D+D'≤1024):(qC [.s (tQ a),.s (tQ b),.i 0]).run=some (0,[.s (tQ (a*b)),.i 0]):=by
 rw [qlD]
 have:(wF [.s (tQ a),.s (tQ b),.i 0]).run=some (0,[.s (tQ (a*b)),.i 0]):=by
  rw [qaL]
  simp only [STD,qwL ha hb h1 h2]
 simp only [STD,this]
theorem qEf {a b:Rat} {N D N' D':Nat} (h0:b≠0) (ha:bnd N D a) (hb:bnd N' D' b) (h1:N+D'≤1024) (h2:D+N'≤1024):(vh [.s (tQ a),.s (tQ b),.i 0]).run=some (0,[.s (tQ (a / b)),.i 0]):=by
 rw [qb1]
 simp only [STD,qww h0 ha hb h1 h2]
theorem qBJ {ax ay bx by_:Rat} {N D N' D':Nat} (h1:bnd N D ax) (h2:bnd N D ay) (h3:bnd N' D' bx) (h4:bnd N' D' by_) (c1:N+D'≤1023) (c2:N'+D≤1023) (c3:D+D'≤1024) :
  (qR [.s (tQ ax),.s (tQ ay),.s (tQ bx),.s (tQ by_),.i 0]).run=some (0,[.s (tQ (ax - bx)),.s (tQ (ay - by_)),.i 0]):=by
 rw [qk0]
 simp only [STD,qt0 h1 h3 c1 c2 c3,qt0 h2 h4 c1 c2 c3]
theorem qBH {ax ay bx by_:Rat} {N D N' D':Nat} (h1:bnd N D ax) (h2:bnd N D ay) (h3:bnd N' D' bx) (h4:bnd N' D' by_) (c1:N+N'+(D+D')≤1023) (c2:D+D'+(D+D')≤1024) :
  (wk [.s (tQ ax),.s (tQ ay),.s (tQ bx),.s (tQ by_),.i 0]).run=some (0,[.s (tQ (ax*bx+ay*by_)),.i 0]):=by
 rw [qm6]
 simp only [STD,qtU h1 h3 (by omega) (by omega),qtU h2 h4 (by omega) (by omega),qzH (h1.mul h3) (h2.mul h4) (by omega) (by omega) (by omega)]
theorem qtP {ax ay bx by_:Rat} {N D N' D':Nat} (h1:bnd N D ax) (h2:bnd N D ay) (h3:bnd N' D' bx) (h4:bnd N' D' by_):bnd (N+N'+(D+D')+1) (D+D'+(D+D')) (ax*bx+ay*by_):=
 (h1.mul h3).add (h2.mul h4) (by omega) (by omega)
def qaG (ax ay bx by_:Rat):Rat:=(ax - bx)*(ax - bx)+(ay - by_)*(ay - by_)
theorem q0O {a b:Rat} (ha:bnd 12 10 a) (hb:bnd 12 10 b):bnd 23 20 (a - b):=ha.sub hb (by omega) (by omega)
theorem qdj {ax ay bx by_:Rat} (h1:bnd 12 10 ax) (h2:bnd 12 10 ay) (h3:bnd 12 10 bx) (h4:bnd 12 10 by_):bnd 87 80 (qaG ax ay bx by_):=
 qtP (q0O h1 h3) (q0O h2 h4) (q0O h1 h3) (q0O h2 h4)
theorem qEG {ax ay bx by_:Rat} (h1:bnd 12 10 ax) (h2:bnd 12 10 ay) (h3:bnd 12 10 bx) (h4:bnd 12 10 by_) :
  (ye [.s (tQ ax),.s (tQ ay),.s (tQ bx),.s (tQ by_),.i 0]).run=some (0,[.s (tQ (qaG ax ay bx by_)),.i 0]):=by
 rw [qmd]
 have k1:=q0O h1 h3
 have k2:=q0O h2 h4
 simp only [STD,qBJ h1 h2 h3 h4 (by omega) (by omega) (by omega),qBH k1 k2 k1 k2 (by omega) (by omega)]
 rfl
theorem qxn {ax ay bx by_:Rat} (h1:sm 40000 ax) (h2:sm 40000 ay) (h3:sm 40000 bx) (h4:sm 40000 by_) :
  (zY [.s (tQ ax),.s (tQ ay),.s (tQ bx),.s (tQ by_)]).run=some (0,[.s (tQ (ax - bx)),.s (tQ (ay - by_))]):=by
 rw [qrR]
 simp only [STD,q1X (q1O h1 (show 40000≤100000 by omega)) (q1O h3 (show 40000≤100000 by omega)),q1X (q1O h2 (show 40000≤100000 by omega)) (q1O h4 (show 40000≤100000 by omega))]
theorem qAF {ax ay bx by_:Rat} {K:Nat} (hK:K≤40000) (h1:sm K ax) (h2:sm K ay) (h3:sm K bx) (h4:sm K by_) :
  (ub [.s (tQ ax),.s (tQ ay),.s (tQ bx),.s (tQ by_)]).run=some (0,[.s (tQ (ax*bx+ay*by_))]):=by
 rw [qvI]
 have e:=fun {q:Rat} (h:sm K q)=>q1O h (show K≤100000 by omega)
 have p1:=q4Z (a:=ax*bx) (b:=ay*by_) (q1O (quV h1 h3) (by omega)) (q1O (quV h2 h4) (by omega))
 simp only [STD,jb (e h1) (e h3),jb (e h2) (e h4),p1]
theorem qDm {ax ay bx by_:Rat} (h1:bnd 12 10 ax) (h2:bnd 12 10 ay) (h3:bnd 12 10 bx) (h4:bnd 12 10 by_) :
  (vu [.s (tQ ax),.s (tQ ay),.s (tQ bx),.s (tQ by_)]).run=some (0,[.s (tQ (qaG ax ay bx by_))]):=by
 rw [qvX]
 have hM:=qxn (h1.sm (by omega) (by omega)) (h2.sm (by omega) (by omega)) (h3.sm (by omega) (by omega)) (h4.sm (by omega) (by omega))
 have k1:=(q0O h1 h3).sm (K:=100) (by omega) (by omega)
 have k2:=(q0O h2 h4).sm (K:=100) (by omega) (by omega)
 simp only [STD,hM,qAF (K:=100) (by omega) k1 k2 k1 k2]
 rfl
structure DQ where
 x:Rat
 y:Rat
 s:Rat
def DQ.sh (d:DQ):Prop:=bnd 12 10 d.x∧bnd 12 10 d.y∧bnd 13 10 d.s
theorem qD6 {a b:Rat} (ha:bnd 13 10 a) (hb:bnd 13 10 b):bnd 24 20 (a+b):=ha.add hb (by omega) (by omega)
def qmO (a b:DQ) (k:Rat):Int:=qf4 (qaG a.x a.y b.x b.y - (a.s+b.s)) k (a.s*b.s)
theorem qBi {a b c:Rat} (h:RootOk a b c) (hc:0≤c):(wP [.s (tQ a),.s (tQ b),.s (tQ c),.i 0]).run=some (0,[.i (qf4 a b c),.i 0]):=by
 rw [qlh]
 simp only [STD,qzf h hc]
theorem qz7 (a:Rat):qf4 a 0 0=sgq a:=by
 unfold qf4
 rw [show sgq 0=0 from rfl,Int.mul_zero,Int.mul_zero,if_pos (by omega)]
 split
 ·rename_i h;rw [h]
 ·rfl
theorem qBa {a b:Rat} {N D N' D':Nat} (ha:bnd N D a) (hb:bnd N' D' b) (c1:N+D'+1≤500) (c2:N'+D+1≤500) (c3:D+D'≤300):(zI [.s (tQ a),.s (tQ b),.i 0]).run=some (0,[.i (sgq (a - b)),.i 0]):=by
 rw [qit]
 have k:bnd 500 (D+D') (a - b):=ha.sub hb (by omega) (by omega)
 have hr:=qBi (a:=a - b) (b:=0) (c:=0) (RootOk.of k q6Y q6Y (by omega) (by omega)) (by decide)
 rw [qz7,show tQ 0=[48] from rfl] at hr
 simp only [STD,qt0 ha hb (by omega) (by omega) (by omega),hr]
theorem qEz {a b:Rat} (ha:0≤a) (hb:0≤b):0≤a*b:=Rat.mul_nonneg ha hb
theorem qCY {a b:DQ} (ha:a.sh) (hb:b.sh) (na:0≤a.s) (nb:0≤b.s) {k:Rat} (hk:bnd 1 1 k) :
  (vj [.s (tQ a.x),.s (tQ a.y),.s (tQ a.s),.s (tQ b.x),.s (tQ b.y),.s (tQ b.s),.s (tQ k),.i 0]).run=some (0,[.i (qmO a b k),.i 0]):=by
 rw [qkg]
 obtain ⟨a1,a2,a3⟩:=ha
 obtain ⟨b1,b2,b3⟩:=hb
 have f1:=qdj a1 a2 b1 b2
 have f2:=qD6 a3 b3
 have f3:bnd 108 100 (qaG a.x a.y b.x b.y - (a.s+b.s)):=f1.sub f2 (by omega) (by omega)
 have f4:bnd 26 20 (a.s*b.s):=a3.mul b3
 have hr:=qBi (RootOk.of f3 hk f4 (by omega) (by omega)) (qEz na nb)
 simp only [STD,qEG a1 a2 b1 b2,qzH a3 b3 (by omega) (by omega) (by omega),qt0 f1 f2 (by omega) (by omega) (by omega),qtU a3 b3 (by omega) (by omega),hr]
 rfl
theorem qsD:tQ 2=[50]:=qC8 2
theorem qAS:tQ (-2)=[45,50]:=by
 have:(-2:Rat)=((-2:Int):Rat):=by simp
 rw [this,qBK];rfl
def q2Q (a b:DQ):Prop:=a.s≤b.s∧qmO a b 2≤0
instance (a b:DQ):Decidable (q2Q a b):=by unfold q2Q;infer_instance
theorem q9a (a b:Rat):(sgq (a - b)≤0)=(a≤b):=by rw [qzw];exact propext ⟨fun h=>by grind,fun h=>by grind⟩
theorem qgJ {a b:DQ} (ha:a.sh) (hb:b.sh) (na:0≤a.s) (nb:0≤b.s) :
  (qM [.s (tQ a.x),.s (tQ a.y),.s (tQ a.s),.s (tQ b.x),.s (tQ b.y),.s (tQ b.s),.i 0]).run=some (0,[.b (decide (q2Q a b)),.i 0]):=by
 rw [qh8]
 have h1:=qBa ha.2.2 hb.2.2 (by omega) (by omega) (by omega)
 have h2:=qCY ha hb na nb qdk
 rw [qsD] at h2
 unfold q2Q
 by_cases c:a.s≤b.s
 ·have e:(ile (qmO a b 2) 0)=decide (qmO a b 2≤0):=rfl
  simp only [STD,h1,q9a,c,h2,true_and,e]
 ·simp only [STD,h1,q9a,c,false_and];rfl
def qBe (a b:DQ):Int:=if q2Q a b then 2 else if q2Q b a then 3 else -qmO a b (-2)
theorem qCj (a b c:Rat):-1≤qf4 a b c∧qf4 a b c≤1:=by
 have h1:=q7b a
 have h2:=qE8 (q7b b) (q7b c)
 have h3:=qE8 h1 (q7b (a*a - b*b*c))
 unfold qf4
 split
 ·split
  ·exact h2
  ·exact h1
 ·exact h3
theorem qyv (a b:DQ) (k:Rat):-1≤qmO a b k∧qmO a b k≤1:=qCj _ _ _
theorem qAf {a b:DQ} (ha:a.sh) (hb:b.sh) :
  (q3x [.s (tQ a.x),.s (tQ a.y),.s (tQ a.s),.s (tQ b.x),.s (tQ b.y),.s (tQ b.s)]).run=some (0,[.i (qmO a b 2)])∧(q6t [.s (tQ a.x),.s (tQ a.y),.s (tQ a.s),.s (tQ b.x),.s (tQ b.y),.s (tQ b.s)]).run=some (0,[.i (qmO a b (-2))]):=by
 obtain ⟨a1,a2,a3⟩:=ha
 obtain ⟨b1,b2,b3⟩:=hb
 have f1:=qdj a1 a2 b1 b2
 have f2:=qD6 a3 b3
 have f3:bnd 108 100 (qaG a.x a.y b.x b.y - (a.s+b.s)):=f1.sub f2 (by omega) (by omega)
 have f4:bnd 26 20 (a.s*b.s):=a3.mul b3
 have g1:=q4Z (a3.sm (by omega) (by omega)) (b3.sm (by omega) (by omega))
 have g2:=q1X (f1.sm (by omega) (by omega)) (f2.sm (by omega) (by omega))
 have g3:=jb (a3.sm (by omega) (by omega)) (b3.sm (by omega) (by omega))
 have g4:=qge (f3.sm (by omega) (by omega)) (qdk.sm (by omega) (by omega)) (f4.sm (by omega) (by omega))
 have g5:=qge (f3.sm (by omega) (by omega)) (qxW.sm (by omega) (by omega)) (f4.sm (by omega) (by omega))
 rw [qsD] at g4
 rw [qAS] at g5
 constructor
 ·rw [qrq]
  simp only [STD,qDm a1 a2 b1 b2,g1,g2,g3,g4]
  rfl
 ·rw [qvN]
  simp only [STD,qDm a1 a2 b1 b2,g1,g2,g3,g5]
  rfl
theorem qoo {a b:DQ} (ha:a.sh) (hb:b.sh) :
  (wC [.s (tQ a.x),.s (tQ a.y),.s (tQ a.s),.s (tQ b.x),.s (tQ b.y),.s (tQ b.s)]).run=some (0,[.b (decide (q2Q a b))]):=by
 rw [qqJ]
 have h1:=(qAf ha hb).1
 have h2:=qdo (ha.2.2.sm (K:=100000) (by omega) (by omega)) (hb.2.2.sm (by omega) (by omega))
 have e:ile (sgq (a.s - b.s)) 0=decide (a.s≤b.s):=by unfold ile;simp only [q9a]
 unfold q2Q
 by_cases c:qmO a b 2≤0
 ·simp only [STD,h1,c,h2,e,and_true]
 ·simp only [STD,h1,c,and_false];rfl
theorem qEu {a b:DQ} (ha:a.sh) (hb:b.sh) :
  (q4T [.s (tQ a.x),.s (tQ a.y),.s (tQ a.s),.s (tQ b.x),.s (tQ b.y),.s (tQ b.s)]).run=some (0,[.i (qBe a b)]):=by
 rw [qua]
 have h1:=qoo ha hb
 have h2:=qoo hb ha
 have h3:=(qAf ha hb).2
 have bd:=qyv a b (-2)
 have w:zi .i64 0 (qmO a b (-2))=-qmO a b (-2):=qp1 (by omega)
 unfold qBe
 by_cases c1:q2Q a b
 ·simp only [STD,h1,c1]
 ·by_cases c2:q2Q b a
  ·simp only [STD,h1,h2,c1,c2]
  ·simp only [STD,h1,h2,h3,c1,c2,w]
def shT (s:List UInt8):Prop:=s.length≤12
theorem qt7 {q:Rat} (h:shT (tQ q)):bnd 12 10 q:=by
 unfold shT at h
 obtain ⟨h1,h2⟩:=qg1 q
 have h3:=ql9 q
 refine ⟨by omega,?_⟩
 rcases h2 with h2 | h2
 ·unfold qd;rw [h2];decide
 ·omega
noncomputable def qrb (x y s:List UInt8):Int:=if qcp x≠0 then qcp x else if qcp y≠0 then qcp y else if qcp s≠0 then qcp s else if s.getD 0 0=45 then 2 else 0
theorem qEU {S : List PV → TR} {st : Nat → List PV} {e0 e1 e2 : Int} {fin : List PV}
    (h0 : (S (st 0)).run = if e0 = 0 then some (0, st 1) else some (2, [.i e0])) (h1 : (S (st 1)).run = if e1 = 0 then some (0, st 2) else some (2, [.i e1])) (h2 : (S (st 2)).run = if e2 = 0 then some (0, st 3) else some (2, [.i e2]))
    (h3 : (S (st 3)).run = some (1, fin)) : (qg S (st 0)).run = some (if e0 ≠ 0 then (1, [.i e0]) else if e1 ≠ 0 then (1, [.i e1]) else if e2 ≠ 0 then (1, [.i e2]) else (0, fin)) := by
  have hr : ∃ m, q7j = m + 4 := ⟨q7j - 4, by unfold q7j; omega⟩
  obtain ⟨m, hm⟩ := hr
  unfold qg
  rw [hm]
  by_cases c0 : e0 = 0
  · rw [if_pos c0] at h0
    rw [qgQ h0]
    by_cases c1 : e1 = 0
    · rw [if_pos c1] at h1
      rw [qgQ h1]
      by_cases c2 : e2 = 0
      · rw [if_pos c2] at h2
        rw [qgQ h2, q3X h3]
        simp [c0, c1, c2]
      · rw [if_neg c2] at h2
        rw [q3X h2]
        simp [c0, c1, c2]
    · rw [if_neg c1] at h1
      rw [q3X h1]
      simp [c0, c1]
  · rw [if_neg c0] at h0
    rw [q3X h0]
    simp [c0]
theorem kT (x y s : List UInt8) (h1 : x.length ≤ 1000000) (h2 : y.length ≤ 1000000) (h3 : s.length ≤ 1000000) : (zA [.s x, .s y, .s s]).run = some (0, [.i (qrb x y s)]) := by
  rw [qrM]
  have c0 := q3t x (by omega)
  have c1 := q3t y (by omega)
  have c2 := q3t s (by omega)
  have d0 : cS [[.s x], [.s y], [.s s]] 0 0 = x := rfl
  have d1 : cS [[.s x], [.s y], [.s s]] 1 0 = y := rfl
  have d2 : cS [[.s x], [.s y], [.s s]] 2 0 = s := rfl
  have d3 : qH [[U.s x], [U.s y], [U.s s]] = 3 := rfl
  have w0 : qw .i64 0 1 = 1 := by decide
  have w1 : qw .i64 1 1 = 2 := by decide
  have w2 : qw .i64 2 1 = 3 := by decide
  have key := qEU (S := jD) (st := fun i => [.i 3, .i (i : Int), .s x, .s y, .s s, .r [[.s x], [.s y], [.s s]]]) (e0 := qcp x) (e1 := qcp y) (e2 := qcp s) (fin := [.s x, .s y, .s s])
    (by rw [q4x]; simp only [show (((0 : Nat)) : Int) = 0 from rfl, show (((1 : Nat)) : Int) = 1 from rfl, d0, d3]
        by_cases c : qcp x = 0
        · simp only [STD, c0, c, w0, show (0 : Int) < 3 by omega, Int.le_refl, and_self]
        · simp only [STD, c0, c, show (0 : Int) < 3 by omega, Int.le_refl, and_self])
    (by rw [q4x]; simp only [show (((1 : Nat)) : Int) = 1 from rfl, show (((2 : Nat)) : Int) = 2 from rfl, d1, d3]
        by_cases c : qcp y = 0
        · simp only [STD, c1, c, w1, show (1 : Int) < 3 by omega, show (0 : Int) ≤ 1 by omega, and_self]
        · simp only [STD, c1, c, show (1 : Int) < 3 by omega, show (0 : Int) ≤ 1 by omega, and_self])
    (by rw [q4x]; simp only [show (((2 : Nat)) : Int) = 2 from rfl, show (((3 : Nat)) : Int) = 3 from rfl, d2, d3]
        by_cases c : qcp s = 0
        · simp only [STD, c2, c, w2, show (2 : Int) < 3 by omega, show (0 : Int) ≤ 2 by omega, and_self]
        · simp only [STD, c2, c, show (2 : Int) < 3 by omega, show (0 : Int) ≤ 2 by omega, and_self])
    (by rw [q4x]; simp only [show (((3 : Nat)) : Int) = 3 from rfl]; simp only [STD, show ¬ (3 : Int) < 3 by omega])
  simp only [show (((0 : Nat)) : Int) = 0 from rfl] at key
  unfold qrb
  rw [d3]
  by_cases e0 : qcp x = 0
  · by_cases e1 : qcp y = 0
    · by_cases e2 : qcp s = 0
      · simp only [e0, e1, e2, ne_eq, not_true, if_false] at key ⊢
        obtain ⟨q, hq, _⟩ := qiR e2
        have hl : (0 : Int) < qF s := by
          have h1 := qg1 q
          have h2 := ql9 q
          rw [hq]; unfold qF; omega
        by_cases hm : s.getD 0 0 = 45
        · simp only [STD, key, zb key, Int.le_refl, hl, and_self, ql1, hm]
        · simp only [STD, key, zb key, Int.le_refl, hl, and_self, ql1, hm]
      · simp only [e0, e1, e2, ne_eq, not_true, not_false_eq_true, if_false, if_true] at key ⊢
        simp only [STD, key, zb key, show ¬ (1 = 0) by omega]
    · simp only [e0, e1, ne_eq, not_true, not_false_eq_true, if_false, if_true] at key ⊢
      simp only [STD, key, zb key, show ¬ (1 = 0) by omega]
  · simp only [e0, ne_eq, not_false_eq_true, if_true] at key ⊢
    simp only [STD, key, zb key, show ¬ (1 = 0) by omega]
theorem q5Q (x y s : List UInt8) (h1 : x.length ≤ 1000000) (h2 : y.length ≤ 1000000) (h3 : s.length ≤ 1000000) : (zz [.s x, .s y, .s s]).run = some (0, [.i (qrb x y s)]) := by
  rw [qrC]
  have c0 := q61 x (by omega)
  have c1 := q61 y (by omega)
  have c2 := q61 s (by omega)
  have d0 : cS [[.s x], [.s y], [.s s]] 0 0 = x := rfl
  have d1 : cS [[.s x], [.s y], [.s s]] 1 0 = y := rfl
  have d2 : cS [[.s x], [.s y], [.s s]] 2 0 = s := rfl
  have d3 : qH [[U.s x], [U.s y], [U.s s]] = 3 := rfl
  have w0 : qw .i64 0 1 = 1 := by decide
  have w1 : qw .i64 1 1 = 2 := by decide
  have w2 : qw .i64 2 1 = 3 := by decide
  have key := qEU (S := jJ) (st := fun i => [.i 3, .i (i : Int), .s x, .s y, .s s, .r [[.s x], [.s y], [.s s]]]) (e0 := qcp x) (e1 := qcp y) (e2 := qcp s) (fin := [.s x, .s y, .s s])
    (by rw [q4y]; simp only [show (((0 : Nat)) : Int) = 0 from rfl, show (((1 : Nat)) : Int) = 1 from rfl, d0, d3]
        by_cases c : qcp x = 0
        · simp only [STD, c0, c, w0, show (0 : Int) < 3 by omega, Int.le_refl, and_self]
        · simp only [STD, c0, c, show (0 : Int) < 3 by omega, Int.le_refl, and_self])
    (by rw [q4y]; simp only [show (((1 : Nat)) : Int) = 1 from rfl, show (((2 : Nat)) : Int) = 2 from rfl, d1, d3]
        by_cases c : qcp y = 0
        · simp only [STD, c1, c, w1, show (1 : Int) < 3 by omega, show (0 : Int) ≤ 1 by omega, and_self]
        · simp only [STD, c1, c, show (1 : Int) < 3 by omega, show (0 : Int) ≤ 1 by omega, and_self])
    (by rw [q4y]; simp only [show (((2 : Nat)) : Int) = 2 from rfl, show (((3 : Nat)) : Int) = 3 from rfl, d2, d3]
        by_cases c : qcp s = 0
        · simp only [STD, c2, c, w2, show (2 : Int) < 3 by omega, show (0 : Int) ≤ 2 by omega, and_self]
        · simp only [STD, c2, c, show (2 : Int) < 3 by omega, show (0 : Int) ≤ 2 by omega, and_self])
    (by rw [q4y]; simp only [show (((3 : Nat)) : Int) = 3 from rfl]; simp only [STD, show ¬ (3 : Int) < 3 by omega])
  simp only [show (((0 : Nat)) : Int) = 0 from rfl] at key
  unfold qrb
  rw [d3]
  by_cases e0 : qcp x = 0
  · by_cases e1 : qcp y = 0
    · by_cases e2 : qcp s = 0
      · simp only [e0, e1, e2, ne_eq, not_true, if_false] at key ⊢
        obtain ⟨q, rfl, hok⟩ := qiR e2
        have hS := q4c (a := q) (q1O hok (by omega))
        by_cases hm : q < 0
        · simp only [STD, key, zb key, hS, qsA, hm, qB0 hm]
        · simp only [STD, key, zb key, hS, qsA, hm, qBS (show 0 ≤ q by grind)]
      · simp only [e0, e1, e2, ne_eq, not_true, not_false_eq_true, if_false, if_true] at key ⊢
        simp only [STD, key, zb key, show ¬ (1 = 0) by omega]
    · simp only [e0, e1, ne_eq, not_true, not_false_eq_true, if_false, if_true] at key ⊢
      simp only [STD, key, zb key, show ¬ (1 = 0) by omega]
  · simp only [e0, ne_eq, not_false_eq_true, if_true] at key ⊢
    simp only [STD, key, zb key, show ¬ (1 = 0) by omega]
theorem qDP {x y s:List UInt8} (h:qrb x y s=0):∃ d:DQ,x=tQ d.x∧y=tQ d.y∧s=tQ d.s∧okQ d.x∧okQ d.y∧okQ d.s∧0≤d.s:=by
 unfold qrb at h
 by_cases e0:qcp x=0
 ·by_cases e1:qcp y=0
  ·by_cases e2:qcp s=0
   ·simp only [e0,e1,e2,ne_eq,not_true,if_false] at h
    obtain ⟨qx,rfl,o1⟩:=qiR e0
    obtain ⟨qy,rfl,o2⟩:=qiR e1
    obtain ⟨qs,rfl,o3⟩:=qiR e2
    refine ⟨⟨qx,qy,qs⟩,rfl,rfl,rfl,o1,o2,o3,?_⟩
    show 0≤qs
    by_cases hn:qs<0
    ·rw [qB0 hn] at h;simp at h
    ·grind
   ·simp only [e0,e1,ne_eq,not_true,if_false,e2,not_false_eq_true,if_true] at h
  ·simp only [e0,ne_eq,not_true,if_false,e1,not_false_eq_true,if_true] at h
 ·simp only [ne_eq,e0,not_false_eq_true,if_true] at h
theorem qDX {d:DQ} (h1:okQ d.x) (h2:okQ d.y) (h3:okQ d.s) (h:0≤d.s):qrb (tQ d.x) (tQ d.y) (tQ d.s)=0:=by
 unfold qrb
 rw [qux h1,qux h2,qux h3]
 have:=qBS h
 rw [if_neg (by simp),if_neg (by simp),if_neg (by simp),if_neg this]
end Go.Eng

namespace Go.Eng
def Bd (C e:Nat) (x:Int):Prop:=x.natAbs≤C*10 ^ e
theorem Bd.mul {C e C' e':Nat} {x y:Int} (h:Bd C e x) (h':Bd C' e' y):Bd (C*C') (e+e') (x*y):=by
 unfold Bd at *
 rw [Int.natAbs_mul,Nat.pow_add]
 have:=Nat.mul_le_mul h h'
 have e1:C*10 ^ e*(C'*10 ^ e')=C*C'*(10 ^ e*10 ^ e'):=by
  rw [Nat.mul_mul_mul_comm]
 omega
theorem Bd.mono {C e C' e':Nat} {x:Int} (h:Bd C e x) (hC:C≤C') (he:e≤e'):Bd C' e' x:=by
 unfold Bd at *
 exact Nat.le_trans h (Nat.mul_le_mul hC (Nat.pow_le_pow_right (by omega) he))
theorem Bd.add {C C' e:Nat} {x y:Int} (h:Bd C e x) (h':Bd C' e y):Bd (C+C') e (x+y):=by
 unfold Bd at *
 rw [Nat.add_mul]
 have:=Int.natAbs_add_le x y
 omega
theorem Bd.neg {C e:Nat} {x:Int} (h:Bd C e x):Bd C e (-x):=by unfold Bd at *;rw [Int.natAbs_neg];exact h
theorem Bd.sub {C C' e:Nat} {x y:Int} (h:Bd C e x) (h':Bd C' e y):Bd (C+C') e (x - y):=by
 rw [Int.sub_eq_add_neg];exact h.add h'.neg
theorem Bd.okL {C e k:Nat} {x:Int} (h:Bd C e x) (hC:C≤10 ^ k) (he:k+e≤1023) (hne:0<e+k):okL x:=by
 unfold Go.Eng.okL nl
 unfold Bd at h
 have h1:C*10 ^ e≤10 ^ k*10 ^ e:=Nat.mul_le_mul_right _ hC
 rw [← Nat.pow_add] at h1
 have h2:(10:Nat) ^ (k+e)<10 ^ (k+e+1):=Nat.pow_lt_pow_right (by omega) (by omega)
 have:=q5P (k+e) x.natAbs (by omega)
 omega
structure Wt (h v:Nat) (q:Rat):Prop where
 n:Bd 1 h q.num
 d:Bd 1 v (q.den:Int)
 dh:Bd 1 h (q.den:Int)
theorem qov {q:Rat} {P M:Int} (hM:M≠0) (h:q*(M:Rat)=(P:Rat)):q.num.natAbs≤P.natAbs∧q.den≤M.natAbs:=by
 have hM':(M:Rat)≠0:=by
  intro e
  exact hM (Rat.intCast_inj.1 (e.trans (by simp)))
 have e:q=Rat.divInt P M:=by
  rw [Rat.divInt_eq_div,← h]
  exact (Rat.mul_div_cancel hM').symm
 rw [e]
 constructor
 ·rw [Rat.num_divInt]
  refine Nat.le_trans (Int.natAbs_ediv_le_natAbs _ _) ?_
  rw [Int.natAbs_mul,Int.natAbs_sign_of_ne_zero hM];omega
 ·rw [Rat.den_divInt,if_neg hM]
  exact Nat.div_le_self _ _
structure SQ where
 fx:Rat
 fy:Rat
 ax:Rat
 ay:Rat
 h:Rat
def yQ (a b:DQ) (neg:Bool):SQ:=
 let dx:=b.x - a.x
 let dy:=b.y - a.y
 let far:=dx*dx+dy*dy
 let t:=(far+a.s - b.s) / (2*far)
 ⟨a.x+t*dx,a.y+t*dy,if neg then dy else 0 - dy,if neg then 0 - dx else dx,a.s / far - t*t⟩
def kA (d:DQ) (p:SQ):Rat:=(p.fx - d.x)*(p.fx - d.x)+(p.fy - d.y)*(p.fy - d.y)+p.h*(p.ax*p.ax+p.ay*p.ay) - d.s
def kB (d:DQ) (p:SQ):Rat:=2*((p.fx - d.x)*p.ax+(p.fy - d.y)*p.ay)
def q5q (d:DQ) (p:SQ):Prop:=qf4 (kA d p) (kB d p) p.h≤0
instance (d:DQ) (p:SQ):Decidable (q5q d p):=by unfold q5q;infer_instance
section
variable (a1 p1 b1 q1 c1 r1 a2 p2 b2 q2 c2 r2 a3 p3 b3 q3 c3 r3:Int)
def iU:Int:=a2*p1 - a1*p2
def iN:Int:=iU a1 p1 a2 p2*iU a1 p1 a2 p2*((q1*q2)*(q1*q2))+iU b1 q1 b2 q2*iU b1 q1 b2 q2*((p1*p2)*(p1*p2))
def iD:Int:=(p1*p2*(q1*q2))*(p1*p2*(q1*q2))
def iT:Int:=iN a1 p1 b1 q1 a2 p2 b2 q2*(r1*r2)+(c1*r2 - c2*r1)*iD p1 q1 p2 q2
def iE:Int:=a1*p3 - a3*p1
def iG:Int:=iE a1 p1 a3 p3*iE a1 p1 a3 p3*((q1*q3)*(q1*q3))+iE b1 q1 b3 q3*iE b1 q1 b3 q3*((p1*p3)*(p1*p3))
def iH:Int:=iE a1 p1 a3 p3*iU a1 p1 a2 p2*((q1*q1)*(q2*q3))+iE b1 q1 b3 q3*iU b1 q1 b2 q2*((p1*p1)*(p2*p3))
def iSq:Int:=((p1*q1)*(p3*q3))*((p1*q1)*(p3*q3))
def iA:Int:=iG a1 p1 b1 q1 a3 p3 b3 q3*iN a1 p1 b1 q1 a2 p2 b2 q2*(r1*r2*r3)*(p2*q2)+iT a1 p1 b1 q1 c1 r1 a2 p2 b2 q2 c2 r2*iH a1 p1 b1 q1 a2 p2 b2 q2 a3 p3 b3 q3*r3*(p3*q3)
 + c1*iN a1 p1 b1 q1 a2 p2 b2 q2*(r2*r3)*iSq p1 q1 p3 q3*(p2*q2) - c3*iN a1 p1 b1 q1 a2 p2 b2 q2*(r1*r2)*iSq p1 q1 p3 q3*(p2*q2)
def iM:Int:=iN a1 p1 b1 q1 a2 p2 b2 q2*(r1*r2*r3)*iSq p1 q1 p3 q3*(p2*q2)
def iK:Int:=2*(iE b1 q1 b3 q3*iU a1 p1 a2 p2*(p3*q2) - iE a1 p1 a3 p3*iU b1 q1 b2 q2*(q3*p2))
def iQ:Int:=(p1*p2*p3)*(q1*q2*q3)
def iCn:Int:=4*(c1*iD p1 q1 p2 q2*iN a1 p1 b1 q1 a2 p2 b2 q2*r1*(r2*r2)) - iT a1 p1 b1 q1 c1 r1 a2 p2 b2 q2 c2 r2*iT a1 p1 b1 q1 c1 r1 a2 p2 b2 q2 c2 r2
def iCd:Int:=4*(iN a1 p1 b1 q1 a2 p2 b2 q2*iN a1 p1 b1 q1 a2 p2 b2 q2)*((r1*r2)*(r1*r2))
end
section
variable {a1 p1 b1 q1 c1 r1 a2 p2 b2 q2 c2 r2 a3 p3 b3 q3 c3 r3:Int} {hx1 hy1 hs1 hx2 hy2 hs2 hx3 hy3 hs3 vx1 vy1 vs1 vx2 vy2 vs2 vx3 vy3 vs3:Nat}
theorem bU (h1:Bd 1 hx1 a1) (h2:Bd 1 hx1 p1) (h3:Bd 1 hx2 a2) (h4:Bd 1 hx2 p2):Bd 2 (hx1+hx2) (iU a1 p1 a2 p2):=
 ((h3.mul h2).mono (Nat.le_refl _) (by omega)).sub (h1.mul h4)
theorem bE (h1:Bd 1 hx1 a1) (h2:Bd 1 hx1 p1) (h3:Bd 1 hx3 a3) (h4:Bd 1 hx3 p3):Bd 2 (hx1+hx3) (iE a1 p1 a3 p3):=
 (h1.mul h4).sub ((h3.mul h2).mono (Nat.le_refl _) (by omega))
theorem bN (x1:Bd 1 hx1 a1) (x1':Bd 1 hx1 p1) (y1:Bd 1 hy1 b1) (y1':Bd 1 hy1 q1) (x2:Bd 1 hx2 a2) (x2':Bd 1 hx2 p2) (y2:Bd 1 hy2 b2) (y2':Bd 1 hy2 q2) :
  Bd 8 (2*(hx1+hx2+hy1+hy2)) (iN a1 p1 b1 q1 a2 p2 b2 q2):=by
 have u:=bU x1 x1' x2 x2'
 have v:=bU y1 y1' y2 y2'
 have qq:=y1'.mul y2'
 have pp:=x1'.mul x2'
 exact (((u.mul u).mul (qq.mul qq)).mono (C':=4) (by omega) (by omega)).add (((v.mul v).mul (pp.mul pp)).mono (C':=4) (by omega) (by omega))
theorem bD (x1':Bd 1 hx1 p1) (y1':Bd 1 hy1 q1) (x2':Bd 1 hx2 p2) (y2':Bd 1 hy2 q2):Bd 1 (2*(hx1+hx2+hy1+hy2)) (iD p1 q1 p2 q2):=by
 have z:=(x1'.mul x2').mul (y1'.mul y2')
 exact (z.mul z).mono (by omega) (by omega)
theorem bT (x1:Bd 1 hx1 a1) (x1':Bd 1 hx1 p1) (y1:Bd 1 hy1 b1) (y1':Bd 1 hy1 q1) (x2:Bd 1 hx2 a2) (x2':Bd 1 hx2 p2) (y2:Bd 1 hy2 b2) (y2':Bd 1 hy2 q2)
  (s1:Bd 1 hs1 c1) (s1':Bd 1 hs1 r1) (s2:Bd 1 hs2 c2) (s2':Bd 1 hs2 r2):Bd 10 (2*(hx1+hx2+hy1+hy2)+hs1+hs2) (iT a1 p1 b1 q1 c1 r1 a2 p2 b2 q2 c2 r2):=by
 have n:=bN x1 x1' y1 y1' x2 x2' y2 y2'
 have d:=bD x1' y1' x2' y2'
 have s:=(s1.mul s2').sub ((s2.mul s1').mono (Nat.le_refl _) (by omega))
 exact ((n.mul (s1'.mul s2')).mono (C':=8) (by omega) (by omega)).add ((s.mul d).mono (C':=2) (by omega) (by omega))
theorem bG (x1:Bd 1 hx1 a1) (x1':Bd 1 hx1 p1) (y1:Bd 1 hy1 b1) (y1':Bd 1 hy1 q1) (x3:Bd 1 hx3 a3) (x3':Bd 1 hx3 p3) (y3:Bd 1 hy3 b3) (y3':Bd 1 hy3 q3) :
  Bd 8 (2*(hx1+hx3+hy1+hy3)) (iG a1 p1 b1 q1 a3 p3 b3 q3):=by
 have u:=bE x1 x1' x3 x3'
 have v:=bE y1 y1' y3 y3'
 have qq:=y1'.mul y3'
 have pp:=x1'.mul x3'
 exact (((u.mul u).mul (qq.mul qq)).mono (C':=4) (by omega) (by omega)).add (((v.mul v).mul (pp.mul pp)).mono (C':=4) (by omega) (by omega))
theorem bH (x1:Bd 1 hx1 a1) (x1':Bd 1 hx1 p1) (y1:Bd 1 hy1 b1) (y1':Bd 1 hy1 q1) (x2:Bd 1 hx2 a2) (x2':Bd 1 hx2 p2) (y2:Bd 1 hy2 b2) (y2':Bd 1 hy2 q2)
  (x3:Bd 1 hx3 a3) (x3':Bd 1 hx3 p3) (y3:Bd 1 hy3 b3) (y3':Bd 1 hy3 q3):Bd 8 (2*hx1+hx2+hx3+2*hy1+hy2+hy3) (iH a1 p1 b1 q1 a2 p2 b2 q2 a3 p3 b3 q3):=by
 have u:=bU x1 x1' x2 x2'
 have v:=bU y1 y1' y2 y2'
 have e:=bE x1 x1' x3 x3'
 have f:=bE y1 y1' y3 y3'
 exact (((e.mul u).mul ((y1'.mul y1').mul (y2'.mul y3'))).mono (C':=4) (by omega) (by omega)).add (((f.mul v).mul ((x1'.mul x1').mul (x2'.mul x3'))).mono (C':=4) (by omega) (by omega))
theorem bSq (x1':Bd 1 hx1 p1) (y1':Bd 1 hy1 q1) (x3':Bd 1 hx3 p3) (y3':Bd 1 hy3 q3):Bd 1 (2*(hx1+hx3+hy1+hy3)) (iSq p1 q1 p3 q3):=by
 have z:=(x1'.mul y1').mul (x3'.mul y3')
 exact (z.mul z).mono (by omega) (by omega)
theorem bA (x1:Bd 1 hx1 a1) (x1':Bd 1 hx1 p1) (y1:Bd 1 hy1 b1) (y1':Bd 1 hy1 q1) (x2:Bd 1 hx2 a2) (x2':Bd 1 hx2 p2) (y2:Bd 1 hy2 b2) (y2':Bd 1 hy2 q2)
  (x3:Bd 1 hx3 a3) (x3':Bd 1 hx3 p3) (y3:Bd 1 hy3 b3) (y3':Bd 1 hy3 q3) (s1:Bd 1 hs1 c1) (s1':Bd 1 hs1 r1) (s2:Bd 1 hs2 c2) (s2':Bd 1 hs2 r2) (s3:Bd 1 hs3 c3) (s3':Bd 1 hs3 r3) :
  Bd 160 (4*hx1+3*hx2+2*hx3+4*hy1+3*hy2+2*hy3+hs1+hs2+hs3) (iA a1 p1 b1 q1 c1 r1 a2 p2 b2 q2 c2 r2 a3 p3 b3 q3 c3 r3):=by
 have g:=bG x1 x1' y1 y1' x3 x3' y3 y3'
 have n:=bN x1 x1' y1 y1' x2 x2' y2 y2'
 have t:=bT x1 x1' y1 y1' x2 x2' y2 y2' s1 s1' s2 s2'
 have h:=bH x1 x1' y1 y1' x2 x2' y2 y2' x3 x3' y3 y3'
 have sq:=bSq x1' y1' x3' y3'
 have k1:=(((g.mul n).mul ((s1'.mul s2').mul s3')).mul (x2'.mul y2')).mono (C':=64) (e':=4*hx1+3*hx2+2*hx3+4*hy1+3*hy2+2*hy3+hs1+hs2+hs3) (by omega) (by omega)
 have k2:=(((t.mul h).mul s3').mul (x3'.mul y3')).mono (C':=80) (e':=4*hx1+3*hx2+2*hx3+4*hy1+3*hy2+2*hy3+hs1+hs2+hs3) (by omega) (by omega)
 have k3:=((((s1.mul n).mul (s2'.mul s3')).mul sq).mul (x2'.mul y2')).mono (C':=8) (e':=4*hx1+3*hx2+2*hx3+4*hy1+3*hy2+2*hy3+hs1+hs2+hs3) (by omega) (by omega)
 have k4:=((((s3.mul n).mul (s1'.mul s2')).mul sq).mul (x2'.mul y2')).mono (C':=8) (e':=4*hx1+3*hx2+2*hx3+4*hy1+3*hy2+2*hy3+hs1+hs2+hs3) (by omega) (by omega)
 exact ((k1.add k2).add k3).sub k4
theorem bM (x1:Bd 1 hx1 a1) (x1':Bd 1 hx1 p1) (y1:Bd 1 hy1 b1) (y1':Bd 1 hy1 q1) (x2:Bd 1 hx2 a2) (x2':Bd 1 hx2 p2) (y2:Bd 1 hy2 b2) (y2':Bd 1 hy2 q2)
  (wx1:Bd 1 vx1 p1) (wy1:Bd 1 vy1 q1) (wx2:Bd 1 vx2 p2) (wy2:Bd 1 vy2 q2) (wx3:Bd 1 vx3 p3) (wy3:Bd 1 vy3 q3) (ws1:Bd 1 vs1 r1) (ws2:Bd 1 vs2 r2) (ws3:Bd 1 vs3 r3) :
  Bd 8 (2*(hx1+hx2+hy1+hy2)+(vs1+vs2+vs3)+2*(vx1+vx3+vy1+vy3)+(vx2+vy2)) (iM a1 p1 b1 q1 r1 a2 p2 b2 q2 r2 p3 q3 r3):=by
 have n:=bN x1 x1' y1 y1' x2 x2' y2 y2'
 have sq:=bSq wx1 wy1 wx3 wy3
 exact (((n.mul ((ws1.mul ws2).mul ws3)).mul sq).mul (wx2.mul wy2)).mono (by omega) (by omega)
theorem bK (x1:Bd 1 hx1 a1) (x1':Bd 1 hx1 p1) (y1:Bd 1 hy1 b1) (y1':Bd 1 hy1 q1) (x2:Bd 1 hx2 a2) (x2':Bd 1 hx2 p2) (y2:Bd 1 hy2 b2) (y2':Bd 1 hy2 q2)
  (x3:Bd 1 hx3 a3) (x3':Bd 1 hx3 p3) (y3:Bd 1 hy3 b3) (y3':Bd 1 hy3 q3):Bd 16 (hx1+hx2+hx3+hy1+hy2+hy3) (iK a1 p1 b1 q1 a2 p2 b2 q2 a3 p3 b3 q3):=by
 have u:=bU x1 x1' x2 x2'
 have v:=bU y1 y1' y2 y2'
 have e:=bE x1 x1' x3 x3'
 have f:=bE y1 y1' y3 y3'
 have two:Bd 2 0 2:=by unfold Bd;decide
 have k1:=((f.mul u).mul (x3'.mul y2')).mono (C':=4) (e':=hx1+hx2+hx3+hy1+hy2+hy3) (by omega) (by omega)
 have k2:=((e.mul v).mul (y3'.mul x2')).mono (C':=4) (e':=hx1+hx2+hx3+hy1+hy2+hy3) (by omega) (by omega)
 exact (two.mul (k1.sub k2)).mono (by omega) (by omega)
theorem bQ (wx1:Bd 1 vx1 p1) (wy1:Bd 1 vy1 q1) (wx2:Bd 1 vx2 p2) (wy2:Bd 1 vy2 q2) (wx3:Bd 1 vx3 p3) (wy3:Bd 1 vy3 q3):Bd 1 (vx1+vx2+vx3+(vy1+vy2+vy3)) (iQ p1 q1 p2 q2 p3 q3):=
 (((wx1.mul wx2).mul wx3).mul ((wy1.mul wy2).mul wy3)).mono (by omega) (by omega)
theorem bCn (x1:Bd 1 hx1 a1) (x1':Bd 1 hx1 p1) (y1:Bd 1 hy1 b1) (y1':Bd 1 hy1 q1) (x2:Bd 1 hx2 a2) (x2':Bd 1 hx2 p2) (y2:Bd 1 hy2 b2) (y2':Bd 1 hy2 q2)
  (s1:Bd 1 hs1 c1) (s1':Bd 1 hs1 r1) (s2:Bd 1 hs2 c2) (s2':Bd 1 hs2 r2):Bd 132 (4*(hx1+hx2+hy1+hy2)+2*hs1+2*hs2) (iCn a1 p1 b1 q1 c1 r1 a2 p2 b2 q2 c2 r2):=by
 have n:=bN x1 x1' y1 y1' x2 x2' y2 y2'
 have d:=bD x1' y1' x2' y2'
 have t:=bT x1 x1' y1 y1' x2 x2' y2 y2' s1 s1' s2 s2'
 have four:Bd 4 0 4:=by unfold Bd;decide
 have k1:=(four.mul ((((s1.mul d).mul n).mul s1').mul (s2'.mul s2'))).mono (C':=32) (e':=4*(hx1+hx2+hy1+hy2)+2*hs1+2*hs2) (by omega) (by omega)
 have k2:=(t.mul t).mono (C':=100) (e':=4*(hx1+hx2+hy1+hy2)+2*hs1+2*hs2) (by omega) (by omega)
 exact k1.sub k2
theorem bCd (x1:Bd 1 hx1 a1) (x1':Bd 1 hx1 p1) (y1:Bd 1 hy1 b1) (y1':Bd 1 hy1 q1) (x2:Bd 1 hx2 a2) (x2':Bd 1 hx2 p2) (y2:Bd 1 hy2 b2) (y2':Bd 1 hy2 q2)
  (ws1:Bd 1 vs1 r1) (ws2:Bd 1 vs2 r2):Bd 256 (4*(hx1+hx2+hy1+hy2)+2*vs1+2*vs2) (iCd a1 p1 b1 q1 r1 a2 p2 b2 q2 r2):=by
 have n:=bN x1 x1' y1 y1' x2 x2' y2 y2'
 have four:Bd 4 0 4:=by unfold Bd;decide
 exact ((four.mul (n.mul n)).mul ((ws1.mul ws2).mul (ws1.mul ws2))).mono (by omega) (by omega)
end
section
variable (a b d:DQ)
theorem qyz (q:Rat):(q.den:Rat)≠0:=by have:=q3r q;grind
theorem qxz (neg:Bool) (hf:(b.x - a.x)*(b.x - a.x)+(b.y - a.y)*(b.y - a.y)≠0) :
  kA d (yQ a b neg)*((iM a.x.num a.x.den a.y.num a.y.den a.s.den b.x.num b.x.den b.y.num b.y.den b.s.den d.x.den d.y.den d.s.den:Int):Rat)=((iA a.x.num a.x.den a.y.num a.y.den a.s.num a.s.den b.x.num b.x.den b.y.num b.y.den b.s.num b.s.den d.x.num d.x.den d.y.num d.y.den d.s.num d.s.den:Int):Rat) ∧
  kB d (yQ a b neg)*((iQ a.x.den a.y.den b.x.den b.y.den d.x.den d.y.den:Int):Rat)=(((if neg then -1 else 1)*iK a.x.num a.x.den a.y.num a.y.den b.x.num b.x.den b.y.num b.y.den d.x.num d.x.den d.y.num d.y.den:Int):Rat) ∧
  (yQ a b neg).h*((iCd a.x.num a.x.den a.y.num a.y.den a.s.den b.x.num b.x.den b.y.num b.y.den b.s.den:Int):Rat)=((iCn a.x.num a.x.den a.y.num a.y.den a.s.num a.s.den b.x.num b.x.den b.y.num b.y.den b.s.num b.s.den:Int):Rat) ∧
  iN a.x.num a.x.den a.y.num a.y.den b.x.num b.x.den b.y.num b.y.den≠0:=by
 obtain ⟨far,hfar⟩:∃ far,far=(b.x - a.x)*(b.x - a.x)+(b.y - a.y)*(b.y - a.y):=⟨_,rfl⟩
 obtain ⟨t,ht⟩:∃ t,t=(far+a.s - b.s) / (2*far):=⟨_,rfl⟩
 obtain ⟨h,hh⟩:∃ h,h=a.s / far - t*t:=⟨_,rfl⟩
 rw [← hfar] at hf
 have h2f:2*far≠0:=by grind
 have ht':2*far*t=far+a.s - b.s:=by
  rw [ht,Rat.mul_comm];exact Rat.div_mul_cancel h2f
 have hh':far*h=a.s - far*(t*t):=by
  have:a.s / far*far=a.s:=Rat.div_mul_cancel hf
  rw [hh];grind
 have hc:yQ a b neg=⟨a.x+t*(b.x - a.x),a.y+t*(b.y - a.y),if neg then b.y - a.y else 0 - (b.y - a.y),if neg then 0 - (b.x - a.x) else b.x - a.x,h⟩:=by
  rw [hh,ht,hfar];rfl
 rw [hc]
 have nx1:=qew a.x
 have ny1:=qew a.y
 have ns1:=qew a.s
 have nx2:=qew b.x
 have ny2:=qew b.y
 have ns2:=qew b.s
 have nx3:=qew d.x
 have ny3:=qew d.y
 have ns3:=qew d.s
 have px1:=qyz a.x
 have py1:=qyz a.y
 have px2:=qyz b.x
 have py2:=qyz b.y
 obtain ⟨x1,y1,s1⟩:=a
 obtain ⟨x2,y2,s2⟩:=b
 obtain ⟨x3,y3,s3⟩:=d
 simp only at *
 have hU:((iU x1.num x1.den x2.num x2.den:Int):Rat)=(x2 - x1)*((x1.den:Rat)*x2.den):=by
  unfold iU;simp only [Rat.intCast_sub,Rat.intCast_mul,Rat.intCast_natCast,nx1,nx2];grind
 have hV:((iU y1.num y1.den y2.num y2.den:Int):Rat)=(y2 - y1)*((y1.den:Rat)*y2.den):=by
  unfold iU;simp only [Rat.intCast_sub,Rat.intCast_mul,Rat.intCast_natCast,ny1,ny2];grind
 have hE:((iE x1.num x1.den x3.num x3.den:Int):Rat)=(x1 - x3)*((x1.den:Rat)*x3.den):=by
  unfold iE;simp only [Rat.intCast_sub,Rat.intCast_mul,Rat.intCast_natCast,nx1,nx3];grind
 have hF:((iE y1.num y1.den y3.num y3.den:Int):Rat)=(y1 - y3)*((y1.den:Rat)*y3.den):=by
  unfold iE;simp only [Rat.intCast_sub,Rat.intCast_mul,Rat.intCast_natCast,ny1,ny3];grind
 have hD:((iD x1.den y1.den x2.den y2.den:Int):Rat)=((x1.den:Rat)*x2.den*(y1.den*y2.den))*((x1.den:Rat)*x2.den*(y1.den*y2.den)):=by
  unfold iD;simp only [Rat.intCast_mul,Rat.intCast_natCast]
 have hN:((iN x1.num x1.den y1.num y1.den x2.num x2.den y2.num y2.den:Int):Rat)=far*(((x1.den:Rat)*x2.den*(y1.den*y2.den))*((x1.den:Rat)*x2.den*(y1.den*y2.den))):=by
  unfold iN;simp only [Rat.intCast_add,Rat.intCast_mul,Rat.intCast_natCast,hU,hV,hfar];grind
 have hN0:iN x1.num x1.den y1.num y1.den x2.num x2.den y2.num y2.den≠0:=by
  intro e
  rw [e] at hN
  have h1:(x1.den:Rat)*x2.den*(y1.den*y2.den)≠0:=by
   have:=Rat.mul_pos (Rat.mul_pos (q3r x1) (q3r x2)) (Rat.mul_pos (q3r y1) (q3r y2))
   grind
  have h2:far*(((x1.den:Rat)*x2.den*(y1.den*y2.den))*((x1.den:Rat)*x2.den*(y1.den*y2.den)))=0:=by rw [← hN];simp
  rcases Rat.mul_eq_zero.1 h2 with h3 | h3
  ·exact hf h3
  ·rcases Rat.mul_eq_zero.1 h3 with h4 | h4 <;> exact h1 h4
 have hT:((iT x1.num x1.den y1.num y1.den s1.num s1.den x2.num x2.den y2.num y2.den s2.num s2.den:Int):Rat)=2*t*far*(((x1.den:Rat)*x2.den*(y1.den*y2.den))*((x1.den:Rat)*x2.den*(y1.den*y2.den)))*((s1.den:Rat)*s2.den):=by
  unfold iT;simp only [Rat.intCast_add,Rat.intCast_sub,Rat.intCast_mul,Rat.intCast_natCast,hN,hD,ns1,ns2]
  generalize ((x1.den:Rat)*x2.den*(y1.den*y2.den))*((x1.den:Rat)*x2.den*(y1.den*y2.den))=D2
  have:2*t*far*D2*((s1.den:Rat)*s2.den)=(2*far*t)*(D2*((s1.den:Rat)*s2.den)):=by grind
  rw [this,ht'];grind
 have hG:((iG x1.num x1.den y1.num y1.den x3.num x3.den y3.num y3.den:Int):Rat)=((x1 - x3)*(x1 - x3)+(y1 - y3)*(y1 - y3))*(((x1.den:Rat)*y1.den*(x3.den*y3.den))*((x1.den:Rat)*y1.den*(x3.den*y3.den))):=by
  unfold iG;simp only [Rat.intCast_add,Rat.intCast_mul,Rat.intCast_natCast,hE,hF];grind
 have hH:((iH x1.num x1.den y1.num y1.den x2.num x2.den y2.num y2.den x3.num x3.den y3.num y3.den:Int):Rat)=((x1 - x3)*(x2 - x1)+(y1 - y3)*(y2 - y1))*(((x1.den:Rat)*x1.den*(x2.den*x3.den))*((y1.den:Rat)*y1.den*(y2.den*y3.den))):=by
  unfold iH;simp only [Rat.intCast_add,Rat.intCast_mul,Rat.intCast_natCast,hE,hF,hU,hV];grind
 have hSq:((iSq x1.den y1.den x3.den y3.den:Int):Rat)=((x1.den:Rat)*y1.den*(x3.den*y3.den))*((x1.den:Rat)*y1.den*(x3.den*y3.den)):=by
  unfold iSq;simp only [Rat.intCast_mul,Rat.intCast_natCast]
 refine ⟨?_,?_,?_,hN0⟩
 ·unfold iM iA
  simp only [Rat.intCast_add,Rat.intCast_sub,Rat.intCast_mul,Rat.intCast_natCast,hN,hT,hG,hH,hSq,ns1,ns3]
  have hA:kA ⟨x3,y3,s3⟩ ⟨x1+t*(x2 - x1),y1+t*(y2 - y1),if neg then y2 - y1 else 0 - (y2 - y1),if neg then 0 - (x2 - x1) else x2 - x1,h⟩=(x1 - x3)*(x1 - x3)+(y1 - y3)*(y1 - y3)+2*t*((x1 - x3)*(x2 - x1)+(y1 - y3)*(y2 - y1))+s1 - s3:=by
   have e1:kA ⟨x3,y3,s3⟩ ⟨x1+t*(x2 - x1),y1+t*(y2 - y1),if neg then y2 - y1 else 0 - (y2 - y1),if neg then 0 - (x2 - x1) else x2 - x1,h⟩=(x1 - x3)*(x1 - x3)+(y1 - y3)*(y1 - y3)+2*t*((x1 - x3)*(x2 - x1)+(y1 - y3)*(y2 - y1))+far*(t*t)+far*h - s3:=by
    unfold kA
    rw [hfar]
    cases neg
    ·simp only [Bool.false_eq_true,if_false];grind
    ·simp only [if_true];grind
   rw [e1,hh'];grind
  rw [hA]
  generalize (x1 - x3)*(x1 - x3)+(y1 - y3)*(y1 - y3)=e2
  generalize (x1 - x3)*(x2 - x1)+(y1 - y3)*(y2 - y1)=ed
  generalize (x1.den:Rat)=P1
  generalize (x2.den:Rat)=P2
  generalize (x3.den:Rat)=P3
  generalize (y1.den:Rat)=Q1
  generalize (y2.den:Rat)=Q2
  generalize (y3.den:Rat)=Q3
  generalize (s1.den:Rat)=R1
  generalize (s2.den:Rat)=R2
  generalize (s3.den:Rat)=R3
  clear hU hV hE hF hD hN hN0 hT hG hH hSq nx1 nx2 nx3 ny1 ny2 ny3 ns1 ns2 ns3 px1 px2 py1 py2 hf h2f ht' hh' hc hfar
  grind
 ·unfold iQ iK kB
  simp only [Rat.intCast_sub,Rat.intCast_mul,Rat.intCast_natCast,hE,hF,hU,hV]
  cases neg
  ·simp only [Bool.false_eq_true,if_false]
   simp
   grind
  ·simp only [if_true]
   simp
   grind
 ·unfold iCd iCn
  simp only [Rat.intCast_sub,Rat.intCast_mul,Rat.intCast_natCast,hN,hT,hD,ns1]
  generalize ((x1.den:Rat)*x2.den*(y1.den*y2.den))*((x1.den:Rat)*x2.den*(y1.den*y2.den))=D2
  generalize (s1.den:Rat)=R1
  generalize (s2.den:Rat)=R2
  have e:s1=far*h+far*(t*t):=by rw [hh'];grind
  have f4:((4:Int):Rat)=4:=by simp
  rw [f4,e]
  clear hU hV hE hF hD hN hN0 hT hG hH hSq nx1 nx2 nx3 ny1 ny2 ny3 ns1 ns2 ns3 px1 px2 py1 py2 hf h2f ht' hh' hc hfar
  grind
end
end Go.Eng

namespace Go.Eng
def pw (d:DQ) (x y:Rat):Rat:=(x - d.x)*(x - d.x)+(y - d.y)*(y - d.y) - d.s
def qFu (l:List DQ):Prop:=∃ x y:Rat,∀ d ∈ l,pw d x y≤0
theorem qFu.mono {l l':List DQ} (h:qFu l) (hs:∀ d ∈ l',d ∈ l):qFu l':=by
 obtain ⟨x,y,h⟩:=h
 exact ⟨x,y,fun d hd=>h d (hs d hd)⟩
end Go.Eng

namespace Go.Eng
theorem hit {ι:Type} (al be:ι→Rat):∀ (L:List ι),(∀ k ∈ L,al k≤0)→(∃ k ∈ L,0<be k)→∃ t,0≤t∧(∀ k ∈ L,al k+be k*t≤0)∧∃ b ∈ L,0<be b∧al b+be b*t=0
 | [],_,h=>by obtain ⟨k,hk,_⟩:=h;cases hk
 | a :: L,h0,h1=>by
  have hLn:∀ k ∈ L,al k≤0:=fun k hk=>h0 k (List.mem_cons_of_mem _ hk)
  have ha0:=h0 a List.mem_cons_self
  by_cases ha:0<be a
  ·obtain ⟨ta,hta⟩:∃ ta,ta=-al a / be a:=⟨_,rfl⟩
   have eta:ta*be a=-al a:=by rw [hta];exact Rat.div_mul_cancel (by grind)
   have ta0:0≤ta:=by
    apply Rat.not_lt.1;intro hn
    have:=Rat.mul_pos (show 0< -ta by grind) ha
    grind
   have own:al a+be a*ta=0:=by grind
   by_cases hL:∃ k ∈ L,0<be k
   ·obtain ⟨t,k1,k2,b,hb,k3,k4⟩:=hit al be L hLn hL
    rcases Rat.le_total (a:=t) (b:=ta) with hle | hle
    ·refine ⟨t,k1,fun k hk=>?_,b,List.mem_cons_of_mem _ hb,k3,k4⟩
     rcases List.mem_cons.1 hk with rfl | hk
     ·have:=Rat.mul_nonneg (show 0≤be k by grind) (show 0≤ta - t by grind);grind
     ·exact k2 k hk
    ·refine ⟨ta,ta0,fun k hk=>?_,a,List.mem_cons_self,ha,own⟩
     rcases List.mem_cons.1 hk with rfl | hk
     ·grind
     ·rcases Rat.le_total (a:=0) (b:=be k) with hb | hb
      ·have:=Rat.mul_nonneg hb (show 0≤t - ta by grind);have:=k2 k hk;grind
      ·have:=Rat.mul_nonneg (show 0≤-be k by grind) ta0;have:=hLn k hk;grind
   ·refine ⟨ta,ta0,fun k hk=>?_,a,List.mem_cons_self,ha,own⟩
    rcases List.mem_cons.1 hk with rfl | hk
    ·grind
    ·have hb:be k≤0:=Rat.not_lt.1 fun hn=>hL ⟨k,hk,hn⟩
     have:=Rat.mul_nonneg (show 0≤-be k by grind) ta0;have:=hLn k hk;grind
  ·have hL:∃ k ∈ L,0<be k:=by
    obtain ⟨k,hk,h⟩:=h1
    rcases List.mem_cons.1 hk with rfl | hk
    ·exact absurd h ha
    ·exact ⟨k,hk,h⟩
   obtain ⟨t,k1,k2,b,hb,k3,k4⟩:=hit al be L hLn hL
   refine ⟨t,k1,fun k hk=>?_,b,List.mem_cons_of_mem _ hb,k3,k4⟩
   rcases List.mem_cons.1 hk with rfl | hk
   ·have:=Rat.mul_nonneg (show 0≤-be k by grind) k1;grind
   ·exact k2 k hk
theorem qyK (a b:DQ):(yQ a b true).ax=-(yQ a b false).ax∧(yQ a b true).ay=-(yQ a b false).ay:=by
 unfold yQ
 simp only [Bool.false_eq_true,if_false,if_true]
 exact ⟨by grind,by grind⟩
end Go.Eng

namespace Go.Eng
def cls (q:Rat):Prop:=(qn q≤12∧q.den=1)∨(qn q≤10∧qd q≤10)
def qF6 (q:Rat):Prop:=qn q≤13∧qd q≤10
structure GD (d:DQ):Prop where
 x:cls d.x
 y:cls d.y
 s:qF6 d.s
 nn:0≤d.s
theorem Bd.of_nl {m:Int} {k:Nat} (h:nl m≤k):Bd 1 k m:=by
 unfold Bd
 have:=qFi h
 omega
theorem Bd.of_le {C e:Nat} {x y:Int} (h:Bd C e y) (hxy:x.natAbs≤y.natAbs):Bd C e x:=Nat.le_trans hxy h
theorem qsH {q:Rat} (h:cls q):∃ u v,Wt u v q∧((u=12∧v=0)∨(u=10∧v=10)):=by
 rcases h with ⟨h1,h2⟩ | ⟨h1,h2⟩
 ·refine ⟨12,0,⟨Bd.of_nl h1,?_,?_⟩,.inl ⟨rfl,rfl⟩⟩
  ·unfold Bd;rw [h2];decide
  ·unfold Bd;rw [h2];decide
 ·exact ⟨10,10,⟨Bd.of_nl h1,Bd.of_nl (m:=(q.den:Int)) h2,Bd.of_nl (m:=(q.den:Int)) h2⟩,.inr ⟨rfl,rfl⟩⟩
theorem qEB {q:Rat} (h:cls q):qF6 q:=by
 rcases h with ⟨h1,h2⟩ | ⟨h1,h2⟩
 ·exact ⟨by omega,by unfold qd;rw [h2];decide⟩
 ·exact ⟨by omega,h2⟩
theorem qwt {q:Rat} (h:qF6 q):∃ u v,Wt u v q∧u=13∧v=10:=
 ⟨13,10,⟨Bd.of_nl h.1,Bd.of_nl (m:=(q.den:Int)) h.2,(Bd.of_nl (m:=(q.den:Int)) h.2).mono (by omega) (by omega)⟩,rfl,rfl⟩
theorem wI {q:Rat} (h:cls q):bnd 12 10 q:=by
 rcases h with ⟨h1,h2⟩ | ⟨h1,h2⟩
 ·exact ⟨h1,by unfold qd;rw [h2];decide⟩
 ·exact ⟨by omega,h2⟩
theorem q3k {q:Rat} (h:qF6 q):bnd 13 10 q:=h
theorem GD.sh {d:DQ} (h:GD d):d.sh:=⟨wI h.x,wI h.y,q3k h.s⟩
theorem qxB {q:Rat} (h:shT (tQ q)):cls q:=by
 unfold shT at h
 obtain ⟨h1,h2⟩:=qg1 q
 have h3:=ql9 q
 have h4:=qvf q
 rcases h2 with h2 | h2
 ·exact .inl ⟨by omega,h2⟩
 ·exact .inr ⟨by omega,by omega⟩
theorem qzq {a b d:DQ} (ga:GD a) (gb:GD b) (gd:GD d) (neg:Bool) (hf:(b.x - a.x)*(b.x - a.x)+(b.y - a.y)*(b.y - a.y)≠0) (oa:okQ (kA d (yQ a b neg))) (ob:okQ (kB d (yQ a b neg))) (oc:okQ (yQ a b neg).h) :
  RootOk (kA d (yQ a b neg)) (kB d (yQ a b neg)) (yQ a b neg).h:=by
 obtain ⟨f1,f2,f3,f4⟩:=qxz a b d neg hf
 generalize kA d (yQ a b neg)=A at *
 generalize kB d (yQ a b neg)=B at *
 generalize (yQ a b neg).h=H at *
 obtain ⟨hx1,vx1,wx1,ex1⟩:=qsH ga.x
 obtain ⟨hy1,vy1,wy1,ey1⟩:=qsH ga.y
 obtain ⟨hs1,vs1,ws1,es1⟩:=qwt ga.s
 obtain ⟨hx2,vx2,wx2,ex2⟩:=qsH gb.x
 obtain ⟨hy2,vy2,wy2,ey2⟩:=qsH gb.y
 obtain ⟨hs2,vs2,ws2,es2⟩:=qwt gb.s
 obtain ⟨hx3,vx3,wx3,ex3⟩:=qsH gd.x
 obtain ⟨hy3,vy3,wy3,ey3⟩:=qsH gd.y
 obtain ⟨hs3,vs3,ws3,es3⟩:=qwt gd.s
 have k1:8*hx1+vx1≤96∧14*hx1+4*vx1≤180:=by omega
 have k2:8*hy1+vy1≤96∧14*hy1+4*vy1≤180:=by omega
 have k3:7*hx2+vx2≤84∧14*hx2+2*vx2≤168:=by omega
 have k4:7*hy2+vy2≤84∧14*hy2+2*vy2≤168:=by omega
 have k5:2*hx3+vx3≤30∧2*hx3+4*vx3≤60:=by omega
 have k6:2*hy3+vy3≤30∧2*hy3+4*vy3≤60:=by omega
 have k7:hs1+2*vs1≤33∧2*hs1+4*vs1≤66:=by omega
 have k8:hs2+2*vs2≤33∧2*hs2+4*vs2≤66:=by omega
 have k9:hs3≤13∧vs3≤10:=by omega
 clear ex1 ey1 es1 ex2 ey2 es2 ex3 ey3 es3
 have p0:∀ q:Rat,(q.den:Int)≠0:=fun q=>by have:=qwe q;omega
 have hM:iM a.x.num a.x.den a.y.num a.y.den a.s.den b.x.num b.x.den b.y.num b.y.den b.s.den d.x.den d.y.den d.s.den≠0:=by
  unfold iM iSq
  have:=p0 a.x;have:=p0 a.y;have:=p0 a.s;have:=p0 b.x;have:=p0 b.y;have:=p0 b.s;have:=p0 d.x;have:=p0 d.y;have:=p0 d.s
  exact Int.mul_ne_zero (Int.mul_ne_zero (Int.mul_ne_zero f4 (Int.mul_ne_zero (Int.mul_ne_zero ‹_› ‹_›) ‹_›)) (Int.mul_ne_zero (Int.mul_ne_zero (Int.mul_ne_zero ‹_› ‹_›) (Int.mul_ne_zero ‹_› ‹_›)) (Int.mul_ne_zero (Int.mul_ne_zero ‹_› ‹_›) (Int.mul_ne_zero ‹_› ‹_›)))) (Int.mul_ne_zero ‹_› ‹_›)
 have hQ:iQ a.x.den a.y.den b.x.den b.y.den d.x.den d.y.den≠0:=by
  unfold iQ
  exact Int.mul_ne_zero (Int.mul_ne_zero (Int.mul_ne_zero (p0 _) (p0 _)) (p0 _)) (Int.mul_ne_zero (Int.mul_ne_zero (p0 _) (p0 _)) (p0 _))
 have hC:iCd a.x.num a.x.den a.y.num a.y.den a.s.den b.x.num b.x.den b.y.num b.y.den b.s.den≠0:=by
  unfold iCd
  exact Int.mul_ne_zero (Int.mul_ne_zero (by omega) (Int.mul_ne_zero f4 f4)) (Int.mul_ne_zero (Int.mul_ne_zero (p0 _) (p0 _)) (Int.mul_ne_zero (p0 _) (p0 _)))
 obtain ⟨g1,g2⟩:=qov hM f1
 obtain ⟨g3,g4⟩:=qov hQ f2
 obtain ⟨g5,g6⟩:=qov hC f3
 have b1:=(bA wx1.n wx1.dh wy1.n wy1.dh wx2.n wx2.dh wy2.n wy2.dh wx3.n wx3.dh wy3.n wy3.dh ws1.n ws1.dh ws2.n ws2.dh ws3.n ws3.dh).of_le (x:=A.num) g1
 have b2:=(bM wx1.n wx1.dh wy1.n wy1.dh wx2.n wx2.dh wy2.n wy2.dh wx1.d wy1.d wx2.d wy2.d wx3.d wy3.d ws1.d ws2.d ws3.d).of_le (x:=(A.den:Int)) g2
 have b3:Bd 16 (hx1+hx2+hx3+hy1+hy2+hy3) B.num:=by
  refine (bK wx1.n wx1.dh wy1.n wy1.dh wx2.n wx2.dh wy2.n wy2.dh wx3.n wx3.dh wy3.n wy3.dh).of_le (Nat.le_trans g3 ?_)
  rw [Int.natAbs_mul]
  cases neg <;> simp
 have b4:=(bQ wx1.d wy1.d wx2.d wy2.d wx3.d wy3.d).of_le (x:=(B.den:Int)) g4
 have b5:=(bCn wx1.n wx1.dh wy1.n wy1.dh wx2.n wx2.dh wy2.n wy2.dh ws1.n ws1.dh ws2.n ws2.dh).of_le (x:=H.num) g5
 have b6:=(bCd wx1.n wx1.dh wy1.n wy1.dh wx2.n wx2.dh wy2.n wy2.dh ws1.d ws2.d).of_le (x:=(H.den:Int)) g6
 have X1:=b1.mul b4
 have X:Bd 40960 500 (rX A B H):=(X1.mul b6).mono (by omega) (by omega)
 have Y:=b3.mul b2
 have R:=b5.mul b6
 have XX:=(X.mul X).mono (C':=1677721600) (e':=1000) (by omega) (by omega)
 have YY:=Y.mul Y
 have YR:=(YY.mul R).mono (C':=553648128) (e':=972) (by omega) (by omega)
 have c10:(1000000000:Nat)≤10 ^ 9:=by decide
 exact { oa:=oa,ob:=ob,oc:=oc,x1:=X1.okL (k:=9) (by omega) (by omega) (by omega),x:=X.okL (k:=9) (by omega) (by omega) (by omega),y:=Y.okL (k:=9) (by omega) (by omega) (by omega),r:=R.okL (k:=9) (by omega) (by omega) (by omega),xx:=XX.okL (k:=10) (by decide) (by omega) (by omega),yy:=YY.okL (k:=9) (by omega) (by omega) (by omega),yr:=YR.okL (k:=9) (by omega) (by omega) (by omega),d:=((XX.mono (C':=1677721600) (e':=1000) (by omega) (by omega)).sub (YR.mono (C':=553648128) (e':=1000) (by omega) (by omega))).okL (k:=10) (by decide) (by omega) (by omega) }
end Go.Eng

namespace Go.Eng
theorem qFj {far c:Rat} (h0:far≠0) (hf:bnd 87 80 far) (hc:bnd 24 20 c):bnd 108 108 ((far+c) / (2*far)):=by
 have hn:far.num≠0:=fun h=>h0 (Rat.num_eq_zero.1 h)
 have hm:2*(far.num*(c.den:Int))≠0:=by
  have:=qwe c
  exact Int.mul_ne_zero (by omega) (Int.mul_ne_zero hn (by omega))
 have h2f:2*far≠0:=by grind
 have key:(far+c) / (2*far)*((2*(far.num*(c.den:Int)):Int):Rat)=((far.num*(c.den:Int)+c.num*(far.den:Int):Int):Rat):=by
  have e1:=qew far
  have e2:=qew c
  have e3:(far+c) / (2*far)*(2*far)=far+c:=Rat.div_mul_cancel h2f
  have f2:((2:Int):Rat)=2:=by simp
  simp only [Rat.intCast_add,Rat.intCast_mul,Rat.intCast_natCast,e1,e2,f2]
  generalize (far+c) / (2*far)=q at *
  generalize (far.den:Rat)=fd at *
  generalize (c.den:Rat)=cd at *
  have e4:q*(2*(far*fd*cd))=q*(2*far)*(fd*cd):=by grind
  rw [e4,e3];grind
 obtain ⟨k1,k2⟩:=qov hm key
 have g1:=qmS k1
 have g2:=qzW k2
 have a1:=qsB (far.num*(c.den:Int)) (c.num*(far.den:Int))
 have a2:=uq far.num (c.den:Int)
 have a3:=uq c.num (far.den:Int)
 have a4:=uq 2 (far.num*(c.den:Int))
 have a5:nl 2=1:=by decide
 have a6:dl (2*(far.num*(c.den:Int))).natAbs=nl (2*(far.num*(c.den:Int))):=rfl
 have b1:nl far.num≤87:=hf.1
 have b2:nl (far.den:Int)≤80:=hf.2
 have b3:nl c.num≤24:=hc.1
 have b4:nl (c.den:Int)≤20:=hc.2
 refine ⟨?_,?_⟩
 ·show nl _≤108
  omega
 ·show dl _≤108
  omega
structure PB (p:SQ):Prop where
 fx:bnd 142 138 p.fx
 fy:bnd 142 138 p.fy
 ax:bnd 23 20 p.ax
 ay:bnd 23 20 p.ay
 h:bnd 314 313 p.h
theorem qFb (a:Rat):0 - a=-a:=by grind
theorem qwl {a b:DQ} (ga:GD a) (gb:GD b) (hf:qaG b.x b.y a.x a.y≠0):bnd 108 108 ((qaG b.x b.y a.x a.y+a.s - b.s) / (2*qaG b.x b.y a.x a.y)):=by
 rw [show qaG b.x b.y a.x a.y+a.s - b.s=qaG b.x b.y a.x a.y+(a.s - b.s) by grind]
 exact qFj hf (qdj (wI gb.x) (wI gb.y) (wI ga.x) (wI ga.y)) ((q3k ga.s).sub (q3k gb.s) (by omega) (by omega))
theorem qqg (a b:DQ) (neg:Bool):yQ a b neg=⟨a.x+(qaG b.x b.y a.x a.y+a.s - b.s) / (2*qaG b.x b.y a.x a.y)*(b.x - a.x),a.y+(qaG b.x b.y a.x a.y+a.s - b.s) / (2*qaG b.x b.y a.x a.y)*(b.y - a.y),if neg then b.y - a.y else 0 - (b.y - a.y),if neg then 0 - (b.x - a.x) else b.x - a.x,a.s / qaG b.x b.y a.x a.y - (qaG b.x b.y a.x a.y+a.s - b.s) / (2*qaG b.x b.y a.x a.y)*((qaG b.x b.y a.x a.y+a.s - b.s) / (2*qaG b.x b.y a.x a.y))⟩:=rfl
theorem qjG {a b:DQ} (ga:GD a) (gb:GD b) (neg:Bool) (hf:qaG b.x b.y a.x a.y≠0):PB (yQ a b neg):=by
 have dx:=q0O (wI gb.x) (wI ga.x)
 have dy:=q0O (wI gb.y) (wI ga.y)
 have far:=qdj (wI gb.x) (wI gb.y) (wI ga.x) (wI ga.y)
 have ht:=qwl ga gb hf
 rw [qqg]
 have nx:bnd 23 20 (0 - (b.x - a.x)):=by rw [qFb];exact dx.neg
 have ny:bnd 23 20 (0 - (b.y - a.y)):=by rw [qFb];exact dy.neg
 have hh:=((q3k ga.s).div hf far).sub (ht.mul ht) (K:=314) (by omega) (by omega)
 have hx:=(wI ga.x).add (ht.mul dx) (K:=142) (by omega) (by omega)
 have hy:=(wI ga.y).add (ht.mul dy) (K:=142) (by omega) (by omega)
 exact ⟨hx,hy,by cases neg <;> assumption,by cases neg <;> assumption,hh⟩
theorem PB.m {p:SQ} {d:DQ} (hp:PB p) (gd:GD d):bnd 153 148 (p.fx - d.x)∧bnd 153 148 (p.fy - d.y):=
 ⟨hp.fx.sub (wI gd.x) (by omega) (by omega),hp.fy.sub (wI gd.y) (by omega) (by omega)⟩
theorem PB.mm {p:SQ} {d:DQ} (hp:PB p) (gd:GD d):bnd 603 592 ((p.fx - d.x)*(p.fx - d.x)+(p.fy - d.y)*(p.fy - d.y)):=
 qtP (hp.m gd).1 (hp.m gd).2 (hp.m gd).1 (hp.m gd).2
theorem PB.aa {p:SQ} (hp:PB p):bnd 87 80 (p.ax*p.ax+p.ay*p.ay):=qtP hp.ax hp.ay hp.ax hp.ay
theorem PB.ha {p:SQ} (hp:PB p):bnd 401 393 (p.h*(p.ax*p.ax+p.ay*p.ay)):=hp.h.mul hp.aa
theorem PB.x {p:SQ} {d:DQ} (hp:PB p) (gd:GD d):bnd 997 985 ((p.fx - d.x)*(p.fx - d.x)+(p.fy - d.y)*(p.fy - d.y)+p.h*(p.ax*p.ax+p.ay*p.ay)):=
 (hp.mm gd).add hp.ha (by omega) (by omega)
theorem PB.ma {p:SQ} {d:DQ} (hp:PB p) (gd:GD d):bnd 345 336 ((p.fx - d.x)*p.ax+(p.fy - d.y)*p.ay):=
 qtP (hp.m gd).1 (hp.m gd).2 hp.ax hp.ay
theorem PB.kA {p:SQ} {d:DQ} (hp:PB p) (gd:GD d):bnd 1008 995 (kA d p):=(hp.x gd).sub (q3k gd.s) (by omega) (by omega)
theorem PB.kB {p:SQ} {d:DQ} (hp:PB p) (gd:GD d):bnd 346 337 (kB d p):=qdk.mul (hp.ma gd)
structure PG (p:SQ):Prop where
 pb:PB p
 nn:0≤p.h
 root:∀ d,GD d→RootOk (kA d p) (kB d p) p.h
theorem qCD {a b:DQ} (ga:GD a) (gb:GD b) (neg:Bool) (hf:qaG b.x b.y a.x a.y≠0) (hn:0≤(yQ a b neg).h):PG (yQ a b neg):=
 ⟨qjG ga gb neg hf,hn,fun _ gd=>qzq ga gb gd neg hf (((qjG ga gb neg hf).kA gd).ok (by omega) (by omega)) (((qjG ga gb neg hf).kB gd).ok (by omega) (by omega)) ((qjG ga gb neg hf).h.ok (by omega) (by omega))⟩
theorem qEn {a:DQ} (ga:GD a):PG ⟨a.x,a.y,0,0,0⟩:=by
 refine ⟨⟨(wI ga.x).mono (by omega) (by omega),(wI ga.y).mono (by omega) (by omega),q6Y.mono (by omega) (by omega),q6Y.mono (by omega) (by omega),q6Y.mono (by omega) (by omega)⟩,Rat.le_refl,fun d gd=>?_⟩
 have e1:Go.Eng.kA d ⟨a.x,a.y,0,0,0⟩=qaG a.x a.y d.x d.y - d.s:=by unfold Go.Eng.kA qaG;grind
 have e2:Go.Eng.kB d ⟨a.x,a.y,0,0,0⟩=0:=by unfold Go.Eng.kB;grind
 rw [e1,e2]
 have f1:bnd 98 90 (qaG a.x a.y d.x d.y - d.s):=(qdj (wI ga.x) (wI ga.y) (wI gd.x) (wI gd.y)).sub (q3k gd.s) (by omega) (by omega)
 exact RootOk.of f1 q6Y q6Y (by omega) (by omega)
theorem qA5 {d:DQ} {p:SQ} (gd:GD d) (hp:PG p) :
  (vo [.s (tQ d.x),.s (tQ d.y),.s (tQ d.s),.s (tQ p.fx),.s (tQ p.fy),.s (tQ p.ax),.s (tQ p.ay),.s (tQ p.h),.i 0]).run=some (0,[.b (decide (q5q d p)),.i 0]):=by
 rw [qjc]
 have hr:=qBi (hp.root d gd) hp.nn
 obtain ⟨hp,-,-⟩:=hp
 obtain ⟨m1,m2⟩:=hp.m gd
 have h0:=qBJ hp.fx hp.fy (wI gd.x) (wI gd.y) (by omega) (by omega) (by omega)
 have h1:=qBH m1 m2 m1 m2 (by omega) (by omega)
 have h2:=qBH hp.ax hp.ay hp.ax hp.ay (by omega) (by omega)
 have h3:=qtU hp.h hp.aa (by omega) (by omega)
 have h4:=qzH (hp.mm gd) hp.ha (by omega) (by omega) (by omega)
 have h5:=qt0 (hp.x gd) (q3k gd.s) (by omega) (by omega) (by omega)
 have h6:=qBH m1 m2 hp.ax hp.ay (by omega) (by omega)
 have h7:=qtU qdk (hp.ma gd) (by omega) (by omega)
 rw [qsD] at h7
 have e:q5q d p=(qf4 (Go.Eng.kA d p) (Go.Eng.kB d p) p.h≤0):=rfl
 unfold Go.Eng.kA Go.Eng.kB at hr e
 simp only [STD,h0,h1,h2,h3,h4,h5,h6,h7,hr,e]
 rfl
theorem qBN {d:DQ} {p:SQ} (gd:GD d) (hp:PB p) :
  (q1H [.s (tQ d.x),.s (tQ d.y),.s (tQ d.s),.s (tQ p.fx),.s (tQ p.fy),.s (tQ p.ax),.s (tQ p.ay),.s (tQ p.h)]).run=some (0,[.b (decide (q5q d p))]):=by
 rw [qsd]
 obtain ⟨m1,m2⟩:=hp.m gd
 have s1:=m1.sm (K:=200) (by omega) (by omega)
 have s2:=m2.sm (K:=200) (by omega) (by omega)
 have s3:=hp.ax.sm (K:=200) (by omega) (by omega)
 have s4:=hp.ay.sm (K:=200) (by omega) (by omega)
 have h0:=qxn (hp.fx.sm (by omega) (by omega)) (hp.fy.sm (by omega) (by omega)) ((wI gd.x).sm (by omega) (by omega)) ((wI gd.y).sm (by omega) (by omega))
 have h1:=qAF (by omega) s1 s2 s1 s2
 have h2:=qAF (by omega) s3 s4 s3 s4
 have h3:=jb (hp.h.sm (by omega) (by omega)) (hp.aa.sm (by omega) (by omega))
 have h4:=q4Z ((hp.mm gd).sm (by omega) (by omega)) (hp.ha.sm (by omega) (by omega))
 have h5:=q1X ((hp.x gd).sm (by omega) (by omega)) ((q3k gd.s).sm (by omega) (by omega))
 have h6:=qAF (by omega) s1 s2 s3 s4
 have h7:=jb (qdk.sm (by omega) (by omega)) ((hp.ma gd).sm (by omega) (by omega))
 have h8:=qge ((hp.kA gd).sm (by omega) (by omega)) ((hp.kB gd).sm (by omega) (by omega)) (hp.h.sm (by omega) (by omega))
 rw [qsD] at h7
 have e:q5q d p=(qf4 (Go.Eng.kA d p) (Go.Eng.kB d p) p.h≤0):=rfl
 unfold Go.Eng.kA Go.Eng.kB at h8 e
 simp only [STD,h0,h1,h2,h3,h4,h5,h6,h7,h8,e]
 rfl
def qf3 (d:DQ):List U:=[.s (tQ d.x),.s (tQ d.y),.s (tQ d.s)]
def rD (l:List DQ):R:=l.map qf3
def ix (l:List DQ) (i:Nat):DQ:=l.getD i ⟨0,0,0⟩
theorem qQ (l:List DQ):qH (rD l)=(l.length:Int):=by simp [qH,rD]
theorem qaQ {l:List DQ} {i:Nat} (h:i<l.length):cS (rD l) (i:Int) 0=tQ (ix l i).x∧cS (rD l) (i:Int) 1=tQ (ix l i).y∧cS (rD l) (i:Int) 2=tQ (ix l i).s:=by
 unfold cS jA rD ix
 simp [List.getD_eq_getElem?_getD,h,qf3,U.toS]
theorem qDb {l:List DQ} {i:Nat} (h:i<l.length):ix l i ∈ l:=by
 unfold ix
 simp [List.getD_eq_getElem?_getD,h]
def qkN (a b:DQ) (same:Bool) (side:Int):Option SQ:=
 if same then (if side=0 then some ⟨a.x,a.y,0,0,0⟩ else none)
 else if qaG b.x b.y a.x a.y=0 then none
 else if 0≤(yQ a b (decide (side<0))).h∧((yQ a b (decide (side<0))).h=0↔side=0) then some (yQ a b (decide (side<0))) else none
theorem qyl {a b:DQ} (ga:GD a) (gb:GD b) {same:Bool} {side:Int} {p:SQ} (h:qkN a b same side=some p):PG p:=by
 unfold qkN at h
 split at h
 ·split at h
  ·cases h;exact qEn ga
  ·cases h
 ·split at h
  ·cases h
  ·rename_i hf
   split at h
   ·rename_i hc
    cases h;exact qCD ga gb _ hf hc.1
   ·cases h
def qbS (l:List DQ) (i j:Nat) (side:Int):Bool:=
 match qkN (ix l i) (ix l j) (decide (i=j)) side with
 | none=>false
 | some p=>l.all fun d=>decide (q5q d p)
def quN (l:List DQ) (i j:Nat) (side:Int):Option (Nat × Nat × Int):=if qbS l i j side then some (i,j,side) else none
def qcE (l:List DQ) (i j:Nat):Option (Nat × Nat × Int):=
 match quN l i j 0 with
 | some w=>some w
 | none=>match quN l i j 1 with
  | some w=>some w
  | none=>quN l i j (-1)
def q1F (l:List DQ):Option (Nat × Nat × Int):=
 match uW (fun i=>quN l i i 0) 0 l.length with
 | some w=>some w
 | none=>uW (fun i=>uW (fun k=>qcE l i (i+1+k)) 0 (l.length - (i+1))) 0 l.length
end Go.Eng

namespace Go.Eng
theorem qAN {l:List DQ} {d:DQ} (h:d ∈ l):∃ i,i<l.length∧ix l i=d:=by
 obtain ⟨i,hi,e⟩:=List.getElem_of_mem h
 exact ⟨i,hi,by unfold ix;simp [List.getD_eq_getElem?_getD,hi,e]⟩
theorem q9k {α:Type} {f:Nat→Option α} {a:α}:∀ {k i:Nat},uW f i k=some a→∃ j,i≤j∧j<i+k∧f j=some a∧∀ m,i≤m→m<j→f m=none
 | 0,i,h=>by cases h
 | k+1,i,h=>by
  simp only [uW] at h
  cases hf:f i with
  | some b=>rw [hf] at h;exact ⟨i,Nat.le_refl _,by omega,by rw [hf];exact h,fun m h1 h2=>by omega⟩
  | none=>
   rw [hf] at h
   obtain ⟨j,h1,h2,h3,h4⟩:=q9k h
   refine ⟨j,by omega,by omega,h3,fun m m1 m2=>?_⟩
   rcases Nat.eq_or_lt_of_le m1 with rfl | m1
   ·exact hf
   ·exact h4 m m1 m2
end Go.Eng

namespace Go.Eng
def GDs (l:List DQ):Prop:=∀ d ∈ l,GD d
theorem GDs.ix {l:List DQ} (h:GDs l) {i:Nat} (hi:i<l.length):GD (ix l i):=h _ (qDb hi)
theorem qAo (q:Rat):(seq (tQ q) [48]=true)=(q=0):=by rw [wc,qpP]
theorem qmH (q:Rat):(0:Int)<qF (tQ q):=by
 have h1:=qg1 q
 have h2:=ql9 q
 unfold qF;omega
theorem qE7 (i:Nat):((i:Int)=(i:Int))=True:=by simp
def plc (p:SQ):List PV:=[.s (tQ p.fx),.s (tQ p.fy),.s (tQ p.ax),.s (tQ p.ay),.s (tQ p.h)]
theorem qmv (q:Rat):(¬ (tQ q).getD 0 0=45)=(0≤q):=by
 by_cases h:0≤q
 ·exact propext ⟨fun _=>h,fun _=>qBS h⟩
 ·have:=qB0 (c:=q) (by grind)
  exact propext ⟨fun h'=>absurd this h',fun h'=>absurd h' h⟩
theorem qA9 (b:Bool) (p q:Prop) [Decidable p] [Decidable q] (hb:(b=true)=p):(Go.Eng.beq b (decide q))=decide (p↔q):=by
 subst hb
 by_cases hq:q <;> cases b <;> simp [Go.Eng.beq,hq] <;> rfl
set_option maxHeartbeats 2000000 in
theorem qDr {l:List DQ} (hl:GDs l) {i j:Nat} (hi:i<l.length) (hj:j<l.length) (side:Int) :
  (qkN (ix l i) (ix l j) (decide (i=j)) side=none∧∃ a b c d e,(jF [.r (rD l),.i (i:Int),.i (j:Int),.i side,.i 0]).run=some (0,[.s a,.s b,.s c,.s d,.s e,.b false,.i 0])) ∨
  ∃ p,qkN (ix l i) (ix l j) (decide (i=j)) side=some p∧(jF [.r (rD l),.i (i:Int),.i (j:Int),.i side,.i 0]).run=some (0,plc p++[.b true,.i 0]):=by
 rw [qiG]
 obtain ⟨x1,x2,x3⟩:=qaQ hi
 obtain ⟨y1,y2,y3⟩:=qaQ hj
 have ga:=hl.ix hi
 have gb:=hl.ix hj
 have bi:0≤(i:Int)∧(i:Int)<qH (rD l):=by rw [qQ];omega
 have bj:0≤(j:Int)∧(j:Int)<qH (rD l):=by rw [qQ];omega
 obtain ⟨a,ha⟩:∃ a,a=ix l i:=⟨_,rfl⟩
 obtain ⟨b,hb⟩:∃ b,b=ix l j:=⟨_,rfl⟩
 rw [← ha] at x1 x2 x3 ga ⊢
 rw [← hb] at y1 y2 y3 gb ⊢
 simp only [x1,x2,x3,y1,y2,y3]
 clear x1 x2 x3 y1 y2 y3 hb
 unfold qkN plc
 by_cases hij:i=j
 ·subst hij
  have z:tQ 0=[48]:=rfl
  by_cases hs:side=0
  ·subst hs
   right
   refine ⟨⟨a.x,a.y,0,0,0⟩,by simp,?_⟩
   have e:ieq 0 0=true:=rfl
   simp only [STD,bi,and_self,z,e]
   rfl
  ·left
   refine ⟨by simp [hs],tQ a.x,tQ a.y,[48],[48],[48],?_⟩
   have e:ieq side 0=false:=by simp [ieq,hs]
   simp only [STD,bi,and_self,e]
 ·have hij':¬ (i:Int)=(j:Int):=by omega
  obtain ⟨a1,a2,a3⟩:=ga.sh
  obtain ⟨b1,b2,b3⟩:=gb.sh
  have dx:=q0O b1 a1
  have dy:=q0O b2 a2
  have far:=qdj b1 b2 a1 a2
  have h0:=qBJ b1 b2 a1 a2 (by omega) (by omega) (by omega)
  have h1:=qBH dx dy dx dy (by omega) (by omega)
  have hfd:(b.x - a.x)*(b.x - a.x)+(b.y - a.y)*(b.y - a.y)=qaG b.x b.y a.x a.y:=rfl
  rw [hfd] at h1
  by_cases hf:qaG b.x b.y a.x a.y=0
  ·left
   refine ⟨by simp [hij,hf],[],[],[],[],[],?_⟩
   simp only [STD,bi,bj,and_self,hij',h0,h1,qAo,hf]
  ·have hpb:=fun neg=>qjG ga gb neg hf
   have ht:=qwl ga gb hf
   have n1:bnd 98 90 (qaG b.x b.y a.x a.y+a.s):=far.add a3 (by omega) (by omega)
   have h2:=qzH far a3 (by omega) (by omega) (by omega)
   have n2:bnd 112 100 (qaG b.x b.y a.x a.y+a.s - b.s):=n1.sub b3 (by omega) (by omega)
   have h3:=qt0 n1 b3 (by omega) (by omega) (by omega)
   have h4:=qtU qdk far (by omega) (by omega)
   rw [qsD] at h4
   have n4:=qdk.mul far
   have hf2:2*qaG b.x b.y a.x a.y≠0:=by grind
   have h5:=qEf hf2 n2 n4 (by omega) (by omega)
   have h6:=qtU ht dx (by omega) (by omega)
   have h7:=qzH a1 (ht.mul dx) (by omega) (by omega) (by omega)
   have h8:=qtU ht dy (by omega) (by omega)
   have h9:=qzH a2 (ht.mul dy) (by omega) (by omega) (by omega)
   have h10:=qt0 q6Y dy (by omega) (by omega) (by omega)
   have h14:=qt0 q6Y dx (by omega) (by omega) (by omega)
   rw [show tQ 0=[48] from rfl] at h10 h14
   have h11:=qEf hf a3 far (by omega) (by omega)
   have h12:=qtU ht ht (by omega) (by omega)
   have h13:=qt0 (a3.div hf far) (ht.mul ht) (by omega) (by omega) (by omega)
   have hbd:=fun (q:Rat)=>qA9 (seq (tQ q) [48]) (q=0) (side=0) (qAo q)
   have hie:ieq side 0=decide (side=0):=rfl
   rw [if_neg (by simp [hij]),if_neg hf]
   obtain ⟨p,hcr'⟩:∃ p,p=yQ a b (decide (side<0)):=⟨_,rfl⟩
   rw [← hcr']
   have hcr:=hcr'.symm
   clear hcr'
   rw [qqg] at hcr
   obtain ⟨t,htt⟩:∃ t,t=(qaG b.x b.y a.x a.y+a.s - b.s) / (2*qaG b.x b.y a.x a.y):=⟨_,rfl⟩
   rw [← htt] at hcr h5 h6 h7 h8 h9 h12 h13
   obtain ⟨h,hh⟩:∃ h,h=a.s / qaG b.x b.y a.x a.y - t*t:=⟨_,rfl⟩
   rw [← hh] at hcr h13
   have hp5:p.h=h:=by rw [← hcr]
   by_cases hs:side<0
   ·simp only [hs,decide_true,if_true] at hcr
    by_cases hn:0≤h
    ·by_cases hz:(h=0↔side=0)
     ·right
      refine ⟨p,by rw [if_pos ⟨by rw [hp5];exact hn,by rw [hp5];exact hz⟩],?_⟩
      rw [← hcr]
      simp only [STD,bi,bj,and_self,hij',h0,h1,h2,h3,h4,h5,h6,h7,h8,h9,h10,h11,h12,h13,h14,qAo,hf,hs,Int.le_refl,qmH,ql1,qmv,hn,hie,hbd,hz,decide_true]
      rfl
     ·left
      refine ⟨by rw [if_neg (by rw [hp5];exact fun c=>hz c.2)],tQ p.fx,tQ p.fy,tQ p.ax,tQ p.ay,tQ p.h,?_⟩
      rw [← hcr]
      simp only [STD,bi,bj,and_self,hij',h0,h1,h2,h3,h4,h5,h6,h7,h8,h9,h10,h11,h12,h13,h14,qAo,hf,hs,Int.le_refl,qmH,ql1,qmv,hn,hie,hbd,hz,decide_false]
    ·left
     refine ⟨by rw [if_neg (by rw [hp5];exact fun c=>hn c.1)],tQ p.fx,tQ p.fy,tQ p.ax,tQ p.ay,tQ p.h,?_⟩
     rw [← hcr]
     simp only [STD,bi,bj,and_self,hij',h0,h1,h2,h3,h4,h5,h6,h7,h8,h9,h10,h11,h12,h13,h14,qAo,hf,hs,Int.le_refl,qmH,ql1,qmv,hn]
   ·simp only [hs,decide_false,Bool.false_eq_true,if_false] at hcr
    by_cases hn:0≤h
    ·by_cases hz:(h=0↔side=0)
     ·right
      refine ⟨p,by rw [if_pos ⟨by rw [hp5];exact hn,by rw [hp5];exact hz⟩],?_⟩
      rw [← hcr]
      simp only [STD,bi,bj,and_self,hij',h0,h1,h2,h3,h4,h5,h6,h7,h8,h9,h10,h11,h12,h13,h14,qAo,hf,hs,Int.le_refl,qmH,ql1,qmv,hn,hie,hbd,hz,decide_true]
      rfl
     ·left
      refine ⟨by rw [if_neg (by rw [hp5];exact fun c=>hz c.2)],tQ p.fx,tQ p.fy,tQ p.ax,tQ p.ay,tQ p.h,?_⟩
      rw [← hcr]
      simp only [STD,bi,bj,and_self,hij',h0,h1,h2,h3,h4,h5,h6,h7,h8,h9,h10,h11,h12,h13,h14,qAo,hf,hs,Int.le_refl,qmH,ql1,qmv,hn,hie,hbd,hz,decide_false]
    ·left
     refine ⟨by rw [if_neg (by rw [hp5];exact fun c=>hn c.1)],tQ p.fx,tQ p.fy,tQ p.ax,tQ p.ay,tQ p.h,?_⟩
     rw [← hcr]
     simp only [STD,bi,bj,and_self,hij',h0,h1,h2,h3,h4,h5,h6,h7,h8,h9,h10,h11,h12,h13,h14,qAo,hf,hs,Int.le_refl,qmH,ql1,qmv,hn]
end Go.Eng

namespace Go.Eng
theorem qzm {a b:DQ} (ga:GD a) (gb:GD b) :
  (zr [.s (tQ a.x),.s (tQ a.y),.s (tQ a.s),.s (tQ b.x),.s (tQ b.y),.s (tQ b.s)]).run=some (0,if qaG b.x b.y a.x a.y=0 then [.s [],.s [],.s [],.s [],.s [],.b false] else plc (yQ a b false)++[.b (decide (0≤(yQ a b false).h))]):=by
 rw [qmE]
 obtain ⟨a1,a2,a3⟩:=ga.sh
 obtain ⟨b1,b2,b3⟩:=gb.sh
 have dx:=q0O b1 a1
 have dy:=q0O b2 a2
 have far:=qdj b1 b2 a1 a2
 have h0:=qxn (b1.sm (by omega) (by omega)) (b2.sm (by omega) (by omega)) (a1.sm (by omega) (by omega)) (a2.sm (by omega) (by omega))
 have s1:=dx.sm (K:=100) (by omega) (by omega)
 have s2:=dy.sm (K:=100) (by omega) (by omega)
 have h1:=qAF (K:=100) (by omega) s1 s2 s1 s2
 have hfd:(b.x - a.x)*(b.x - a.x)+(b.y - a.y)*(b.y - a.y)=qaG b.x b.y a.x a.y:=rfl
 rw [hfd] at h1
 by_cases hf:qaG b.x b.y a.x a.y=0
 ·rw [if_pos hf]
  simp only [STD,h0,h1,qAo,hf]
 ·rw [if_neg hf]
  have ht:=qwl ga gb hf
  have n1:bnd 98 90 (qaG b.x b.y a.x a.y+a.s):=far.add a3 (by omega) (by omega)
  have h2:=q4Z (far.sm (by omega) (by omega)) (a3.sm (by omega) (by omega))
  have n2:bnd 112 100 (qaG b.x b.y a.x a.y+a.s - b.s):=n1.sub b3 (by omega) (by omega)
  have h3:=q1X (n1.sm (by omega) (by omega)) (b3.sm (by omega) (by omega))
  have h4:=jb (qdk.sm (by omega) (by omega)) (far.sm (by omega) (by omega))
  rw [qsD] at h4
  have n4:=qdk.mul far
  have hf2:2*qaG b.x b.y a.x a.y≠0:=by grind
  have h5:=qsQ hf2 (n2.sm (by omega) (by omega)) (n4.sm (by omega) (by omega))
  have h6:=qsQ hf (a3.sm (by omega) (by omega)) (far.sm (by omega) (by omega))
  have h7:=jb (ht.sm (by omega) (by omega)) (ht.sm (by omega) (by omega))
  have h8:=q1X ((a3.div hf far).sm (by omega) (by omega)) ((ht.mul ht).sm (by omega) (by omega))
  have n8:=(a3.div hf far).sub (ht.mul ht) (K:=314) (by omega) (by omega)
  have h9:=jb (ht.sm (by omega) (by omega)) (dx.sm (by omega) (by omega))
  have h10:=q4Z (a1.sm (by omega) (by omega)) ((ht.mul dx).sm (by omega) (by omega))
  have h11:=jb (ht.sm (by omega) (by omega)) (dy.sm (by omega) (by omega))
  have h12:=q4Z (a2.sm (by omega) (by omega)) ((ht.mul dy).sm (by omega) (by omega))
  have h13:=qbX (dy.sm (by omega) (by omega))
  have h14:=q4c (n8.sm (by omega) (by omega))
  have hle:∀ q:Rat,ile 0 (sgq q)=decide (0≤q):=fun q=>by
   unfold ile
   rcases qcZ q with ⟨h,e⟩ | ⟨h,e⟩ | ⟨h,e⟩ <;> rw [e]
   ·simp;grind
   ·simp [h]
   ·simp;grind
  rw [qqg]
  unfold plc
  simp only [STD,h0,h1,h2,h3,h4,h5,h6,h7,h8,h9,h10,h11,h12,h13,h14,qAo,hf,hle,qFb]
  rfl
theorem qt4 (a b:DQ) (neg:Bool):(yQ a b neg).h=(yQ a b false).h:=rfl
theorem qzY {l : List DQ} (hl : GDs l) {i j : Nat} (hi : i < l.length) (hj : j < l.length) (side : Int) :
    (qkN (ix l i) (ix l j) (decide (i = j)) side = none ∧ ∃ a b c d e, (ze [.r (rD l), .i (i : Int), .i (j : Int), .i side]).run = some (0, [.s a, .s b, .s c, .s d, .s e, .b false])) ∨
    ∃ p, qkN (ix l i) (ix l j) (decide (i = j)) side = some p ∧ (ze [.r (rD l), .i (i : Int), .i (j : Int), .i side]).run = some (0, plc p ++ [.b true]) := by
  rw [qnG]
  obtain ⟨x1, x2, x3⟩ := qaQ hi
  obtain ⟨y1, y2, y3⟩ := qaQ hj
  have ga := hl.ix hi
  have gb := hl.ix hj
  have bi : 0 ≤ (i : Int) ∧ (i : Int) < qH (rD l) := by rw [qQ]; omega
  have bj : 0 ≤ (j : Int) ∧ (j : Int) < qH (rD l) := by rw [qQ]; omega
  obtain ⟨a, ha⟩ : ∃ a, a = ix l i := ⟨_, rfl⟩
  obtain ⟨b, hb⟩ : ∃ b, b = ix l j := ⟨_, rfl⟩
  rw [← ha] at x1 x2 x3 ga ⊢
  rw [← hb] at y1 y2 y3 gb ⊢
  have hc := qzm ga gb
  simp only [x1, x2, x3, y1, y2, y3]
  clear x1 x2 x3 y1 y2 y3 hb
  unfold qkN plc
  by_cases hij : i = j
  · subst hij
    have z : tQ 0 = [48] := rfl
    by_cases hs : side = 0
    · subst hs
      right
      refine ⟨⟨a.x, a.y, 0, 0, 0⟩, by simp, ?_⟩
      have e : ieq 0 0 = true := rfl
      simp only [STD, bi, and_self, z, e]
      rfl
    · left
      refine ⟨by simp [hs], tQ a.x, tQ a.y, [48], [48], [48], ?_⟩
      have e : ieq side 0 = false := by simp [ieq, hs]
      simp only [STD, bi, and_self, e]
  · have hij' : ¬ (i : Int) = (j : Int) := by omega
    by_cases hf : qaG b.x b.y a.x a.y = 0
    · left
      rw [if_pos hf] at hc
      refine ⟨by simp [hij, hf], [], [], [], [], [], ?_⟩
      simp only [STD, bi, bj, and_self, hij', hc]
    · rw [if_neg hf] at hc
      have hpl : ∀ (p : SQ) (x : PV), plc p ++ [x] = [.s (tQ p.fx), .s (tQ p.fy), .s (tQ p.ax), .s (tQ p.ay), .s (tQ p.h), x] := fun _ _ => rfl
      rw [hpl] at hc
      have hbd := fun (q : Rat) => qA9 (seq (tQ q) [48]) (q = 0) (side = 0) (qAo q)
      have hie : ieq side 0 = decide (side = 0) := rfl
      rw [if_neg (by simp [hij]), if_neg hf, qt4]
      by_cases hn : 0 ≤ (yQ a b false).h
      · by_cases hz : ((yQ a b false).h = 0 ↔ side = 0)
        · right
          refine ⟨yQ a b (decide (side < 0)), by rw [if_pos ⟨hn, hz⟩], ?_⟩
          by_cases hs : side < 0
          · have dx := q0O (wI gb.x) (wI ga.x)
            have dy := q0O (wI gb.y) (wI ga.y)
            have t1 := qbX (a := (yQ a b false).ax) (by show sm _ (0 - (b.y - a.y)); rw [qFb]; exact dy.neg.sm (by omega) (by omega))
            have t2 := qbX (a := (yQ a b false).ay) (by show sm _ (b.x - a.x); exact dx.sm (by omega) (by omega))
            obtain ⟨f1, f2⟩ := qyK a b
            simp only [STD, bi, bj, and_self, hij', hc, hn, hie, hbd, hz, hs, decide_true, t1, t2, f1, f2]
            rfl
          · simp only [STD, bi, bj, and_self, hij', hc, hn, hie, hbd, hz, hs, decide_true, decide_false]
            rfl
        · left
          refine ⟨by rw [if_neg (fun c => hz c.2)], [], [], [], [], [], ?_⟩
          simp only [STD, bi, bj, and_self, hij', hc, hn, hie, hbd, hz, decide_true, decide_false]
      · left
        refine ⟨by rw [if_neg (fun c => hn c.1)], [], [], [], [], [], ?_⟩
        simp only [STD, bi, bj, and_self, hij', hc, hn, decide_false]
theorem qtB {α:Type} (p:Nat→Bool) (g:Nat→α) (n:Nat):(uW (fun i=>if p i=true then none else some (g i)) 0 n=none∧∀ i,i<n→p i=true)∨∃ i,i<n∧p i=false∧uW (fun i=>if p i=true then none else some (g i)) 0 n=some (g i):=by
 cases h:uW (fun i=>if p i=true then none else some (g i)) 0 n with
 | none=>
  refine .inl ⟨rfl,fun i hi=>?_⟩
  have:=qqe h i (by omega) (by omega)
  cases hp:p i
  ·rw [hp] at this;simp at this
  ·rfl
 | some a=>
  obtain ⟨j,-,hj,hf,-⟩:=q9k h
  cases hp:p j
  ·rw [hp] at hf;simp at hf
   exact .inr ⟨j,by omega,hp,by rw [hf]⟩
  ·rw [hp] at hf;simp at hf
theorem qBu (l:List DQ) (p:DQ→Bool):l.all p=true↔∀ i,i<l.length→p (ix l i)=true:=by
 rw [List.all_eq_true]
 constructor
 ·intro h i hi;exact h _ (qDb hi)
 ·intro h d hd
  obtain ⟨i,hi,rfl⟩:=qAN hd
  exact h i hi
theorem qAy {l:List DQ} {p:DQ→Bool} {i:Nat} (hi:i<l.length) (h:p (ix l i)=false):l.all p=false:=by
 cases ha:l.all p
 ·rfl
 ·have:=(qBu l p).1 ha i hi;simp_all
theorem qtp {l : List DQ} (hl : GDs l) (hn : l.length < 1000000) {i j : Nat} (hi : i < l.length) (hj : j < l.length) (side : Int) :
    (qU [.r (rD l), .i (i : Int), .i (j : Int), .i side, .i 0]).run = some (0, [.b (qbS l i j side), .i 0]) := by
  rw [qhn]
  unfold qbS
  rcases qDr hl hi hj side with ⟨h1, a, b, c, d, e, h2⟩ | ⟨p, h1, h2⟩
  · rw [h1]
    simp only [STD, h2]
  · rw [h1]
    have hp := qyl (hl.ix hi) (hl.ix hj) h1
    unfold plc at h2
    simp only [List.cons_append, List.nil_append] at h2
    have key := qcv (S := j6)
      (fun k => [.r (rD l), .i (qH (rD l)), .i (k : Int), .r (rD l), .r (rD l), .r (rD l), .i (i : Int), .i (j : Int), .i side, .b true, .s (tQ p.fx), .s (tQ p.fy), .s (tQ p.ax), .s (tQ p.ay), .s (tQ p.h), .b true, .r (rD l), .i (i : Int), .i (j : Int), .i side, .s (tQ p.fx), .s (tQ p.fy), .s (tQ p.ax), .s (tQ p.ay), .s (tQ p.h), .b true, .s (tQ p.fx), .s (tQ p.fy), .s (tQ p.ax), .s (tQ p.ay), .s (tQ p.h), .b true, .b true, .r (rD l), .i 0, .i (i : Int), .i (j : Int), .i side, .s (tQ p.fx), .s (tQ p.fy), .s (tQ p.ax), .s (tQ p.ay), .s (tQ p.h)])
      (fun k => if decide (q5q (ix l k) p) = true then none else some (1, [.i (k : Int), .r (rD l), .r (rD l), .r (rD l), .i (i : Int), .i (j : Int), .i side, .b true, .s (tQ p.fx), .s (tQ p.fy), .s (tQ p.ax), .s (tQ p.ay), .s (tQ p.h), .b true, .r (rD l), .i (i : Int), .i (j : Int), .i side, .s (tQ p.fx), .s (tQ p.fy), .s (tQ p.ax), .s (tQ p.ay), .s (tQ p.h), .b true, .s (tQ p.fx), .s (tQ p.fy), .s (tQ p.ax), .s (tQ p.ay), .s (tQ p.h), .b true, .b true, .r (rD l), .i 0, .i (i : Int), .i (j : Int), .i side, .s (tQ p.fx), .s (tQ p.fy), .s (tQ p.ax), .s (tQ p.ay), .s (tQ p.h)]))
      (0, [.r (rD l), .r (rD l), .r (rD l), .i (i : Int), .i (j : Int), .i side, .b true, .s (tQ p.fx), .s (tQ p.fy), .s (tQ p.ax), .s (tQ p.ay), .s (tQ p.h), .b true, .r (rD l), .i (i : Int), .i (j : Int), .i side, .s (tQ p.fx), .s (tQ p.fy), .s (tQ p.ax), .s (tQ p.ay), .s (tQ p.h), .b true, .s (tQ p.fx), .s (tQ p.fy), .s (tQ p.ax), .s (tQ p.ay), .s (tQ p.h), .b true, .b true, .r (rD l), .i 0, .i (i : Int), .i (j : Int), .i side, .s (tQ p.fx), .s (tQ p.fy), .s (tQ p.ax), .s (tQ p.ay), .s (tQ p.h)])
      l.length (by omega)
      (fun k hk hf => by
        rw [kz]
        obtain ⟨x1, x2, x3⟩ := qaQ hk
        have hK := qA5 (hl.ix hk) hp
        by_cases hd : q5q (ix l k) p
        · simp only [x1, x2, x3, STD, hK, hd, qQ, q0e hk (show l.length < 9223372036854775808 by omega), show (k : Int) < (l.length : Int) by omega, show (0 : Int) ≤ (k : Int) by omega, and_self, decide_true]
        · simp [hd] at hf)
      (fun k r hk hf => by
        rw [kz]
        obtain ⟨x1, x2, x3⟩ := qaQ hk
        have hK := qA5 (hl.ix hk) hp
        by_cases hd : q5q (ix l k) p
        · simp [hd] at hf
        · simp only [hd, decide_false, Bool.false_eq_true, if_false, Option.some.injEq] at hf
          subst hf
          simp only [x1, x2, x3, STD, hK, hd, qQ, show (k : Int) < (l.length : Int) by omega, show (0 : Int) ≤ (k : Int) by omega, and_self, decide_false])
      (by rw [kz]; simp only [STD, qQ, show ¬ (l.length : Int) < (l.length : Int) by omega])
    rcases qtB (fun k => decide (q5q (ix l k) p)) (fun k => ((1, [.i (k : Int), .r (rD l), .r (rD l), .r (rD l), .i (i : Int), .i (j : Int), .i side, .b true, .s (tQ p.fx), .s (tQ p.fy), .s (tQ p.ax), .s (tQ p.ay), .s (tQ p.h), .b true, .r (rD l), .i (i : Int), .i (j : Int), .i side, .s (tQ p.fx), .s (tQ p.fy), .s (tQ p.ax), .s (tQ p.ay), .s (tQ p.h), .b true, .s (tQ p.fx), .s (tQ p.fy), .s (tQ p.ax), .s (tQ p.ay), .s (tQ p.h), .b true, .b true, .r (rD l), .i 0, .i (i : Int), .i (j : Int), .i side, .s (tQ p.fx), .s (tQ p.fy), .s (tQ p.ax), .s (tQ p.ay), .s (tQ p.h)]) : Nat × List PV)) l.length with ⟨s1, s2⟩ | ⟨k, hk, s2, s1⟩
    · rw [s1] at key
      have hall : (l.all fun d => decide (q5q d p)) = true := (qBu l _).2 s2
      simp only [Option.getD_none] at key
      simp only [STD, h2, hall]
      have key' := key
      simp only [show ((0 : Nat) : Int) = 0 from rfl] at key'
      simp only [STD, key', zb key', show ieq 0 0 = true from rfl]
    · rw [s1] at key
      have hall := qAy (p := fun d => decide (q5q d p)) hk s2
      simp only [Option.getD_some] at key
      simp only [STD, h2, hall]
      have key' := key
      simp only [show ((0 : Nat) : Int) = 0 from rfl] at key'
      simp only [STD, key', zb key', show ¬ (1 = 0) by omega, show (0 : Int) ≤ (k : Int) by omega]
theorem qu5 {l : List DQ} (hl : GDs l) (hn : l.length < 1000000) {i j : Nat} (hi : i < l.length) (hj : j < l.length) (side : Int) :
    (we [.r (rD l), .i (i : Int), .i (j : Int), .i side]).run = some (0, [.b (qbS l i j side)]) := by
  rw [qpG]
  unfold qbS
  rcases qzY hl hi hj side with ⟨h1, a, b, c, d, e, h2⟩ | ⟨p, h1, h2⟩
  · rw [h1]
    simp only [STD, h2]
  · rw [h1]
    have hp := qyl (hl.ix hi) (hl.ix hj) h1
    unfold plc at h2
    simp only [List.cons_append, List.nil_append] at h2
    have key := qcv (S := u5)
      (fun k => [.r (rD l), .i (k : Int), .s (tQ p.fx), .s (tQ p.fy), .s (tQ p.ax), .s (tQ p.ay), .s (tQ p.h)])
      (fun k => if decide (q5q (ix l k) p) = true then none else some (1, [.b false]))
      (0, []) l.length (by omega)
      (fun k hk hf => by
        rw [q6o]
        obtain ⟨x1, x2, x3⟩ := qaQ hk
        have hK := qBN (hl.ix hk) hp.pb
        by_cases hd : q5q (ix l k) p
        · simp only [x1, x2, x3, STD, hK, hd, qQ, q0e hk (show l.length < 9223372036854775808 by omega), show (k : Int) < (l.length : Int) by omega, show (0 : Int) ≤ (k : Int) by omega, and_self, decide_true]
        · simp [hd] at hf)
      (fun k r hk hf => by
        rw [q6o]
        obtain ⟨x1, x2, x3⟩ := qaQ hk
        have hK := qBN (hl.ix hk) hp.pb
        by_cases hd : q5q (ix l k) p
        · simp [hd] at hf
        · simp only [hd, decide_false, Bool.false_eq_true, if_false, Option.some.injEq] at hf
          subst hf
          simp only [x1, x2, x3, STD, hK, hd, qQ, show (k : Int) < (l.length : Int) by omega, show (0 : Int) ≤ (k : Int) by omega, and_self, decide_false])
      (by rw [q6o]; simp only [STD, qQ, show ¬ (l.length : Int) < (l.length : Int) by omega])
    rcases qtB (fun k => decide (q5q (ix l k) p)) (fun k => ((1, [.b false]) : Nat × List PV)) l.length with ⟨s1, s2⟩ | ⟨k, hk, s2, s1⟩
    · rw [s1] at key
      have hall : (l.all fun d => decide (q5q d p)) = true := (qBu l _).2 s2
      simp only [Option.getD_none, show ((0 : Nat) : Int) = 0 from rfl] at key
      simp only [STD, h2, hall, key, zb key]
    · rw [s1] at key
      have hall := qAy (p := fun d => decide (q5q d p)) hk s2
      simp only [Option.getD_some, show ((0 : Nat) : Int) = 0 from rfl] at key
      simp only [STD, h2, hall, key, zb key, show ¬ (1 = 0) by omega]
end Go.Eng

namespace Go.Eng
theorem j9 {S:List PV→TR} {α:Type} (st:Nat→List PV) (f:Nat→Option α) (g:α→List PV) (fin:List PV) (n:Nat) (hn:n<9223372036854775808)
  (h:∀ i,i<n→(S (st i)).run=(f i).elim (some (0,st (i+1))) (fun a=>some (2,g a))) (h3:(S (st n)).run=some (1,fin)) :
  (qg S (st 0)).run=some ((uW f 0 n).elim (0,fin) (fun a=>(1,g a))):=by
 have key:=qcv st (fun i=>(f i).map fun a=>(1,g a)) (0,fin) n hn (fun i hi hf=>by
  rw [h i hi]
  cases hfi:f i with
  | none=>rfl
  | some a=>rw [hfi] at hf;cases hf) (fun i r hi hf=>by
  rw [h i hi]
  cases hfi:f i with
  | none=>rw [hfi] at hf;cases hf
  | some a=>rw [hfi] at hf;simp at hf;rw [← hf];rfl) h3
 rw [key,qtO]
 cases uW f 0 n <;> rfl
def sd (s:Nat):Int:=cI [[.i 0],[.i 1],[.i (-1)]] (s:Int) 0
theorem qsG (l:List DQ) (i j:Nat):uW (fun s=>quN l i j (sd s)) 0 3=qcE l i j:=by
 have e0:sd 0=0:=rfl
 have e1:sd 1=1:=rfl
 have e2:sd 2=-1:=rfl
 simp only [uW,e0,e1,e2]
 unfold qcE
 cases quN l i j 0
 ·cases quN l i j 1
  ·cases quN l i j (-1) <;> rfl
  ·rfl
 ·rfl
def dex (l:List DQ) (w:Nat × Nat × Int):List PV:=[.i 0,.r (rD l),.i (w.1:Int),.i (w.2.1:Int),.i w.2.2,.b true,.i (l.length:Int)]
def rex (w:Nat × Nat × Int):List PV:=[.b true,.i (w.1:Int),.i (w.2.1:Int),.i w.2.2]
def fW (o:Option (Nat × Nat × Int)):List PV:=o.elim [.i 0,.i 0,.i 0,.b false] (fun w=>[.i (w.1:Int),.i (w.2.1:Int),.i w.2.2,.b true])
theorem n3:qH [[U.i 0],[U.i 1],[U.i (-1)]]=3:=rfl
set_option maxHeartbeats 600000 in
theorem qwO {l:List DQ} (hl:GDs l) (hn:l.length<1000000):(qV [.r (rD l),.i 0]).run=some (0,fW (q1F l)++[.i 0]):=by
 rw [qiS]
 have big:l.length<9223372036854775808:=by omega
 have A:=j9 (S:=ju) (fun k=>[.i (l.length:Int),.i (k:Int),.i 0,.r (rD l),.i 0,.i 0,.i 0,.b false,.i (l.length:Int)]) (fun k=>quN l k k 0) (dex l)
  [.i 0,.r (rD l),.i 0,.i 0,.i 0,.b false,.i (l.length:Int)] l.length big
  (fun k hk=>by
   rw [q4b]
   have hp:=qtp hl hn hk hk 0
   unfold quN
   by_cases c:qbS l k k 0=true
   ·rw [if_pos c]
    simp only [STD,hp,c,show (k:Int)<(l.length:Int) by omega,dex]
   ·rw [if_neg c]
    simp only [STD,hp,c,show (k:Int)<(l.length:Int) by omega,q0e hk big]
    rfl)
  (by rw [q4b];simp only [STD,show ¬ (l.length:Int)<(l.length:Int) by omega])
 have B:=fun i j (hi:i<l.length) (hj:j<l.length)=>j9 (S:=j5) (fun s=>[.i (i:Int),.i (j:Int),.i (l.length:Int),.i (i:Int),.i 3,.i (s:Int),.i 0,.r (rD l),.i 0,.i 0,.i 0,.b false,.i (l.length:Int),.r [[.i 0],[.i 1],[.i (-1)]]]) (fun s=>quN l i j (sd s)) (dex l)
  [.i (i:Int),.i (j:Int),.i (l.length:Int),.i (i:Int),.i 0,.r (rD l),.i 0,.i 0,.i 0,.b false,.i (l.length:Int)] 3 (by omega)
  (fun s hs=>by
   rw [q3D]
   have hp:=qtp hl hn hi hj (sd s)
   have esd:cI [[.i 0],[.i 1],[.i (-1)]] (s:Int) 0=sd s:=rfl
   unfold quN
   by_cases c:qbS l i j (sd s)=true
   ·rw [if_pos c]
    simp only [STD,hp,c,esd,n3,show (s:Int)<3 by omega,show (0:Int)≤(s:Int) by omega,and_self,dex]
   ·rw [if_neg c]
    simp only [STD,hp,c,esd,n3,show (s:Int)<3 by omega,show (0:Int)≤(s:Int) by omega,and_self,q0e hs (show 3<9223372036854775808 by omega)]
    rfl)
  (by rw [q3D];simp only [STD,show ((3:Nat):Int)=3 from rfl,show ¬ (3:Int)<3 by omega])
 have C:=fun i (hi:i<l.length)=>j9 (S:=j3) (fun k=>[.i (i:Int),.i ((i+1+k:Nat):Int),.i (l.length:Int),.i (i:Int),.i 0,.r (rD l),.i 0,.i 0,.i 0,.b false,.i (l.length:Int)]) (fun k=>qcE l i (i+1+k)) (dex l)
  [.i (l.length:Int),.i (i:Int),.i 0,.r (rD l),.i 0,.i 0,.i 0,.b false,.i (l.length:Int)] (l.length - (i+1)) (by omega)
  (fun k hk=>by
   rw [q3C]
   have hj:i+1+k<l.length:=by omega
   have b:=B i (i+1+k) hi hj
   rw [qsG] at b
   simp only [show ((0:Nat):Int)=0 from rfl] at b
   have w:=q0e hj big
   cases hs:qcE l i (i+1+k) with
   | none=>
    rw [hs] at b
    simp only [Option.elim] at b ⊢
    simp only [STD,b,zb b,n3,show ((i+1+k:Nat):Int)<(l.length:Int) by omega,w]
    rfl
   | some v=>
    rw [hs] at b
    simp only [Option.elim,dex] at b ⊢
    simp only [STD,b,zb b,n3,show ((i+1+k:Nat):Int)<(l.length:Int) by omega,show ¬ (1=0) by omega])
  (by rw [q3C];simp only [STD,show ¬ ((i+1+(l.length - (i+1)):Nat):Int)<(l.length:Int) by omega])
 have D:=j9 (S:=jw) (fun i=>[.i (l.length:Int),.i (i:Int),.i 0,.r (rD l),.i 0,.i 0,.i 0,.b false,.i (l.length:Int)]) (fun i=>uW (fun k=>qcE l i (i+1+k)) 0 (l.length - (i+1))) (dex l)
  [.i 0,.r (rD l),.i 0,.i 0,.i 0,.b false,.i (l.length:Int)] l.length big
  (fun i hi=>by
   rw [q48]
   have c:=C i hi
   simp only [Nat.add_zero] at c
   have w:=q0e hi big
   cases hs:uW (fun k=>qcE l i (i+1+k)) 0 (l.length - (i+1)) with
   | none=>
    rw [hs] at c
    simp only [Option.elim] at c ⊢
    simp only [STD,w,c,zb c,show (i:Int)<(l.length:Int) by omega]
   | some v=>
    rw [hs] at c
    simp only [Option.elim,dex] at c ⊢
    simp only [STD,w,c,zb c,show (i:Int)<(l.length:Int) by omega,show ¬ (1=0) by omega])
  (by rw [q48];simp only [STD,show ¬ (l.length:Int)<(l.length:Int) by omega])
 simp only [show ((0:Nat):Int)=0 from rfl] at A D
 unfold q1F
 cases hs:uW (fun i=>quN l i i 0) 0 l.length with
 | some v=>
  rw [hs] at A
  simp only [Option.elim,dex] at A
  simp only [STD,qQ,A,zb A,show ¬ (1=0) by omega,fW,Option.elim]
  rfl
 | none=>
  rw [hs] at A
  simp only [Option.elim] at A
  simp only []
  cases hs':uW (fun i=>uW (fun k=>qcE l i (i+1+k)) 0 (l.length - (i+1))) 0 l.length with
  | none=>
   rw [hs'] at D
   simp only [Option.elim] at D
   simp only [STD,qQ,A,zb A,D,zb D,fW,Option.elim]
   rfl
  | some v=>
   rw [hs'] at D
   simp only [Option.elim,dex] at D
   simp only [STD,qQ,A,zb A,D,zb D,fW,Option.elim,show ¬ (1=0) by omega]
   rfl
set_option maxHeartbeats 600000 in
theorem qxm {l:List DQ} (hl:GDs l) (hn:l.length<1000000):(zP [.r (rD l)]).run=some (0,fW (q1F l)):=by
 rw [qrf]
 have big:l.length<9223372036854775808:=by omega
 have A:=j9 (S:=qD) (fun k=>[.r (rD l),.i (k:Int),.i 0,.i 0,.i 0]) (fun k=>quN l k k 0) rex
  [.r (rD l),.i 0,.i 0,.i 0] l.length big
  (fun k hk=>by
   rw [qez]
   have hp:=qu5 hl hn hk hk 0
   unfold quN
   by_cases c:qbS l k k 0=true
   ·rw [if_pos c]
    simp only [STD,hp,c,qQ,show (k:Int)<(l.length:Int) by omega,rex]
   ·rw [if_neg c]
    simp only [STD,hp,c,qQ,show (k:Int)<(l.length:Int) by omega,q0e hk big]
    rfl)
  (by rw [qez];simp only [STD,qQ,show ¬ (l.length:Int)<(l.length:Int) by omega])
 have B:=fun i j (hi:i<l.length) (hj:j<l.length)=>j9 (S:=zD) (fun s=>[.r (rD l),.i (i:Int),.i (j:Int),.i 3,.i (s:Int),.i 0,.i 0,.i 0,.r [[.i 0],[.i 1],[.i (-1)]]]) (fun s=>quN l i j (sd s)) rex
  [.r (rD l),.i (i:Int),.i (j:Int),.i 0,.i 0,.i 0] 3 (by omega)
  (fun s hs=>by
   rw [qcH]
   have hp:=qu5 hl hn hi hj (sd s)
   have esd:cI [[.i 0],[.i 1],[.i (-1)]] (s:Int) 0=sd s:=rfl
   unfold quN
   by_cases c:qbS l i j (sd s)=true
   ·rw [if_pos c]
    simp only [STD,hp,c,esd,n3,show (s:Int)<3 by omega,show (0:Int)≤(s:Int) by omega,and_self,rex]
   ·rw [if_neg c]
    simp only [STD,hp,c,esd,n3,show (s:Int)<3 by omega,show (0:Int)≤(s:Int) by omega,and_self,q0e hs (show 3<9223372036854775808 by omega)]
    rfl)
  (by rw [qcH];simp only [STD,show ((3:Nat):Int)=3 from rfl,show ¬ (3:Int)<3 by omega])
 have C:=fun i (hi:i<l.length)=>j9 (S:=zL) (fun k=>[.r (rD l),.i (i:Int),.i ((i+1+k:Nat):Int),.i 0,.i 0,.i 0]) (fun k=>qcE l i (i+1+k)) rex
  [.r (rD l),.i (i:Int),.i 0,.i 0,.i 0] (l.length - (i+1)) (by omega)
  (fun k hk=>by
   rw [qcU]
   have hj:i+1+k<l.length:=by omega
   have b:=B i (i+1+k) hi hj
   rw [qsG] at b
   simp only [show ((0:Nat):Int)=0 from rfl] at b
   have w:=q0e hj big
   cases hs:qcE l i (i+1+k) with
   | none=>
    rw [hs] at b
    simp only [Option.elim] at b ⊢
    simp only [STD,b,zb b,n3,qQ,show ((i+1+k:Nat):Int)<(l.length:Int) by omega,w]
    rfl
   | some v=>
    rw [hs] at b
    simp only [Option.elim,rex] at b ⊢
    simp only [STD,b,zb b,n3,qQ,show ((i+1+k:Nat):Int)<(l.length:Int) by omega,show ¬ (1=0) by omega])
  (by rw [qcU];simp only [STD,qQ,show ¬ ((i+1+(l.length - (i+1)):Nat):Int)<(l.length:Int) by omega])
 have D:=j9 (S:=vD) (fun i=>[.r (rD l),.i (i:Int),.i 0,.i 0,.i 0]) (fun i=>uW (fun k=>qcE l i (i+1+k)) 0 (l.length - (i+1))) rex
  [.i 0,.i 0,.i 0] l.length big
  (fun i hi=>by
   rw [qcB]
   have c:=C i hi
   simp only [Nat.add_zero] at c
   have w:=q0e hi big
   cases hs:uW (fun k=>qcE l i (i+1+k)) 0 (l.length - (i+1)) with
   | none=>
    rw [hs] at c
    simp only [Option.elim] at c ⊢
    simp only [STD,w,c,zb c,qQ,show (i:Int)<(l.length:Int) by omega]
   | some v=>
    rw [hs] at c
    simp only [Option.elim,rex] at c ⊢
    simp only [STD,w,c,zb c,qQ,show (i:Int)<(l.length:Int) by omega,show ¬ (1=0) by omega])
  (by rw [qcB];simp only [STD,qQ,show ¬ (l.length:Int)<(l.length:Int) by omega])
 simp only [show ((0:Nat):Int)=0 from rfl] at A D
 unfold q1F
 cases hs:uW (fun i=>quN l i i 0) 0 l.length with
 | some v=>
  rw [hs] at A
  simp only [Option.elim,rex] at A
  simp only [STD,A,zb A,show ¬ (1=0) by omega,fW,Option.elim]
 | none=>
  rw [hs] at A
  simp only [Option.elim] at A
  simp only []
  cases hs':uW (fun i=>uW (fun k=>qcE l i (i+1+k)) 0 (l.length - (i+1))) 0 l.length with
  | none=>
   rw [hs'] at D
   simp only [Option.elim] at D
   simp only [STD,A,zb A,D,zb D,fW,Option.elim]
  | some v=>
   rw [hs'] at D
   simp only [Option.elim,rex] at D
   simp only [STD,A,zb A,D,zb D,fW,Option.elim,show ¬ (1=0) by omega]
end Go.Eng

namespace Go.Eng
theorem qBU {x y s:List UInt8} (h:qrb x y s=0) (hx:shT x) (hy:shT y) (hs:shT s):∃ d:DQ,GD d∧x=tQ d.x∧y=tQ d.y∧s=tQ d.s:=by
 obtain ⟨d,rfl,rfl,rfl,-,-,-,hn⟩:=qDP h
 exact ⟨d,⟨qxB hx,qxB hy,qEB (qxB hs),hn⟩,rfl,rfl,rfl⟩
theorem qyx {d:DQ} (h:GD d):qrb (tQ d.x) (tQ d.y) (tQ d.s)=0:=
 qDX ((wI h.x).ok (by omega) (by omega)) ((wI h.y).ok (by omega) (by omega)) ((q3k h.s).ok (by omega) (by omega)) h.nn
theorem kl {s:List UInt8} (h:shT s):s.length≤1000000:=by unfold shT at h;omega
theorem qqX {a b:DQ} (ga:GD a) (gb:GD b) :
  (jB [.s (tQ a.x),.s (tQ a.y),.s (tQ a.s),.s (tQ b.x),.s (tQ b.y),.s (tQ b.s)]).run=some (0,[.i (qBe a b),.i 0]):=by
 rw [qaf]
 have ca:=kT _ _ _ (show (tQ a.x).length≤1000000 from by have:=q5J ((wI ga.x).ok (by omega) (by omega));omega) (show (tQ a.y).length≤1000000 from by have:=q5J ((wI ga.y).ok (by omega) (by omega));omega) (show (tQ a.s).length≤1000000 from by have:=q5J ((q3k ga.s).ok (by omega) (by omega));omega)
 have cb:=kT _ _ _ (show (tQ b.x).length≤1000000 from by have:=q5J ((wI gb.x).ok (by omega) (by omega));omega) (show (tQ b.y).length≤1000000 from by have:=q5J ((wI gb.y).ok (by omega) (by omega));omega) (show (tQ b.s).length≤1000000 from by have:=q5J ((q3k gb.s).ok (by omega) (by omega));omega)
 rw [qyx ga] at ca
 rw [qyx gb] at cb
 have nr:qH [[U.s (tQ a.x),U.s (tQ a.y),U.s (tQ a.s)],[U.s (tQ b.x),U.s (tQ b.y),U.s (tQ b.s)]]=2:=rfl
 have r0:∀ j,cS [[U.s (tQ a.x),U.s (tQ a.y),U.s (tQ a.s)],[U.s (tQ b.x),U.s (tQ b.y),U.s (tQ b.s)]] 0 j=cS [[U.s (tQ a.x),U.s (tQ a.y),U.s (tQ a.s)]] 0 j:=fun j=>rfl
 have r1:∀ j,cS [[U.s (tQ a.x),U.s (tQ a.y),U.s (tQ a.s)],[U.s (tQ b.x),U.s (tQ b.y),U.s (tQ b.s)]] 1 j=cS [[U.s (tQ b.x),U.s (tQ b.y),U.s (tQ b.s)]] 0 j:=fun j=>rfl
 have q0:∀ d:DQ,cS [[U.s (tQ d.x),U.s (tQ d.y),U.s (tQ d.s)]] 0 0=tQ d.x∧cS [[U.s (tQ d.x),U.s (tQ d.y),U.s (tQ d.s)]] 0 1=tQ d.y∧cS [[U.s (tQ d.x),U.s (tQ d.y),U.s (tQ d.s)]] 0 2=tQ d.s:=fun d=>⟨rfl,rfl,rfl⟩
 have L:=j9 (S:=jV) (fun k=>[.i 2,.i (k:Int),.s (tQ a.x),.s (tQ a.y),.s (tQ a.s),.s (tQ b.x),.s (tQ b.y),.s (tQ b.s),.r [[U.s (tQ a.x),U.s (tQ a.y),U.s (tQ a.s)],[U.s (tQ b.x),U.s (tQ b.y),U.s (tQ b.s)]]]) (fun _=>(none:Option Nat)) (fun _=>[])
  [.s (tQ a.x),.s (tQ a.y),.s (tQ a.s),.s (tQ b.x),.s (tQ b.y),.s (tQ b.s)] 2 (by omega)
  (fun k hk=>by
   rw [q14]
   have w:=q0e hk (show 2<9223372036854775808 by omega)
   rcases (show k=0∨k=1 by omega) with rfl | rfl
   ·simp only [show ((0:Nat):Int)=0 from rfl,r0,q0,nr] at w ⊢
    simp only [STD,ca,w,Int.le_refl,show (0:Int)<2 by omega,and_self]
    rfl
   ·simp only [show ((1:Nat):Int)=1 from rfl,r1,q0,nr] at w ⊢
    simp only [STD,cb,w,show (0:Int)≤1 by omega,show (1:Int)<2 by omega,and_self]
    rfl)
  (by rw [q14];simp only [STD,show ((2:Nat):Int)=2 from rfl,show ¬ (2:Int)<2 by omega])
 simp only [show ((0:Nat):Int)=0 from rfl,uW,Option.elim] at L
 have w1:=qgJ ga.sh gb.sh ga.nn gb.nn
 have w2:=qgJ gb.sh ga.sh gb.nn ga.nn
 have w3:=qCY ga.sh gb.sh ga.nn gb.nn qxW
 rw [qAS] at w3
 have bd:=qyv a b (-2)
 have wn:=qp1 (x:=qmO a b (-2)) (by omega)
 unfold qBe
 by_cases c1:q2Q a b
 ·simp only [STD,nr,L,zb L,w1,c1]
 ·by_cases c2:q2Q b a
  ·simp only [STD,nr,L,zb L,w1,w2,c1,c2]
  ·simp only [STD,nr,L,zb L,w1,w2,w3,c1,c2,wn]
theorem qxu (x0 x1 x2 x3 x4 x5 : List UInt8) (h0 : shT x0) (h1 : shT x1) (h2 : shT x2) (h3 : shT x3) (h4 : shT x4) (h5 : shT x5) :
    ∃ n e, (jB [.s x0, .s x1, .s x2, .s x3, .s x4, .s x5]).run = some (0, [.i n, .i e]) ∧ (q0I [.s x0, .s x1, .s x2, .s x3, .s x4, .s x5]).run = some (0, [.i n, .i e]) := by
  have ca := kT x0 x1 x2 (kl h0) (kl h1) (kl h2)
  have cb := kT x3 x4 x5 (kl h3) (kl h4) (kl h5)
  have ra := q5Q x0 x1 x2 (kl h0) (kl h1) (kl h2)
  have rb := q5Q x3 x4 x5 (kl h3) (kl h4) (kl h5)
  by_cases e0 : qrb x0 x1 x2 = 0
  · by_cases e1 : qrb x3 x4 x5 = 0
    · obtain ⟨a, ga, rfl, rfl, rfl⟩ := qBU e0 h0 h1 h2
      obtain ⟨b, gb, rfl, rfl, rfl⟩ := qBU e1 h3 h4 h5
      refine ⟨_, _, qqX ga gb, ?_⟩
      rw [q9C]
      simp only [STD, ra, rb, e0, e1, qEu ga.sh gb.sh]
    · refine ⟨0, qrb x3 x4 x5, ?_, ?_⟩
      · rw [qaf]
        have L := j9 (S := jV) (fun k => [.i 2, .i (k : Int), .s x0, .s x1, .s x2, .s x3, .s x4, .s x5, .r [[.s x0, .s x1, .s x2], [.s x3, .s x4, .s x5]]]) (fun k => if k = 0 then none else some (qrb x3 x4 x5)) (fun e => [.i 0, .i e])
          [.s x0, .s x1, .s x2, .s x3, .s x4, .s x5] 2 (by omega)
          (fun k hk => by
            rw [q14]
            have w := q0e hk (show 2 < 9223372036854775808 by omega)
            rcases (show k = 0 ∨ k = 1 by omega) with rfl | rfl
            · have c : (zA [.s (cS [[.s x0, .s x1, .s x2], [.s x3, .s x4, .s x5]] ((0 : Nat) : Int) 0), .s (cS [[.s x0, .s x1, .s x2], [.s x3, .s x4, .s x5]] ((0 : Nat) : Int) 1), .s (cS [[.s x0, .s x1, .s x2], [.s x3, .s x4, .s x5]] ((0 : Nat) : Int) 2)]).run = _ := ca
              rw [e0] at c
              simp only [STD, c, w, show ((0 : Nat) : Int) < 2 by omega, show (0 : Int) ≤ ((0 : Nat) : Int) by omega, show qH [[U.s x0, U.s x1, U.s x2], [U.s x3, U.s x4, U.s x5]] = 2 from rfl, and_self]
              rfl
            · have c : (zA [.s (cS [[.s x0, .s x1, .s x2], [.s x3, .s x4, .s x5]] ((1 : Nat) : Int) 0), .s (cS [[.s x0, .s x1, .s x2], [.s x3, .s x4, .s x5]] ((1 : Nat) : Int) 1), .s (cS [[.s x0, .s x1, .s x2], [.s x3, .s x4, .s x5]] ((1 : Nat) : Int) 2)]).run = _ := cb
              simp only [STD, c, e1, show ((1 : Nat) : Int) < 2 by omega, show (0 : Int) ≤ ((1 : Nat) : Int) by omega, show qH [[U.s x0, U.s x1, U.s x2], [U.s x3, U.s x4, U.s x5]] = 2 from rfl, and_self]
              rfl)
          (by rw [q14]; simp only [STD, show ((2 : Nat) : Int) = 2 from rfl, show ¬ (2 : Int) < 2 by omega])
        simp only [show ((0 : Nat) : Int) = 0 from rfl, uW, Option.elim, if_true, show ¬ (0 + 1 = 0) by omega, if_false] at L
        simp only [STD, show qH [[U.s x0, U.s x1, U.s x2], [U.s x3, U.s x4, U.s x5]] = 2 from rfl, L, zb L, show ¬ (1 = 0) by omega]
      · rw [q9C]
        simp only [STD, ra, rb, e0, e1]
  · refine ⟨0, qrb x0 x1 x2, ?_, ?_⟩
    · rw [qaf]
      have S : (jV [.i 2, .i 0, .s x0, .s x1, .s x2, .s x3, .s x4, .s x5, .r [[.s x0, .s x1, .s x2], [.s x3, .s x4, .s x5]]]).run = some (2, [.i 0, .i (qrb x0 x1 x2)]) := by
        rw [q14]
        have c : (zA [.s (cS [[.s x0, .s x1, .s x2], [.s x3, .s x4, .s x5]] 0 0), .s (cS [[.s x0, .s x1, .s x2], [.s x3, .s x4, .s x5]] 0 1), .s (cS [[.s x0, .s x1, .s x2], [.s x3, .s x4, .s x5]] 0 2)]).run = _ := ca
        simp only [STD, c, e0, show (0 : Int) < 2 by omega, Int.le_refl, show qH [[U.s x0, U.s x1, U.s x2], [U.s x3, U.s x4, U.s x5]] = 2 from rfl, and_self]
      have L : (qg jV [.i 2, .i 0, .s x0, .s x1, .s x2, .s x3, .s x4, .s x5, .r [[.s x0, .s x1, .s x2], [.s x3, .s x4, .s x5]]]).run = some (1, [.i 0, .i (qrb x0 x1 x2)]) := by
        obtain ⟨m, hm⟩ : ∃ m, q7j = m + 1 := ⟨q7j - 1, by unfold q7j; omega⟩
        unfold qg
        rw [hm]
        exact q3X S
      simp only [STD, show qH [[U.s x0, U.s x1, U.s x2], [U.s x3, U.s x4, U.s x5]] = 2 from rfl, L, zb L, show ¬ (1 = 0) by omega]
    · rw [q9C]
      simp only [STD, ra, e0]
theorem qz5 {d:DQ} {px py:Rat} (gd:GD d) (hx:bnd 12 10 px) (hy:bnd 12 10 py) :
  (ya [.s (tQ d.x),.s (tQ d.y),.s (tQ d.s),.s (tQ px),.s (tQ py)]).run=some (0,[.b (decide (qaG d.x d.y px py≤d.s)),.i 0]):=by
 rw [q3b]
 have ca:=kT _ _ _ (show (tQ d.x).length≤1000000 from by have:=q5J ((wI gd.x).ok (by omega) (by omega));omega) (show (tQ d.y).length≤1000000 from by have:=q5J ((wI gd.y).ok (by omega) (by omega));omega) (show (tQ d.s).length≤1000000 from by have:=q5J ((q3k gd.s).ok (by omega) (by omega));omega)
 rw [qyx gd] at ca
 have c0:=qb8 (hx.ok (by omega) (by omega))
 have c1:=qb8 (hy.ok (by omega) (by omega))
 have L:=j9 (S:=vO) (fun k=>[.i 2,.i (k:Int),.s (tQ d.x),.s (tQ d.y),.s (tQ d.s),.s (tQ px),.s (tQ py),.r [[.s (tQ px)],[.s (tQ py)]]]) (fun _=>(none:Option Nat)) (fun _=>[])
  [.s (tQ d.x),.s (tQ d.y),.s (tQ d.s),.s (tQ px),.s (tQ py)] 2 (by omega)
  (fun k hk=>by
   rw [kn]
   have w:=q0e hk (show 2<9223372036854775808 by omega)
   rcases (show k=0∨k=1 by omega) with rfl | rfl
   ·have c:(zt [.s (cS [[.s (tQ px)],[.s (tQ py)]] ((0:Nat):Int) 0)]).run=_:=c0
    simp only [STD,c,w,show ((0:Nat):Int)<2 by omega,show (0:Int)≤((0:Nat):Int) by omega,show qH [[U.s (tQ px)],[U.s (tQ py)]]=2 from rfl,and_self]
    rfl
   ·have c:(zt [.s (cS [[.s (tQ px)],[.s (tQ py)]] ((1:Nat):Int) 0)]).run=_:=c1
    simp only [STD,c,w,show ((1:Nat):Int)<2 by omega,show (0:Int)≤((1:Nat):Int) by omega,show qH [[U.s (tQ px)],[U.s (tQ py)]]=2 from rfl,and_self]
    rfl)
  (by rw [kn];simp only [STD,show ((2:Nat):Int)=2 from rfl,show ¬ (2:Int)<2 by omega])
 simp only [show ((0:Nat):Int)=0 from rfl,uW,Option.elim] at L
 obtain ⟨d1,d2,d3⟩:=gd.sh
 have f:=qEG d1 d2 hx hy
 have fb:=qdj d1 d2 hx hy
 have o:=qBa fb d3 (by omega) (by omega) (by omega)
 by_cases c:qaG d.x d.y px py≤d.s
 ·simp only [STD,ca,show qH [[U.s (tQ px)],[U.s (tQ py)]]=2 from rfl,L,zb L,f,o,q9a,c,show ieq 0 0=true from rfl,decide_true]
 ·simp only [STD,ca,show qH [[U.s (tQ px)],[U.s (tQ py)]]=2 from rfl,L,zb L,f,o,q9a,c,decide_false]
theorem qFm {d:DQ} {px py:Rat} (gd:GD d) (hx:bnd 12 10 px) (hy:bnd 12 10 py) :
  (q6w [.s (tQ d.x),.s (tQ d.y),.s (tQ d.s),.s (tQ px),.s (tQ py)]).run=some (0,[.b (decide (qaG d.x d.y px py≤d.s))]):=by
 rw [qvd]
 obtain ⟨d1,d2,d3⟩:=gd.sh
 have f:=qDm d1 d2 hx hy
 have fb:=qdj d1 d2 hx hy
 have o:=qdo (fb.sm (by omega) (by omega)) (d3.sm (by omega) (by omega))
 have e:ile (sgq (qaG d.x d.y px py - d.s)) 0=decide (qaG d.x d.y px py≤d.s):=by unfold ile;simp only [q9a]
 simp only [STD,f,o,e]
theorem quj (x0 x1 x2 x3 x4 : List UInt8) (h0 : shT x0) (h1 : shT x1) (h2 : shT x2) (h3 : shT x3) (h4 : shT x4) :
    ∃ b e, (ya [.s x0, .s x1, .s x2, .s x3, .s x4]).run = some (0, [.b b, .i e]) ∧ (uh [.s x0, .s x1, .s x2, .s x3, .s x4]).run = some (0, [.b b, .i e]) := by
  have ca := kT x0 x1 x2 (kl h0) (kl h1) (kl h2)
  have ra := q5Q x0 x1 x2 (kl h0) (kl h1) (kl h2)
  have c3 := q3t x3 (by have := kl h3; omega)
  have c4 := q3t x4 (by have := kl h4; omega)
  have r3 := q61 x3 (by have := kl h3; omega)
  have r4 := q61 x4 (by have := kl h4; omega)
  by_cases e0 : qrb x0 x1 x2 = 0
  · by_cases e3 : qcp x3 = 0
    · by_cases e4 : qcp x4 = 0
      · obtain ⟨d, gd, rfl, rfl, rfl⟩ := qBU e0 h0 h1 h2
        obtain ⟨px, rfl, -⟩ := qiR e3
        obtain ⟨py, rfl, -⟩ := qiR e4
        refine ⟨_, _, qz5 gd (qt7 h3) (qt7 h4), ?_⟩
        rw [q3y]
        simp only [STD, ra, e0, r3, e3, r4, e4, qFm gd (qt7 h3) (qt7 h4)]
      · refine ⟨false, qcp x4, ?_, ?_⟩
        · rw [q3b]
          have L := j9 (S := vO) (fun k => [.i 2, .i (k : Int), .s x0, .s x1, .s x2, .s x3, .s x4, .r [[.s x3], [.s x4]]]) (fun k => if k = 0 then none else some (qcp x4)) (fun e => [.b false, .i e])
            [.s x0, .s x1, .s x2, .s x3, .s x4] 2 (by omega)
            (fun k hk => by
              rw [kn]
              have w := q0e hk (show 2 < 9223372036854775808 by omega)
              rcases (show k = 0 ∨ k = 1 by omega) with rfl | rfl
              · have c : (zt [.s (cS [[.s x3], [.s x4]] ((0 : Nat) : Int) 0)]).run = _ := c3
                simp only [STD, c, e3, w, show ((0 : Nat) : Int) < 2 by omega, show (0 : Int) ≤ ((0 : Nat) : Int) by omega, show qH [[U.s x3], [U.s x4]] = 2 from rfl, and_self]
                rfl
              · have c : (zt [.s (cS [[.s x3], [.s x4]] ((1 : Nat) : Int) 0)]).run = _ := c4
                simp only [STD, c, e4, show ((1 : Nat) : Int) < 2 by omega, show (0 : Int) ≤ ((1 : Nat) : Int) by omega, show qH [[U.s x3], [U.s x4]] = 2 from rfl, and_self]
                rfl)
            (by rw [kn]; simp only [STD, show ((2 : Nat) : Int) = 2 from rfl, show ¬ (2 : Int) < 2 by omega])
          simp only [show ((0 : Nat) : Int) = 0 from rfl, uW, Option.elim, if_true, show ¬ (0 + 1 = 0) by omega, if_false] at L
          simp only [STD, ca, e0, show qH [[U.s x3], [U.s x4]] = 2 from rfl, L, zb L, show ¬ (1 = 0) by omega]
        · rw [q3y]
          simp only [STD, ra, e0, r3, e3, r4, e4]
    · refine ⟨false, qcp x3, ?_, ?_⟩
      · rw [q3b]
        have S : (vO [.i 2, .i 0, .s x0, .s x1, .s x2, .s x3, .s x4, .r [[.s x3], [.s x4]]]).run = some (2, [.b false, .i (qcp x3)]) := by
          rw [kn]
          have c : (zt [.s (cS [[.s x3], [.s x4]] 0 0)]).run = _ := c3
          simp only [STD, c, e3, show (0 : Int) < 2 by omega, Int.le_refl, show qH [[U.s x3], [U.s x4]] = 2 from rfl, and_self]
        have L : (qg vO [.i 2, .i 0, .s x0, .s x1, .s x2, .s x3, .s x4, .r [[.s x3], [.s x4]]]).run = some (1, [.b false, .i (qcp x3)]) := by
          obtain ⟨m, hm⟩ : ∃ m, q7j = m + 1 := ⟨q7j - 1, by unfold q7j; omega⟩
          unfold qg
          rw [hm]
          exact q3X S
        simp only [STD, ca, e0, show qH [[U.s x3], [U.s x4]] = 2 from rfl, L, zb L, show ¬ (1 = 0) by omega]
      · rw [q3y]
        simp only [STD, ra, e0, r3, e3]
  · refine ⟨false, qrb x0 x1 x2, ?_, ?_⟩
    · rw [q3b]
      simp only [STD, ca, e0]
    · rw [q3y]
      simp only [STD, ra, e0]
end Go.Eng

namespace Go.Eng
noncomputable def cD (x:R) (i:Nat):Int:=qrb (cS x (i:Int) 0) (cS x (i:Int) 1) (cS x (i:Int) 2)
noncomputable def lE (x:R):Int:=if 64<x.length then 5 else if qgb (cD x) x.length=0 then (if x.length=0 then 13 else 0) else qgb (cD x) x.length
theorem q7c (x:R) (h:64<x.length∨∀ i,i<x.length→∀ j,(cS x (i:Int) j).length≤1000000):(zl [.r x]).run=some (0,[.i (lE x)]):=by
 rw [qug]
 unfold lE
 by_cases hn:64<x.length
 ·have:(64:Int)<qH x:=by unfold qH;omega
  simp only [STD,this,hn]
 ·have h':∀ i,i<x.length→∀ j,(cS x (i:Int) j).length≤1000000:=by
   rcases h with h | h
   ·omega
   ·exact h
  have hn':¬ (64:Int)<qH x:=by unfold qH;omega
  have L:=qyq (S:=uJ) (fun k=>[.r x,.r x,.i (qH x),.i (k:Int)]) (cD x) [] [.r x] x.length (by omega)
   (fun i hi=>by
    rw [qgo]
    have c:=kT _ _ _ (h' i hi 0) (h' i hi 1) (h' i hi 2)
    have w:=q0e hi (show x.length<9223372036854775808 by omega)
    by_cases e:qrb (cS x (i:Int) 0) (cS x (i:Int) 1) (cS x (i:Int) 2)=0
    ·simp only [STD,c,e,w,qoD hi,yq,and_self,cD]
    ·simp only [STD,c,e,qoD hi,yq,and_self,cD])
   (by rw [qgo];simp only [STD,qts])
  simp only [show ((0:Nat):Int)=0 from rfl] at L
  by_cases e:qgb (cD x) x.length=0
  ·rw [if_pos e] at L
   by_cases z:x.length=0
   ·have:qH x=0:=by unfold qH;omega
    rw [if_neg hn,if_pos e,if_pos z]
    have L':=L
    rw [this] at L'
    simp only [STD,this,show ¬ (64:Int)<0 by omega,L',zb L']
   ·have:¬ qH x=0:=by unfold qH;omega
    simp only [STD,hn',L,zb L,hn,e,z,this]
  ·rw [if_neg e] at L
   simp only [STD,hn',L,zb L,hn,e,show ¬ (1=0) by omega]
theorem q7g (x:R) (h:64<x.length∨∀ i,i<x.length→∀ j,(cS x (i:Int) j).length≤1000000):(zQ [.r x]).run=some (0,[.i (lE x)]):=by
 rw [qui]
 unfold lE
 by_cases hn:64<x.length
 ·have:(64:Int)<qH x:=by unfold qH;omega
  simp only [STD,this,hn]
 ·have h':∀ i,i<x.length→∀ j,(cS x (i:Int) j).length≤1000000:=by
   rcases h with h | h
   ·omega
   ·exact h
  have hn':¬ (64:Int)<qH x:=by unfold qH;omega
  have L:=qyq (S:=uE) (fun k=>[.r x,.i (k:Int)]) (cD x) [] [.r x] x.length (by omega)
   (fun i hi=>by
    rw [qfU]
    have c:=q5Q _ _ _ (h' i hi 0) (h' i hi 1) (h' i hi 2)
    have w:=q0e hi (show x.length<9223372036854775808 by omega)
    by_cases e:qrb (cS x (i:Int) 0) (cS x (i:Int) 1) (cS x (i:Int) 2)=0
    ·simp only [STD,c,e,w,qoD hi,yq,and_self,cD]
    ·simp only [STD,c,e,qoD hi,yq,and_self,cD])
   (by rw [qfU];simp only [STD,qts])
  simp only [show ((0:Nat):Int)=0 from rfl] at L
  by_cases e:qgb (cD x) x.length=0
  ·rw [if_pos e] at L
   by_cases z:x.length=0
   ·have:qH x=0:=by unfold qH;omega
    rw [if_neg hn,if_pos e,if_pos z]
    simp only [STD,this,show ¬ (64:Int)<0 by omega,L,zb L]
   ·have:¬ qH x=0:=by unfold qH;omega
    simp only [STD,hn',L,zb L,hn,e,z,this]
  ·rw [if_neg e] at L
   simp only [STD,hn',L,zb L,hn,e,show ¬ (1=0) by omega]
instance (s:List UInt8):Decidable (shT s):=by unfold shT;infer_instance
theorem qB7 (s:List UInt8):((12:Int)<qF s)=¬ shT s:=by unfold qF shT;exact propext ⟨fun h=>by omega,fun h=>by omega⟩
theorem qkt (x y s:List UInt8):(va [.s x,.s y,.s s]).run=some (0,[.b (decide (shT x∧shT y∧shT s))]):=by
 rw [qsh]
 have nr:qH [[U.s x],[U.s y],[U.s s]]=3:=rfl
 have L:=j9 (S:=km) (fun k=>[.i 3,.i (k:Int),.r [[.s x],[.s y],[.s s]]]) (fun k=>if shT (cS [[.s x],[.s y],[.s s]] (k:Int) 0) then none else some ()) (fun _=>[.b false])
  [] 3 (by omega)
  (fun k hk=>by
   rw [qeJ]
   have w:=q0e hk (show 3<9223372036854775808 by omega)
   by_cases c:shT (cS [[.s x],[.s y],[.s s]] (k:Int) 0)
   ·rw [if_pos c]
    simp only [STD,nr,show (k:Int)<3 by omega,yq,and_self,qB7,c,w]
    rfl
   ·rw [if_neg c]
    simp only [STD,nr,show (k:Int)<3 by omega,yq,and_self,qB7,c]
    try rfl)
  (by rw [qeJ];simp only [STD,show ((3:Nat):Int)=3 from rfl,show ¬ (3:Int)<3 by omega])
 have d0:cS [[.s x],[.s y],[.s s]] ((0:Nat):Int) 0=x:=rfl
 have d1:cS [[.s x],[.s y],[.s s]] ((0+1:Nat):Int) 0=y:=rfl
 have d2:cS [[.s x],[.s y],[.s s]] ((0+1+1:Nat):Int) 0=s:=rfl
 simp only [uW,d0,d1,d2] at L
 simp only [show ((0:Nat):Int)=0 from rfl] at L
 by_cases c0:shT x
 ·by_cases c1:shT y
  ·by_cases c2:shT s
   ·simp only [c0,c1,c2,if_true,Option.elim] at L
    simp only [STD,nr,L,zb L,c0,c1,c2,and_self,decide_true]
   ·simp only [c0,c1,c2,if_true,if_false,Option.elim] at L
    simp only [STD,nr,L,zb L,c0,c1,c2,and_false,decide_false,show ¬ (1=0) by omega]
  ·simp only [c0,c1,if_true,if_false,Option.elim] at L
   simp only [STD,nr,L,zb L,c0,c1,and_false,false_and,decide_false,show ¬ (1=0) by omega]
 ·simp only [c0,if_false,Option.elim] at L
  simp only [STD,nr,L,zb L,c0,false_and,decide_false,show ¬ (1=0) by omega]
def qkf (x:R) (i:Nat):Prop:=shT (cS x (i:Int) 0)∧shT (cS x (i:Int) 1)∧shT (cS x (i:Int) 2)
theorem qwS (x : R) : ∃ b, (u6 [.r x]).run = some (0, [.b b]) ∧ (b = true → (x.length ≤ 5 ∧ ∀ i, i < x.length → qkf x i) ∨ 64 < x.length) ∧ (x.length ≤ 5 → (∀ i, i < x.length → qkf x i) → b = true) := by
  rw [qv3]
  have L := j9 (S := yB) (fun k => [.r x, .i (k : Int)]) (fun k => if decide (shT (cS x (k : Int) 0) ∧ shT (cS x (k : Int) 1) ∧ shT (cS x (k : Int) 2)) = true then none else some ()) (fun _ => [.b false])
    [.r x] (min x.length 6) (by omega)
    (fun k hk => by
      rw [qhx]
      have hk' : k < x.length := by omega
      have w := q0e hk (show min x.length 6 < 9223372036854775808 by omega)
      have s := qkt (cS x (k : Int) 0) (cS x (k : Int) 1) (cS x (k : Int) 2)
      by_cases c : shT (cS x (k : Int) 0) ∧ shT (cS x (k : Int) 1) ∧ shT (cS x (k : Int) 2)
      · have c' : decide (shT (cS x (k : Int) 0) ∧ shT (cS x (k : Int) 1) ∧ shT (cS x (k : Int) 2)) = true := by simp [c]
        rw [if_pos c']
        rw [c'] at s
        simp only [STD, s, qoD hk', yq, and_self, w, show (k : Int) < 6 by omega]
        rfl
      · have c' : decide (shT (cS x (k : Int) 0) ∧ shT (cS x (k : Int) 1) ∧ shT (cS x (k : Int) 2)) = false := by simp only [c, decide_false]
        rw [c'] at s
        rw [c', if_neg (by simp)]
        simp only [STD, s, qoD hk', yq, and_self, show (k : Int) < 6 by omega]
        try rfl)
    (by
      rw [qhx]
      by_cases c : x.length ≤ 6
      · rw [Nat.min_eq_left c]
        simp only [STD, qts]
      · rw [Nat.min_eq_right (by omega)]
        have : ((6 : Nat) : Int) < qH x := by unfold qH; omega
        simp only [STD, this, show ¬ ((6 : Nat) : Int) < 6 by omega])
  simp only [show ((0 : Nat) : Int) = 0 from rfl] at L
  rcases qtB (fun k => decide (shT (cS x (k : Int) 0) ∧ shT (cS x (k : Int) 1) ∧ shT (cS x (k : Int) 2))) (fun _ => ()) (min x.length 6) with ⟨s1, s2⟩ | ⟨k, hk, s2, s1⟩
  · rw [s1] at L
    simp only [Option.elim] at L
    by_cases c : x.length ≤ 5
    · have : qH x ≤ 5 := by unfold qH; omega
      refine ⟨true, by simp only [STD, L, zb L, this], fun _ => .inl ⟨c, fun i hi => ?_⟩, fun _ _ => rfl⟩
      have := s2 i (by omega)
      simpa [qkf] using this
    · have h5 : ¬ qH x ≤ 5 := by unfold qH; omega
      by_cases c' : 64 < x.length
      · have h6 : (64 : Int) < qH x := by unfold qH; omega
        exact ⟨ilt (qH x) 128, by simp only [STD, L, zb L, h5, h6], fun _ => .inr c', fun h => absurd h c⟩
      · have h6 : ¬ (64 : Int) < qH x := by unfold qH; omega
        exact ⟨false, by simp only [STD, L, zb L, h5, h6], fun h => (by simp at h), fun h => absurd h c⟩
  · rw [s1] at L
    simp only [Option.elim] at L
    refine ⟨false, by simp only [STD, L, zb L, show ¬ (1 = 0) by omega], fun h => (by simp at h), fun h1 h2 => ?_⟩
    have := h2 k (by omega)
    unfold qkf at this
    simp only [this, and_self, decide_true] at s2
    simp at s2
def isD (x:R):Prop:=∀ r,r ∈ x→∃ a b c,r=[U.s a,U.s b,U.s c]
theorem quf {x:R} (h:UFit (.sl [.str,.str,.str]) (.l x)):isD x:=by
 cases h with
 | sl row l h hl hf=>
  intro r hr
  have hlen:=hl r hr
  match r,hlen with
  | [a,b,c],_=>
   have ha:=hf [a,b,c] 0 .str a hr rfl rfl
   have hb:=hf [a,b,c] 1 .str b hr rfl rfl
   have hc:=hf [a,b,c] 2 .str c hr rfl rfl
   cases ha;cases hb;cases hc
   exact ⟨_,_,_,rfl⟩
theorem qt2 (x:R) (i:Nat) (j:Nat):cS x (i:Int) j=((x.getD i []).getD j (.i 0)).toS:=rfl
theorem qAX:∀ {x:R},isD x→(∀ i,i<x.length→qkf x i)→(∀ i,i<x.length→cD x i=0)→∃ l,x=rD l∧GDs l∧l.length=x.length
 | [],_,_,_=>⟨[],rfl,(fun d h=>nomatch h),rfl⟩
 | r :: x,h1,h2,h3=>by
  obtain ⟨l,e1,e2,e3⟩:=qAX (x:=x) (fun r hr=>h1 r (List.mem_cons_of_mem _ hr))
   (fun i hi=>by have:=h2 (i+1) (by simp;omega);unfold qkf at this ⊢;simp only [qt2] at this ⊢;simpa using this)
   (fun i hi=>by have:=h3 (i+1) (by simp;omega);unfold cD at this ⊢;simp only [qt2] at this ⊢;simpa using this)
  obtain ⟨a,b,c,rfl⟩:=h1 r List.mem_cons_self
  have s:=h2 0 (by simp)
  have k:=h3 0 (by simp)
  unfold qkf at s
  unfold cD at k
  have z0:cS ([U.s a,U.s b,U.s c] :: x) ((0:Nat):Int) 0=a:=rfl
  have z1:cS ([U.s a,U.s b,U.s c] :: x) ((0:Nat):Int) 1=b:=rfl
  have z2:cS ([U.s a,U.s b,U.s c] :: x) ((0:Nat):Int) 2=c:=rfl
  rw [z0,z1,z2] at s k
  obtain ⟨d,gd,rfl,rfl,rfl⟩:=qBU k s.1 s.2.1 s.2.2
  refine ⟨d :: l,by rw [e1];rfl,fun e he=>?_,by simp [e3]⟩
  rcases List.mem_cons.1 he with rfl | he
  ·exact gd
  ·exact e2 e he
theorem qjy {x:R} (hD:isD x) (hF:(x.length≤5∧∀ i,i<x.length→qkf x i)∨64<x.length) (h:lE x=0):∃ l,x=rD l∧GDs l∧l≠[]∧l.length≤5:=by
 unfold lE at h
 split at h
 ·omega
 ·rename_i hn
  obtain ⟨h5,hs⟩:x.length≤5∧∀ i,i<x.length→qkf x i:=by
   rcases hF with h | h
   ·exact h
   ·omega
  split at h
  ·rename_i he
   split at h
   ·omega
   ·rename_i hz
    obtain ⟨l,e1,e2,e3⟩:=qAX hD hs (fun i hi=>qxl he i hi)
    exact ⟨l,e1,e2,fun h=>hz (by rw [← e3,h];rfl),by omega⟩
  ·rename_i he;exact absurd h he
theorem qgp {x:R} (hF:(x.length≤5∧∀ i,i<x.length→qkf x i)∨64<x.length) (hD:isD x):64<x.length∨∀ i,i<x.length→∀ j,(cS x (i:Int) j).length≤1000000:=by
 rcases hF with ⟨h1,h2⟩ | h
 ·right
  intro i hi j
  obtain ⟨s0,s1,s2⟩:=h2 i hi
  match j with
  | 0=>exact kl s0
  | 1=>exact kl s1
  | 2=>exact kl s2
  | j+3=>
   rw [qt2]
   have hm:x.getD i [] ∈ x:=by simp [List.getD_eq_getElem?_getD,hi]
   obtain ⟨a,b,c,e⟩:=hD _ hm
   rw [e];simp [List.getD_eq_getElem?_getD,U.toS]
 ·exact .inl h
theorem qER {l:List DQ} (hl:GDs l) (h0:l≠[]) (hn:l.length≤64):lE (rD l)=0:=by
 have hlen:(rD l).length=l.length:=by simp [rD]
 have hz:l.length≠0:=fun h=>h0 (List.length_eq_zero_iff.1 h)
 unfold lE
 rw [hlen,if_neg (by omega),if_neg hz,if_pos]
 refine qAw fun i hi=>?_
 obtain ⟨x1,x2,x3⟩:=qaQ hi
 unfold cD
 rw [x1,x2,x3]
 exact qyx (hl.ix hi)
theorem qzT {l:List DQ} (hl:GDs l):∀ i,i<(rD l).length→∀ j,(cS (rD l) (i:Int) j).length≤1000000:=by
 intro i hi j
 have hi':i<l.length:=by simpa [rD] using hi
 obtain ⟨x1,x2,x3⟩:=qaQ hi'
 have g:=hl.ix hi'
 match j with
 | 0=>rw [x1];have:=q5J ((wI g.x).ok (by omega) (by omega));omega
 | 1=>rw [x2];have:=q5J ((wI g.y).ok (by omega) (by omega));omega
 | 2=>rw [x3];have:=q5J ((q3k g.s).ok (by omega) (by omega));omega
 | j+3=>
  rw [qt2]
  have e:(rD l).getD i []=qf3 (ix l i):=by
   unfold rD ix
   simp [List.getD_eq_getElem?_getD,hi']
  rw [e];simp [qf3,List.getD_eq_getElem?_getD,U.toS]
theorem qk6 {l:List DQ} (hl:GDs l) (h0:l≠[]) (hn:l.length≤64):(zl [.r (rD l)]).run=some (0,[.i 0]):=by
 rw [q7c _ (.inr (qzT hl)),qER hl h0 hn]
theorem qke {l:List DQ} (hl:GDs l) (h0:l≠[]) (hn:l.length≤64):(zQ [.r (rD l)]).run=some (0,[.i 0]):=by
 rw [q7g _ (.inr (qzT hl)),qER hl h0 hn]
def cW (o:Option (Nat × Nat × Int)):List PV:=o.elim [.b false,.i 0,.i 0,.i 0,.i 0] (fun w=>[.b true,.i (w.1:Int),.i (w.2.1:Int),.i w.2.2,.i 0])
theorem qjn {l:List DQ} (hl:GDs l) (h0:l≠[]) (hn:l.length≤64):(zn [.r (rD l)]).run=some (0,cW (q1F l)):=by
 rw [qfB]
 have a:=qk6 hl h0 hn
 have b:=qwO hl (by omega)
 cases hf:q1F l with
 | none=>
  rw [hf] at b
  simp only [fW,Option.elim,List.cons_append,List.nil_append] at b
  simp only [STD,a,b,cW,Option.elim]
 | some w=>
  rw [hf] at b
  simp only [fW,Option.elim,List.cons_append,List.nil_append] at b
  simp only [STD,a,b,cW,Option.elim]
theorem qwG {l:List DQ} (hl:GDs l) (h0:l≠[]) (hn:l.length≤64):(j2 [.r (rD l)]).run=some (0,cW (q1F l)):=by
 rw [qfk]
 have a:=qke hl h0 hn
 have b:=qxm hl (by omega)
 cases hf:q1F l with
 | none=>
  rw [hf] at b
  simp only [fW,Option.elim] at b
  simp only [STD,a,b,cW,Option.elim]
 | some w=>
  rw [hf] at b
  simp only [fW,Option.elim] at b
  simp only [STD,a,b,cW,Option.elim]
theorem qwj {x:R} (hD:isD x) (hF:(x.length≤5∧∀ i,i<x.length→qkf x i)∨64<x.length) :
  ∃ a b c d e,(zn [.r x]).run=some (0,[.b a,.i b,.i c,.i d,.i e])∧(j2 [.r x]).run=some (0,[.b a,.i b,.i c,.i d,.i e]):=by
 by_cases h:lE x=0
 ·obtain ⟨l,rfl,hl,h0,h5⟩:=qjy hD hF h
  have a:=qjn hl h0 (by omega)
  have b:=qwG hl h0 (by omega)
  cases hf:q1F l with
  | none=>rw [hf] at a b;exact ⟨_,_,_,_,_,a,b⟩
  | some w=>rw [hf] at a b;exact ⟨_,_,_,_,_,a,b⟩
 ·have a:=q7c x (qgp hF hD)
  have b:=q7g x (qgp hF hD)
  refine ⟨false,0,0,0,lE x,?_,?_⟩
  ·rw [qfB];simp only [STD,a,h]
  ·rw [qfk];simp only [STD,b,h]
def vE (n x1 x2 x3:Int):Int:=if x1<0∨n≤x1∨x2<0∨n≤x2 then 2 else if x2<x1 then 9 else if x3< -1∨1<x3 then 1 else 0
def vB (l:List DQ) (x1 x2 x3:Int):Bool:=if vE l.length x1 x2 x3=0 then qbS l x1.toNat x2.toNat x3 else false
theorem qwu {l:List DQ} (hl:GDs l) (h0:l≠[]) (hn:l.length≤64) (x1 x2 x3:Int):(uP [.r (rD l),.i x1,.i x2,.i x3]).run=some (0,[.b (vB l x1 x2 x3),.i (vE l.length x1 x2 x3)]):=by
 rw [qfg]
 have a:=qk6 hl h0 hn
 unfold vB vE
 by_cases c1:x1<0
 ·simp only [STD,a,c1,true_or,show ¬ ((2:Int)=0) by omega]
 by_cases c2:(l.length:Int)≤x1
 ·simp only [STD,a,c1,c2,qQ,true_or,or_true,show ¬ ((2:Int)=0) by omega]
 by_cases c3:x2<0
 ·simp only [STD,a,c1,c2,c3,qQ,true_or,or_true,show ¬ ((2:Int)=0) by omega]
 by_cases c4:(l.length:Int)≤x2
 ·simp only [STD,a,c1,c2,c3,c4,qQ,or_true,show ¬ ((2:Int)=0) by omega]
 by_cases c5:x2<x1
 ·simp only [STD,a,c1,c2,c3,c4,c5,qQ,or_self,show ¬ ((9:Int)=0) by omega]
 by_cases c6:x3< -1
 ·simp only [STD,a,c1,c2,c3,c4,c5,c6,qQ,or_self,true_or,show ¬ ((1:Int)=0) by omega]
 by_cases c7:1<x3
 ·simp only [STD,a,c1,c2,c3,c4,c5,c6,c7,qQ,or_self,or_true,show ¬ ((1:Int)=0) by omega]
 have p:=qtp hl (by omega) (i:=x1.toNat) (j:=x2.toNat) (by omega) (by omega) x3
 rw [show ((x1.toNat:Nat):Int)=x1 by omega,show ((x2.toNat:Nat):Int)=x2 by omega] at p
 simp only [STD,a,c1,c2,c3,c4,c5,c6,c7,qQ,or_self,p]
theorem qwA {l:List DQ} (hl:GDs l) (h0:l≠[]) (hn:l.length≤64) (x1 x2 x3:Int):(uL [.r (rD l),.i x1,.i x2,.i x3]).run=some (0,[.b (vB l x1 x2 x3),.i (vE l.length x1 x2 x3)]):=by
 rw [qga]
 have a:=qke hl h0 hn
 have nr:qH [[U.i x1],[U.i x2]]=2:=rfl
 have L:=j9 (S:=zj) (fun k=>[.r (rD l),.i 2,.i (k:Int),.i x1,.i x2,.i x3,.r [[.i x1],[.i x2]]]) (fun k=>if cI [[.i x1],[.i x2]] (k:Int) 0<0∨(l.length:Int)≤cI [[.i x1],[.i x2]] (k:Int) 0 then some () else none) (fun _=>[.b false,.i 2])
  [.r (rD l),.i x1,.i x2,.i x3] 2 (by omega)
  (fun k hk=>by
   rw [qcV]
   have w:=q0e hk (show 2<9223372036854775808 by omega)
   by_cases c:cI [[.i x1],[.i x2]] (k:Int) 0<0
   ·rw [if_pos (.inl c)]
    simp only [STD,nr,show (k:Int)<2 by omega,yq,and_self,c]
    try rfl
   ·by_cases c':(l.length:Int)≤cI [[.i x1],[.i x2]] (k:Int) 0
    ·rw [if_pos (.inr c')]
     simp only [STD,nr,qQ,show (k:Int)<2 by omega,yq,and_self,c,c']
     try rfl
    ·rw [if_neg (by intro h;rcases h with h | h;exact c h;exact c' h)]
     simp only [STD,nr,qQ,show (k:Int)<2 by omega,yq,and_self,c,c',w]
     rfl)
  (by rw [qcV];simp only [STD,show ((2:Nat):Int)=2 from rfl,show ¬ (2:Int)<2 by omega])
 have d0:cI [[.i x1],[.i x2]] ((0:Nat):Int) 0=x1:=rfl
 have d1:cI [[.i x1],[.i x2]] ((0+1:Nat):Int) 0=x2:=rfl
 simp only [uW,d0,d1] at L
 simp only [show ((0:Nat):Int)=0 from rfl] at L
 unfold vB vE
 by_cases c1:x1<0∨(l.length:Int)≤x1
 ·have c1':x1<0∨(l.length:Int)≤x1∨x2<0∨(l.length:Int)≤x2:=by omega
  simp only [c1,if_true,Option.elim] at L
  simp only [STD,a,nr,L,zb L,c1',show ¬ (1=0) by omega,show ¬ ((2:Int)=0) by omega]
 by_cases c2:x2<0∨(l.length:Int)≤x2
 ·have c1':x1<0∨(l.length:Int)≤x1∨x2<0∨(l.length:Int)≤x2:=by omega
  simp only [c1,c2,if_true,if_false,Option.elim] at L
  simp only [STD,a,nr,L,zb L,c1',show ¬ (1=0) by omega,show ¬ ((2:Int)=0) by omega]
 have c1':¬ (x1<0∨(l.length:Int)≤x1∨x2<0∨(l.length:Int)≤x2):=by omega
 simp only [c1,c2,if_false,Option.elim] at L
 by_cases c5:x2<x1
 ·simp only [STD,a,nr,L,zb L,c1',c5,show ¬ ((9:Int)=0) by omega]
 by_cases c6:x3< -1
 ·simp only [STD,a,nr,L,zb L,c1',c5,c6,true_or,show ¬ ((1:Int)=0) by omega]
 by_cases c7:1<x3
 ·simp only [STD,a,nr,L,zb L,c1',c5,c6,c7,or_true,show ¬ ((1:Int)=0) by omega]
 have p:=qu5 hl (by omega) (i:=x1.toNat) (j:=x2.toNat) (by omega) (by omega) x3
 rw [show ((x1.toNat:Nat):Int)=x1 by omega,show ((x2.toNat:Nat):Int)=x2 by omega] at p
 simp only [STD,a,nr,L,zb L,c1',c5,c6,c7,or_self,p]
theorem qxr {x:R} (hD:isD x) (hF:(x.length≤5∧∀ i,i<x.length→qkf x i)∨64<x.length) (x1 x2 x3:Int) :
  ∃ a e,(uP [.r x,.i x1,.i x2,.i x3]).run=some (0,[.b a,.i e])∧(uL [.r x,.i x1,.i x2,.i x3]).run=some (0,[.b a,.i e]):=by
 by_cases h:lE x=0
 ·obtain ⟨l,rfl,hl,h0,h5⟩:=qjy hD hF h
  exact ⟨_,_,qwu hl h0 (by omega) x1 x2 x3,qwA hl h0 (by omega) x1 x2 x3⟩
 ·have a:=q7c x (qgp hF hD)
  have b:=q7g x (qgp hF hD)
  refine ⟨false,lE x,?_,?_⟩
  ·rw [qfg];simp only [STD,a,h]
  ·rw [qga];simp only [STD,b,h]
end Go.Eng

namespace Go.Eng
theorem qaA (l:R) (h:l.length<9223372036854775808):(vW [.r l,.r l]).run=some (0,[.b true]):=by
 have e:(qg wT [.r l,.r l,.i (qH l),.i 0]).run=some (0,[]):=by
  refine kP (fun i=>[.r l,.r l,.i (qH l),.i (i:Int)]) (0,[]) l.length h (fun i hi=>?_) ?_
  ·have h1:(i:Int)<qH l:=by unfold qH;omega
   rw [q4i]
   simp only [STD,h1,q0e hi h,show (0:Int)≤(i:Int) by omega,and_self]
  ·rw [q4i]
   simp only [STD,show ¬ ((l.length:Int)<qH l) by unfold qH;omega]
 rw [qdS]
 simp only [STD,e,zb e]
end Go.Eng

