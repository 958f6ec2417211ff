/- ENGINE U. Pieces of code, loops and functions, by templates. -/
import Derived.Test.YtjebekbdjlooiaaEngT
namespace Go.Eng

def Ex.beq : Ex → Ex → Bool
  | .normal, .normal => true
  | .ret, .ret => true
  | .exit i, .exit j => Nat.beq i j
  | _, _ => false

theorem Ex.beq_eq {x y : Ex} (h : x.beq y = true) : x = y := by
  cases x <;> cases y <;> simp [Ex.beq] at h ⊢
  exact h

def peq : Option Ex → Option Ex → Bool
  | none, none => true
  | some x, some y => x.beq y
  | _, _ => false
theorem peq_eq {x y : Option Ex} (h : peq x y = true) : x = y := by
  cases x <;> cases y <;> simp [peq] at h ⊢
  exact Ex.beq_eq h

structure Tmpl where
  t : List AP
  h : List BP
  pro : List (Nat × TypeId × List Sh) := []
  fs : List (List AP) := [[]]
  pend : Option Ex := none
  sw : List (Nat × Nat) := []
  swn : Nat := 0

/-- a nil slice as an own one -/
def proSt : List (Nat × TypeId × List Sh) → St → St
  | [], st => st
  | (i, e, sh) :: l, st => match st.t[i]? with
    | some .nils => proSt l { st with t := st.t.set i (.vec st.h.length), h := st.h ++ [.vec e sh []] }
    | _ => proSt l st

def cellsTo (n : Nat) (h : List BP) : Bool := Nat.ble n h.length && (h.take n).all BP.isCells

/-! two own blocks change their numbers -/
def swp (b c x : Nat) : Nat := if Nat.beq x b then c else if Nat.beq x c then b else x
def swB (b c : Nat) : Nat → Option Nat := fun x => some (swp b c x)
def swapL (b c : Nat) (h : List Blk) : List Blk := (h.set b (h.getD c .dead)).set c (h.getD b .dead)
def St.swap (b c : Nat) (st : St) : St := { t := AV.renL (swB b c) st.t, fs := st.fs.map (AV.renL (swB b c)), h := (swapL b c st.h).map (Blk.ren (swB b c)), pend := st.pend }
def refOf : AV → Option Nat
  | .ptr b _ => some b
  | .vec b => some b
  | _ => none
/-- where a temporary points to is to be block b -/
def swapSt (n : Nat) : List (Nat × Nat) → St → St
  | [], st => st
  | (i, b) :: l, st => match (st.t[i]?).bind refOf with
    | some c => (match Nat.ble n b && Nat.ble n c && Nat.blt b st.h.length && Nat.blt c st.h.length && !(Nat.beq b c) with
      | true => swapSt n l (st.swap b c)
      | false => swapSt n l st)
    | none => swapSt n l st

def Tmpl.take1 (tm : Tmpl) (st : St) : Option (List PV) := match peq tm.pend st.pend with
  | true => opt2 (AP.takeL tm.t (AV.renL (keep tm.h.length) st.t)) (opt2 (AP.takeLL tm.fs (st.fs.map (AV.renL (keep tm.h.length)))) (BP.takeL tm.h ((st.h.take tm.h.length).map (Blk.ren (keep tm.h.length)))))
  | false => none
def Tmpl.take (tm : Tmpl) (st : St) : Option (List PV) := tm.take1 (swapSt tm.swn tm.sw (proSt tm.pro st))
def Tmpl.ok (n : Nat) (tm : Tmpl) : Bool := cellsTo n tm.h && (tm.sw.isEmpty || Nat.ble n tm.swn)
def Tmpl.make (tm : Tmpl) (ps : List PV) : St := let x := AP.makeL tm.t ps; let y := AP.makeLL tm.fs x.2; { t := x.1, fs := y.1, h := (BP.makeL tm.h y.2).1, pend := tm.pend }
def Tmpl.kinds (tm : Tmpl) : List PK := AP.kindsL tm.t ++ (AP.kindsLL tm.fs ++ BP.kindsL tm.h)

theorem cellsTo_get {n : Nat} {h : List BP} (hc : cellsTo n h = true) : n ≤ h.length ∧ ∀ b, b < n → ∃ q, h[b]? = some q ∧ q.isCells = true := by
  simp only [cellsTo, Bool.and_eq_true, Nat.ble_eq, List.all_eq_true] at hc
  refine ⟨hc.1, fun b hb => ?_⟩
  have hlt : b < h.length := by omega
  refine ⟨h[b], List.getElem?_eq_getElem hlt, hc.2 _ ?_⟩
  rw [List.mem_take_iff_getElem]
  exact ⟨b, by omega, rfl⟩

theorem glob_move {E : Env} {X X' : Ctx} (hM : ∀ n, X.M n → X'.M n) (hw : X'.w = X.w) (hy : X'.y = X.y)
    (h : ∀ x, x ∈ E.glob → (∃ sh l i off, x.2 = .eptr sh l i off) ∧ Rep X x.2 (.pointer (some ⟨x.1, 0, none⟩))) :
    ∀ x, x ∈ E.glob → (∃ sh l i off, x.2 = .eptr sh l i off) ∧ Rep X' x.2 (.pointer (some ⟨x.1, 0, none⟩)) := by
  intro x hx
  obtain ⟨⟨sh, l, i, off, he⟩, hr⟩ := h x hx
  refine ⟨⟨sh, l, i, off, he⟩, ?_⟩
  rw [he] at hr ⊢
  exact hr.noMen rfl hM (fun _ _ => by rw [hw]) hy

theorem proSt_good {E : Env} {B : Base} {a : Act} : ∀ (l : List (Nat × TypeId × List Sh)) {X : Ctx} {st : St}, Sim E B X st a → ∃ X', X'.w = X.w ∧ Sim E B X' (proSt l st) a
  | [], X, st, hs => ⟨X, rfl, hs⟩
  | (i, e, sh) :: l, X, st, hs => by
    simp only [proSt]
    split
    · rename_i hi
      have hw := PushW.same X
      have hk : BlkRep (X.pushW (.vec e sh []) none X.w) X.h.length (.vec e sh []) := .inl ⟨by simp [Ctx.pushW], rfl⟩
      have hs1 := HSim.push hs.hs hw hk
      have hx := Ctx.push_ext hs.hs (.vec e sh []) hw
      have hsim := hs.ext hx hs1
      obtain ⟨v, g1, g2⟩ := hs.t.get i _ hi
      have hv : v = .slice none 0 0 := by cases g2; rfl
      subst hv
      have hrep : Rep (X.pushW (.vec e sh []) none X.w) (.vec st.h.length) (.slice none 0 0) := by
        rw [← hs.h]
        refine .vec _ _ _ _ (by simp [Ctx.pushW]) fun sh' m hv => ?_
        unfold VecV
        simp [Ctx.pushW]
      have hset := RepL.set hrep hsim.t i
      have he : a.tmps.toList.set i (.slice none 0 0) = a.tmps.toList := by
        apply List.ext_getElem?
        intro j
        by_cases hj : j = i
        · subst hj; rw [List.getElem?_set_self (lt_of_get g1), g1]
        · rw [List.getElem?_set_ne (Ne.symm hj)]
      rw [he] at hset
      obtain ⟨X2, q1, q2⟩ := proSt_good l (X := X.pushW (.vec e sh []) none X.w) (st := { st with t := st.t.set i (.vec st.h.length), h := st.h ++ [.vec e sh []] })
        ⟨hs1, by simp [Ctx.pushW, hs.h], hset, hsim.fs, hsim.glob, hsim.df, hsim.ni, hsim.y, hsim.pin⟩
      exact ⟨X2, q1, q2⟩
    · exact proSt_good l hs

theorem swp_swp (b c x : Nat) : swp b c (swp b c x) = x := by
  unfold swp
  simp only [Nat.beq_eq]
  by_cases h1 : x = b
  · subst h1
    by_cases h2 : c = x
    · simp [h2]
    · simp [h2]
  · by_cases h2 : x = c
    · subst h2; simp [h1]
    · simp [h1, h2]
theorem swp_ge {b c x n : Nat} (hb : n ≤ b) (hc : n ≤ c) : n ≤ swp b c x ↔ n ≤ x := by
  unfold swp
  simp only [Nat.beq_eq]
  split
  · rename_i h; subst h; exact ⟨fun _ => hb, fun _ => hc⟩
  · split
    · rename_i h; subst h; exact ⟨fun _ => hc, fun _ => hb⟩
    · exact Iff.rfl
theorem swp_lt {b c x n : Nat} (hb : b < n) (hc : c < n) : swp b c x < n ↔ x < n := by
  unfold swp
  simp only [Nat.beq_eq]
  split
  · rename_i h; subst h; exact ⟨fun _ => hb, fun _ => hc⟩
  · split
    · rename_i h; subst h; exact ⟨fun _ => hc, fun _ => hb⟩
    · exact Iff.rfl
theorem swp_id {b c x n : Nat} (hb : n ≤ b) (hc : n ≤ c) (hx : x < n) : swp b c x = x := by
  unfold swp
  simp only [Nat.beq_eq]
  rw [if_neg (by omega), if_neg (by omega)]
theorem swapL_get {b c : Nat} {h : List Blk} (hb : b < h.length) (hc : c < h.length) (hbc : b ≠ c) (i : Nat) : (swapL b c h)[i]? = h[swp b c i]? := by
  have e1 : h.getD c .dead = h[c] := by simp [List.getD_eq_getElem?_getD, hc]
  have e2 : h.getD b .dead = h[b] := by simp [List.getD_eq_getElem?_getD, hb]
  unfold swapL swp
  simp only [Nat.beq_eq]
  rw [e1, e2]
  by_cases h1 : i = b
  · subst h1
    rw [if_pos rfl, List.getElem?_set_ne (Ne.symm hbc), List.getElem?_set_self hb, List.getElem?_eq_getElem hc]
  · by_cases h2 : i = c
    · subst h2
      rw [if_neg h1, if_pos rfl, List.getElem?_set_self (by simpa using hc), List.getElem?_eq_getElem hb]
    · rw [if_neg h1, if_neg h2, List.getElem?_set_ne (Ne.symm h2), List.getElem?_set_ne (Ne.symm h1)]

def Ctx.swap (X : Ctx) (b c : Nat) : Ctx := { X with σ := fun x => X.σ (swp b c x), h := (swapL b c X.h).map (Blk.ren (swB b c)) }

theorem swap_good {B : Base} {X : Ctx} (hs : HSim B X) {b c : Nat} (hb : B.imps.length ≤ b) (hc : B.imps.length ≤ c) (hbl : b < X.h.length) (hcl : c < X.h.length) (hbc : b ≠ c) :
    HSim B (X.swap b c) ∧ Move X (X.swap b c) (swB b c) := by
  have hget : ∀ i, (X.swap b c).h[i]? = (X.h[swp b c i]?).map (Blk.ren (swB b c)) := fun i => by
    show ((swapL b c X.h).map _)[i]? = _
    rw [List.getElem?_map, swapL_get hbl hcl hbc]
  have hget' : ∀ i k, (X.swap b c).h[i]? = some k → ∃ k0, X.h[swp b c i]? = some k0 ∧ k = k0.ren (swB b c) := by
    intro i k h
    rw [hget] at h
    cases hk : X.h[swp b c i]? with
    | none => rw [hk] at h; cases h
    | some k0 => rw [hk] at h; exact ⟨k0, rfl, (Option.some.inj h).symm⟩
  have hσ : ∀ i, (X.swap b c).σ i = X.σ (swp b c i) := fun _ => rfl
  have hm : Move X (X.swap b c) (swB b c) := by
    refine Move.of (fun _ h => h) (fun _ _ => rfl) (fun b1 b2 hb1 hf => ?_)
    have hf' : b2 = swp b c b1 := (Option.some.inj hf).symm
    subst hf'
    refine ⟨?_, by rw [hσ, swp_swp], fun sh m ⟨e, l, h1, h2⟩ => ⟨e, l, ?_, h2⟩, fun sh m _ n hn c T fr hc => ⟨c, T, fr, hc, rfl⟩⟩
    · show _ < ((swapL b c X.h).map _).length
      simp only [swapL, List.length_map, List.length_set]
      exact (swp_lt hbl hcl).2 hb1
    · rcases h1 with h1 | h1
      · obtain ⟨k0, h3, h4⟩ := hget' _ _ h1
        rw [swp_swp] at h3
        rcases ren_vec (.inl h4) with rfl | rfl
        · exact .inl h3
        · exact .inr h3
      · obtain ⟨k0, h3, h4⟩ := hget' _ _ h1
        rw [swp_swp] at h3
        rcases ren_vec (.inr h4) with rfl | rfl
        · exact .inl h3
        · exact .inr h3
  have hown : ∀ i n, (X.swap b c).own i n → X.own (swp b c i) n := by
    intro i n ⟨h1, k, h2, h3⟩
    obtain ⟨k0, h4, h5⟩ := hget' i k h2
    exact ⟨h1, k0, h4, by rw [h5, Blk.mut_ren] at h3; exact h3⟩
  refine ⟨⟨?_, ?_, fun i n h => hs.notM _ n (hown _ _ h), hs.ltM, hs.M0, hs.newM, hs.os, hs.tape, hs.output, hs.size, hs.frame, ?_, ?_, ?_, hs.kept⟩, hm⟩
  · intro i k hk
    obtain ⟨k0, h1, h2⟩ := hget' i k hk
    rw [h2]
    exact BlkRep.move hm.toMove0 (hσ i) (fun _ _ => rfl) (hs.blk _ k0 h1)
  · intro i j n h1 h2
    have := hs.inj _ _ n (hown _ _ h1) (hown _ _ h2)
    rw [← swp_swp b c i, this, swp_swp]
  · intro i hi
    rw [hσ, swp_id hb hc hi]; exact hs.imps i hi
  · intro i hi
    obtain ⟨k, h1, h2⟩ := hs.impc i hi
    exact ⟨k.ren (swB b c), by rw [hget, swp_id hb hc hi, h1]; rfl, by rw [Blk.solid_ren]; exact h2⟩
  · intro i n h1 h2
    exact hs.fresh _ n (hown _ _ h1) ((swp_ge hb hc).2 h2)

theorem swapSt_good {E : Env} {B : Base} {a : Act} {n : Nat} (hn : B.imps.length ≤ n) : ∀ (l : List (Nat × Nat)) {X : Ctx} {st : St}, Sim E B X st a → ∃ X', X'.w = X.w ∧ Sim E B X' (swapSt n l st) a
  | [], X, st, hs => ⟨X, rfl, hs⟩
  | (i, b) :: l, X, st, hs => by
    simp only [swapSt]
    split
    · rename_i c hc
      split
      · rename_i hcond
        simp only [Bool.and_eq_true, Nat.ble_eq, Nat.blt_eq, Bool.not_eq_true'] at hcond
        obtain ⟨⟨⟨⟨c1, c2⟩, c3⟩, c4⟩, c5⟩ := hcond
        have hne : b ≠ c := fun e => by subst e; simp at c5
        obtain ⟨g1, g2⟩ := swap_good hs.hs (b := b) (c := c) (by omega) (by omega) (by rw [hs.h]; exact c3) (by rw [hs.h]; exact c4) hne
        obtain ⟨X2, q1, q2⟩ := swapSt_good hn l (X := X.swap b c) (st := st.swap b c) ⟨g1, by simp [Ctx.swap, St.swap, hs.h], hs.t.ren g2.toMove0, hs.fs.ren g2.toMove0, glob_move (X := X) (fun _ h => h) rfl rfl hs.glob, hs.df, hs.ni, hs.y, hs.pin⟩
        exact ⟨X2, q1, q2⟩
      · exact swapSt_good hn l hs
    · exact swapSt_good hn l hs

theorem Tmpl.weaken1 {tm : Tmpl} {E : Env} {B : Base} {X : Ctx} {st : St} {a : Act} {ps : List PV} (hk : cellsTo E.nimp tm.h = true) (h : tm.take1 st = some ps) (hs : Sim E B X st a) :
    ps.map PV.kind = tm.kinds ∧ ∃ X', X'.w = X.w ∧ Sim E B X' (tm.make ps) a := by
  unfold Tmpl.take1 at h
  split at h
  · rename_i hpe
    have hpe' := peq_eq hpe
    obtain ⟨x, yz, h1, h0, rfl⟩ := opt2_some h
    obtain ⟨y, z, h2, h3, rfl⟩ := opt2_some h0
    obtain ⟨hc1, hc2⟩ := cellsTo_get hk
    obtain ⟨c1, c2⟩ := cut_good hs.hs (n := tm.h.length) (Nat.le_trans hs.ni hc1)
    obtain ⟨a1, a2, a3⟩ := AP.takeL_ok (X := X.cut tm.h.length) _ _ x (y ++ z) h1
    obtain ⟨d1, d2, d3⟩ := AP.takeLL_ok (X := X.cut tm.h.length) _ _ y z h2
    obtain ⟨b1, b2, b3, b4, b5⟩ := BP.takeL_ok (X := X.cut tm.h.length) _ _ z [] h3
    have hch : (X.cut tm.h.length).h = (st.h.take tm.h.length).map (Blk.ren (keep tm.h.length)) := by rw [← hs.h]; rfl
    rw [← hch] at b3 b5
    rw [List.append_nil] at b3 b5
    obtain ⟨e1, e2⟩ := weak_good c1 (h' := (BP.makeL tm.h z).1) b3 (fun b k' hb => by obtain ⟨k0, e1, e2, _⟩ := b5 b k' hb; exact ⟨k0, e1, e2⟩)
      (fun b hb k' hk' => by
        obtain ⟨q, q1, q2⟩ := hc2 b (by have := hs.ni; omega)
        obtain ⟨k0, _, _, e3⟩ := b5 b k' hk'
        exact e3 q q1 q2)
    refine ⟨by simp [Tmpl.kinds, a2, d2, b2], { X.cut tm.h.length with h := (BP.makeL tm.h z).1 }, rfl, ⟨e1, ?_, ?_, ?_, ?_, ?_, hs.ni, hs.y, ?_⟩⟩
    · simp only [Tmpl.make, a1, d1]
    · simp only [Tmpl.make]
      exact (a3 _ (hs.t.ren c2.toMove0)).ext e2
    · simp only [Tmpl.make, a1]
      exact (d3 _ (hs.fs.ren c2.toMove0)).ext e2
    · exact glob_move (X := X) (fun _ h => h) rfl rfl hs.glob
    · show Marks X.kept (B.pin tm.pend) a.defers
      rw [hpe']; exact hs.df
    · show ∀ p, p ∈ B.pin tm.pend → p ∈ X.kept
      rw [hpe']; exact hs.pin
  · cases h

theorem Tmpl.weaken {tm : Tmpl} {E : Env} {B : Base} {X : Ctx} {st : St} {a : Act} {ps : List PV} (hk : tm.ok E.nimp = true) (h : tm.take st = some ps) (hs : Sim E B X st a) :
    ps.map PV.kind = tm.kinds ∧ ∃ X', X'.w = X.w ∧ Sim E B X' (tm.make ps) a := by
  unfold Tmpl.ok at hk
  simp only [Bool.and_eq_true, Bool.or_eq_true, List.isEmpty_iff, Nat.ble_eq] at hk
  obtain ⟨X1, h1, h2⟩ := proSt_good tm.pro hs
  have : ∃ X', X'.w = X1.w ∧ Sim E B X' (swapSt tm.swn tm.sw (proSt tm.pro st)) a := by
    rcases hk.2 with h0 | h0
    · rw [h0]; exact ⟨X1, rfl, h2⟩
    · exact swapSt_good (Nat.le_trans hs.ni h0) tm.sw h2
  obtain ⟨X1', h1', h2'⟩ := this
  obtain ⟨g1, X2, g2, g3⟩ := Tmpl.weaken1 hk.1 h h2'
  exact ⟨g1, X2, (g2.trans h1').trans h1, g3⟩

/-! ### Results of pieces -/
structure Out where
  x : Ex
  tm : Tmpl

abbrev TR := Tree (Nat × List PV)

def finT : List Out → Nat → Ex × St → TR
  | [], _, _ => .fail
  | o :: l, j, r => match Ex.beq o.x r.1, o.tm.take r.2 with
    | true, some ps => .leaf (j, ps)
    | _, _ => finT l (j + 1) r

def okR (R : TR) : Bool := R.run.isSome
def jR (R : TR) : Nat := match R.run with | some r => r.1 | none => 0
def pR (R : TR) (i : Nat) : PV := match R.run with | some r => r.2.getD i (.i 0) | none => .i 0
def gI (R : TR) (i : Nat) : Int := (pR R i).toI
def gB (R : TR) (i : Nat) : Bool := (pR R i).toB
def gS (R : TR) (i : Nat) : List UInt8 := (pR R i).toS
def gR (R : TR) (i : Nat) : Go.Eng.R := (pR R i).toR
def jIs (R : TR) (j : Nat) : Bool := Nat.beq (jR R) j

def outPV (R : TR) : List PK → Nat → List PV
  | [], _ => []
  | .i :: l, n => .i (gI R n) :: outPV R l (n + 1)
  | .b :: l, n => .b (gB R n) :: outPV R l (n + 1)
  | .s :: l, n => .s (gS R n) :: outPV R l (n + 1)
  | .r :: l, n => .r (gR R n) :: outPV R l (n + 1)

theorem outPV_ok {R : TR} {j : Nat} {ps : List PV} (hR : R.run = some (j, ps)) : ∀ (ks : List PK) (n : Nat), (ps.drop n).map PV.kind = ks → outPV R ks n = ps.drop n
  | [], n, h => by simp at h; simp [outPV]; exact h
  | k :: ks, n, h => by
    cases hd : ps.drop n with
    | nil => rw [hd] at h; cases h
    | cons v rest =>
      rw [hd] at h
      simp only [List.map_cons, List.cons.injEq] at h
      have hn : ps[n]? = some v := by
        have : (ps.drop n)[0]? = some v := by rw [hd]; rfl
        rwa [List.getElem?_drop, Nat.add_zero] at this
      have hr : ps.drop (n + 1) = rest := by rw [← List.drop_drop, hd]; rfl
      have ih := outPV_ok hR ks (n + 1) (by rw [hr]; exact h.2)
      have hp : pR R n = v := by simp [pR, hR, List.getD_eq_getElem?_getD, hn]
      rw [hr] at ih
      cases v <;> simp only [PV.kind] at h <;> obtain ⟨rfl, _⟩ := h <;> simp only [outPV, ih, gI, gB, gS, gR, hp, PV.toI, PV.toB, PV.toS, PV.toR]

def outT (R : TR) : List Out → Nat → Tree (Ex × St)
  | [], _ => .fail
  | o :: l, j => match l with
    | [] => .leaf (o.x, o.tm.make (outPV R o.tm.kinds 0))
    | _ :: _ => .br (jIs R j) (.leaf (o.x, o.tm.make (outPV R o.tm.kinds 0))) (outT R l (j + 1))

theorem outT_run {R : TR} {j : Nat} {ps : List PV} (hR : R.run = some (j, ps)) : ∀ (outs : List Out) (k : Nat) (o : Out) (r : Ex × St), k ≤ j → outs[j - k]? = some o → ps.map PV.kind = o.tm.kinds →
    (outT R outs k).run = some r → r = (o.x, o.tm.make ps)
  | [], k, o, r, _, h, _, _ => by simp at h
  | o' :: l, k, o, r, hk, h, hp, hr => by
    have hj : jR R = j := by simp [jR, hR]
    simp only [outT] at hr
    cases l with
    | nil =>
      have : j - k = 0 := by
        rcases Nat.eq_zero_or_pos (j - k) with h0 | h0
        · exact h0
        · rw [List.getElem?_eq_none (by simp; omega)] at h; cases h
      rw [this] at h
      simp only [List.getElem?_cons_zero, Option.some.injEq] at h
      subst h
      simp only [Tree.run, Option.some.injEq] at hr
      rw [← hr, outPV_ok hR _ 0 (by simpa using hp)]; rfl
    | cons o2 l =>
      simp only [Tree.run] at hr
      by_cases hjk : j = k
      · have hb : jIs R k = true := by simp [jIs, hj, hjk]
        rw [hb] at hr
        simp only [Option.some.injEq] at hr
        subst hjk
        simp only [Nat.sub_self, List.getElem?_cons_zero, Option.some.injEq] at h
        subst h
        rw [← hr, outPV_ok hR _ 0 (by simpa using hp)]; rfl
      · have hb : jIs R k = false := by
          simp only [jIs, hj]
          cases hq : Nat.beq j k with
          | false => rfl
          | true => exact absurd (Nat.eq_of_beq_eq_true hq) hjk
        rw [hb] at hr
        simp only at hr
        refine outT_run hR (o2 :: l) (k + 1) o r (by omega) ?_ hp hr
        rw [show j - k = (j - (k + 1)) + 1 by omega, List.getElem?_cons_succ] at h
        exact h

theorem finT_run : ∀ (outs : List Out) (k : Nat) (r : Ex × St) (j : Nat) (ps : List PV), (finT outs k r).run = some (j, ps) → k ≤ j ∧ ∃ o, outs[j - k]? = some o ∧ o.x = r.1 ∧ o.tm.take r.2 = some ps
  | [], k, r, j, ps, h => by simp only [finT] at h; cases h
  | o :: l, k, r, j, ps, h => by
    simp only [finT] at h
    split at h
    · rename_i ps' hb ht
      simp only [Tree.run, Option.some.injEq, Prod.mk.injEq] at h
      obtain ⟨rfl, rfl⟩ := h
      exact ⟨Nat.le_refl _, o, by simp, Ex.beq_eq hb, ht⟩
    · obtain ⟨h1, o', h2, h3, h4⟩ := finT_run l (k + 1) r j ps h
      refine ⟨by omega, o', ?_, h3, h4⟩
      rw [show j - k = (j - (k + 1)) + 1 by omega, List.getElem?_cons_succ]
      exact h2

def pieceL (tin : Tmpl) (outs : List Out) (T : List PV → TR) : St → Tree (Ex × St) := fun st => match tin.take st with
  | none => .fail
  | some ps => .br (okR (T ps)) (outT (T ps) outs 0) .fail

theorem pieceL_run {tin : Tmpl} {outs : List Out} {T : List PV → TR} {st : St} {r : Ex × St} (h : (pieceL tin outs T st).run = some r) :
    ∃ ps j qs, tin.take st = some ps ∧ (T ps).run = some (j, qs) ∧ (outT (T ps) outs 0).run = some r := by
  unfold pieceL at h
  cases ht : tin.take st with
  | none => rw [ht] at h; cases h
  | some ps =>
    rw [ht] at h
    simp only [Tree.run] at h
    cases hr : (T ps).run with
    | none => simp [okR, hr] at h
    | some q =>
      obtain ⟨j, qs⟩ := q
      simp only [okR, hr, Option.isSome_some] at h
      exact ⟨ps, j, qs, rfl, hr, h⟩

theorem Post.env {E E' : Env} (he : E.glob = E'.glob) (hn : E.nimp = E'.nimp) {B : Base} {r : Ex × St} {e : Exit} {a : Act} {w : World} (h : Post E B r e a w) : Post E' B r e a w := by
  obtain ⟨h1, X', h2, h3⟩ := h
  exact ⟨h1, X', h2, h3.env he hn⟩

theorem outs_ok {ni : Nat} {outs : List Out} (h : (outs.all fun o => o.tm.ok ni) = true) {j : Nat} {o : Out} (ho : outs[j]? = some o) : o.tm.ok ni = true :=
  List.all_eq_true.1 h o (List.mem_of_getElem? ho)

/-- A PIECE OF CODE -/
theorem piece_good {E : Env} {P : Program} {c : Code} {BO : Base → Prop} {ev : St → Tree (Ex × St)} (hev : ∀ (n0 : Nat) B X st a r, BO B → Sim E B X st a → (ev st).run = some r → c.wpIn (wideR B.ro) n0 P (Post E B r) a X.w)
    {tin : Tmpl} {outs : List Out} {T : List PV → TR} (hk : tin.ok E.nimp = true) (hko : (outs.all fun o => o.tm.ok E.nimp) = true)
    (hT : ∀ ps r, ps.map PV.kind = tin.kinds → (T ps).run = some r → ((ev (tin.make ps)).bind (finT outs 0)).run = some r) : LoopGood P E.glob E.nimp BO c (pieceL tin outs T) := by
  intro E' B X st a r he hn hbo hs h nf
  obtain ⟨ps, j, qs, h1, h2, h3⟩ := pieceL_run h
  obtain ⟨hkd, X', hw, hs'⟩ := Tmpl.weaken hk h1 (hs.env he hn)
  obtain ⟨r1, g1, g2⟩ := bind_some (hT ps _ hkd h2)
  obtain ⟨_, o, q1, q2, q3⟩ := finT_run _ _ _ _ _ g2
  rw [← hw]
  refine wpIn_mono (hev nf B X' _ a r1 hbo hs' g1) fun e a' w' ⟨p1, X2, p2, p3⟩ => ?_
  obtain ⟨hkd2, X3, hw3, hs3⟩ := Tmpl.weaken (outs_ok hko q1) q3 p3
  have hr := outT_run h2 outs 0 o r (Nat.zero_le _) q1 hkd2 h3
  subst hr
  exact Post.env he.symm hn.symm ⟨by rw [p1, ← q2], X3, by rw [hw3, p2], hs3⟩

/-! ### Loops -/
theorem least_ex {p : Nat → Prop} (h : ∃ n, p n) : ∃ n, p n ∧ ∀ m, p m → n ≤ m := by
  obtain ⟨n, hn⟩ := h
  induction n using Nat.strongRecOn with
  | _ n ih =>
    by_cases hlt : ∃ m, m < n ∧ p m
    · obtain ⟨m, h1, h2⟩ := hlt; exact ih m h1 h2
    · exact ⟨n, hn, fun m hm => Nat.le_of_not_lt fun h => hlt ⟨m, h, hm⟩⟩

open Classical in
noncomputable def leastOf (p : Nat → Prop) : Nat := if h : ∃ n, p n then Classical.choose (least_ex h) else 0

theorem leastOf_spec {p : Nat → Prop} (h : ∃ n, p n) : p (leastOf p) ∧ ∀ m, p m → leastOf p ≤ m := by
  unfold leastOf
  rw [dif_pos h]
  exact Classical.choose_spec (least_ex h)

def stepL (tin : Tmpl) (outs : List Out) (r : Ex × St) : TR := match r.1 with
  | .normal => match tin.take r.2 with
    | some ps => .leaf (0, ps)
    | none => .fail
  | _ => finT outs 1 r

def iterT (S : List PV → TR) : Nat → List PV → TR
  | 0, _ => .fail
  | n + 1, ps => (S ps).bind fun r => match r.1 with
    | 0 => iterT S n r.2
    | j + 1 => .leaf (j, r.2)

theorem loop_good {E : Env} {P : Program} {c : Code} {BO : Base → Prop} {ev : St → Tree (Ex × St)} (hev : ∀ (n0 : Nat) B X st a r, BO B → Sim E B X st a → (ev st).run = some r → c.wpIn (wideR B.ro) n0 P (Post E B r) a X.w)
    {tin : Tmpl} {outs : List Out} {S T : List PV → TR} (hk : tin.ok E.nimp = true) (hko : (outs.all fun o => o.tm.ok E.nimp) = true)
    (hS : ∀ ps r, ps.map PV.kind = tin.kinds → (S ps).run = some r → ((ev (tin.make ps)).bind (stepL tin outs)).run = some r) (hT : ∀ ps, ∃ n, T ps = iterT S n ps) :
    LoopGood P E.glob E.nimp BO (.loop c) (pieceL tin outs T) := by
  intro E' B X st a r he hn hbo hs h nf
  obtain ⟨ps, j, qs, h1, h2, h3⟩ := pieceL_run h
  obtain ⟨hkd, X', hw, hs'⟩ := Tmpl.weaken hk h1 (hs.env he hn)
  obtain ⟨n0, hn0⟩ := hT ps
  -- the end
  have hend : ∀ (o : Out) (X3 : Ctx) (a' : Act), outs[j]? = some o → qs.map PV.kind = o.tm.kinds → Sim E B X3 (o.tm.make qs) a' → Post E' B r o.x.out a' X3.w := by
    intro o X3 a' q1 hkd2 hs3
    have hr := outT_run h2 outs 0 o r (Nat.zero_le _) q1 hkd2 h3
    subst hr
    exact Post.env he.symm hn.symm ⟨rfl, X3, rfl, hs3⟩
  rw [hn0] at h2
  let I : Nat → Act → World → Prop := fun n a' w' => ∃ X1 ps1, X1.w = w' ∧ ps1.map PV.kind = tin.kinds ∧ Sim E B X1 (tin.make ps1) a' ∧ (iterT S n ps1).run = some (j, qs)
  have key : ∀ a' w', (∃ n, I n a' w') → c.wpIn (wideR B.ro) nf P (Exit.then (fun a'' w'' => ∃ n, I n a'' w'' ∧ ∀ m, I m a' w' → n < m) (Post E' B r)) a' w' := by
    intro a' w' hex
    -- the least number of rounds
    have hmin := least_ex hex
    obtain ⟨n, ⟨X1, ps1, rfl, hk1, hs1, hit⟩, hleast⟩ := hmin
    cases n with
    | zero => simp only [iterT] at hit; cases hit
    | succ n =>
      simp only [iterT] at hit
      obtain ⟨s, g1, g2⟩ := bind_some hit
      obtain ⟨r1, g3, g4⟩ := bind_some (hS ps1 s hk1 g1)
      refine wpIn_mono (hev nf B X1 _ a' r1 hbo hs1 g3) fun e a'' w'' ⟨p1, X2, p2, p3⟩ => ?_
      subst p1 p2
      obtain ⟨x1, s1⟩ := r1
      have other : ∀ (_ : (finT outs 1 (x1, s1)).run = some s), Post E' B r x1.out a'' X2.w := by
        intro hf
        obtain ⟨sj, sps⟩ := s
        obtain ⟨f1, o, f2, f3, f4⟩ := finT_run _ _ _ _ _ hf
        cases sj with
        | zero => omega
        | succ sj =>
          simp only [Tree.run, Option.some.injEq, Prod.mk.injEq] at g2
          obtain ⟨rfl, rfl⟩ := g2
          simp only [Nat.add_sub_cancel] at f2
          obtain ⟨hkd2, X3, hw3, hs3⟩ := Tmpl.weaken (outs_ok hko f2) f4 p3
          have f3' : o.x = x1 := f3
          rw [← f3', ← hw3]
          exact hend o X3 a'' f2 hkd2 hs3
      cases x1 with
      | normal =>
        simp only [stepL] at g4
        cases htk : tin.take s1 with
        | none => rw [htk] at g4; cases g4
        | some ps2 =>
          rw [htk] at g4
          simp only [Tree.run, Option.some.injEq] at g4
          subst g4
          obtain ⟨hkd2, X3, hw3, hs3⟩ := Tmpl.weaken hk htk p3
          refine ⟨n, ⟨X3, ps2, hw3, hkd2, hs3, g2⟩, fun m hm => ?_⟩
          have := hleast m hm
          omega
      | exit i => exact other g4
      | ret => exact other g4
  rw [← hw]
  have hI0 : ∃ n, I n a X'.w := ⟨n0, X', ps, rfl, hkd, hs', h2⟩
  refine wpIn_loop (fun a' w' => ∃ n, I n a' w') (fun a' w' => leastOf fun n => I n a' w') hI0 fun a' w' hex => ?_
  refine wpIn_mono (key a' w' hex) fun e a'' w'' hq => ?_
  cases e with
  | normal =>
    obtain ⟨n, hn1, hn2⟩ := hq
    exact ⟨⟨n, hn1⟩, Nat.lt_of_le_of_lt ((leastOf_spec ⟨n, hn1⟩).2 n hn1) (hn2 _ (leastOf_spec hex).1)⟩
  | exit i => exact hq
  | goto i => exact hq
  | ret => exact hq
  | panic ch => exact hq
  | outgrown => exact hq

end Go.Eng
