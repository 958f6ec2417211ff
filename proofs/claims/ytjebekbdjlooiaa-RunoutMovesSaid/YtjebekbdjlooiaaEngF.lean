/- ENGINE F. Contracts, and a call of a function that has one. -/
import Derived.Test.YtjebekbdjlooiaaEngE
namespace Go.Eng


structure Entry (B : Base) (X : Ctx) : Prop where
  w0 : B.w0 = X.w
  imps : B.imps = (List.range X.h.length).map X.σ
  M0 : ∀ n, X.M n → B.M0 n

def Enters (P : Program) (f : FuncId) : Prop := ∀ (args : Array Value) (w : World), (callFunc f args).run P w = .ok (.enter f args) w

/-- A CONTRACT OF A FUNCTION: whenever what G says of the abstract arguments and blocks is a result, the call returns it, and nothing else has turned. -/
def Spec (P : Program) (gl : List (Nat × AV)) (f : FuncId) (G : Contract) : Prop :=
  Enters P f ∧ ∀ (B : Base) (X : Ctx) (args : List AV) (vargs : List Value) (r : AV × List Blk), HSim B X → Entry B X → GlobOk gl X → RepL X args vargs → (G args X.h).run = some r →
    Calls P f vargs.toArray X.w fun e w' => ∃ v X', e = .returned v ∧ X'.w = w' ∧ Rep X' r.1 v ∧ X'.h = r.2 ∧ HSim B X' ∧ X'.y = X.y

mutual
theorem lend_rep {B : Base} {X : Ctx} (hs : HSim B X) : ∀ {av : AV} {v : Value}, Rep X av v → Rep X (av.lend X.h) v
  | .vec b, v, h => by
    unfold AV.lend
    split
    · rename_i e sh l hb; exact .imm _ _ _ (imm_of_frz hs hb h)
    · exact .undef v
  | .agg cs, _, .agg _ vs h => .agg _ vs (lend_repL hs h)
  | .tuple cs, _, .tuple _ vs h => .tuple _ vs (lend_repL hs h)
  | .undef, _, h | .skip, _, h | .yld, _, h | .blit _, _, h | .bool _, _, h | .ilit _ _, _, h | .int _ _, _, h | .str _, _, h | .nilp, _, h | .ptr _ _, _, h | .eptr _ _ _ _, _, h | .mptr _ _ _ _ _, _, h | .vptr _ _ _, _, h | .vsub _ _, _, h | .aptr _ _ _, _, h | .asub _ _ _ _ _, _, h | .bagg _ _ _ _, _, h
  | .nils, _, h | .imm _ _, _, h | .nilf, _, h | .fn _ _ _, _, h => h
theorem lend_repL {B : Base} {X : Ctx} (hs : HSim B X) : ∀ {as : List AV} {vs : List Value}, RepL X as vs → RepL X (AV.lendL X.h as) vs
  | _, _, .nil => .nil
  | _, _, .cons h t => .cons (lend_rep hs h) (lend_repL hs t)
end

/-- a block that says less -/
def Wk (X : Ctx) (k k' : Blk) : Prop := k' = .dead ∨ k' = k ∨ (∃ cs cs', k = .cells cs ∧ k' = .cells cs' ∧ ∀ vs, RepL X cs vs → RepL X cs' vs) ∨ ∃ cs cs' kk n l, k = .big cs kk n l ∧ k' = .big cs' kk n l ∧ ∀ vs, RepL X cs vs → RepL X cs' vs

theorem weak_good {B : Base} {X : Ctx} (hs : HSim B X) {h' : List Blk} (hl : h'.length = X.h.length) (hw : ∀ (b : Nat) (k' : Blk), h'[b]? = some k' → ∃ k0, X.h[b]? = some k0 ∧ Wk X k0 k')
    (hc : ∀ b : Nat, b < B.imps.length → ∀ k' : Blk, h'[b]? = some k' → k'.solid = true) : HSim B { X with h := h' } ∧ Ext X { X with h := h' } := by
  have hvec : ∀ b sh m, ({ X with h := h' } : Ctx).isVec b sh m → X.isVec b sh m := by
    intro b sh m ⟨e, l, h1, h2⟩
    refine ⟨e, l, ?_, h2⟩
    rcases h1 with h1 | h1
    · obtain ⟨k0, h3, h4⟩ := hw b _ h1
      rcases h4 with h4 | h4 | ⟨_, _, _, h4, _⟩ | ⟨_, _, _, _, _, _, h4, _⟩
      · cases h4
      · exact .inl (h4 ▸ h3)
      · cases h4
      · cases h4
    · obtain ⟨k0, h3, h4⟩ := hw b _ h1
      rcases h4 with h4 | h4 | ⟨_, _, _, h4, _⟩ | ⟨_, _, _, _, _, _, h4, _⟩
      · cases h4
      · exact .inr (h4 ▸ h3)
      · cases h4
      · cases h4
  have hx : Ext X { X with h := h' } := by
    refine Move.of (fun _ h => h) (fun _ _ => rfl) (fun b b' hb hf => ?_)
    cases hf
    exact ⟨by show b < h'.length; omega, rfl, hvec b, fun sh m _ k hk c T fr hc => ⟨c, T, fr, hc, rfl⟩⟩
  have hown : ∀ b m, ({ X with h := h' } : Ctx).own b m → X.own b m := by
    intro b m ⟨h1, k, h2, h3⟩
    obtain ⟨k0, h4, h5⟩ := hw b k h2
    refine ⟨h1, k0, h4, ?_⟩
    rcases h5 with h5 | h5 | ⟨_, _, h5, _, _⟩ | ⟨_, _, _, _, _, h5, _, _⟩
    · subst h5; cases h3
    · exact h5 ▸ h3
    · subst h5; rfl
    · subst h5; rfl
  refine ⟨⟨?_, fun b b' m h h' => hs.inj b b' m (hown _ _ h) (hown _ _ h'), fun b m h => hs.notM b m (hown _ _ h), hs.ltM, hs.M0, hs.newM, hs.os, hs.tape, hs.output, hs.size, hs.frame, hs.imps, ?_, fun b m h => hs.fresh b m (hown _ _ h), hs.kept⟩, hx⟩
  · intro b k hk
    obtain ⟨k0, h1, h2⟩ := hw b k hk
    have h3 := hs.blk b k0 h1
    rcases h2 with h2 | h2 | ⟨cs, cs', h2, h4, h5⟩ | ⟨cs, cs', kk, N, l, h2, h4, h5⟩
    · subst h2; trivial
    · subst h2; exact BlkRep.ext hx rfl (fun _ _ => rfl) h3
    · subst h2 h4
      obtain ⟨m, c, T, e1, e2, e3⟩ := h3
      exact ⟨m, c, T, e1, e2, (h5 _ e3).ext hx⟩
    · subst h2 h4
      obtain ⟨m, c, T, vs, e1, e2, e3, e4, e5⟩ := h3
      exact ⟨m, c, T, vs, e1, e2, (h5 _ e3).ext hx, e4, e5⟩
  · intro b hb
    have hlt : b < h'.length := by have := hs.hlen; omega
    exact ⟨_, List.getElem?_eq_getElem hlt, hc b hb _ (List.getElem?_eq_getElem hlt)⟩

theorem Frozen.trans {B : Base} {X Y Z : Ctx} {h h' : List Blk} (f : Frozen B X Y h) (g : Frozen B Y Z h') : Frozen B X Z h' :=
  ⟨g.h, g.w.trans f.w, g.σ.trans f.σ, g.hs, Move.trans f.ext g.ext⟩
theorem lendAt_good {B : Base} : ∀ (l : List Nat) {X : Ctx} (_ : HSim B X), ∃ X', Frozen B X X' (lendAt X.h l)
  | [], X, hs => ⟨X, rfl, rfl, rfl, hs, Ext.refl X⟩
  | b :: l, X, hs => by
    simp only [lendAt]
    split
    · rename_i cs hb
      obtain ⟨d1, d2⟩ := weak_good hs (h' := X.h.set b (.cells (AV.lendL X.h cs))) (by simp) (fun b' k' hk => by
        by_cases hbb : b' = b
        · subst hbb
          rw [List.getElem?_set_self (lt_of_get hb)] at hk
          exact ⟨.cells cs, hb, .inr (.inr (.inl ⟨cs, _, rfl, (Option.some.inj hk).symm, fun vs hv => lend_repL hs hv⟩))⟩
        · rw [List.getElem?_set_ne (Ne.symm hbb)] at hk
          exact ⟨k', hk, .inr (.inl rfl)⟩) (fun b' hb' k' hk => by
        by_cases hbb : b' = b
        · subst hbb
          rw [List.getElem?_set_self (lt_of_get hb)] at hk
          rw [← Option.some.inj hk]; rfl
        · rw [List.getElem?_set_ne (Ne.symm hbb)] at hk
          obtain ⟨cs', h1, h2⟩ := hs.impc b' hb'
          rw [h1] at hk
          rw [← Option.some.inj hk]; exact h2)
      obtain ⟨X2, f⟩ := lendAt_good l d1
      have f0 : Frozen B X { X with h := X.h.set b (.cells (AV.lendL X.h cs)) } (X.h.set b (.cells (AV.lendL X.h cs))) := ⟨rfl, rfl, rfl, d1, d2⟩
      exact ⟨X2, f0.trans f⟩
    · exact lendAt_good l hs
theorem prepCall_good {B : Base} (args : List AV) {X : Ctx} (hs : HSim B X) : ∃ X', Frozen B X X' (prepCall X.h args) := by
  unfold prepCall
  obtain ⟨X1, f1⟩ := freezeL_good (args.flatMap vecsOf) hs
  simp only
  rw [← f1.h]
  obtain ⟨X2, f2⟩ := freezeL_good (cellVecs X1.h (AV.menL (AV.lendL X1.h args))) f1.hs
  rw [← f2.h]
  obtain ⟨X3, f3⟩ := lendAt_good (AV.menL (AV.lendL X1.h args)) f2.hs
  exact ⟨X3, (f1.trans f2).trans f3⟩


mutual
theorem AV.ren_of_men (f : Nat → Option Nat) : ∀ av : AV, av.men = [] → av.ren f = av
  | .undef, _ | .skip, _ | .yld, _ | .blit _, _ | .bool _, _ | .ilit _ _, _ | .int _ _, _ | .str _, _ | .nilp, _ | .eptr _ _ _ _, _ | .mptr _ _ _ _ _, _ | .nils, _ | .imm _ _, _ | .nilf, _ => rfl
  | .ptr _ _, h => by simp [AV.men] at h
  | .vptr _ _ _, h => by simp [AV.men] at h
  | .vsub _ _, h => by simp [AV.men] at h
  | .aptr _ _ _, h => by simp [AV.men] at h
  | .asub _ _ _ _ _, h => by simp [AV.men] at h
  | .bagg cs k n l, h => by simp only [AV.men] at h; simp only [AV.ren, AV.renL_of_men f cs h]
  | .vec _, h => by simp [AV.men] at h
  | .fn g a b, h => by
    simp only [AV.men, List.append_eq_nil_iff] at h
    simp only [AV.ren, AV.renL_of_men f a h.1, AV.renL_of_men f b h.2]
  | .agg cs, h => by simp only [AV.men] at h; simp only [AV.ren, AV.renL_of_men f cs h]
  | .tuple cs, h => by simp only [AV.men] at h; simp only [AV.ren, AV.renL_of_men f cs h]
theorem AV.renL_of_men (f : Nat → Option Nat) : ∀ l : List AV, AV.menL l = [] → AV.renL f l = l
  | [], _ => rfl
  | a :: l, h => by
    simp only [AV.menL, List.append_eq_nil_iff] at h
    simp only [AV.renL, AV.ren_of_men f a h.1, AV.renL_of_men f l h.2]
end

theorem RepL.noMen {X X' : Ctx} {as : List AV} {vs : List Value} (h : RepL X as vs) (hm : AV.menL as = []) (hM : ∀ n, X.M n → X'.M n) (hw : ∀ a : Addr, X.M a.block → X'.w.cell? a = X.w.cell? a) (hy : X'.y = X.y := by rfl) : RepL X' as vs := by
  have := h.ren (X' := X') (f := fun _ => none) ⟨hM, hw, (fun _ _ _ h => by cases h), hy⟩
  rwa [AV.renL_of_men _ _ hm] at this

theorem Rep.noMen {X X' : Ctx} {a : AV} {v : Value} (h : Rep X a v) (hm : a.men = []) (hM : ∀ n, X.M n → X'.M n) (hw : ∀ a : Addr, X.M a.block → X'.w.cell? a = X.w.cell? a) (hy : X'.y = X.y := by rfl) : Rep X' a v := by
  have := h.ren (X' := X') (f := fun _ => none) ⟨hM, hw, (fun _ _ _ h => by cases h), hy⟩
  rwa [AV.ren_of_men _ _ hm] at this

theorem dedup_nodup : ∀ l : List Nat, (dedup l).Nodup
  | [] => List.nodup_nil
  | a :: l => by
    simp only [dedup]
    split
    · exact dedup_nodup l
    · rename_i h
      exact List.nodup_cons.2 ⟨by simpa using h, dedup_nodup l⟩

theorem idxOf_spec {l : List Nat} {b k : Nat} (h : idxOf l b = some k) : l[k]? = some b := by
  simp only [idxOf] at h
  split at h
  · rename_i hlt
    cases h
    rw [List.getElem?_eq_getElem hlt]
    have := List.findIdx_getElem (p := (· == b)) (w := hlt)
    simpa using this
  · cases h

theorem takeBlks_spec : ∀ {fp : List Nat} {h : List Blk} {hin : List Blk}, takeBlks h fp = some hin → hin.length = fp.length ∧
    ∀ (k : Nat) (b : Nat), fp[k]? = some b → ∃ cs, h[b]? = some cs ∧ hin[k]? = some cs ∧ cs.plain = true
  | [], h, hin, e => by simp [takeBlks] at e; subst e; exact ⟨rfl, fun k b hk => by simp at hk⟩
  | b :: l, h, hin, e => by
    simp only [takeBlks] at e
    split at e
    · rename_i cs r h1 h2
      split at e
      · rename_i hm
        cases e
        obtain ⟨g1, g2⟩ := takeBlks_spec h2
        refine ⟨by simp [g1], fun k b' hk => ?_⟩
        cases k with
        | zero => simp at hk; subst hk; exact ⟨cs, h1, by simp, hm⟩
        | succ k =>
          obtain ⟨cs', q1, q2, q3⟩ := g2 k b' (by simpa using hk)
          exact ⟨cs', q1, by simpa using q2, q3⟩
      · cases e
    · cases e

theorem putBlks_spec : ∀ {fp : List Nat} {h hout h2 : List Blk}, putBlks h fp hout = some h2 → fp.Nodup → (∀ b ∈ fp, b < h.length) → h2.length = h.length ∧ fp.length ≤ hout.length ∧
    (∀ b, b ∉ fp → h2[b]? = h[b]?) ∧ ∀ (k : Nat) (b : Nat), fp[k]? = some b → ∃ cs, hout[k]? = some cs ∧ h2[b]? = some cs ∧ cs.plain = true
  | [], h, hout, h2, e, _, _ => by
    simp [putBlks] at e; subst e
    exact ⟨rfl, by simp, fun _ _ => rfl, fun k b hk => by simp at hk⟩
  | b :: l, h, hout, h2, e, hn, hl => by
    cases hout with
    | nil => simp [putBlks] at e
    | cons cs r =>
        simp only [putBlks] at e
        by_cases hm : cs.plain = true
        · rw [if_pos hm] at e
          cases hp : putBlks h l r with
          | none => rw [hp] at e; cases e
          | some h' =>
            rw [hp] at e
            simp only [Option.map_some, Option.some.injEq] at e
            subst e
            obtain ⟨hn1, hn2⟩ := List.nodup_cons.1 hn
            obtain ⟨g1, g2, g3, g4⟩ := putBlks_spec hp hn2 (fun x hx => hl x (List.mem_cons_of_mem _ hx))
            have hb := hl b List.mem_cons_self
            refine ⟨by simp [g1], by simp; omega, fun x hx => ?_, fun k b' hk => ?_⟩
            · have : x ≠ b := fun e => hx (e ▸ List.mem_cons_self)
              rw [List.getElem?_set_ne (Ne.symm this)]
              exact g3 x fun h => hx (List.mem_cons_of_mem _ h)
            · cases k with
              | zero => simp at hk; subst hk; exact ⟨cs, by simp, by rw [List.getElem?_set_self (by omega)], hm⟩
              | succ k =>
                have hk' : l[k]? = some b' := by simpa using hk
                obtain ⟨cs', q1, q2, q3⟩ := g4 k b' hk'
                have : b' ≠ b := fun e => hn1 (e ▸ List.mem_of_getElem? hk')
                exact ⟨cs', by simpa using q1, by rw [List.getElem?_set_ne (Ne.symm this)]; exact q2, q3⟩
        · rw [if_neg hm] at e; cases e

theorem plain_real {X : Ctx} {b : Nat} {k : Blk} (hp : k.plain = true) (h : BlkRep X b k) : ∃ n, X.σ b = some n := by
  cases k with
  | cells cs => obtain ⟨n, _, _, e, _⟩ := h; exact ⟨n, e⟩
  | big cs k N l => obtain ⟨n, _, _, _, e, _⟩ := h; exact ⟨n, e⟩
  | _ => cases hp
theorem plain_move {X X' : Ctx} {b b' : Nat} {k : Blk} (hp : k.plain = true) (h : BlkRep X b k) (hσ : X'.σ b' = X.σ b) (hw : ∀ n, X.σ b = some n → X'.w.heap[n]? = X.w.heap[n]?)
    (hM : ∀ n, X.M n → X'.M n) (hc : ∀ a : Addr, X.M a.block → X'.w.cell? a = X.w.cell? a) (hy : X'.y = X.y) : BlkRep X' b' k := by
  cases k with
  | cells cs =>
    obtain ⟨n, c, T, e1, e2, e3⟩ := h
    exact ⟨n, c, T, by rw [hσ]; exact e1, by rw [hw n e1]; exact e2, e3.noMen (by simpa [Blk.plain] using hp) hM hc hy⟩
  | big cs k N l =>
    obtain ⟨n, c, T, vs, e1, e2, e3, e4, e5⟩ := h
    exact ⟨n, c, T, vs, by rw [hσ]; exact e1, by rw [hw n e1]; exact e2, e3.noMen (by simpa [Blk.plain] using hp) hM hc hy, e4, e5⟩
  | _ => cases hp
theorem plain_solid {k : Blk} (hp : k.plain = true) : k.solid = true ∧ k.mut = true ∧ (∀ e sh l, k ≠ .vec e sh l ∧ k ≠ .frz e sh l) := by
  cases k <;> first | (cases hp; done) | exact ⟨rfl, rfl, fun _ _ _ => ⟨(nomatch ·), (nomatch ·)⟩⟩

theorem callSpec_sound {E : Env} {P : Program} {f : FuncId} {G : Contract} (hG : Spec P E.glob f G) {args : List AV} {st : St} {r : AV × St} {B : Base} {X : Ctx} {a : Act} {vargs : List Value}
    (hsim : Sim E B X st a) (hargs : RepL X args vargs) (h : (callSpec G args st).run = some r) :
    Calls P f vargs.toArray X.w fun e w' => ∃ v X', e = .returned v ∧ X'.w = w' ∧ Rep X' r.1 v ∧ Sim E B X' r.2 a := by
  unfold callSpec at h
  obtain ⟨X1, fz⟩ := prepCall_good args hsim.hs
  rw [← hsim.h] at h
  rw [← fz.h] at h
  simp only at h
  have hs1 := fz.hs
  generalize hfp : dedup (AV.menL (AV.lendL X1.h args)) = fp at h
  have hnd : fp.Nodup := hfp ▸ dedup_nodup _
  cases htk : takeBlks X1.h fp with
  | none => rw [htk] at h; cases h
  | some hin =>
    rw [htk] at h
    obtain ⟨r0, h1, h2⟩ := bind_some h
    cases hput : putBlks X1.h fp r0.2 with
    | none => rw [hput] at h2; cases h2
    | some hh2 =>
      rw [hput] at h2; cases h2
      obtain ⟨k1, k2⟩ := takeBlks_spec htk
      have hfpl : ∀ b ∈ fp, b < X1.h.length := by
        intro b hb
        obtain ⟨k, hk⟩ := List.getElem?_of_mem hb
        obtain ⟨cs, q1, _⟩ := k2 k b hk
        exact lt_of_get q1
      obtain ⟨p1, p2, p3, p4⟩ := putBlks_spec hput hnd hfpl
      -- what a handed block is
      have hcell : ∀ (k b : Nat), fp[k]? = some b → ∃ cs n, X1.h[b]? = some cs ∧ hin[k]? = some cs ∧ cs.plain = true ∧ X1.σ b = some n ∧ X1.own b n := by
        intro k b hk
        obtain ⟨cs, q1, q2, q3⟩ := k2 k b hk
        obtain ⟨n, e1⟩ := plain_real q3 (hs1.blk b _ q1)
        exact ⟨cs, n, q1, q2, q3, e1, e1, _, q1, (plain_solid q3).2.1⟩
      -- the callee's view
      let X0 : Ctx := { σ := fun k => (fp[k]?).bind X1.σ, h := hin, w := X1.w, M := X1.M, y := X1.y }
      let B0 : Base := { w0 := X1.w, imps := (List.range hin.length).map X0.σ, M0 := X1.M, fs := [] }
      have hget0 : ∀ (k : Nat) (blk : Blk), X0.h[k]? = some blk → ∃ (b : Nat) (cs : Blk) (n : Nat), fp[k]? = some b ∧ blk = cs ∧ X1.h[b]? = some cs ∧ cs.plain = true ∧ X1.σ b = some n ∧ X1.own b n := by
        intro k blk hk
        have hlt : k < fp.length := by rw [← k1]; exact lt_of_get hk
        have hfk : fp[k]? = some fp[k] := List.getElem?_eq_getElem hlt
        obtain ⟨cs, n, q1, q2, q3, q4, q5⟩ := hcell k _ hfk
        have : blk = cs := by
          have hk' : hin[k]? = some blk := hk
          rw [q2] at hk'; exact (Option.some.inj hk').symm
        exact ⟨fp[k], cs, n, hfk, this, q1, q3, q4, q5⟩
      have hσ0 : ∀ (k b : Nat), fp[k]? = some b → X0.σ k = X1.σ b := by intro k b hk; show (fp[k]?).bind X1.σ = _; rw [hk]; rfl
      have hown0 : ∀ (k n : Nat), X0.own k n → ∃ b : Nat, fp[k]? = some b ∧ X1.own b n := by
        intro k n ⟨e1, blk, e2, e3⟩
        obtain ⟨b, cs, n', q1, q2, q3, q4, q5, q6⟩ := hget0 k blk e2
        rw [hσ0 k b q1, q5] at e1; cases e1
        exact ⟨b, q1, q6⟩
      have hs0 : HSim B0 X0 := by
        constructor
        · intro k blk hk
          obtain ⟨b, cs, n, q1, q2, q3, q4, q5, q6⟩ := hget0 k blk hk
          subst q2
          exact plain_move q4 (hs1.blk b _ q3) (hσ0 k b q1) (fun _ _ => rfl) (fun _ h => h) (fun _ _ => rfl) rfl
        · intro k k' n hk hk'
          obtain ⟨b, q1, q2⟩ := hown0 k n hk
          obtain ⟨b', q3, q4⟩ := hown0 k' n hk'
          have := hs1.inj b b' n q2 q4
          subst this
          have hlt := lt_of_get q1
          exact (List.getElem?_inj hlt hnd).1 (q1.trans q3.symm)
        · intro k n hk
          obtain ⟨b, _, q2⟩ := hown0 k n hk
          exact hs1.notM b n q2
        · exact hs1.ltM
        · exact fun n hn => hn
        · exact fun n hn => .inl hn
        · rfl
        · rfl
        · rfl
        · exact Nat.le_refl _
        · intro _ _ _; rfl
        · intro k hk
          have hk' : k < hin.length := by simpa [B0] using hk
          simp [B0, hk']
        · intro k hk
          have hk' : k < hin.length := by simpa [B0] using hk
          obtain ⟨b, cs, n, q1, q2, q3, q4, q5, q6⟩ := hget0 k _ (List.getElem?_eq_getElem hk')
          exact ⟨cs, by rw [← q2]; exact List.getElem?_eq_getElem hk', (plain_solid q4).1⟩
        · intro k n hk hk2
          obtain ⟨b, q1, _⟩ := hown0 k n hk
          have : k < hin.length := by rw [k1]; exact lt_of_get q1
          simp [B0] at hk2; omega
        · intro p hp; cases hp
      have hent : Entry B0 X0 := ⟨rfl, rfl, fun _ h => h⟩
      have hgl : GlobOk E.glob X0 := by
        intro x hx
        obtain ⟨⟨sh, l, i, off, he⟩, hr⟩ := hsim.glob x hx
        refine ⟨⟨sh, l, i, off, he⟩, ?_⟩
        have h3 := hr.ext fz.ext
        rw [he] at h3 ⊢
        exact h3.noMen rfl (fun _ h => h) (fun _ _ => rfl)
      have hmove : Move0 X1 X0 (idxOf fp) := by
        refine ⟨fun _ h => h, fun _ _ => rfl, fun b k hb hk => ?_, rfl⟩
        have hfk := idxOf_spec hk
        have hnv : ∀ sh m, ¬ X0.isVec k sh m := by
          intro sh m ⟨e, l, q1, _⟩
          rcases q1 with q1 | q1 <;> obtain ⟨_, _, _, _, q2, _, q4, _⟩ := hget0 k _ q1 <;> subst q2 <;> cases q4
        exact ⟨by show k < hin.length; rw [k1]; exact lt_of_get hfk, hσ0 k b hfk, fun sh m hv => absurd hv (hnv sh m), fun sh m hv => absurd hv (hnv sh m)⟩
      have hrep0 : RepL X0 (AV.renL (idxOf fp) (AV.lendL X1.h args)) vargs := (lend_repL hs1 (hargs.ext fz.ext)).ren hmove
      have hcalls := hG.2 B0 X0 _ vargs r0 hs0 hent hgl hrep0 h1
      have hw1 : X0.w = X.w := fz.w
      rw [hw1] at hcalls
      refine hcalls.mono fun e w' ⟨v, X0', e1, e2, e3, e4, e5, e6⟩ => ?_
      -- back in the caller's view
      have hB0 : B0.imps.length = fp.length := by simp [B0, k1]
      have hσ0' : ∀ (k b : Nat), fp[k]? = some b → X0'.σ k = X1.σ b := by
        intro k b hk
        have hlt := lt_of_get hk
        have := e5.imps k (by rw [hB0]; exact hlt)
        rw [this, ← hσ0 k b hk]
        have hk' : k < hin.length := by omega
        simp [B0, hk']
      let X' : Ctx := { σ := fun b => if b < X1.h.length then X1.σ b else X0'.σ (fp.length + (b - X1.h.length)), h := hh2 ++ (r0.2.drop fp.length).map (Blk.ren (backOf fp X1.h.length)), w := X0'.w, M := X0'.M, kept := X1.kept, y := X1.y }
      have hM01 : ∀ n, X1.M n → X0'.M n := fun n hn => e5.M0 n hn
      have himp : ∀ n, some n ∈ B0.imps → ∃ (k b : Nat), fp[k]? = some b ∧ X1.own b n := by
        intro n hn
        obtain ⟨k, hk, hk2⟩ := List.mem_map.1 hn
        have hk' : k < fp.length := by rw [← k1]; simpa using hk
        have hfk : fp[k]? = some fp[k] := List.getElem?_eq_getElem hk'
        obtain ⟨cs, n', q1, q2, q3, q4, q5⟩ := hcell k _ hfk
        rw [hσ0 k _ hfk, q4] at hk2; cases hk2
        exact ⟨k, _, hfk, q5⟩
      have hkeep : ∀ n, n < X1.w.heap.size → (∀ (k b : Nat), fp[k]? = some b → ¬ X1.own b n) → X0'.w.heap[n]? = X1.w.heap[n]? := by
        intro n hn hno
        refine e5.frame n hn fun hm => ?_
        obtain ⟨k, b, q1, q2⟩ := himp n hm
        exact hno k b q1 q2
      have hh2l : hh2.length = X1.h.length := p1
      have hget' : ∀ (b : Nat) (blk : Blk), X'.h[b]? = some blk →
          (b < X1.h.length ∧ b ∉ fp ∧ X1.h[b]? = some blk) ∨ (b < X1.h.length ∧ ∃ (k : Nat) (cs : Blk), fp[k]? = some b ∧ blk = cs ∧ X0'.h[k]? = some cs ∧ cs.plain = true) ∨
          (X1.h.length ≤ b ∧ ∃ k0, X0'.h[fp.length + (b - X1.h.length)]? = some k0 ∧ blk = k0.ren (backOf fp X1.h.length)) := by
        intro b blk hb
        have hb' : (hh2 ++ (r0.2.drop fp.length).map (Blk.ren (backOf fp X1.h.length)))[b]? = some blk := hb
        rcases Nat.lt_or_ge b X1.h.length with hlt | hge
        · rw [List.getElem?_append_left (by omega)] at hb'
          by_cases hbf : b ∈ fp
          · obtain ⟨k, hk⟩ := List.getElem?_of_mem hbf
            obtain ⟨cs, q1, q2, q3⟩ := p4 k b hk
            rw [q2] at hb'; cases hb'
            exact .inr (.inl ⟨hlt, k, blk, hk, rfl, by rw [e4]; exact q1, q3⟩)
          · rw [p3 b hbf] at hb'
            exact .inl ⟨hlt, hbf, hb'⟩
        · rw [List.getElem?_append_right (by omega), List.getElem?_map, List.getElem?_drop] at hb'
          refine .inr (.inr ⟨hge, ?_⟩)
          rw [hh2l] at hb'
          cases hq : r0.2[fp.length + (b - X1.h.length)]? with
          | none => rw [hq] at hb'; cases hb'
          | some k0 =>
            rw [hq] at hb'
            simp only [Option.map_some, Option.some.injEq] at hb'
            exact ⟨k0, by rw [e4]; exact hq, hb'.symm⟩
      have hσlt : ∀ b, b < X1.h.length → X'.σ b = X1.σ b := fun b hb => by show (if b < X1.h.length then _ else _) = _; rw [if_pos hb]
      have hσge : ∀ b, X1.h.length ≤ b → X'.σ b = X0'.σ (fp.length + (b - X1.h.length)) := fun b hb => by show (if b < X1.h.length then _ else _) = _; rw [if_neg (by omega)]
      have hnotin : ∀ b n, b ∉ fp → X1.own b n → ∀ (k b' : Nat), fp[k]? = some b' → ¬ X1.own b' n := by
        intro b n hb ho k b' hk ho'
        exact hb (hs1.inj b b' n ho ho' ▸ List.mem_of_getElem? hk)
      have hMnot : ∀ n, X1.M n → ∀ (k b' : Nat), fp[k]? = some b' → ¬ X1.own b' n := fun n hn k b' _ ho => hs1.notM b' n ho hn
      have hsz := e5.size
      -- the callee's values in the caller's view
      have hback : Move0 X0' X' (backOf fp X1.h.length) := by
        refine ⟨fun _ h => h, fun _ _ => rfl, fun k b hk hf => ?_, e6.symm⟩
        simp only [backOf] at hf
        by_cases hlt : k < fp.length
        · rw [if_pos hlt] at hf
          have hbl := hfpl b (List.mem_of_getElem? hf)
          have hnv : ∀ sh m, ¬ X'.isVec b sh m := by
            intro sh m ⟨e, l, q1, _⟩
            rcases q1 with q1 | q1 <;> rcases hget' b _ q1 with ⟨_, h3, _⟩ | ⟨_, _, _, _, h3, _, h3p⟩ | ⟨h3, _⟩ <;>
              first | omega | exact absurd (List.mem_of_getElem? hf) h3 | (subst h3; cases h3p)
          exact ⟨by show b < List.length (_ ++ _); simp; omega, by rw [hσlt b hbl, hσ0' k b hf], fun sh m hv => absurd hv (hnv sh m), fun sh m hv => absurd hv (hnv sh m)⟩
        · rw [if_neg hlt] at hf; cases hf
          have hk2 : k < r0.2.length := by rw [← e4]; exact hk
          have hidx : fp.length + (X1.h.length + (k - fp.length) - X1.h.length) = k := by omega
          refine ⟨?_, ?_, fun sh m ⟨e, l, q1, q2⟩ => ?_, fun sh m _ n hn c T fr hc => ⟨c, T, fr, hc, rfl⟩⟩
          · show _ < List.length (_ ++ _); simp; omega
          · rw [hσge _ (by omega), hidx]
          · rcases q1 with q1 | q1 <;> rcases hget' _ _ q1 with ⟨h3, _⟩ | ⟨h3, _⟩ | ⟨_, k0, h3, h4⟩ <;> first | omega | skip
            · rw [hidx] at h3
              rcases ren_vec (.inl h4) with rfl | rfl
              · exact ⟨e, l, .inl h3, q2⟩
              · exact ⟨e, l, .inr h3, q2⟩
            · rw [hidx] at h3
              rcases ren_vec (.inr h4) with rfl | rfl
              · exact ⟨e, l, .inl h3, q2⟩
              · exact ⟨e, l, .inr h3, q2⟩
      -- the caller's own values
      have hext : Ext X1 X' := by
        refine Move.of hM01 (fun ad had => World.cell?_of_block (hkeep _ (hs1.ltM _ had) (hMnot _ had))) (fun b b' hb hf => ?_)
        cases hf
        have hvec : ∀ sh m, X'.isVec b sh m → b ∉ fp ∧ X1.isVec b sh m := by
          intro sh m ⟨e, l, q1, q2⟩
          rcases q1 with q1 | q1 <;> rcases hget' b _ q1 with ⟨_, h3, h4⟩ | ⟨_, _, _, _, h3, _, h3p⟩ | ⟨h3, _⟩ <;> first | omega | (subst h3; cases h3p; done) | skip
          · exact ⟨h3, e, l, .inl h4, q2⟩
          · exact ⟨h3, e, l, .inr h4, q2⟩
        refine ⟨by show _ < List.length (_ ++ _); simp; omega, hσlt b hb, fun sh m hv => (hvec sh m hv).2, fun sh m hv n hn c T fr hc => ⟨c, T, fr, ?_, rfl⟩⟩
        obtain ⟨h3, e, l, h4, _⟩ := hvec sh m hv
        refine (hkeep n (Array.getElem?_eq_some_iff.1 hc).1 ?_).trans hc
        rcases h4 with h4 | h4
        · exact hnotin b n h3 ⟨hn, _, h4, rfl⟩
        · rcases hs1.blk b _ h4 with ⟨h5, _⟩ | ⟨n', c', h5, _, _, h6⟩
          · rw [hn] at h5; cases h5
          · rw [hn] at h5; cases h5; exact hMnot n h6
      have hown' : ∀ (b n : Nat), X'.own b n → (b < X1.h.length ∧ X1.own b n) ∨ (X1.h.length ≤ b ∧ X0'.own (fp.length + (b - X1.h.length)) n) := by
        intro b n ⟨q1, blk, q2, q3⟩
        rcases hget' b blk q2 with ⟨h3, _, h4⟩ | ⟨h3, k, cs, h4, h5, _, _⟩ | ⟨h3, k0, h4, h5⟩
        · exact .inl ⟨h3, by rw [← hσlt b h3]; exact q1, blk, h4, q3⟩
        · obtain ⟨cs', n', w1, _, _, w4, w5⟩ := hcell k b h4
          rw [hσlt b h3, w4] at q1; cases q1
          exact .inl ⟨h3, w5⟩
        · subst h5
          exact .inr ⟨h3, by rw [← hσge b h3]; exact q1, k0, h4, by rwa [Blk.mut_ren] at q3⟩
      have hnewge : ∀ k n, fp.length ≤ k → X0'.own k n → X1.w.heap.size ≤ n := fun k n hk ho => e5.fresh k n ho (by rw [hB0]; exact hk)
      have hs' : HSim B X' := by
        constructor
        · intro b blk hb
          rcases hget' b blk hb with ⟨h3, h4, h5⟩ | ⟨h3, k, cs, h4, h5, h6, h7⟩ | ⟨h3, k0, h4, h5⟩
          · by_cases hd : blk = .dead
            · subst hd; trivial
            · refine BlkRep.ext hext (hσlt b h3) (fun n hn => hkeep n (hs1.lt h5 hd hn) ?_) (hs1.blk b blk h5)
              by_cases hm1 : blk.mut = true
              · exact hnotin b n h4 ⟨hn, blk, h5, hm1⟩
              · cases blk with
                | cells => exact absurd rfl hm1
                | big => exact absurd rfl hm1
                | vec => exact absurd rfl hm1
                | dead => exact absurd rfl hd
                | frz e sh l =>
                  rcases hs1.blk b _ h5 with ⟨h6, _⟩ | ⟨n', c', h6, _, _, h7⟩
                  · rw [hn] at h6; cases h6
                  · rw [hn] at h6; cases h6; exact hMnot n h7
          · subst h5
            exact plain_move h7 (e5.blk k _ h6) (by rw [hσlt b h3, ← hσ0' k b h4]) (fun _ _ => rfl) (fun _ h => h) (fun _ _ => rfl) e6.symm
          · subst h5
            exact BlkRep.move hback (hσge b h3) (fun _ _ => rfl) (e5.blk _ k0 h4)
        · intro b b' n h3 h4
          rcases hown' b n h3 with ⟨w1, w2⟩ | ⟨w1, w2⟩ <;> rcases hown' b' n h4 with ⟨w3, w4⟩ | ⟨w3, w4⟩
          · exact hs1.inj b b' n w2 w4
          · have := hnewge _ n (by omega) w4
            have := Ctx.own.lt hs1 w2
            omega
          · have := hnewge _ n (by omega) w2
            have := Ctx.own.lt hs1 w4
            omega
          · have := e5.inj _ _ n w2 w4; omega
        · intro b n h3 h4
          rcases hown' b n h3 with ⟨w1, w2⟩ | ⟨w1, w2⟩
          · rcases e5.newM n h4 with h5 | h5
            · exact hs1.notM b n w2 h5
            · have h6 : X1.w.heap.size ≤ n := h5
              have := Ctx.own.lt hs1 w2
              omega
          · exact e5.notM _ n w2 h4
        · exact e5.ltM
        · exact fun n hn => hM01 n (hs1.M0 n hn)
        · intro n hn
          rcases e5.newM n hn with h5 | h5
          · exact hs1.newM n h5
          · have h6 : X1.w.heap.size ≤ n := h5
            have := hs1.size
            exact .inr (by omega)
        · exact e5.os.trans hs1.os
        · exact e5.tape.trans hs1.tape
        · exact e5.output.trans hs1.output
        · have h6 : X1.w.heap.size ≤ X0'.w.heap.size := hsz
          have := hs1.size
          show B.w0.heap.size ≤ X0'.w.heap.size
          omega
        · intro n hn hni
          have h6 := hs1.size
          have : X0'.w.heap[n]? = X1.w.heap[n]? := by
            refine hkeep n (by omega) fun k b hk ho => ?_
            rcases Nat.lt_or_ge b B.imps.length with hlt | hge
            · have h7 := hs1.imps b hlt
              rw [ho.1, List.getElem?_eq_getElem hlt] at h7
              simp at h7
              exact hni (h7 ▸ List.getElem_mem hlt)
            · have := hs1.fresh b n ho hge; omega
          exact this.trans (hs1.frame n hn hni)
        · intro b hb
          have := hs1.hlen
          rw [hσlt b (by omega)]; exact hs1.imps b hb
        · intro b hb
          have := hs1.hlen
          obtain ⟨cs, h3, h3s⟩ := hs1.impc b hb
          by_cases hbf : b ∈ fp
          · obtain ⟨k, hk⟩ := List.getElem?_of_mem hbf
            obtain ⟨cs', q1, q2, q3⟩ := p4 k b hk
            exact ⟨cs', by show (_ ++ _)[b]? = _; rw [List.getElem?_append_left (by omega)]; exact q2, (plain_solid q3).1⟩
          · exact ⟨cs, by show (_ ++ _)[b]? = _; rw [List.getElem?_append_left (by omega), p3 b hbf]; exact h3, h3s⟩
        · intro b n h3 h4
          rcases hown' b n h3 with ⟨w1, w2⟩ | ⟨w1, w2⟩
          · exact hs1.fresh b n w2 h4
          · have := hnewge _ n (by omega) w2
            have := hs1.size
            omega
        · intro p hp
          obtain ⟨q1, q2, q3⟩ := hs1.kept p hp
          refine ⟨(hkeep p.1 (Array.getElem?_eq_some_iff.1 q1).1 fun k b _ ho => ?_).trans q1, q2, q3⟩
          obtain ⟨c, T, fr, hc⟩ := ho.cells hs1
          rw [hc] at q1
          exact q2 _ _ _ (Option.some.inj q1).symm
      exact ⟨v, X', e1, e2, e3.ren hback, (hsim.ext fz.ext hs1).ext hext hs'⟩

end Go.Eng
