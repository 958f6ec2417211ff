/- ENGINE I. Walks in a round's frame: what is shown of an operation, or of a region, outside of rounds holds there, too. -/
import Derived.Calls
import Derived.Orders
import Derived.OrdersIn
import Derived.TacticsIn
import Derived.Tactics
import Derived.RangeFuncIn
import Derived.RangeFuncLeaves
namespace Go.Eng

/-- no fence; in a round of a loop, or in none -/
def wideR (ro : Option Nat) : Fence := { Fence.wide with round := ro }
theorem wideR_depth (ro : Option Nat) {n : Nat} : (wideR ro).depth.isSome = true → 1 ≤ n := fun h => by simp [wideR, Fence.wide] at h
theorem wideR_room (ro : Option Nat) (n : Nat) : (wideR ro).room n := fun _ h => by simp [wideR, Fence.wide] at h
theorem callsR {ro : Option Nat} {n : Nat} {P : Program} {f : FuncId} {args : Array Value} {w : World} {R : Ending → World → Prop} : CallsIn (wideR ro) n P f args w R ↔ Calls P f args w R :=
  (callsIn_wide (n := n))
theorem rowsR {ro : Option Nat} {n : Nat} {P : Program} {row : String} {args : Array Value} {w : World} {R : Value → World → Prop} (h : Rows P row args w R) : RowsIn (wideR ro) n P row args w R := by
  intro c cs _
  obtain ⟨v, w', h1, h2⟩ := h c cs
  exact ⟨v, w', h1, stepsIn_wide.2 h2⟩

theorem oper_in (ro : Option Nat) (n : Nat) {P : Program} {o : Oper} {a : Act} {w : World} {next : Act → World → Prop} {Q : Exit → Act → World → Prop} (h : o.wp P a w next Q) (hd : ∀ c, o.op ≠ .defer c) :
    o.wpIn (wideR ro) n P a w next Q := by
  refine ⟨fun _ _ => trivial, ?_⟩
  rw [show (wideR ro).round = ro from rfl, Oper.semAt_eq _ _ _ hd]
  unfold Oper.wp at h
  generalize (execOp a.eval o).run P w = r at h
  cases r with
  | ok x w' =>
    cases x with
    | value v => exact h
    | skip => exact h
    | defer d => exact h
    | enter f args => exact ⟨wideR_depth ro, callsR.2 h⟩
    | row row args => exact ⟨wideR_depth ro, rowsR h⟩
    | round l f tmps assign body => exact h.elim
    | _ => exact h
  | halt x w' => cases x <;> exact h

def noDefer (o : Oper) : Bool := match o.op with
  | .defer _ => false
  | _ => true
theorem noDefer_ne {o : Oper} (h : noDefer o = true) : ∀ c, o.op ≠ .defer c := fun c hc => by unfold noDefer at h; rw [hc] at h; cases h
end Go.Eng
