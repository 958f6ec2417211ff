import Derived.Lib.LaidIn
namespace Go.Eng
/-- the cells of a listed variable's datum -/
def leafV : DataW Unit → List Value
  | .lit a => [a.value]
  | _ => []
def flatV : DataW Unit → List Value
  | .agg l => l.flatMap fun d => match d with
    | .agg m => m.flatMap leafV
    | x => leafV x
  | x => leafV x
/-- the text of a listed error -/
def errText : DataW Unit → ByteArray
  | .iface _ (.ptr (.agg [.lit (.string l)])) => ⟨l.toArray⟩
  | _ => ⟨#[]⟩
/-- a variable's cells laid -/
def putC (h : Array Obj) (g : Nat) (cs : Array Value) : Array Obj := h.modify g fun
  | .cells _ t frozen => .cells cs t frozen
  | o => o
end Go.Eng
