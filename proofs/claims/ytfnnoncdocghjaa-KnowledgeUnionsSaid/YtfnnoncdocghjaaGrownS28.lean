/- Calls in a region whose order is drawn. No statement of the seat is proved here. -/
import Derived.Test.YtfnnoncdocghjaaCompareDK
import Derived.Lib.QuietBelow
namespace Go.Proofs.Ytfnnoncdocghjaa
open Go.RowKit Go.Sort
set_option linter.unusedVariables false

theorem call_grownS {f : FuncId} {args : Array Value} {W : World} {d : Nat} {os : Array Obj} {v : Value} (h : ∀ X, Calls Try.prog f args X (ExtPost X v)) :
    Calls Try.prog f args (grow (redrawn W d) os) fun e w'' => e = .returned v ∧ ∃ p : Regrown, w'' = grow (redrawn W p.d) p.os := Calls.regrown_of (h _)
end Go.Proofs.Ytfnnoncdocghjaa
