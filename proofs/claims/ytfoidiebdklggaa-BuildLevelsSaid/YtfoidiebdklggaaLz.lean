/-
  BuildLevels: the walk, with the fixed calls.
-/
import Derived.Test.YtfoidiebdklggaaLl
import Derived.Test.YtfoidiebdklggaaFd
import Derived.Test.YtfoidiebdklggaaRowk
open Go Go.RowKit
namespace Go.Proofs.Ytfoidiebdklggaa

theorem buildLevels.walk {W : World} {v pv : Value} {K : List Kid} {P : List Int} (h : RdK W W.heap.size v K) (hp : RdI W W.heap.size pv P) (m : Int) : Calls Try.prog 3 #[v, .int .i64 m, pv] W fun e w' => e = .returned (.bool true) ∧ Below W.heap.size W w' := buildLevels.walk0 fixed_any h hp m
end Go.Proofs.Ytfoidiebdklggaa
