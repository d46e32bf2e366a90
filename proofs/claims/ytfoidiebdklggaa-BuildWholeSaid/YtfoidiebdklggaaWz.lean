/-
  BuildWhole: the walk, with the fixed calls.
-/
import Derived.Test.YtfoidiebdklggaaWh
import Derived.Test.YtfoidiebdklggaaFd
import Derived.Test.YtfoidiebdklggaaRowk
open Go Go.RowKit
namespace Go.Proofs.Ytfoidiebdklggaa

theorem buildWhole.walk {W : World} {v : Value} {K : List Kid} (h : RdK W W.heap.size v K) (most base : Int) : Calls Try.prog 6 #[v, .int .i64 most, .int .i64 base] W fun e w' => e = .returned (.bool true) ∧ Below W.heap.size W w' := buildWhole.walk0 fixed_any h most base
end Go.Proofs.Ytfoidiebdklggaa
