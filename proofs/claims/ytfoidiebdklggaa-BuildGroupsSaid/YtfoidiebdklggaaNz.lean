/-
  BuildNeed, BuildEven, BuildGroups: the walks, with the fixed calls.
-/
import Derived.Test.YtfoidiebdklggaaRg
import Derived.Test.YtfoidiebdklggaaFd
open Go Go.RowKit
namespace Go.Proofs.Ytfoidiebdklggaa

theorem buildNeed.walk {W : World} (n most : Int) : Calls Try.prog 8 #[.int .i64 n, .int .i64 most] W fun e w' => e = .returned (.bool true) ∧ Below W.heap.size W w' := buildNeed.walk0 fixed_any n most
theorem buildEven.walk {W : World} (n most : Int) : Calls Try.prog 5 #[.int .i64 n, .int .i64 most] W fun e w' => e = .returned (.bool true) ∧ Below W.heap.size W w' := buildEven.walk0 fixed_any n most
theorem buildGroups.walk {W : World} (n m : Int) : Calls Try.prog 4 #[.int .i64 n, .int .i64 m] W fun e w' => e = .returned (.bool true) ∧ Below W.heap.size W w' := buildGroups.walk0 fixed_any n m
end Go.Proofs.Ytfoidiebdklggaa
