/-
  ShelfSwaps: the walk, beside the readings of what comes in.
-/
import Derived.Test.YtcblkdocbmpkeaaSq
import Derived.Test.YtcblkdocbmpkeaaRws
open Go Go.RowKit
namespace Go.Proofs.Ytcblkdocbmpkeaa

theorem shelfSwaps.walkz {W : World} {v u : Value} {L : List ByteArray} {P : List (Nat × Nat)} (h : RdS W W.heap.size v L) (hp : RdPr W W.heap.size u P) :
    Calls Try.prog 5 #[v, u] W fun e w' => e = .returned (.bool true) ∧ Below W.heap.size W w' := shelfSwaps.walk h hp
end Go.Proofs.Ytcblkdocbmpkeaa
