/-
  BuildFits: the walk, with the fixed calls.
-/
import Derived.Test.YtfoidiebdklggaaFt
import Derived.Test.YtfoidiebdklggaaFd
open Go Go.RowKit
namespace Go.Proofs.Ytfoidiebdklggaa

theorem u8_wf {n : Int} (h : (Lit.int .u8 n).wf = true) : 0 ≤ n := by
  simp [Lit.wf, IntKind.min, IntKind.max, IntKind.bits, IntKind.signed] at h
  omega
theorem buildFits.walk {W : World} (last : Int) (h : (Lit.int .u8 last).wf = true) : Calls Try.prog 7 #[.int .u8 last] W fun e w' => e = .returned (.bool true) ∧ Below W.heap.size W w' := buildFits.walk0 fixed_any last (u8_wf h)
end Go.Proofs.Ytfoidiebdklggaa
