/-
  No cell of these rows narrows 'for every input' (looked for: loops, veiled, ifaces, maps, wideKeys, modest, calm, conditions, laid).
  DERIVED. THE GIVEN ROWS OF THIS SEAT. 4 by the template 'for every input the law returns true; each argument reads behind the call as it read before'; 0 by the template 'total and deterministic' (their statements: YtokccncaclphhaaTotals.lean).
  GIVEN WITH THE SEED: the statements are not yours to turn. If you find one false, say at which input.
  Laid BY PROGRAM, IN A SANDBOX (cutbox-rows.mjs): the forced cells as the released guide's own fill.sh prints them over the translation 0e71c5f003f1bdee… (all of the seat's roots in one cut). By AI agents, Wed Nov 11 2026. No macro, syntax, notation, axiom, sorry.
-/
import Derived.Test.YtokccncaclphhaaChecked
import GoSem.Claim
import GoSem.ClaimJoined
import GoSem.ClaimMapViews
import Derived.JoinedTies
import Derived.KernelRfl
namespace Go.Proofs.Ytokccncaclphhaa
/- THE CELL 'sum', in the pinned program and in every row, IS THE sha256 OF THE DUMP (.gsa) THAT YtokccncaclphhaaProg.lean LOADS. Nothing in Lean hashes anything: it is a label: what it is worth is what the hold of that sum in a sandbox is worth. -/
noncomputable def Try.pinned : Pinned := { name := "ytokccncaclphhaa", sum := "0e71c5f003f1bdeee162c4221ebc69cf43d91266b3653c883e5d89ba80c9ab78", checked := Try.checked }
namespace Rows
def none {H : Type} : Left H := { results := [], args := [] }

/-- 'budwoodlaw22.RateDoes': WHATEVER THE INPUT: true; the input reads as it did. -/
def rateDoesSpec : ChangeSpec := { name := "rateDoes", fn := fun _ => fun
  | [d1, d2, d3] => { results := [.lit (.bool true)], args := [d1, d2, d3] }
  | _ => none }
def rateDoesRow : OpenClaim := { program := "ytokccncaclphhaa", sum := "0e71c5f003f1bdeee162c4221ebc69cf43d91266b3653c883e5d89ba80c9ab78", func := "budwood/budwoodlaw22.RateDoes", spec := "rateDoes", apart := false }
def RateDoesSaid : Prop := rateDoesRow.holds Try.pinned (OpenSpec.ofChange rateDoesSpec)

/-- ITS FALSE NEIGHBOUR: 'it returns false'. Refute it at one input. -/
def rateDoesWrong : ChangeSpec := { name := "rateDoes", fn := fun _ => fun
  | [d1, d2, d3] => { results := [.lit (.bool false)], args := [d1, d2, d3] }
  | _ => none }
def RateDoesWrongFalsely : Prop := rateDoesRow.holds Try.pinned (OpenSpec.ofChange rateDoesWrong)

/-- 'budwoodlaw22.RateHolds': WHATEVER THE INPUT: true; the input reads as it did. -/
def rateHoldsSpec : ChangeSpec := { name := "rateHolds", fn := fun _ => fun
  | [d1, d2, d3] => { results := [.lit (.bool true)], args := [d1, d2, d3] }
  | _ => none }
def rateHoldsRow : OpenClaim := { program := "ytokccncaclphhaa", sum := "0e71c5f003f1bdeee162c4221ebc69cf43d91266b3653c883e5d89ba80c9ab78", func := "budwood/budwoodlaw22.RateHolds", spec := "rateHolds", apart := false }
def RateHoldsSaid : Prop := rateHoldsRow.holds Try.pinned (OpenSpec.ofChange rateHoldsSpec)

/-- ITS FALSE NEIGHBOUR: 'it returns false'. Refute it at one input. -/
def rateHoldsWrong : ChangeSpec := { name := "rateHolds", fn := fun _ => fun
  | [d1, d2, d3] => { results := [.lit (.bool false)], args := [d1, d2, d3] }
  | _ => none }
def RateHoldsWrongFalsely : Prop := rateHoldsRow.holds Try.pinned (OpenSpec.ofChange rateHoldsWrong)

/-- 'budwoodlaw22.RateWaits': WHATEVER THE INPUT: true; the input reads as it did. -/
def rateWaitsSpec : ChangeSpec := { name := "rateWaits", fn := fun _ => fun
  | [d1, d2, d3] => { results := [.lit (.bool true)], args := [d1, d2, d3] }
  | _ => none }
def rateWaitsRow : OpenClaim := { program := "ytokccncaclphhaa", sum := "0e71c5f003f1bdeee162c4221ebc69cf43d91266b3653c883e5d89ba80c9ab78", func := "budwood/budwoodlaw22.RateWaits", spec := "rateWaits", apart := false }
def RateWaitsSaid : Prop := rateWaitsRow.holds Try.pinned (OpenSpec.ofChange rateWaitsSpec)

/-- ITS FALSE NEIGHBOUR: 'it returns false'. Refute it at one input. -/
def rateWaitsWrong : ChangeSpec := { name := "rateWaits", fn := fun _ => fun
  | [d1, d2, d3] => { results := [.lit (.bool false)], args := [d1, d2, d3] }
  | _ => none }
def RateWaitsWrongFalsely : Prop := rateWaitsRow.holds Try.pinned (OpenSpec.ofChange rateWaitsWrong)

/-- 'budwoodlaw22.RateIdle': WHATEVER THE INPUT: true; the input reads as it did. -/
def rateIdleSpec : ChangeSpec := { name := "rateIdle", fn := fun _ => fun
  | [d1, d2, d3] => { results := [.lit (.bool true)], args := [d1, d2, d3] }
  | _ => none }
def rateIdleRow : OpenClaim := { program := "ytokccncaclphhaa", sum := "0e71c5f003f1bdeee162c4221ebc69cf43d91266b3653c883e5d89ba80c9ab78", func := "budwood/budwoodlaw22.RateIdle", spec := "rateIdle", apart := false }
def RateIdleSaid : Prop := rateIdleRow.holds Try.pinned (OpenSpec.ofChange rateIdleSpec)

/-- ITS FALSE NEIGHBOUR: 'it returns false'. Refute it at one input. -/
def rateIdleWrong : ChangeSpec := { name := "rateIdle", fn := fun _ => fun
  | [d1, d2, d3] => { results := [.lit (.bool false)], args := [d1, d2, d3] }
  | _ => none }
def RateIdleWrongFalsely : Prop := rateIdleRow.holds Try.pinned (OpenSpec.ofChange rateIdleWrong)

/- THE SECOND FORM. 'bulk': how many values and letters a reading holds, each counted each time it is reached (what is shared counts as often as it is met; a slice's spare places count too). A statement '..UptoSaid' is the law's where the arguments, and the package variables that the reading takes, are together of bulk at most 1048576: NARROWER than '..Said'. Prove '..Said' where nothing that the law and all that it calls make is longer than what came in: it says more and counts as full. Else prove '..UptoSaid'. A law counts once. -/
mutual
def uptoBulk {H : Type} : DataW H → Nat
  | .lit (.string bytes) => bytes.length + 1
  | .lit _ => 1
  | .nil => 1
  | .ptr d => uptoBulk d + 1
  | .slice elems spare => uptoBulkAll elems + uptoBulkAll spare + 1
  | .agg parts => uptoBulkAll parts + 1
  | .iface _ d => uptoBulk d + 1
  | .map entries => uptoBulkEntries entries + 1
  | .held _ => 1
def uptoBulkAll {H : Type} : List (DataW H) → Nat
  | [] => 0
  | d :: r => uptoBulk d + uptoBulkAll r
def uptoBulkEntries {H : Type} : List (Lit × DataW H) → Nat
  | [] => 0
  | x :: r => uptoBulkEntry x + uptoBulkEntries r
def uptoBulkEntry {H : Type} : Lit × DataW H → Nat
  | (.string bytes, d) => bytes.length + uptoBulk d + 1
  | (_, d) => uptoBulk d + 1
 end
def uptoSmall : (H : Type) → List (DataW H) → Bool := fun _ ds => decide (uptoBulkAll ds ≤ 1048576)
def OpenSpec.upto (s : _root_.Go.ChangeSpec) : _root_.Go.OpenSpec := { _root_.Go.OpenSpec.ofChange s with cond := some uptoSmall }

/-- 'budwoodlaw22.RateDoes', WHERE WHAT IT READS IS OF BULK AT MOST 1048576: true; the input reads as it did. -/
def rateDoesUptoRow : OpenClaim := { program := "ytokccncaclphhaa", sum := "0e71c5f003f1bdeee162c4221ebc69cf43d91266b3653c883e5d89ba80c9ab78", func := "budwood/budwoodlaw22.RateDoes", spec := "rateDoes", apart := false, narrowed := true }
def RateDoesUptoSaid : Prop := rateDoesUptoRow.holds Try.pinned (OpenSpec.upto rateDoesSpec)

/-- 'budwoodlaw22.RateHolds', WHERE WHAT IT READS IS OF BULK AT MOST 1048576: true; the input reads as it did. -/
def rateHoldsUptoRow : OpenClaim := { program := "ytokccncaclphhaa", sum := "0e71c5f003f1bdeee162c4221ebc69cf43d91266b3653c883e5d89ba80c9ab78", func := "budwood/budwoodlaw22.RateHolds", spec := "rateHolds", apart := false, narrowed := true }
def RateHoldsUptoSaid : Prop := rateHoldsUptoRow.holds Try.pinned (OpenSpec.upto rateHoldsSpec)

/-- 'budwoodlaw22.RateWaits', WHERE WHAT IT READS IS OF BULK AT MOST 1048576: true; the input reads as it did. -/
def rateWaitsUptoRow : OpenClaim := { program := "ytokccncaclphhaa", sum := "0e71c5f003f1bdeee162c4221ebc69cf43d91266b3653c883e5d89ba80c9ab78", func := "budwood/budwoodlaw22.RateWaits", spec := "rateWaits", apart := false, narrowed := true }
def RateWaitsUptoSaid : Prop := rateWaitsUptoRow.holds Try.pinned (OpenSpec.upto rateWaitsSpec)

/-- 'budwoodlaw22.RateIdle', WHERE WHAT IT READS IS OF BULK AT MOST 1048576: true; the input reads as it did. -/
def rateIdleUptoRow : OpenClaim := { program := "ytokccncaclphhaa", sum := "0e71c5f003f1bdeee162c4221ebc69cf43d91266b3653c883e5d89ba80c9ab78", func := "budwood/budwoodlaw22.RateIdle", spec := "rateIdle", apart := false, narrowed := true }
def RateIdleUptoSaid : Prop := rateIdleUptoRow.holds Try.pinned (OpenSpec.upto rateIdleSpec)

end Rows
end Go.Proofs.Ytokccncaclphhaa
