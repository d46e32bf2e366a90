/-
  No cell of these rows narrows 'for every input' (looked for: loops, veiled, ifaces, maps, wideKeys, modest, calm, conditions, laid).
  DERIVED. THE GIVEN ROWS OF THIS SEAT. 4 by the template 'for every input the law returns true; each argument reads behind the call as it read before'; 0 by the template 'total and deterministic' (their statements: YtcblkdocbmpkeaaTotals.lean).
  GIVEN WITH THE SEED: the statements are not yours to turn. If you find one false, say at which input.
  Laid BY PROGRAM, IN A SANDBOX (cutbox-rows.mjs): the forced cells as the released guide's own fill.sh prints them over the translation 28f074cfbdf07b3b… (all of the seat's roots in one cut). By AI agents, Wed Nov 11 2026. No macro, syntax, notation, axiom, sorry.
-/
import Derived.Test.YtcblkdocbmpkeaaChecked
import GoSem.Claim
import GoSem.ClaimJoined
import GoSem.ClaimMapViews
import Derived.JoinedTies
import Derived.KernelRfl
namespace Go.Proofs.Ytcblkdocbmpkeaa
/- THE CELL 'sum', in the pinned program and in every row, IS THE sha256 OF THE DUMP (.gsa) THAT YtcblkdocbmpkeaaProg.lean LOADS. Nothing in Lean hashes anything: it is a label: what it is worth is what the hold of that sum in a sandbox is worth. -/
noncomputable def Try.pinned : Pinned := { name := "ytcblkdocbmpkeaa", sum := "28f074cfbdf07b3b139527787e10ecc0931de39150c4d4026d0a3ab5058d6caf", checked := Try.checked }
namespace Rows
def none {H : Type} : Left H := { results := [], args := [] }

/-- 'budwoodlaw12.ShelfHolds': WHATEVER THE INPUT: true; the input reads as it did. -/
def shelfHoldsSpec : ChangeSpec := { name := "shelfHolds", fn := fun _ => fun
  | [d] => { results := [.lit (.bool true)], args := [d] }
  | _ => none }
def shelfHoldsRow : OpenClaim := { program := "ytcblkdocbmpkeaa", sum := "28f074cfbdf07b3b139527787e10ecc0931de39150c4d4026d0a3ab5058d6caf", func := "budwood/budwoodlaw12.ShelfHolds", spec := "shelfHolds", inPlace := ["maps.clone"], unfollowed := true, recurses := true, apart := false }
def ShelfHoldsSaid : Prop := shelfHoldsRow.holds Try.pinned (OpenSpec.ofChange shelfHoldsSpec)

/-- ITS FALSE NEIGHBOUR: 'it returns false'. Refute it at one input. -/
def shelfHoldsWrong : ChangeSpec := { name := "shelfHolds", fn := fun _ => fun
  | [d] => { results := [.lit (.bool false)], args := [d] }
  | _ => none }
def ShelfHoldsWrongFalsely : Prop := shelfHoldsRow.holds Try.pinned (OpenSpec.ofChange shelfHoldsWrong)

/-- 'budwoodlaw12.ShelfFull': WHATEVER THE INPUT: true; the input reads as it did. -/
def shelfFullSpec : ChangeSpec := { name := "shelfFull", fn := fun _ => fun
  | [d1, d2] => { results := [.lit (.bool true)], args := [d1, d2] }
  | _ => none }
def shelfFullRow : OpenClaim := { program := "ytcblkdocbmpkeaa", sum := "28f074cfbdf07b3b139527787e10ecc0931de39150c4d4026d0a3ab5058d6caf", func := "budwood/budwoodlaw12.ShelfFull", spec := "shelfFull", inPlace := ["maps.clone"], unfollowed := true, recurses := true, apart := false }
def ShelfFullSaid : Prop := shelfFullRow.holds Try.pinned (OpenSpec.ofChange shelfFullSpec)

/-- ITS FALSE NEIGHBOUR: 'it returns false'. Refute it at one input. -/
def shelfFullWrong : ChangeSpec := { name := "shelfFull", fn := fun _ => fun
  | [d1, d2] => { results := [.lit (.bool false)], args := [d1, d2] }
  | _ => none }
def ShelfFullWrongFalsely : Prop := shelfFullRow.holds Try.pinned (OpenSpec.ofChange shelfFullWrong)

/-- 'budwoodlaw12.ShelfSwaps': WHATEVER THE INPUT: true; the input reads as it did. -/
def shelfSwapsSpec : ChangeSpec := { name := "shelfSwaps", fn := fun _ => fun
  | [d1, d2] => { results := [.lit (.bool true)], args := [d1, d2] }
  | _ => none }
def shelfSwapsRow : OpenClaim := { program := "ytcblkdocbmpkeaa", sum := "28f074cfbdf07b3b139527787e10ecc0931de39150c4d4026d0a3ab5058d6caf", func := "budwood/budwoodlaw12.ShelfSwaps", spec := "shelfSwaps", inPlace := ["maps.clone"], unfollowed := true, recurses := true, apart := false }
def ShelfSwapsSaid : Prop := shelfSwapsRow.holds Try.pinned (OpenSpec.ofChange shelfSwapsSpec)

/-- ITS FALSE NEIGHBOUR: 'it returns false'. Refute it at one input. -/
def shelfSwapsWrong : ChangeSpec := { name := "shelfSwaps", fn := fun _ => fun
  | [d1, d2] => { results := [.lit (.bool false)], args := [d1, d2] }
  | _ => none }
def ShelfSwapsWrongFalsely : Prop := shelfSwapsRow.holds Try.pinned (OpenSpec.ofChange shelfSwapsWrong)

/-- 'budwoodlaw12.ShelfDoes': WHATEVER THE INPUT: true; the input reads as it did. -/
def shelfDoesSpec : ChangeSpec := { name := "shelfDoes", fn := fun _ => fun
  | [d1, d2] => { results := [.lit (.bool true)], args := [d1, d2] }
  | _ => none }
def shelfDoesRow : OpenClaim := { program := "ytcblkdocbmpkeaa", sum := "28f074cfbdf07b3b139527787e10ecc0931de39150c4d4026d0a3ab5058d6caf", func := "budwood/budwoodlaw12.ShelfDoes", spec := "shelfDoes", inPlace := ["maps.clone"], unfollowed := true, recurses := true, apart := false }
def ShelfDoesSaid : Prop := shelfDoesRow.holds Try.pinned (OpenSpec.ofChange shelfDoesSpec)

/-- ITS FALSE NEIGHBOUR: 'it returns false'. Refute it at one input. -/
def shelfDoesWrong : ChangeSpec := { name := "shelfDoes", fn := fun _ => fun
  | [d1, d2] => { results := [.lit (.bool false)], args := [d1, d2] }
  | _ => none }
def ShelfDoesWrongFalsely : Prop := shelfDoesRow.holds Try.pinned (OpenSpec.ofChange shelfDoesWrong)

/- THE SECOND FORM. 'bulk': how many values and letters a reading holds, each counted each time it is reached (what is shared counts as often as it is met; a slice's spare places count too). A statement '..UptoSaid' is the law's where the arguments, and the package variables that the reading takes, are together of bulk at most 1048576: NARROWER than '..Said'. Prove '..Said' where nothing that the law and all that it calls make is longer than what came in: it says more and counts as full. Else prove '..UptoSaid'. A law counts once. -/
mutual
def uptoBulk {H : Type} : DataW H → Nat
  | .lit (.string bytes) => bytes.length + 1
  | .lit _ => 1
  | .nil => 1
  | .ptr d => uptoBulk d + 1
  | .slice elems spare => uptoBulkAll elems + uptoBulkAll spare + 1
  | .agg parts => uptoBulkAll parts + 1
  | .iface _ d => uptoBulk d + 1
  | .map entries => uptoBulkEntries entries + 1
  | .held _ => 1
def uptoBulkAll {H : Type} : List (DataW H) → Nat
  | [] => 0
  | d :: r => uptoBulk d + uptoBulkAll r
def uptoBulkEntries {H : Type} : List (Lit × DataW H) → Nat
  | [] => 0
  | x :: r => uptoBulkEntry x + uptoBulkEntries r
def uptoBulkEntry {H : Type} : Lit × DataW H → Nat
  | (.string bytes, d) => bytes.length + uptoBulk d + 1
  | (_, d) => uptoBulk d + 1
 end
def uptoSmall : (H : Type) → List (DataW H) → Bool := fun _ ds => decide (uptoBulkAll ds ≤ 1048576)
def OpenSpec.upto (s : _root_.Go.ChangeSpec) : _root_.Go.OpenSpec := { _root_.Go.OpenSpec.ofChange s with cond := some uptoSmall }

/-- 'budwoodlaw12.ShelfHolds', WHERE WHAT IT READS IS OF BULK AT MOST 1048576: true; the input reads as it did. -/
def shelfHoldsUptoRow : OpenClaim := { program := "ytcblkdocbmpkeaa", sum := "28f074cfbdf07b3b139527787e10ecc0931de39150c4d4026d0a3ab5058d6caf", func := "budwood/budwoodlaw12.ShelfHolds", spec := "shelfHolds", inPlace := ["maps.clone"], unfollowed := true, recurses := true, apart := false, narrowed := true }
def ShelfHoldsUptoSaid : Prop := shelfHoldsUptoRow.holds Try.pinned (OpenSpec.upto shelfHoldsSpec)

/-- 'budwoodlaw12.ShelfFull', WHERE WHAT IT READS IS OF BULK AT MOST 1048576: true; the input reads as it did. -/
def shelfFullUptoRow : OpenClaim := { program := "ytcblkdocbmpkeaa", sum := "28f074cfbdf07b3b139527787e10ecc0931de39150c4d4026d0a3ab5058d6caf", func := "budwood/budwoodlaw12.ShelfFull", spec := "shelfFull", inPlace := ["maps.clone"], unfollowed := true, recurses := true, apart := false, narrowed := true }
def ShelfFullUptoSaid : Prop := shelfFullUptoRow.holds Try.pinned (OpenSpec.upto shelfFullSpec)

/-- 'budwoodlaw12.ShelfSwaps', WHERE WHAT IT READS IS OF BULK AT MOST 1048576: true; the input reads as it did. -/
def shelfSwapsUptoRow : OpenClaim := { program := "ytcblkdocbmpkeaa", sum := "28f074cfbdf07b3b139527787e10ecc0931de39150c4d4026d0a3ab5058d6caf", func := "budwood/budwoodlaw12.ShelfSwaps", spec := "shelfSwaps", inPlace := ["maps.clone"], unfollowed := true, recurses := true, apart := false, narrowed := true }
def ShelfSwapsUptoSaid : Prop := shelfSwapsUptoRow.holds Try.pinned (OpenSpec.upto shelfSwapsSpec)

/-- 'budwoodlaw12.ShelfDoes', WHERE WHAT IT READS IS OF BULK AT MOST 1048576: true; the input reads as it did. -/
def shelfDoesUptoRow : OpenClaim := { program := "ytcblkdocbmpkeaa", sum := "28f074cfbdf07b3b139527787e10ecc0931de39150c4d4026d0a3ab5058d6caf", func := "budwood/budwoodlaw12.ShelfDoes", spec := "shelfDoes", inPlace := ["maps.clone"], unfollowed := true, recurses := true, apart := false, narrowed := true }
def ShelfDoesUptoSaid : Prop := shelfDoesUptoRow.holds Try.pinned (OpenSpec.upto shelfDoesSpec)

end Rows
end Go.Proofs.Ytcblkdocbmpkeaa
