/-
  No cell of these rows narrows 'for every input' (looked for: loops, veiled, ifaces, maps, wideKeys, modest, calm, conditions, laid).
  DERIVED. THE GIVEN ROWS OF THIS SEAT. 4 by the template 'for every input the law returns true; each argument reads behind the call as it read before'; 0 by the template 'total and deterministic' (their statements: YtgnhfipmeljffaaTotals.lean).
  GIVEN WITH THE SEED: the statements are not yours to turn. If you find one false, say at which input.
  Laid BY PROGRAM, IN A SANDBOX (cutbox-rows.mjs): the forced cells as the released guide's own fill.sh prints them over the translation b39f7db31368f9dc… (all of the seat's roots in one cut). By AI agents, Wed Nov 11 2026. No macro, syntax, notation, axiom, sorry.
-/
import Derived.Test.YtgnhfipmeljffaaChecked
import GoSem.Claim
import GoSem.ClaimJoined
import GoSem.ClaimMapViews
import Derived.JoinedTies
import Derived.KernelRfl
namespace Go.Proofs.Ytgnhfipmeljffaa
/- THE CELL 'sum', in the pinned program and in every row, IS THE sha256 OF THE DUMP (.gsa) THAT YtgnhfipmeljffaaProg.lean LOADS. Nothing in Lean hashes anything: it is a label: what it is worth is what the hold of that sum in a sandbox is worth. -/
noncomputable def Try.pinned : Pinned := { name := "ytgnhfipmeljffaa", sum := "b39f7db31368f9dca9676be5ecd99da474f74eac903d4aeb9e5aa5cdb7103f8f", checked := Try.checked }
namespace Rows
def none {H : Type} : Left H := { results := [], args := [] }

/-- 'budwoodlaw15.PlanAfter': WHATEVER THE INPUT: true; the input reads as it did. -/
def planAfterSpec : ChangeSpec := { name := "planAfter", fn := fun _ => fun
  | [d1, d2] => { results := [.lit (.bool true)], args := [d1, d2] }
  | _ => none }
def planAfterRow : OpenClaim := { program := "ytgnhfipmeljffaa", sum := "b39f7db31368f9dca9676be5ecd99da474f74eac903d4aeb9e5aa5cdb7103f8f", func := "budwood/budwoodlaw15.PlanAfter", spec := "planAfter", unfollowed := true, recurses := true, apart := false }
def PlanAfterSaid : Prop := planAfterRow.holds Try.pinned (OpenSpec.ofChange planAfterSpec)

/-- ITS FALSE NEIGHBOUR: 'it returns false'. Refute it at one input. -/
def planAfterWrong : ChangeSpec := { name := "planAfter", fn := fun _ => fun
  | [d1, d2] => { results := [.lit (.bool false)], args := [d1, d2] }
  | _ => none }
def PlanAfterWrongFalsely : Prop := planAfterRow.holds Try.pinned (OpenSpec.ofChange planAfterWrong)

/-- 'budwoodlaw15.PlanKeeps': WHATEVER THE INPUT: true; the input reads as it did. -/
def planKeepsSpec : ChangeSpec := { name := "planKeeps", fn := fun _ => fun
  | [d1, d2, d3] => { results := [.lit (.bool true)], args := [d1, d2, d3] }
  | _ => none }
def planKeepsRow : OpenClaim := { program := "ytgnhfipmeljffaa", sum := "b39f7db31368f9dca9676be5ecd99da474f74eac903d4aeb9e5aa5cdb7103f8f", func := "budwood/budwoodlaw15.PlanKeeps", spec := "planKeeps", unfollowed := true, recurses := true, apart := false }
def PlanKeepsSaid : Prop := planKeepsRow.holds Try.pinned (OpenSpec.ofChange planKeepsSpec)

/-- ITS FALSE NEIGHBOUR: 'it returns false'. Refute it at one input. -/
def planKeepsWrong : ChangeSpec := { name := "planKeeps", fn := fun _ => fun
  | [d1, d2, d3] => { results := [.lit (.bool false)], args := [d1, d2, d3] }
  | _ => none }
def PlanKeepsWrongFalsely : Prop := planKeepsRow.holds Try.pinned (OpenSpec.ofChange planKeepsWrong)

/-- 'budwoodlaw15.PlanTight': WHATEVER THE INPUT: true; the input reads as it did. -/
def planTightSpec : ChangeSpec := { name := "planTight", fn := fun _ => fun
  | [d1, d2, d3] => { results := [.lit (.bool true)], args := [d1, d2, d3] }
  | _ => none }
def planTightRow : OpenClaim := { program := "ytgnhfipmeljffaa", sum := "b39f7db31368f9dca9676be5ecd99da474f74eac903d4aeb9e5aa5cdb7103f8f", func := "budwood/budwoodlaw15.PlanTight", spec := "planTight", unfollowed := true, recurses := true, apart := false }
def PlanTightSaid : Prop := planTightRow.holds Try.pinned (OpenSpec.ofChange planTightSpec)

/-- ITS FALSE NEIGHBOUR: 'it returns false'. Refute it at one input. -/
def planTightWrong : ChangeSpec := { name := "planTight", fn := fun _ => fun
  | [d1, d2, d3] => { results := [.lit (.bool false)], args := [d1, d2, d3] }
  | _ => none }
def PlanTightWrongFalsely : Prop := planTightRow.holds Try.pinned (OpenSpec.ofChange planTightWrong)

/-- 'budwoodlaw15.PlanOnce': WHATEVER THE INPUT: true; the input reads as it did. -/
def planOnceSpec : ChangeSpec := { name := "planOnce", fn := fun _ => fun
  | [d] => { results := [.lit (.bool true)], args := [d] }
  | _ => none }
def planOnceRow : OpenClaim := { program := "ytgnhfipmeljffaa", sum := "b39f7db31368f9dca9676be5ecd99da474f74eac903d4aeb9e5aa5cdb7103f8f", func := "budwood/budwoodlaw15.PlanOnce", spec := "planOnce", unfollowed := true, recurses := true, apart := false }
def PlanOnceSaid : Prop := planOnceRow.holds Try.pinned (OpenSpec.ofChange planOnceSpec)

/-- ITS FALSE NEIGHBOUR: 'it returns false'. Refute it at one input. -/
def planOnceWrong : ChangeSpec := { name := "planOnce", fn := fun _ => fun
  | [d] => { results := [.lit (.bool false)], args := [d] }
  | _ => none }
def PlanOnceWrongFalsely : Prop := planOnceRow.holds Try.pinned (OpenSpec.ofChange planOnceWrong)

/- THE SECOND FORM. 'bulk': how many values and letters a reading holds, each counted each time it is reached (what is shared counts as often as it is met; a slice's spare places count too). A statement '..UptoSaid' is the law's where the arguments, and the package variables that the reading takes, are together of bulk at most 1048576: NARROWER than '..Said'. Prove '..Said' where nothing that the law and all that it calls make is longer than what came in: it says more and counts as full. Else prove '..UptoSaid'. A law counts once. -/
mutual
def uptoBulk {H : Type} : DataW H → Nat
  | .lit (.string bytes) => bytes.length + 1
  | .lit _ => 1
  | .nil => 1
  | .ptr d => uptoBulk d + 1
  | .slice elems spare => uptoBulkAll elems + uptoBulkAll spare + 1
  | .agg parts => uptoBulkAll parts + 1
  | .iface _ d => uptoBulk d + 1
  | .map entries => uptoBulkEntries entries + 1
  | .held _ => 1
def uptoBulkAll {H : Type} : List (DataW H) → Nat
  | [] => 0
  | d :: r => uptoBulk d + uptoBulkAll r
def uptoBulkEntries {H : Type} : List (Lit × DataW H) → Nat
  | [] => 0
  | x :: r => uptoBulkEntry x + uptoBulkEntries r
def uptoBulkEntry {H : Type} : Lit × DataW H → Nat
  | (.string bytes, d) => bytes.length + uptoBulk d + 1
  | (_, d) => uptoBulk d + 1
 end
def uptoSmall : (H : Type) → List (DataW H) → Bool := fun _ ds => decide (uptoBulkAll ds ≤ 1048576)
def OpenSpec.upto (s : _root_.Go.ChangeSpec) : _root_.Go.OpenSpec := { _root_.Go.OpenSpec.ofChange s with cond := some uptoSmall }

/-- 'budwoodlaw15.PlanAfter', WHERE WHAT IT READS IS OF BULK AT MOST 1048576: true; the input reads as it did. -/
def planAfterUptoRow : OpenClaim := { program := "ytgnhfipmeljffaa", sum := "b39f7db31368f9dca9676be5ecd99da474f74eac903d4aeb9e5aa5cdb7103f8f", func := "budwood/budwoodlaw15.PlanAfter", spec := "planAfter", unfollowed := true, recurses := true, apart := false, narrowed := true }
def PlanAfterUptoSaid : Prop := planAfterUptoRow.holds Try.pinned (OpenSpec.upto planAfterSpec)

/-- 'budwoodlaw15.PlanKeeps', WHERE WHAT IT READS IS OF BULK AT MOST 1048576: true; the input reads as it did. -/
def planKeepsUptoRow : OpenClaim := { program := "ytgnhfipmeljffaa", sum := "b39f7db31368f9dca9676be5ecd99da474f74eac903d4aeb9e5aa5cdb7103f8f", func := "budwood/budwoodlaw15.PlanKeeps", spec := "planKeeps", unfollowed := true, recurses := true, apart := false, narrowed := true }
def PlanKeepsUptoSaid : Prop := planKeepsUptoRow.holds Try.pinned (OpenSpec.upto planKeepsSpec)

/-- 'budwoodlaw15.PlanTight', WHERE WHAT IT READS IS OF BULK AT MOST 1048576: true; the input reads as it did. -/
def planTightUptoRow : OpenClaim := { program := "ytgnhfipmeljffaa", sum := "b39f7db31368f9dca9676be5ecd99da474f74eac903d4aeb9e5aa5cdb7103f8f", func := "budwood/budwoodlaw15.PlanTight", spec := "planTight", unfollowed := true, recurses := true, apart := false, narrowed := true }
def PlanTightUptoSaid : Prop := planTightUptoRow.holds Try.pinned (OpenSpec.upto planTightSpec)

/-- 'budwoodlaw15.PlanOnce', WHERE WHAT IT READS IS OF BULK AT MOST 1048576: true; the input reads as it did. -/
def planOnceUptoRow : OpenClaim := { program := "ytgnhfipmeljffaa", sum := "b39f7db31368f9dca9676be5ecd99da474f74eac903d4aeb9e5aa5cdb7103f8f", func := "budwood/budwoodlaw15.PlanOnce", spec := "planOnce", unfollowed := true, recurses := true, apart := false, narrowed := true }
def PlanOnceUptoSaid : Prop := planOnceUptoRow.holds Try.pinned (OpenSpec.upto planOnceSpec)

end Rows
end Go.Proofs.Ytgnhfipmeljffaa
