/-
  No cell of these rows narrows 'for every input' (looked for: loops, veiled, ifaces, maps, wideKeys, modest, calm, conditions, laid).
  DERIVED. THE GIVEN ROWS OF THIS SEAT. 6 by the template 'for every input the law returns true; each argument reads behind the call as it read before'; 0 by the template 'total and deterministic' (their statements: YteenjllcmgfpcaaTotals.lean).
  GIVEN WITH THE SEED: the statements are not yours to turn. If you find one false, say at which input.
  Laid BY PROGRAM, IN A SANDBOX (cutbox-rows.mjs): the forced cells as the released guide's own fill.sh prints them over the translation 64421bbdf31b4094… (all of the seat's roots in one cut). By AI agents, Wed Nov 11 2026. No macro, syntax, notation, axiom, sorry.
-/
import Derived.Test.YteenjllcmgfpcaaChecked
import GoSem.Claim
import GoSem.ClaimJoined
import GoSem.ClaimMapViews
import Derived.JoinedTies
import Derived.KernelRfl
namespace Go.Proofs.Yteenjllcmgfpcaa
/- THE CELL 'sum', in the pinned program and in every row, IS THE sha256 OF THE DUMP (.gsa) THAT YteenjllcmgfpcaaProg.lean LOADS. Nothing in Lean hashes anything: it is a label: what it is worth is what the hold of that sum in a sandbox is worth. -/
noncomputable def Try.pinned : Pinned := { name := "yteenjllcmgfpcaa", sum := "64421bbdf31b40942e35a7e57bc987b9e2523028136cfd85875db2d84db0d46a", checked := Try.checked }
namespace Rows
def none {H : Type} : Left H := { results := [], args := [] }

/-- 'budwoodlaw08.ModeTells': WHATEVER THE INPUT: true; the input reads as it did. -/
def modeTellsSpec : ChangeSpec := { name := "modeTells", fn := fun _ => fun
  | [d1, d2, d3] => { results := [.lit (.bool true)], args := [d1, d2, d3] }
  | _ => none }
def modeTellsRow : OpenClaim := { program := "yteenjllcmgfpcaa", sum := "64421bbdf31b40942e35a7e57bc987b9e2523028136cfd85875db2d84db0d46a", func := "budwood/budwoodlaw08.ModeTells", spec := "modeTells", apart := false }
def ModeTellsSaid : Prop := modeTellsRow.holds Try.pinned (OpenSpec.ofChange modeTellsSpec)

/-- ITS FALSE NEIGHBOUR: 'it returns false'. Refute it at one input. -/
def modeTellsWrong : ChangeSpec := { name := "modeTells", fn := fun _ => fun
  | [d1, d2, d3] => { results := [.lit (.bool false)], args := [d1, d2, d3] }
  | _ => none }
def ModeTellsWrongFalsely : Prop := modeTellsRow.holds Try.pinned (OpenSpec.ofChange modeTellsWrong)

/-- 'budwoodlaw08.ModeFits': WHATEVER THE INPUT: true; the input reads as it did. -/
def modeFitsSpec : ChangeSpec := { name := "modeFits", fn := fun _ => fun
  | [d1, d2, d3] => { results := [.lit (.bool true)], args := [d1, d2, d3] }
  | _ => none }
def modeFitsRow : OpenClaim := { program := "yteenjllcmgfpcaa", sum := "64421bbdf31b40942e35a7e57bc987b9e2523028136cfd85875db2d84db0d46a", func := "budwood/budwoodlaw08.ModeFits", spec := "modeFits", apart := false }
def ModeFitsSaid : Prop := modeFitsRow.holds Try.pinned (OpenSpec.ofChange modeFitsSpec)

/-- ITS FALSE NEIGHBOUR: 'it returns false'. Refute it at one input. -/
def modeFitsWrong : ChangeSpec := { name := "modeFits", fn := fun _ => fun
  | [d1, d2, d3] => { results := [.lit (.bool false)], args := [d1, d2, d3] }
  | _ => none }
def ModeFitsWrongFalsely : Prop := modeFitsRow.holds Try.pinned (OpenSpec.ofChange modeFitsWrong)

/-- 'budwoodlaw08.ModeJoins': WHATEVER THE INPUT: true; the input reads as it did. -/
def modeJoinsSpec : ChangeSpec := { name := "modeJoins", fn := fun _ => fun
  | [d1, d2, d3] => { results := [.lit (.bool true)], args := [d1, d2, d3] }
  | _ => none }
def modeJoinsRow : OpenClaim := { program := "yteenjllcmgfpcaa", sum := "64421bbdf31b40942e35a7e57bc987b9e2523028136cfd85875db2d84db0d46a", func := "budwood/budwoodlaw08.ModeJoins", spec := "modeJoins", apart := false }
def ModeJoinsSaid : Prop := modeJoinsRow.holds Try.pinned (OpenSpec.ofChange modeJoinsSpec)

/-- ITS FALSE NEIGHBOUR: 'it returns false'. Refute it at one input. -/
def modeJoinsWrong : ChangeSpec := { name := "modeJoins", fn := fun _ => fun
  | [d1, d2, d3] => { results := [.lit (.bool false)], args := [d1, d2, d3] }
  | _ => none }
def ModeJoinsWrongFalsely : Prop := modeJoinsRow.holds Try.pinned (OpenSpec.ofChange modeJoinsWrong)

/-- 'budwoodlaw08.ModeNames': WHATEVER THE INPUT: true; the input reads as it did. -/
def modeNamesSpec : ChangeSpec := { name := "modeNames", fn := fun _ => fun
  | [d1, d2] => { results := [.lit (.bool true)], args := [d1, d2] }
  | _ => none }
def modeNamesRow : OpenClaim := { program := "yteenjllcmgfpcaa", sum := "64421bbdf31b40942e35a7e57bc987b9e2523028136cfd85875db2d84db0d46a", func := "budwood/budwoodlaw08.ModeNames", spec := "modeNames", apart := false }
def ModeNamesSaid : Prop := modeNamesRow.holds Try.pinned (OpenSpec.ofChange modeNamesSpec)

/-- ITS FALSE NEIGHBOUR: 'it returns false'. Refute it at one input. -/
def modeNamesWrong : ChangeSpec := { name := "modeNames", fn := fun _ => fun
  | [d1, d2] => { results := [.lit (.bool false)], args := [d1, d2] }
  | _ => none }
def ModeNamesWrongFalsely : Prop := modeNamesRow.holds Try.pinned (OpenSpec.ofChange modeNamesWrong)

/-- 'budwoodlaw08.ModeLess': WHATEVER THE INPUT: true; the input reads as it did. -/
def modeLessSpec : ChangeSpec := { name := "modeLess", fn := fun _ => fun
  | [d1, d2, d3] => { results := [.lit (.bool true)], args := [d1, d2, d3] }
  | _ => none }
def modeLessRow : OpenClaim := { program := "yteenjllcmgfpcaa", sum := "64421bbdf31b40942e35a7e57bc987b9e2523028136cfd85875db2d84db0d46a", func := "budwood/budwoodlaw08.ModeLess", spec := "modeLess", apart := false }
def ModeLessSaid : Prop := modeLessRow.holds Try.pinned (OpenSpec.ofChange modeLessSpec)

/-- ITS FALSE NEIGHBOUR: 'it returns false'. Refute it at one input. -/
def modeLessWrong : ChangeSpec := { name := "modeLess", fn := fun _ => fun
  | [d1, d2, d3] => { results := [.lit (.bool false)], args := [d1, d2, d3] }
  | _ => none }
def ModeLessWrongFalsely : Prop := modeLessRow.holds Try.pinned (OpenSpec.ofChange modeLessWrong)

/-- 'budwoodlaw08.ModeAbove': WHATEVER THE INPUT: true; the input reads as it did. -/
def modeAboveSpec : ChangeSpec := { name := "modeAbove", fn := fun _ => fun
  | [d1, d2] => { results := [.lit (.bool true)], args := [d1, d2] }
  | _ => none }
def modeAboveRow : OpenClaim := { program := "yteenjllcmgfpcaa", sum := "64421bbdf31b40942e35a7e57bc987b9e2523028136cfd85875db2d84db0d46a", func := "budwood/budwoodlaw08.ModeAbove", spec := "modeAbove", apart := false }
def ModeAboveSaid : Prop := modeAboveRow.holds Try.pinned (OpenSpec.ofChange modeAboveSpec)

/-- ITS FALSE NEIGHBOUR: 'it returns false'. Refute it at one input. -/
def modeAboveWrong : ChangeSpec := { name := "modeAbove", fn := fun _ => fun
  | [d1, d2] => { results := [.lit (.bool false)], args := [d1, d2] }
  | _ => none }
def ModeAboveWrongFalsely : Prop := modeAboveRow.holds Try.pinned (OpenSpec.ofChange modeAboveWrong)

/- THE SECOND FORM. 'bulk': how many values and letters a reading holds, each counted each time it is reached (what is shared counts as often as it is met; a slice's spare places count too). A statement '..UptoSaid' is the law's where the arguments, and the package variables that the reading takes, are together of bulk at most 1048576: NARROWER than '..Said'. Prove '..Said' where nothing that the law and all that it calls make is longer than what came in: it says more and counts as full. Else prove '..UptoSaid'. A law counts once. -/
mutual
def uptoBulk {H : Type} : DataW H → Nat
  | .lit (.string bytes) => bytes.length + 1
  | .lit _ => 1
  | .nil => 1
  | .ptr d => uptoBulk d + 1
  | .slice elems spare => uptoBulkAll elems + uptoBulkAll spare + 1
  | .agg parts => uptoBulkAll parts + 1
  | .iface _ d => uptoBulk d + 1
  | .map entries => uptoBulkEntries entries + 1
  | .held _ => 1
def uptoBulkAll {H : Type} : List (DataW H) → Nat
  | [] => 0
  | d :: r => uptoBulk d + uptoBulkAll r
def uptoBulkEntries {H : Type} : List (Lit × DataW H) → Nat
  | [] => 0
  | x :: r => uptoBulkEntry x + uptoBulkEntries r
def uptoBulkEntry {H : Type} : Lit × DataW H → Nat
  | (.string bytes, d) => bytes.length + uptoBulk d + 1
  | (_, d) => uptoBulk d + 1
 end
def uptoSmall : (H : Type) → List (DataW H) → Bool := fun _ ds => decide (uptoBulkAll ds ≤ 1048576)
def OpenSpec.upto (s : _root_.Go.ChangeSpec) : _root_.Go.OpenSpec := { _root_.Go.OpenSpec.ofChange s with cond := some uptoSmall }

/-- 'budwoodlaw08.ModeTells', WHERE WHAT IT READS IS OF BULK AT MOST 1048576: true; the input reads as it did. -/
def modeTellsUptoRow : OpenClaim := { program := "yteenjllcmgfpcaa", sum := "64421bbdf31b40942e35a7e57bc987b9e2523028136cfd85875db2d84db0d46a", func := "budwood/budwoodlaw08.ModeTells", spec := "modeTells", apart := false, narrowed := true }
def ModeTellsUptoSaid : Prop := modeTellsUptoRow.holds Try.pinned (OpenSpec.upto modeTellsSpec)

/-- 'budwoodlaw08.ModeFits', WHERE WHAT IT READS IS OF BULK AT MOST 1048576: true; the input reads as it did. -/
def modeFitsUptoRow : OpenClaim := { program := "yteenjllcmgfpcaa", sum := "64421bbdf31b40942e35a7e57bc987b9e2523028136cfd85875db2d84db0d46a", func := "budwood/budwoodlaw08.ModeFits", spec := "modeFits", apart := false, narrowed := true }
def ModeFitsUptoSaid : Prop := modeFitsUptoRow.holds Try.pinned (OpenSpec.upto modeFitsSpec)

/-- 'budwoodlaw08.ModeJoins', WHERE WHAT IT READS IS OF BULK AT MOST 1048576: true; the input reads as it did. -/
def modeJoinsUptoRow : OpenClaim := { program := "yteenjllcmgfpcaa", sum := "64421bbdf31b40942e35a7e57bc987b9e2523028136cfd85875db2d84db0d46a", func := "budwood/budwoodlaw08.ModeJoins", spec := "modeJoins", apart := false, narrowed := true }
def ModeJoinsUptoSaid : Prop := modeJoinsUptoRow.holds Try.pinned (OpenSpec.upto modeJoinsSpec)

/-- 'budwoodlaw08.ModeNames', WHERE WHAT IT READS IS OF BULK AT MOST 1048576: true; the input reads as it did. -/
def modeNamesUptoRow : OpenClaim := { program := "yteenjllcmgfpcaa", sum := "64421bbdf31b40942e35a7e57bc987b9e2523028136cfd85875db2d84db0d46a", func := "budwood/budwoodlaw08.ModeNames", spec := "modeNames", apart := false, narrowed := true }
def ModeNamesUptoSaid : Prop := modeNamesUptoRow.holds Try.pinned (OpenSpec.upto modeNamesSpec)

/-- 'budwoodlaw08.ModeLess', WHERE WHAT IT READS IS OF BULK AT MOST 1048576: true; the input reads as it did. -/
def modeLessUptoRow : OpenClaim := { program := "yteenjllcmgfpcaa", sum := "64421bbdf31b40942e35a7e57bc987b9e2523028136cfd85875db2d84db0d46a", func := "budwood/budwoodlaw08.ModeLess", spec := "modeLess", apart := false, narrowed := true }
def ModeLessUptoSaid : Prop := modeLessUptoRow.holds Try.pinned (OpenSpec.upto modeLessSpec)

/-- 'budwoodlaw08.ModeAbove', WHERE WHAT IT READS IS OF BULK AT MOST 1048576: true; the input reads as it did. -/
def modeAboveUptoRow : OpenClaim := { program := "yteenjllcmgfpcaa", sum := "64421bbdf31b40942e35a7e57bc987b9e2523028136cfd85875db2d84db0d46a", func := "budwood/budwoodlaw08.ModeAbove", spec := "modeAbove", apart := false, narrowed := true }
def ModeAboveUptoSaid : Prop := modeAboveUptoRow.holds Try.pinned (OpenSpec.upto modeAboveSpec)

end Rows
end Go.Proofs.Yteenjllcmgfpcaa
