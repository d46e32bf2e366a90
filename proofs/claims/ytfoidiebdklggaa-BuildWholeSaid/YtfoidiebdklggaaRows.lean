/-
  No cell of these rows narrows 'for every input' (looked for: loops, veiled, ifaces, maps, wideKeys, modest, calm, conditions, laid).
  DERIVED. THE GIVEN ROWS OF THIS SEAT. 6 by the template 'for every input the law returns true; each argument reads behind the call as it read before'; 0 by the template 'total and deterministic' (their statements: YtfoidiebdklggaaTotals.lean).
  GIVEN WITH THE SEED: the statements are not yours to turn. If you find one false, say at which input.
  Laid BY PROGRAM, IN A SANDBOX (cutbox-rows.mjs): the forced cells as the released guide's own fill.sh prints them over the translation 5fe23a9580dbaa52… (all of the seat's roots in one cut). By AI agents, Wed Nov 11 2026. No macro, syntax, notation, axiom, sorry.
-/
import Derived.Test.YtfoidiebdklggaaChecked
import GoSem.Claim
import GoSem.ClaimJoined
import GoSem.ClaimMapViews
import Derived.JoinedTies
import Derived.KernelRfl
namespace Go.Proofs.Ytfoidiebdklggaa
/- THE CELL 'sum', in the pinned program and in every row, IS THE sha256 OF THE DUMP (.gsa) THAT YtfoidiebdklggaaProg.lean LOADS. Nothing in Lean hashes anything: it is a label: what it is worth is what the hold of that sum in a sandbox is worth. -/
noncomputable def Try.pinned : Pinned := { name := "ytfoidiebdklggaa", sum := "5fe23a9580dbaa52f098923fcb2aeeaf4b59b14059ba488726733fb4f6217d45", checked := Try.checked }
namespace Rows
def none {H : Type} : Left H := { results := [], args := [] }

/-- 'budwoodlaw17.BuildLevels': WHATEVER THE INPUT: true; the input reads as it did. -/
def buildLevelsSpec : ChangeSpec := { name := "buildLevels", fn := fun _ => fun
  | [d1, d2, d3] => { results := [.lit (.bool true)], args := [d1, d2, d3] }
  | _ => none }
def buildLevelsRow : OpenClaim := { program := "ytfoidiebdklggaa", sum := "5fe23a9580dbaa52f098923fcb2aeeaf4b59b14059ba488726733fb4f6217d45", func := "budwood/budwoodlaw17.BuildLevels", spec := "buildLevels", unfollowed := true, recurses := true, apart := false }
def BuildLevelsSaid : Prop := buildLevelsRow.holds Try.pinned (OpenSpec.ofChange buildLevelsSpec)

/-- ITS FALSE NEIGHBOUR: 'it returns false'. Refute it at one input. -/
def buildLevelsWrong : ChangeSpec := { name := "buildLevels", fn := fun _ => fun
  | [d1, d2, d3] => { results := [.lit (.bool false)], args := [d1, d2, d3] }
  | _ => none }
def BuildLevelsWrongFalsely : Prop := buildLevelsRow.holds Try.pinned (OpenSpec.ofChange buildLevelsWrong)

/-- 'budwoodlaw17.BuildGroups': WHATEVER THE INPUT: true; the input reads as it did. -/
def buildGroupsSpec : ChangeSpec := { name := "buildGroups", fn := fun _ => fun
  | [d1, d2] => { results := [.lit (.bool true)], args := [d1, d2] }
  | _ => none }
def buildGroupsRow : OpenClaim := { program := "ytfoidiebdklggaa", sum := "5fe23a9580dbaa52f098923fcb2aeeaf4b59b14059ba488726733fb4f6217d45", func := "budwood/budwoodlaw17.BuildGroups", spec := "buildGroups", unfollowed := true, recurses := true, apart := false }
def BuildGroupsSaid : Prop := buildGroupsRow.holds Try.pinned (OpenSpec.ofChange buildGroupsSpec)

/-- ITS FALSE NEIGHBOUR: 'it returns false'. Refute it at one input. -/
def buildGroupsWrong : ChangeSpec := { name := "buildGroups", fn := fun _ => fun
  | [d1, d2] => { results := [.lit (.bool false)], args := [d1, d2] }
  | _ => none }
def BuildGroupsWrongFalsely : Prop := buildGroupsRow.holds Try.pinned (OpenSpec.ofChange buildGroupsWrong)

/-- 'budwoodlaw17.BuildEven': WHATEVER THE INPUT: true; the input reads as it did. -/
def buildEvenSpec : ChangeSpec := { name := "buildEven", fn := fun _ => fun
  | [d1, d2] => { results := [.lit (.bool true)], args := [d1, d2] }
  | _ => none }
def buildEvenRow : OpenClaim := { program := "ytfoidiebdklggaa", sum := "5fe23a9580dbaa52f098923fcb2aeeaf4b59b14059ba488726733fb4f6217d45", func := "budwood/budwoodlaw17.BuildEven", spec := "buildEven", unfollowed := true, recurses := true, apart := false }
def BuildEvenSaid : Prop := buildEvenRow.holds Try.pinned (OpenSpec.ofChange buildEvenSpec)

/-- ITS FALSE NEIGHBOUR: 'it returns false'. Refute it at one input. -/
def buildEvenWrong : ChangeSpec := { name := "buildEven", fn := fun _ => fun
  | [d1, d2] => { results := [.lit (.bool false)], args := [d1, d2] }
  | _ => none }
def BuildEvenWrongFalsely : Prop := buildEvenRow.holds Try.pinned (OpenSpec.ofChange buildEvenWrong)

/-- 'budwoodlaw17.BuildWhole': WHATEVER THE INPUT: true; the input reads as it did. -/
def buildWholeSpec : ChangeSpec := { name := "buildWhole", fn := fun _ => fun
  | [d1, d2, d3] => { results := [.lit (.bool true)], args := [d1, d2, d3] }
  | _ => none }
def buildWholeRow : OpenClaim := { program := "ytfoidiebdklggaa", sum := "5fe23a9580dbaa52f098923fcb2aeeaf4b59b14059ba488726733fb4f6217d45", func := "budwood/budwoodlaw17.BuildWhole", spec := "buildWhole", unfollowed := true, recurses := true, apart := false }
def BuildWholeSaid : Prop := buildWholeRow.holds Try.pinned (OpenSpec.ofChange buildWholeSpec)

/-- ITS FALSE NEIGHBOUR: 'it returns false'. Refute it at one input. -/
def buildWholeWrong : ChangeSpec := { name := "buildWhole", fn := fun _ => fun
  | [d1, d2, d3] => { results := [.lit (.bool false)], args := [d1, d2, d3] }
  | _ => none }
def BuildWholeWrongFalsely : Prop := buildWholeRow.holds Try.pinned (OpenSpec.ofChange buildWholeWrong)

/-- 'budwoodlaw17.BuildFits': WHATEVER THE INPUT: true; the input reads as it did. -/
def buildFitsSpec : ChangeSpec := { name := "buildFits", fn := fun _ => fun
  | [d] => { results := [.lit (.bool true)], args := [d] }
  | _ => none }
def buildFitsRow : OpenClaim := { program := "ytfoidiebdklggaa", sum := "5fe23a9580dbaa52f098923fcb2aeeaf4b59b14059ba488726733fb4f6217d45", func := "budwood/budwoodlaw17.BuildFits", spec := "buildFits", unfollowed := true, recurses := true, apart := false }
def BuildFitsSaid : Prop := buildFitsRow.holds Try.pinned (OpenSpec.ofChange buildFitsSpec)

/-- ITS FALSE NEIGHBOUR: 'it returns false'. Refute it at one input. -/
def buildFitsWrong : ChangeSpec := { name := "buildFits", fn := fun _ => fun
  | [d] => { results := [.lit (.bool false)], args := [d] }
  | _ => none }
def BuildFitsWrongFalsely : Prop := buildFitsRow.holds Try.pinned (OpenSpec.ofChange buildFitsWrong)

/-- 'budwoodlaw17.BuildNeed': WHATEVER THE INPUT: true; the input reads as it did. -/
def buildNeedSpec : ChangeSpec := { name := "buildNeed", fn := fun _ => fun
  | [d1, d2] => { results := [.lit (.bool true)], args := [d1, d2] }
  | _ => none }
def buildNeedRow : OpenClaim := { program := "ytfoidiebdklggaa", sum := "5fe23a9580dbaa52f098923fcb2aeeaf4b59b14059ba488726733fb4f6217d45", func := "budwood/budwoodlaw17.BuildNeed", spec := "buildNeed", unfollowed := true, recurses := true, apart := false }
def BuildNeedSaid : Prop := buildNeedRow.holds Try.pinned (OpenSpec.ofChange buildNeedSpec)

/-- ITS FALSE NEIGHBOUR: 'it returns false'. Refute it at one input. -/
def buildNeedWrong : ChangeSpec := { name := "buildNeed", fn := fun _ => fun
  | [d1, d2] => { results := [.lit (.bool false)], args := [d1, d2] }
  | _ => none }
def BuildNeedWrongFalsely : Prop := buildNeedRow.holds Try.pinned (OpenSpec.ofChange buildNeedWrong)

/- THE SECOND FORM. 'bulk': how many values and letters a reading holds, each counted each time it is reached (what is shared counts as often as it is met; a slice's spare places count too). A statement '..UptoSaid' is the law's where the arguments, and the package variables that the reading takes, are together of bulk at most 1048576: NARROWER than '..Said'. Prove '..Said' where nothing that the law and all that it calls make is longer than what came in: it says more and counts as full. Else prove '..UptoSaid'. A law counts once. -/
mutual
def uptoBulk {H : Type} : DataW H → Nat
  | .lit (.string bytes) => bytes.length + 1
  | .lit _ => 1
  | .nil => 1
  | .ptr d => uptoBulk d + 1
  | .slice elems spare => uptoBulkAll elems + uptoBulkAll spare + 1
  | .agg parts => uptoBulkAll parts + 1
  | .iface _ d => uptoBulk d + 1
  | .map entries => uptoBulkEntries entries + 1
  | .held _ => 1
def uptoBulkAll {H : Type} : List (DataW H) → Nat
  | [] => 0
  | d :: r => uptoBulk d + uptoBulkAll r
def uptoBulkEntries {H : Type} : List (Lit × DataW H) → Nat
  | [] => 0
  | x :: r => uptoBulkEntry x + uptoBulkEntries r
def uptoBulkEntry {H : Type} : Lit × DataW H → Nat
  | (.string bytes, d) => bytes.length + uptoBulk d + 1
  | (_, d) => uptoBulk d + 1
 end
def uptoSmall : (H : Type) → List (DataW H) → Bool := fun _ ds => decide (uptoBulkAll ds ≤ 1048576)
def OpenSpec.upto (s : _root_.Go.ChangeSpec) : _root_.Go.OpenSpec := { _root_.Go.OpenSpec.ofChange s with cond := some uptoSmall }

/-- 'budwoodlaw17.BuildLevels', WHERE WHAT IT READS IS OF BULK AT MOST 1048576: true; the input reads as it did. -/
def buildLevelsUptoRow : OpenClaim := { program := "ytfoidiebdklggaa", sum := "5fe23a9580dbaa52f098923fcb2aeeaf4b59b14059ba488726733fb4f6217d45", func := "budwood/budwoodlaw17.BuildLevels", spec := "buildLevels", unfollowed := true, recurses := true, apart := false, narrowed := true }
def BuildLevelsUptoSaid : Prop := buildLevelsUptoRow.holds Try.pinned (OpenSpec.upto buildLevelsSpec)

/-- 'budwoodlaw17.BuildGroups', WHERE WHAT IT READS IS OF BULK AT MOST 1048576: true; the input reads as it did. -/
def buildGroupsUptoRow : OpenClaim := { program := "ytfoidiebdklggaa", sum := "5fe23a9580dbaa52f098923fcb2aeeaf4b59b14059ba488726733fb4f6217d45", func := "budwood/budwoodlaw17.BuildGroups", spec := "buildGroups", unfollowed := true, recurses := true, apart := false, narrowed := true }
def BuildGroupsUptoSaid : Prop := buildGroupsUptoRow.holds Try.pinned (OpenSpec.upto buildGroupsSpec)

/-- 'budwoodlaw17.BuildEven', WHERE WHAT IT READS IS OF BULK AT MOST 1048576: true; the input reads as it did. -/
def buildEvenUptoRow : OpenClaim := { program := "ytfoidiebdklggaa", sum := "5fe23a9580dbaa52f098923fcb2aeeaf4b59b14059ba488726733fb4f6217d45", func := "budwood/budwoodlaw17.BuildEven", spec := "buildEven", unfollowed := true, recurses := true, apart := false, narrowed := true }
def BuildEvenUptoSaid : Prop := buildEvenUptoRow.holds Try.pinned (OpenSpec.upto buildEvenSpec)

/-- 'budwoodlaw17.BuildWhole', WHERE WHAT IT READS IS OF BULK AT MOST 1048576: true; the input reads as it did. -/
def buildWholeUptoRow : OpenClaim := { program := "ytfoidiebdklggaa", sum := "5fe23a9580dbaa52f098923fcb2aeeaf4b59b14059ba488726733fb4f6217d45", func := "budwood/budwoodlaw17.BuildWhole", spec := "buildWhole", unfollowed := true, recurses := true, apart := false, narrowed := true }
def BuildWholeUptoSaid : Prop := buildWholeUptoRow.holds Try.pinned (OpenSpec.upto buildWholeSpec)

/-- 'budwoodlaw17.BuildFits', WHERE WHAT IT READS IS OF BULK AT MOST 1048576: true; the input reads as it did. -/
def buildFitsUptoRow : OpenClaim := { program := "ytfoidiebdklggaa", sum := "5fe23a9580dbaa52f098923fcb2aeeaf4b59b14059ba488726733fb4f6217d45", func := "budwood/budwoodlaw17.BuildFits", spec := "buildFits", unfollowed := true, recurses := true, apart := false, narrowed := true }
def BuildFitsUptoSaid : Prop := buildFitsUptoRow.holds Try.pinned (OpenSpec.upto buildFitsSpec)

/-- 'budwoodlaw17.BuildNeed', WHERE WHAT IT READS IS OF BULK AT MOST 1048576: true; the input reads as it did. -/
def buildNeedUptoRow : OpenClaim := { program := "ytfoidiebdklggaa", sum := "5fe23a9580dbaa52f098923fcb2aeeaf4b59b14059ba488726733fb4f6217d45", func := "budwood/budwoodlaw17.BuildNeed", spec := "buildNeed", unfollowed := true, recurses := true, apart := false, narrowed := true }
def BuildNeedUptoSaid : Prop := buildNeedUptoRow.holds Try.pinned (OpenSpec.upto buildNeedSpec)

end Rows
end Go.Proofs.Ytfoidiebdklggaa
