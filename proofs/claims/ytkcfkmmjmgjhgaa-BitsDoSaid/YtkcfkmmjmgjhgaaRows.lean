/-
  No cell of these rows narrows 'for every input' (looked for: loops, veiled, ifaces, maps, wideKeys, modest, calm, conditions, laid).
  DERIVED. THE GIVEN ROWS OF THIS SEAT. 6 by the template 'for every input the law returns true; each argument reads behind the call as it read before'; 0 by the template 'total and deterministic' (their statements: YtkcfkmmjmgjhgaaTotals.lean).
  GIVEN WITH THE SEED: the statements are not yours to turn. If you find one false, say at which input.
  Laid BY PROGRAM, IN A SANDBOX (cutbox-rows.mjs): the forced cells as the released guide's own fill.sh prints them over the translation f3dcf1eae1e4fa28… (all of the seat's roots in one cut). By AI agents, Wed Nov 11 2026. No macro, syntax, notation, axiom, sorry.
-/
import Derived.Test.YtkcfkmmjmgjhgaaChecked
import GoSem.Claim
import GoSem.ClaimJoined
import GoSem.ClaimMapViews
import Derived.JoinedTies
import Derived.KernelRfl
namespace Go.Proofs.Ytkcfkmmjmgjhgaa
/- THE CELL 'sum', in the pinned program and in every row, IS THE sha256 OF THE DUMP (.gsa) THAT YtkcfkmmjmgjhgaaProg.lean LOADS. Nothing in Lean hashes anything: it is a label: what it is worth is what the hold of that sum in a sandbox is worth. -/
noncomputable def Try.pinned : Pinned := { name := "ytkcfkmmjmgjhgaa", sum := "f3dcf1eae1e4fa283c91e14b8f7ce3f8857430cb53123a7d959b8babf9131934", checked := Try.checked }
namespace Rows
def none {H : Type} : Left H := { results := [], args := [] }

/-- 'budwoodlaw03.BitsLoad': WHATEVER THE INPUT: true; the input reads as it did. -/
def bitsLoadSpec : ChangeSpec := { name := "bitsLoad", fn := fun _ => fun
  | [d1, d2] => { results := [.lit (.bool true)], args := [d1, d2] }
  | _ => none }
def bitsLoadRow : OpenClaim := { program := "ytkcfkmmjmgjhgaa", sum := "f3dcf1eae1e4fa283c91e14b8f7ce3f8857430cb53123a7d959b8babf9131934", func := "budwood/budwoodlaw03.BitsLoad", spec := "bitsLoad", unfollowed := true, recurses := true, apart := false }
def BitsLoadSaid : Prop := bitsLoadRow.holds Try.pinned (OpenSpec.ofChange bitsLoadSpec)

/-- ITS FALSE NEIGHBOUR: 'it returns false'. Refute it at one input. -/
def bitsLoadWrong : ChangeSpec := { name := "bitsLoad", fn := fun _ => fun
  | [d1, d2] => { results := [.lit (.bool false)], args := [d1, d2] }
  | _ => none }
def BitsLoadWrongFalsely : Prop := bitsLoadRow.holds Try.pinned (OpenSpec.ofChange bitsLoadWrong)

/-- 'budwoodlaw03.BitsOnce': WHATEVER THE INPUT: true; the input reads as it did. -/
def bitsOnceSpec : ChangeSpec := { name := "bitsOnce", fn := fun _ => fun
  | [d1, d2, d3] => { results := [.lit (.bool true)], args := [d1, d2, d3] }
  | _ => none }
def bitsOnceRow : OpenClaim := { program := "ytkcfkmmjmgjhgaa", sum := "f3dcf1eae1e4fa283c91e14b8f7ce3f8857430cb53123a7d959b8babf9131934", func := "budwood/budwoodlaw03.BitsOnce", spec := "bitsOnce", unfollowed := true, recurses := true, apart := false }
def BitsOnceSaid : Prop := bitsOnceRow.holds Try.pinned (OpenSpec.ofChange bitsOnceSpec)

/-- ITS FALSE NEIGHBOUR: 'it returns false'. Refute it at one input. -/
def bitsOnceWrong : ChangeSpec := { name := "bitsOnce", fn := fun _ => fun
  | [d1, d2, d3] => { results := [.lit (.bool false)], args := [d1, d2, d3] }
  | _ => none }
def BitsOnceWrongFalsely : Prop := bitsOnceRow.holds Try.pinned (OpenSpec.ofChange bitsOnceWrong)

/-- 'budwoodlaw03.BitsRun': WHATEVER THE INPUT: true; the input reads as it did. -/
def bitsRunSpec : ChangeSpec := { name := "bitsRun", fn := fun _ => fun
  | [d1, d2, d3] => { results := [.lit (.bool true)], args := [d1, d2, d3] }
  | _ => none }
def bitsRunRow : OpenClaim := { program := "ytkcfkmmjmgjhgaa", sum := "f3dcf1eae1e4fa283c91e14b8f7ce3f8857430cb53123a7d959b8babf9131934", func := "budwood/budwoodlaw03.BitsRun", spec := "bitsRun", unfollowed := true, recurses := true, apart := false }
def BitsRunSaid : Prop := bitsRunRow.holds Try.pinned (OpenSpec.ofChange bitsRunSpec)

/-- ITS FALSE NEIGHBOUR: 'it returns false'. Refute it at one input. -/
def bitsRunWrong : ChangeSpec := { name := "bitsRun", fn := fun _ => fun
  | [d1, d2, d3] => { results := [.lit (.bool false)], args := [d1, d2, d3] }
  | _ => none }
def BitsRunWrongFalsely : Prop := bitsRunRow.holds Try.pinned (OpenSpec.ofChange bitsRunWrong)

/-- 'budwoodlaw03.BitsDo': WHATEVER THE INPUT: true; the input reads as it did. -/
def bitsDoSpec : ChangeSpec := { name := "bitsDo", fn := fun _ => fun
  | [d1, d2] => { results := [.lit (.bool true)], args := [d1, d2] }
  | _ => none }
def bitsDoRow : OpenClaim := { program := "ytkcfkmmjmgjhgaa", sum := "f3dcf1eae1e4fa283c91e14b8f7ce3f8857430cb53123a7d959b8babf9131934", func := "budwood/budwoodlaw03.BitsDo", spec := "bitsDo", unfollowed := true, recurses := true, apart := false }
def BitsDoSaid : Prop := bitsDoRow.holds Try.pinned (OpenSpec.ofChange bitsDoSpec)

/-- ITS FALSE NEIGHBOUR: 'it returns false'. Refute it at one input. -/
def bitsDoWrong : ChangeSpec := { name := "bitsDo", fn := fun _ => fun
  | [d1, d2] => { results := [.lit (.bool false)], args := [d1, d2] }
  | _ => none }
def BitsDoWrongFalsely : Prop := bitsDoRow.holds Try.pinned (OpenSpec.ofChange bitsDoWrong)

/-- 'budwoodlaw03.BitsBack': WHATEVER THE INPUT: true; the input reads as it did. -/
def bitsBackSpec : ChangeSpec := { name := "bitsBack", fn := fun _ => fun
  | [d1, d2] => { results := [.lit (.bool true)], args := [d1, d2] }
  | _ => none }
def bitsBackRow : OpenClaim := { program := "ytkcfkmmjmgjhgaa", sum := "f3dcf1eae1e4fa283c91e14b8f7ce3f8857430cb53123a7d959b8babf9131934", func := "budwood/budwoodlaw03.BitsBack", spec := "bitsBack", unfollowed := true, recurses := true, apart := false }
def BitsBackSaid : Prop := bitsBackRow.holds Try.pinned (OpenSpec.ofChange bitsBackSpec)

/-- ITS FALSE NEIGHBOUR: 'it returns false'. Refute it at one input. -/
def bitsBackWrong : ChangeSpec := { name := "bitsBack", fn := fun _ => fun
  | [d1, d2] => { results := [.lit (.bool false)], args := [d1, d2] }
  | _ => none }
def BitsBackWrongFalsely : Prop := bitsBackRow.holds Try.pinned (OpenSpec.ofChange bitsBackWrong)

/-- 'budwoodlaw03.BitsFirst': WHATEVER THE INPUT: true; the input reads as it did. -/
def bitsFirstSpec : ChangeSpec := { name := "bitsFirst", fn := fun _ => fun
  | [d1, d2, d3] => { results := [.lit (.bool true)], args := [d1, d2, d3] }
  | _ => none }
def bitsFirstRow : OpenClaim := { program := "ytkcfkmmjmgjhgaa", sum := "f3dcf1eae1e4fa283c91e14b8f7ce3f8857430cb53123a7d959b8babf9131934", func := "budwood/budwoodlaw03.BitsFirst", spec := "bitsFirst", unfollowed := true, recurses := true, apart := false }
def BitsFirstSaid : Prop := bitsFirstRow.holds Try.pinned (OpenSpec.ofChange bitsFirstSpec)

/-- ITS FALSE NEIGHBOUR: 'it returns false'. Refute it at one input. -/
def bitsFirstWrong : ChangeSpec := { name := "bitsFirst", fn := fun _ => fun
  | [d1, d2, d3] => { results := [.lit (.bool false)], args := [d1, d2, d3] }
  | _ => none }
def BitsFirstWrongFalsely : Prop := bitsFirstRow.holds Try.pinned (OpenSpec.ofChange bitsFirstWrong)

/- THE SECOND FORM. 'bulk': how many values and letters a reading holds, each counted each time it is reached (what is shared counts as often as it is met; a slice's spare places count too). A statement '..UptoSaid' is the law's where the arguments, and the package variables that the reading takes, are together of bulk at most 1048576: NARROWER than '..Said'. Prove '..Said' where nothing that the law and all that it calls make is longer than what came in: it says more and counts as full. Else prove '..UptoSaid'. A law counts once. -/
mutual
def uptoBulk {H : Type} : DataW H → Nat
  | .lit (.string bytes) => bytes.length + 1
  | .lit _ => 1
  | .nil => 1
  | .ptr d => uptoBulk d + 1
  | .slice elems spare => uptoBulkAll elems + uptoBulkAll spare + 1
  | .agg parts => uptoBulkAll parts + 1
  | .iface _ d => uptoBulk d + 1
  | .map entries => uptoBulkEntries entries + 1
  | .held _ => 1
def uptoBulkAll {H : Type} : List (DataW H) → Nat
  | [] => 0
  | d :: r => uptoBulk d + uptoBulkAll r
def uptoBulkEntries {H : Type} : List (Lit × DataW H) → Nat
  | [] => 0
  | x :: r => uptoBulkEntry x + uptoBulkEntries r
def uptoBulkEntry {H : Type} : Lit × DataW H → Nat
  | (.string bytes, d) => bytes.length + uptoBulk d + 1
  | (_, d) => uptoBulk d + 1
 end
def uptoSmall : (H : Type) → List (DataW H) → Bool := fun _ ds => decide (uptoBulkAll ds ≤ 1048576)
def OpenSpec.upto (s : _root_.Go.ChangeSpec) : _root_.Go.OpenSpec := { _root_.Go.OpenSpec.ofChange s with cond := some uptoSmall }

/-- 'budwoodlaw03.BitsLoad', WHERE WHAT IT READS IS OF BULK AT MOST 1048576: true; the input reads as it did. -/
def bitsLoadUptoRow : OpenClaim := { program := "ytkcfkmmjmgjhgaa", sum := "f3dcf1eae1e4fa283c91e14b8f7ce3f8857430cb53123a7d959b8babf9131934", func := "budwood/budwoodlaw03.BitsLoad", spec := "bitsLoad", unfollowed := true, recurses := true, apart := false, narrowed := true }
def BitsLoadUptoSaid : Prop := bitsLoadUptoRow.holds Try.pinned (OpenSpec.upto bitsLoadSpec)

/-- 'budwoodlaw03.BitsOnce', WHERE WHAT IT READS IS OF BULK AT MOST 1048576: true; the input reads as it did. -/
def bitsOnceUptoRow : OpenClaim := { program := "ytkcfkmmjmgjhgaa", sum := "f3dcf1eae1e4fa283c91e14b8f7ce3f8857430cb53123a7d959b8babf9131934", func := "budwood/budwoodlaw03.BitsOnce", spec := "bitsOnce", unfollowed := true, recurses := true, apart := false, narrowed := true }
def BitsOnceUptoSaid : Prop := bitsOnceUptoRow.holds Try.pinned (OpenSpec.upto bitsOnceSpec)

/-- 'budwoodlaw03.BitsRun', WHERE WHAT IT READS IS OF BULK AT MOST 1048576: true; the input reads as it did. -/
def bitsRunUptoRow : OpenClaim := { program := "ytkcfkmmjmgjhgaa", sum := "f3dcf1eae1e4fa283c91e14b8f7ce3f8857430cb53123a7d959b8babf9131934", func := "budwood/budwoodlaw03.BitsRun", spec := "bitsRun", unfollowed := true, recurses := true, apart := false, narrowed := true }
def BitsRunUptoSaid : Prop := bitsRunUptoRow.holds Try.pinned (OpenSpec.upto bitsRunSpec)

/-- 'budwoodlaw03.BitsDo', WHERE WHAT IT READS IS OF BULK AT MOST 1048576: true; the input reads as it did. -/
def bitsDoUptoRow : OpenClaim := { program := "ytkcfkmmjmgjhgaa", sum := "f3dcf1eae1e4fa283c91e14b8f7ce3f8857430cb53123a7d959b8babf9131934", func := "budwood/budwoodlaw03.BitsDo", spec := "bitsDo", unfollowed := true, recurses := true, apart := false, narrowed := true }
def BitsDoUptoSaid : Prop := bitsDoUptoRow.holds Try.pinned (OpenSpec.upto bitsDoSpec)

/-- 'budwoodlaw03.BitsBack', WHERE WHAT IT READS IS OF BULK AT MOST 1048576: true; the input reads as it did. -/
def bitsBackUptoRow : OpenClaim := { program := "ytkcfkmmjmgjhgaa", sum := "f3dcf1eae1e4fa283c91e14b8f7ce3f8857430cb53123a7d959b8babf9131934", func := "budwood/budwoodlaw03.BitsBack", spec := "bitsBack", unfollowed := true, recurses := true, apart := false, narrowed := true }
def BitsBackUptoSaid : Prop := bitsBackUptoRow.holds Try.pinned (OpenSpec.upto bitsBackSpec)

/-- 'budwoodlaw03.BitsFirst', WHERE WHAT IT READS IS OF BULK AT MOST 1048576: true; the input reads as it did. -/
def bitsFirstUptoRow : OpenClaim := { program := "ytkcfkmmjmgjhgaa", sum := "f3dcf1eae1e4fa283c91e14b8f7ce3f8857430cb53123a7d959b8babf9131934", func := "budwood/budwoodlaw03.BitsFirst", spec := "bitsFirst", unfollowed := true, recurses := true, apart := false, narrowed := true }
def BitsFirstUptoSaid : Prop := bitsFirstUptoRow.holds Try.pinned (OpenSpec.upto bitsFirstSpec)

end Rows
end Go.Proofs.Ytkcfkmmjmgjhgaa
