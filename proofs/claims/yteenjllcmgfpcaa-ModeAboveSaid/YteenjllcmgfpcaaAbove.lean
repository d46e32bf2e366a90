/-
  ModeAbove returns true for every input: the walk.
-/
import Derived.Test.YteenjllcmgfpcaaAnd2
import Derived.Deep.DeepCutAuto
import Derived.Deep.CutRange
import Derived.Deep.CutBlock
open Go Go.RowKit
namespace Go.Proofs.Yteenjllcmgfpcaa.modeAbove

set_option linter.unusedVariables false in
set_option maxHeartbeats 2000000 in
set_option maxRecDepth 100000 in
theorem walk (a0 : Int) (a1 : Int) (w0 : (Lit.int .i64 a0).wf = true) (w1 : (Lit.int .i64 a1).wf = true) (w : World) :
    Calls Try.prog 8 #[.int .i64 a0, .int .i64 a1] w fun e w' => e = .returned (.bool true) ∧ Below w.heap.size w w' := by
  obtain ⟨A0, A1⟩ := and7 a0
  obtain ⟨B0, B1⟩ := and7 a1
  have HB : Hid (Below w.heap.size w w) := Below.refl _ _
  clear w0 w1
  go_enter Try.func8, Try.ntmps8
  go_upto_region 3 with fail
  obtain ⟨A, hA⟩ : ∃ A, bits BinOp.and IntKind.i64 a0 7 % 7 = A := ⟨_, rfl⟩
  obtain ⟨B, hB⟩ : ∃ B, bits BinOp.and IntKind.i64 a1 7 % 7 = B := ⟨_, rfl⟩
  have x0 : 0 ≤ A ∧ A < 7 := by omega
  have y0 : 0 ≤ B ∧ B < 7 := by omega
  simp only [hA, hB]
  clear hA hB A0 A1 B0 B1
  obtain ⟨x0, x1⟩ := x0
  obtain ⟨y0, y1⟩ := y0
  have k1 := a_cov x0 x1 y0 y1
  have k2 := a_fits x0 x1 y0 y1
  have k3 := a_none x0 x1
  have k4 := a_le x0 x1
  have k5 := aerr0 x0 x1
  have k6 := aerr0 y0 y1
  go_wp2_with (first
    | (go_at_call 11; ((with_reducible refine (above_any _ _).mono ?_)); rintro e w1 ⟨rfl, rfl⟩)
    | (go_at_call 15; ((with_reducible refine (fits_any _ _ _).mono ?_)); rintro e w1 ⟨rfl, hb⟩; replace HB := hb_next HB hb; clear hb)
    | (go_at_call 17; ((with_reducible refine (covers_any _ _ _).mono ?_)); rintro e w1 ⟨rfl, hb⟩; replace HB := hb_next HB hb; clear hb)
    | (go_at_call 21; ((with_reducible refine (fixed_any _).mono ?_)); rintro e w1 ⟨rfl, hb⟩; replace HB := hb_next HB hb; clear hb))
  all_goals (go_ret; exact ⟨rfl, HB.out⟩)
end Go.Proofs.Yteenjllcmgfpcaa.modeAbove
