/-
  ModeJoins returns true for every input: the walk.
-/
import Derived.Test.YteenjllcmgfpcaaAnd2
import Derived.Deep.DeepCutAuto
import Derived.Deep.CutRange
import Derived.Deep.CutBlock
open Go Go.RowKit
namespace Go.Proofs.Yteenjllcmgfpcaa.modeJoins

set_option linter.unusedVariables false in
set_option maxHeartbeats 2000000 in
set_option maxRecDepth 100000 in
theorem walk (a0 : Int) (a1 : Int) (a2 : Int) (w0 : (Lit.int .i64 a0).wf = true) (w1 : (Lit.int .i64 a1).wf = true) (w2 : (Lit.int .i64 a2).wf = true) (w : World) :
    Calls Try.prog 5 #[.int .i64 a0, .int .i64 a1, .int .i64 a2] w fun e w' => e = .returned (.bool true) ∧ Below w.heap.size w w' := by
  obtain ⟨A0, A1⟩ := and7 a0
  obtain ⟨B0, B1⟩ := and7 a1
  obtain ⟨C0, C1⟩ := and7 a2
  have HB : Hid (Below w.heap.size w w) := Below.refl _ _
  clear w0 w1 w2
  go_enter Try.func5, Try.ntmps5
  go_upto_region 4 with fail
  obtain ⟨A, hA⟩ : ∃ A, bits BinOp.and IntKind.i64 a0 7 % 7 = A := ⟨_, rfl⟩
  obtain ⟨B, hB⟩ : ∃ B, bits BinOp.and IntKind.i64 a1 7 % 7 = B := ⟨_, rfl⟩
  obtain ⟨C, hC⟩ : ∃ C, bits BinOp.and IntKind.i64 a2 7 % 7 = C := ⟨_, rfl⟩
  have x0 : 0 ≤ A ∧ A < 7 := by omega
  have y0 : 0 ≤ B ∧ B < 7 := by omega
  have z0 : 0 ≤ C ∧ C < 7 := by omega
  simp only [hA, hB, hC]
  clear hA hB hC A0 A1 B0 B1 C0 C1
  obtain ⟨x0, x1⟩ := x0
  obtain ⟨y0, y1⟩ := y0
  obtain ⟨z0, z1⟩ := z0
  have k1 := j_sym x0 x1 y0 y1
  have k2 := j_cov1 x0 x1 y0 y1
  have k3 := j_cov2 x0 x1 y0 y1
  have k4 := j_err x0 x1 y0 y1
  have k5 := j_err y0 y1 x0 x1
  have r1 := j_range x0 x1 y0 y1
  have r2 := j_range y0 y1 z0 z1
  have k6 := j_err r1.1 r1.2 z0 z1
  have k7 := j_err y0 y1 z0 z1
  have k8 := j_err x0 x1 r2.1 r2.2
  have k9 := j_err x0 x1 x0 x1
  have k10 := j_self x0 x1
  have k11 := j_assoc x0 x1 y0 y1 z0 z1
  have k12 := j_least x0 x1 y0 y1 z0 z1
  clear r1 r2
  go_wp2_with (first
    | (go_at_call 9; ((with_reducible refine (join_any _ _ _).mono ?_)); rintro e w1 ⟨rfl, hb⟩; replace HB := hb_next HB hb; clear hb)
    | (go_at_call 11; ((with_reducible refine (above_any _ _).mono ?_)); rintro e w1 ⟨rfl, rfl⟩)
    | (go_at_call 15; ((with_reducible refine (fits_any _ _ _).mono ?_)); rintro e w1 ⟨rfl, hb⟩; replace HB := hb_next HB hb; clear hb)
    | (go_at_call 17; ((with_reducible refine (covers_any _ _ _).mono ?_)); rintro e w1 ⟨rfl, hb⟩; replace HB := hb_next HB hb; clear hb)
    | (go_at_call 21; ((with_reducible refine (fixed_any _).mono ?_)); rintro e w1 ⟨rfl, hb⟩; replace HB := hb_next HB hb; clear hb))
  all_goals (go_ret; exact ⟨rfl, HB.out⟩)
end Go.Proofs.Yteenjllcmgfpcaa.modeJoins
