/-
  ModeTells returns true for every input: the walk.
-/
import Derived.Test.YteenjllcmgfpcaaMref2
import Derived.Test.YteenjllcmgfpcaaMfix
open Go Go.RowKit
namespace Go.Proofs.Yteenjllcmgfpcaa.modeTells
set_option linter.unusedVariables false in
set_option maxHeartbeats 2000000 in
set_option maxRecDepth 100000 in
theorem walk (a0 : Int) (a1 : Int) (a2 : ByteArray) (w0 : (Lit.int .i64 a0).wf = true) (w1 : (Lit.int .i64 a1).wf = true) (w2 : a2.size ≤ maxLen) (w : World) :
    Calls Try.prog 3 #[.int .i64 a0, .int .i64 a1, .string a2] w fun e w' => e = .returned (.bool true) ∧ Below w.heap.size w w' := by
  have HB : Hid (Below w.heap.size w w) := Below.refl _ _
  clear w0 w1 w2
  go_enter Try.func3, Try.ntmps3
  go_wp2_with (first
    | (go_at_call 9; ((with_reducible refine (join_any _ _ _).mono ?_)); rintro e w1 ⟨rfl, hb⟩; replace HB := hb_next HB hb; clear hb)
    | (go_at_call 10; ((with_reducible refine (joinR_any _ _ _).mono ?_)); rintro e w1 ⟨rfl, hb⟩; replace HB := hb_next HB hb; clear hb)
    | (go_at_call 11; ((with_reducible refine (above_any _ _).mono ?_)); rintro e w1 ⟨rfl, rfl⟩)
    | (go_at_call 12; ((with_reducible refine (aboveR_any _ _).mono ?_)); rintro e w1 ⟨rfl, hb⟩; replace HB := hb_next HB hb; clear hb)
    | (go_at_call 13; ((with_reducible refine (parse_any _ _).mono ?_)); rintro e w1 ⟨rfl, hb⟩; replace HB := hb_next HB hb; clear hb)
    | (go_at_call 14; ((with_reducible refine (parseR_any _ _).mono ?_)); rintro e w1 ⟨rfl, hb⟩; replace HB := hb_next HB hb; clear hb)
    | (go_at_call 15; ((with_reducible refine (fits_any _ _ _).mono ?_)); rintro e w1 ⟨rfl, hb⟩; replace HB := hb_next HB hb; clear hb)
    | (go_at_call 16; ((with_reducible refine (fitsR_any _ _ _).mono ?_)); rintro e w1 ⟨rfl, hb⟩; replace HB := hb_next HB hb; clear hb)
    | (go_at_call 17; ((with_reducible refine (covers_any _ _ _).mono ?_)); rintro e w1 ⟨rfl, hb⟩; replace HB := hb_next HB hb; clear hb)
    | (go_at_call 18; ((with_reducible refine (coversR_any _ _ _).mono ?_)); rintro e w1 ⟨rfl, hb⟩; replace HB := hb_next HB hb; clear hb)
    | (go_at_call 19; ((with_reducible refine (name_any _ _).mono ?_)); rintro e w1 ⟨rfl, hb⟩; replace HB := hb_next HB hb; clear hb)
    | (go_at_call 20; ((with_reducible refine (nameR_any _ _).mono ?_)); rintro e w1 ⟨rfl, hb⟩; replace HB := hb_next HB hb; clear hb)
    | (go_at_call 21; ((with_reducible refine (fixed_any _).mono ?_)); rintro e w1 ⟨rfl, hb⟩; replace HB := hb_next HB hb; clear hb))
  go_ret
  exact ⟨rfl, HB.out⟩
end Go.Proofs.Yteenjllcmgfpcaa.modeTells
