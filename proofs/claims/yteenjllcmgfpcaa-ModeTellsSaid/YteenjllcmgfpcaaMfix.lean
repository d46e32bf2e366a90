/-
  The fixed calls of the mode laws answer true.
-/
import Derived.Test.YteenjllcmgfpcaaCov
import Derived.Test.YteenjllcmgfpcaaName
open Go Go.RowKit
namespace Go.Proofs.Yteenjllcmgfpcaa

theorem hb_next {W w w' : World} (h : Hid (Below W.heap.size W w)) (k : Below w.heap.size w w') : Hid (Below W.heap.size W w') := h.out.trans (k.mono h.out.size)

set_option maxHeartbeats 1000000 in
set_option maxRecDepth 100000 in
theorem fixed_any (W : World) : Calls Try.prog 21 #[] W fun e W' => e = .returned (.bool true) ∧ Below W.heap.size W W' := by
  have HB : Hid (Below W.heap.size W W) := Below.refl _ _
  have j1 : joinB 2 3 = 4 := by decide
  have j1e : errB 2 3 = 0 := by decide
  have j2 : joinB 1 5 = 5 := by decide
  have j2e : errB 1 5 = 0 := by decide
  have j3 : joinB 4 6 = 6 := by decide
  have j3e : errB 4 6 = 0 := by decide
  have j4e : errB 7 0 = 1 := by decide
  have a1 : aboveB 3 = 1 := by decide
  have a1e : aerrB 3 = 0 := by decide
  have a2e : aerrB (-1) = 1 := by decide
  have p1 : parseB ⟨#[82, 88]⟩ = 6 := by decide +kernel
  have p1e : perrB ⟨#[82, 88]⟩ = 0 := by decide +kernel
  have p2e : perrB ⟨#[114, 120]⟩ = 4 := by decide +kernel
  have f1 : fitsB 3 5 = true := by decide
  have f2 : fitsB 5 5 = false := by decide
  have f3 : fitsB 0 6 = true := by decide
  have n1 : nameB 5 = ⟨#[82]⟩ := by decide
  have n2 : nameB 7 = ⟨#[]⟩ := by decide
  have c1 : covB 4 3 = true := by decide
  have c2 : covB 4 6 = false := by decide
  go_enter Try.func21, Try.ntmps21
  go_wp2_with (first
    | (go_at_call 9; ((with_reducible refine (join_any _ _ _).mono ?_)); rintro e w1 ⟨rfl, hb⟩; replace HB := hb_next HB hb; clear hb)
    | (go_at_call 11; ((with_reducible refine (above_any _ _).mono ?_)); rintro e w1 ⟨rfl, rfl⟩)
    | (go_at_call 13; ((with_reducible refine (parse_any _ _).mono ?_)); rintro e w1 ⟨rfl, hb⟩; replace HB := hb_next HB hb; clear hb)
    | (go_at_call 15; ((with_reducible refine (fits_any _ _ _).mono ?_)); rintro e w1 ⟨rfl, hb⟩; replace HB := hb_next HB hb; clear hb)
    | (go_at_call 17; ((with_reducible refine (covers_any _ _ _).mono ?_)); rintro e w1 ⟨rfl, hb⟩; replace HB := hb_next HB hb; clear hb)
    | (go_at_call 19; ((with_reducible refine (name_any _ _).mono ?_)); rintro e w1 ⟨rfl, hb⟩; replace HB := hb_next HB hb; clear hb))
  go_ret
  exact ⟨rfl, HB.out⟩
end Go.Proofs.Yteenjllcmgfpcaa
