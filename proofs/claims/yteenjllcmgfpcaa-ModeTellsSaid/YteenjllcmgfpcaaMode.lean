/-
  What the functions of package mode do, each by a contract.
-/
import Derived.Test.YteenjllcmgfpcaaMem
import Derived.Test.YteenjllcmgfpcaaChecked
import Derived.WalkKit
import Derived.WalkLawsBesides
import Derived.WalkSpells
import Derived.Deep.QuietTactic
import Derived.BigQuiet
import Derived.Deep.RegionWith
import Derived.Outline
open Go Go.RowKit
namespace Go.Proofs.Yteenjllcmgfpcaa

theorem there_yes {W : World} {m : Int} (h0 : 0 ≤ m) (h1 : m < 7) : Calls Try.prog 22 #[.int .i64 m] W fun e W' => e = .returned (.bool true) ∧ W = W' := by
  go_enter Try.func22, Try.ntmps22
  go_wp2
  go_ret
  exact ⟨rfl, rfl⟩
theorem there_no {W : World} {m : Int} (h : m < 0 ∨ 7 ≤ m) : Calls Try.prog 22 #[.int .i64 m] W fun e W' => e = .returned (.bool false) ∧ W = W' := by
  rcases h with h | h
  · go_enter Try.func22, Try.ntmps22
    go_wp2
    go_ret
    exact ⟨rfl, rfl⟩
  · have h0 : ¬ m < 0 := by omega
    have h1 : decide (m < 7) = false := by rw [decide_eq_false_iff_not]; omega
    go_enter Try.func22, Try.ntmps22
    go_wp2
    go_ret
    exact ⟨by simp, rfl⟩

/-- The bits of the modes with which a mode clashes. -/
def ct (a : Int) : Int := if a = 0 then 0 else if a = 1 then 80 else if a = 2 then 120 else if a = 3 then 84 else if a = 4 then 126 else if a = 5 then 116 else 126

theorem clashes_any (W : World) : Calls Try.prog 27 #[] W fun e W' => e = .returned (.agg #[.int .i64 0, .int .i64 80, .int .i64 120, .int .i64 84, .int .i64 126, .int .i64 116, .int .i64 126]) ∧ Below W.heap.size W W' := by
  go_enter Try.func27, Try.ntmps27
  go_wp2
  refine bodyPost_ret (v := .agg #[.int .i64 0, .int .i64 80, .int .i64 120, .int .i64 84, .int .i64 126, .int .i64 116, .int .i64 126]) (by simp [results, Try.results27, go_sem]) rfl ⟨rfl, ?_⟩
  exact (Below.refl _ _).alloc (Nat.le_refl _) _

theorem seven {a : Int} (h0 : 0 ≤ a) (h1 : a < 7) : a = 0 ∨ a = 1 ∨ a = 2 ∨ a = 3 ∨ a = 4 ∨ a = 5 ∨ a = 6 := by omega

theorem index_ct {a : Int} (h0 : 0 ≤ a) (h1 : a < 7) : ∀ w, (Instr.index 38 (.agg #[.int .i64 0, .int .i64 80, .int .i64 120, .int .i64 84, .int .i64 126, .int .i64 116, .int .i64 126]) (.int .i64 a)).run Try.prog w = .ok (.int .i64 (ct a)) w := by
  rcases seven h0 h1 with rfl | rfl | rfl | rfl | rfl | rfl | rfl <;> exact fun _ => by kernel_rfl

/-- The same, as a natural number. -/
def ctN (a : Nat) : Nat := match a with | 0 => 0 | 1 => 80 | 2 => 120 | 3 => 84 | 4 => 126 | 5 => 116 | _ => 126
def inR (a : Int) : Bool := decide (0 ≤ a) && decide (a < 7)
/-- What Fits answers. -/
def fitsB (a b : Int) : Bool := inR a && inR b && !(ctN a.toNat).testBit b.toNat
/-- What Covers answers. -/
def covB (a b : Int) : Bool := inR a && inR b && (ctN a.toNat &&& ctN b.toNat == ctN b.toNat) && (b != 6 || a == 6)

theorem inR_yes {a : Int} (h0 : 0 ≤ a) (h1 : a < 7) : inR a = true := by simp [inR, h0, h1]
theorem inR_no {a : Int} (h : ¬ (0 ≤ a ∧ a < 7)) : inR a = false := by
  unfold inR
  rw [← Bool.not_eq_true]
  simpa using fun h0 => by omega
theorem inR_cases (a : Int) : (0 ≤ a ∧ a < 7) ∨ (a < 0 ∨ 7 ≤ a) := by omega

theorem fits_bits {a b : Int} (a0 : 0 ≤ a) (a1 : a < 7) (b0 : 0 ≤ b) (b1 : b < 7) : (bits BinOp.and IntKind.i64 (ct a) (IntKind.i64.wrap (2 ^ b.toNat)) == 0) = fitsB a b := by
  rcases seven a0 a1 with rfl | rfl | rfl | rfl | rfl | rfl | rfl <;> rcases seven b0 b1 with rfl | rfl | rfl | rfl | rfl | rfl | rfl <;> rfl
theorem cov_bits {a b : Int} (a0 : 0 ≤ a) (a1 : a < 7) (b0 : 0 ≤ b) (b1 : b < 7) : covB a b = ((bits BinOp.andNot IntKind.i64 (ct b) (ct a) == 0) && (b != 6 || a == 6)) := by
  rcases seven a0 a1 with rfl | rfl | rfl | rfl | rfl | rfl | rfl <;> rcases seven b0 b1 with rfl | rfl | rfl | rfl | rfl | rfl | rfl <;> rfl

theorem fits_in {a b : Int} (a0 : 0 ≤ a) (a1 : a < 7) (b0 : 0 ≤ b) (b1 : b < 7) (W : World) : Calls Try.prog 15 #[.int .i64 a, .int .i64 b] W fun e W' => e = .returned (.bool (fitsB a b)) ∧ Below W.heap.size W W' := by
  have hidx := index_ct a0 a1
  go_enter Try.func15, Try.ntmps15
  go_wp2_with fail
  go_region_with (first
    | (go_at_call 22; ((with_reducible refine (there_yes (by omega) (by omega)).mono ?_)); rintro e w' ⟨rfl, rfl⟩)
    | (go_at_call 27; ((with_reducible refine (clashes_any _).mono ?_)); rintro e w1 ⟨rfl, hb⟩))
  go_wp2
  go_ret
  refine ⟨?_, ⟨hb.os, hb.tape, hb.output, hb.size, hb.block⟩⟩
  rw [← fits_bits a0 a1 b0 b1]
  simp [Act.put]

theorem fits_any (a b : Int) (W : World) : Calls Try.prog 15 #[.int .i64 a, .int .i64 b] W fun e W' => e = .returned (.bool (fitsB a b)) ∧ Below W.heap.size W W' := by
  rcases inR_cases a with ⟨a0, a1⟩ | ha
  · rcases inR_cases b with ⟨b0, b1⟩ | hb
    · exact fits_in a0 a1 b0 b1 W
    · have hf : fitsB a b = false := by unfold fitsB; rw [inR_no (a := b) (by omega)]; simp
      have HB := hid hb
      have HF := hid hf
      clear hb hf
      go_enter Try.func15, Try.ntmps15
      go_wp2_with fail
      go_quiet (first
        | (go_at_call_of 22 (Value.int IntKind.i64 a); exact Calls.quiet_of_same ((there_yes a0 a1).mono fun _ _ h => ⟨h.1, h.2.symm⟩))
        | (go_at_call_of 22 (Value.int IntKind.i64 b); exact Calls.quiet_of_same ((there_no HB.out).mono fun _ _ h => ⟨h.1, h.2.symm⟩)))
      go_wp2
      go_ret
      exact ⟨by rw [HF.out]; rfl, ⟨rfl, rfl, rfl, Nat.le_refl _, fun _ _ => rfl⟩⟩
  · have hf : fitsB a b = false := by unfold fitsB; rw [inR_no (a := a) (by omega)]; simp
    have HA := hid ha
    have HF := hid hf
    clear ha hf
    go_enter Try.func15, Try.ntmps15
    go_wp2_with fail
    go_quiet ((go_at_call 22; exact Calls.quiet_of_same ((there_no HA.out).mono fun _ _ h => ⟨h.1, h.2.symm⟩)))
    go_wp2
    go_ret
    exact ⟨by rw [HF.out]; rfl, ⟨rfl, rfl, rfl, Nat.le_refl _, fun _ _ => rfl⟩⟩
end Go.Proofs.Yteenjllcmgfpcaa
