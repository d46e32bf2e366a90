/-
  Small facts of the mode laws: what 'x & 7 % 7' is, and the laws of the table, by all cases.
-/
import Derived.Test.YteenjllcmgfpcaaMfix
import Derived.Laws.BitsAllLaws
import Derived.Laws.BitsLemmas
open Go Go.RowKit
namespace Go.Proofs.Yteenjllcmgfpcaa

theorem and7 (x : Int) : 0 ≤ bits BinOp.and IntKind.i64 x 7 ∧ bits BinOp.and IntKind.i64 x 7 ≤ 7 := by
  have h : (BitVec.ofInt 64 x &&& BitVec.ofInt 64 7).toNat ≤ 7 := by
    rw [BitVec.toNat_and]
    have e : (BitVec.ofInt 64 7).toNat = 7 := by decide
    rw [e]
    exact Nat.and_le_right
  have e : bits BinOp.and IntKind.i64 x 7 = IntKind.i64.wrap ((BitVec.ofInt 64 x &&& BitVec.ofInt 64 7).toNat : Int) := rfl
  rw [e, IntKind.wrap_i64]
  omega

theorem all7 {P : Int → Prop} (h : ∀ i : Fin 7, P (i.val : Int)) {a : Int} (a0 : 0 ≤ a) (a1 : a < 7) : P a := by
  have := h ⟨a.toNat, by omega⟩
  simpa [Int.toNat_of_nonneg a0] using this

theorem fits_sym : ∀ {a b : Int}, 0 ≤ a → a < 7 → 0 ≤ b → b < 7 → fitsB a b = fitsB b a := by
  intro a b a0 a1 b0 b1
  exact all7 (P := fun a => fitsB a b = fitsB b a) (fun i => all7 (P := fun b => fitsB i.val b = fitsB b i.val) (by revert i; decide +kernel) b0 b1) a0 a1
theorem cov_fits {a b c : Int} (a0 : 0 ≤ a) (a1 : a < 7) (b0 : 0 ≤ b) (b1 : b < 7) (c0 : 0 ≤ c) (c1 : c < 7) : covB a b = true → fitsB a c = true → fitsB b c = true := by
  revert a0 a1 b0 b1 c0 c1
  intro a0 a1 b0 b1 c0 c1
  exact all7 (P := fun a => covB a b = true → fitsB a c = true → fitsB b c = true) (fun i => all7 (P := fun b => covB i.val b = true → fitsB i.val c = true → fitsB b c = true)
    (fun j => all7 (P := fun c => covB i.val j.val = true → fitsB i.val c = true → fitsB j.val c = true) (by revert i j; decide +kernel) c0 c1) b0 b1) a0 a1
theorem above_fits {a b : Int} (a0 : 0 ≤ a) (a1 : a < 7) (b0 : 0 ≤ b) (b1 : b < 7) : fitsB a b = true → fitsB (aboveB a) (aboveB b) = true :=
  all7 (P := fun a => fitsB a b = true → fitsB (aboveB a) (aboveB b) = true) (fun i => all7 (P := fun b => fitsB i.val b = true → fitsB (aboveB i.val) (aboveB b) = true) (by revert i; decide +kernel) b0 b1) a0 a1
theorem cov_self {a : Int} (a0 : 0 ≤ a) (a1 : a < 7) : covB a a = true := all7 (P := fun a => covB a a = true) (by decide +kernel) a0 a1
theorem cov_trans {a b c : Int} (a0 : 0 ≤ a) (a1 : a < 7) (b0 : 0 ≤ b) (b1 : b < 7) (c0 : 0 ≤ c) (c1 : c < 7) : covB a b = true → covB b c = true → covB a c = true :=
  all7 (P := fun a => covB a b = true → covB b c = true → covB a c = true) (fun i => all7 (P := fun b => covB i.val b = true → covB b c = true → covB i.val c = true)
    (fun j => all7 (P := fun c => covB i.val j.val = true → covB j.val c = true → covB i.val c = true) (by revert i j; decide +kernel) c0 c1) b0 b1) a0 a1
theorem aerr0 {a : Int} (a0 : 0 ≤ a) (a1 : a < 7) : aerrB a = 0 := by simp [aerrB, inR_yes a0 a1]
end Go.Proofs.Yteenjllcmgfpcaa
