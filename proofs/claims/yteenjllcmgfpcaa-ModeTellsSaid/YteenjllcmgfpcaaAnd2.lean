/-
  The laws of the table, by all cases: those of ModeJoins, ModeLess, ModeAbove.
-/
import Derived.Test.YteenjllcmgfpcaaAnd
open Go Go.RowKit
namespace Go.Proofs.Yteenjllcmgfpcaa

theorem two7 {P : Int → Int → Prop} (h : ∀ i j : Fin 7, P (i.val : Int) (j.val : Int)) {a b : Int} (a0 : 0 ≤ a) (a1 : a < 7) (b0 : 0 ≤ b) (b1 : b < 7) : P a b :=
  all7 (P := fun a => P a b) (fun i => all7 (P := fun b => P i.val b) (fun j => h i j) b0 b1) a0 a1
theorem three7 {P : Int → Int → Int → Prop} (h : ∀ i j k : Fin 7, P (i.val : Int) (j.val : Int) (k.val : Int)) {a b c : Int} (a0 : 0 ≤ a) (a1 : a < 7) (b0 : 0 ≤ b) (b1 : b < 7) (c0 : 0 ≤ c) (c1 : c < 7) : P a b c :=
  two7 (P := fun a b => P a b c) (fun i j => all7 (P := fun c => P i.val j.val c) (fun k => h i j k) c0 c1) a0 a1 b0 b1

section
variable {a b c : Int} (a0 : 0 ≤ a) (a1 : a < 7) (b0 : 0 ≤ b) (b1 : b < 7) (c0 : 0 ≤ c) (c1 : c < 7)
include a0 a1
theorem l_none_fits : fitsB 0 a = true := all7 (P := fun a => fitsB 0 a = true) (by decide +kernel) a0 a1
theorem l_cov_none : covB a 0 = true := all7 (P := fun a => covB a 0 = true) (by decide +kernel) a0 a1
theorem l_cov_rx : covB a 6 = (a == 6) := all7 (P := fun a => covB a 6 = (a == 6)) (by decide +kernel) a0 a1
theorem l_rx_cov : covB 6 a = true := all7 (P := fun a => covB 6 a = true) (by decide +kernel) a0 a1
theorem l_fits_x : (a == 0) = false → fitsB a 4 = false := all7 (P := fun a => (a == 0) = false → fitsB a 4 = false) (by decide +kernel) a0 a1
theorem l_fits_rx : (a == 0) = false → fitsB a 6 = false := all7 (P := fun a => (a == 0) = false → fitsB a 6 = false) (by decide +kernel) a0 a1
theorem a_none : (aboveB a == 0) = (a == 0) := all7 (P := fun a => (aboveB a == 0) = (a == 0)) (by decide +kernel) a0 a1
theorem a_le : aboveB a ≤ 2 := all7 (P := fun a => aboveB a ≤ 2) (by decide +kernel) a0 a1
theorem j_self : joinB a a = a := all7 (P := fun a => joinB a a = a) (by decide +kernel) a0 a1
include b0 b1
theorem a_cov : covB a b = true → covB (aboveB a) (aboveB b) = true := two7 (P := fun a b => covB a b = true → covB (aboveB a) (aboveB b) = true) (by decide +kernel) a0 a1 b0 b1
theorem a_fits : fitsB (aboveB a) (aboveB b) = true := two7 (P := fun a b => fitsB (aboveB a) (aboveB b) = true) (by decide +kernel) a0 a1 b0 b1
theorem j_sym : joinB b a = joinB a b := two7 (P := fun a b => joinB b a = joinB a b) (by decide +kernel) a0 a1 b0 b1
theorem j_cov1 : covB (joinB a b) a = true := two7 (P := fun a b => covB (joinB a b) a = true) (by decide +kernel) a0 a1 b0 b1
theorem j_cov2 : covB (joinB a b) b = true := two7 (P := fun a b => covB (joinB a b) b = true) (by decide +kernel) a0 a1 b0 b1
theorem j_err : errB a b = 0 := two7 (P := fun a b => errB a b = 0) (by decide +kernel) a0 a1 b0 b1
theorem j_range : 0 ≤ joinB a b ∧ joinB a b < 7 := two7 (P := fun a b => 0 ≤ joinB a b ∧ joinB a b < 7) (by decide +kernel) a0 a1 b0 b1
include c0 c1
theorem j_assoc : joinB (joinB a b) c = joinB a (joinB b c) := three7 (P := fun a b c => joinB (joinB a b) c = joinB a (joinB b c)) (by decide +kernel) a0 a1 b0 b1 c0 c1
theorem j_least : covB c a = true → covB c b = true → covB c (joinB a b) = true := three7 (P := fun a b c => covB c a = true → covB c b = true → covB c (joinB a b) = true) (by decide +kernel) a0 a1 b0 b1 c0 c1
theorem l_cov_fits : covB a b = true → fitsB c a = true → fitsB c b = true := three7 (P := fun a b c => covB a b = true → fitsB c a = true → fitsB c b = true) (by decide +kernel) a0 a1 b0 b1 c0 c1
end
end Go.Proofs.Yteenjllcmgfpcaa
