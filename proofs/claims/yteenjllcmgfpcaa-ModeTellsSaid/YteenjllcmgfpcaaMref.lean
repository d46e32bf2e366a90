/-
  What the document's functions of modes do (budwoodref08), each by a contract.
-/
import Derived.Test.YteenjllcmgfpcaaAnd2
import Derived.Test.YteenjllcmgfpcaaName
import Derived.Deep.LoopGhost
open Go Go.RowKit
namespace Go.Proofs.Yteenjllcmgfpcaa

theorem thereR_yes {W : World} {m : Int} (h0 : 0 ≤ m) (h1 : m < 7) : Calls Try.prog 24 #[.int .i64 m] W fun e W' => e = .returned (.bool true) ∧ W = W' := by
  go_enter Try.func24, Try.ntmps24
  go_wp2
  go_ret
  exact ⟨rfl, rfl⟩
theorem thereR_no {W : World} {m : Int} (h : m < 0 ∨ 7 ≤ m) : Calls Try.prog 24 #[.int .i64 m] W fun e W' => e = .returned (.bool false) ∧ W = W' := by
  rcases h with h | h
  · go_enter Try.func24, Try.ntmps24
    go_wp2
    go_ret
    exact ⟨rfl, rfl⟩
  · have h0 : ¬ m < 0 := by omega
    have h1 : decide (m < 7) = false := by rw [decide_eq_false_iff_not]; omega
    go_enter Try.func24, Try.ntmps24
    go_wp2
    go_ret
    exact ⟨by simp, rfl⟩

/-- The rows of the document's table. -/
def rowS (a : Nat) : ByteArray := match a with
  | 0 => ⟨#[46, 46, 46, 46, 46, 46, 46]⟩
  | 1 => ⟨#[46, 46, 46, 46, 120, 46, 120]⟩
  | 2 => ⟨#[46, 46, 46, 120, 120, 120, 120]⟩
  | 3 => ⟨#[46, 46, 120, 46, 120, 46, 120]⟩
  | 4 => ⟨#[46, 120, 120, 120, 120, 120, 120]⟩
  | 5 => ⟨#[46, 46, 120, 46, 120, 120, 120]⟩
  | _ => ⟨#[46, 120, 120, 120, 120, 120, 120]⟩
def tabO : Obj := .cells #[.string ⟨#[46, 46, 46, 46, 46, 46, 46]⟩, .string ⟨#[46, 46, 46, 46, 120, 46, 120]⟩, .string ⟨#[46, 46, 46, 120, 120, 120, 120]⟩, .string ⟨#[46, 46, 120, 46, 120, 46, 120]⟩,
  .string ⟨#[46, 120, 120, 120, 120, 120, 120]⟩, .string ⟨#[46, 46, 120, 46, 120, 120, 120]⟩, .string ⟨#[46, 120, 120, 120, 120, 120, 120]⟩] 9

theorem table_any (W : World) : Calls Try.prog 29 #[] W fun e W' => e = .returned (.slice (some ⟨W.heap.size, 0, none⟩) 7 7) ∧ W' = W.alloc tabO := by
  go_enter Try.func29, Try.ntmps29
  go_wp2
  go_ret
  exact ⟨rfl, rfl⟩
theorem table_at {A : Nat} (h : A < 7) (W : World) : (W.alloc tabO).cell? ⟨W.heap.size, A, none⟩ = some (.string (rowS A)) := by
  refine ((Blk.new W 9 _).cell A).trans ?_
  have : A = 0 ∨ A = 1 ∨ A = 2 ∨ A = 3 ∨ A = 4 ∨ A = 5 ∨ A = 6 := by omega
  rcases this with rfl | rfl | rfl | rfl | rfl | rfl | rfl <;> rfl

/-- Do two modes clash? -/
def clB (a b : Nat) : Bool := (ctN a).testBit b
def chB (a b : Nat) : Int := if clB a b then 120 else 46
theorem row_at {A B : Nat} (hA : A < 7) (hB : B < 7) : ∀ w, (Instr.index 9 (.string (rowS A)) (.int .i64 (B : Int))).run Try.prog w = .ok (.int .u8 (chB A B)) w := by
  have h1 : A = 0 ∨ A = 1 ∨ A = 2 ∨ A = 3 ∨ A = 4 ∨ A = 5 ∨ A = 6 := by omega
  have h2 : B = 0 ∨ B = 1 ∨ B = 2 ∨ B = 3 ∨ B = 4 ∨ B = 5 ∨ B = 6 := by omega
  rcases h1 with rfl | rfl | rfl | rfl | rfl | rfl | rfl <;> rcases h2 with rfl | rfl | rfl | rfl | rfl | rfl | rfl <;> exact fun _ => by kernel_rfl

theorem clash_any {A B : Nat} (hA : A < 7) (hB : B < 7) (W : World) : Calls Try.prog 28 #[.int .i64 (A : Int), .int .i64 (B : Int)] W fun e W' => e = .returned (.bool (clB A B)) ∧ Below W.heap.size W W' := by
  have hc := table_at hA W
  have hi := row_at hA hB
  have hx : (chB A B == 120) = clB A B := by unfold chB; cases clB A B <;> rfl
  have hbl := hid ((Below.refl W.heap.size W).alloc (Nat.le_refl _) tabO)
  generalize rowS A = s at *
  go_enter Try.func28, Try.ntmps28
  go_wp2_with (first
    | (go_at_call 29; ((with_reducible refine (table_any _).mono ?_)); rintro e w1 ⟨rfl, rfl⟩; generalize W.alloc tabO = W1 at *))
  go_ret
  exact ⟨rfl, hbl.out⟩

theorem hbn {W w w' : World} (h : Hid (Below W.heap.size W w)) (k : Below w.heap.size w w') : Hid (Below W.heap.size W w') := h.out.trans (k.mono h.out.size)

theorem fitsR_any (a b : Int) (W : World) : Calls Try.prog 16 #[.int .i64 a, .int .i64 b] W fun e W' => e = .returned (.bool (fitsB a b)) ∧ Below W.heap.size W W' := by
  rcases inR_cases a with ⟨a0, a1⟩ | ha
  · rcases inR_cases b with ⟨b0, b1⟩ | hb
    · have hv : fitsB a b = !clB a.toNat b.toNat := by unfold fitsB; rw [inR_yes a0 a1, inR_yes b0 b1]; rfl
      rw [hv]
      obtain ⟨A, rfl⟩ : ∃ A : Nat, a = A := ⟨a.toNat, by omega⟩
      obtain ⟨B, rfl⟩ : ∃ B : Nat, b = B := ⟨b.toNat, by omega⟩
      simp only [Int.toNat_natCast]
      clear hv
      go_enter Try.func16, Try.ntmps16
      go_wp2_with (first
        | (go_at_call 24; ((with_reducible refine (thereR_yes (by omega) (by omega)).mono ?_)); rintro e w' ⟨rfl, rfl⟩)
        | (go_at_call 28; ((with_reducible refine (clash_any (by omega) (by omega) _).mono ?_)); rintro e w1 ⟨rfl, hb⟩))
      go_ret
      exact ⟨rfl, hb⟩
    · have hf : fitsB a b = false := by unfold fitsB; rw [inR_no (a := b) (by omega)]; simp
      rw [hf]
      have HB := hid hb
      clear hb hf
      go_enter Try.func16, Try.ntmps16
      go_wp2_with (first
        | (go_at_call_of 24 (Value.int IntKind.i64 a); ((with_reducible refine (thereR_yes (by omega) (by omega)).mono ?_)); rintro e w' ⟨rfl, rfl⟩)
        | (go_at_call_of 24 (Value.int IntKind.i64 b); ((with_reducible refine (thereR_no HB.out).mono ?_)); rintro e w' ⟨rfl, rfl⟩))
      go_ret
      exact ⟨rfl, Below.refl _ _⟩
  · have hf : fitsB a b = false := by unfold fitsB; rw [inR_no (a := a) (by omega)]; simp
    rw [hf]
    have HA := hid ha
    clear ha hf
    go_enter Try.func16, Try.ntmps16
    go_wp2_with (go_at_call 24; ((with_reducible refine (thereR_no HA.out).mono ?_)); rintro e w' ⟨rfl, rfl⟩)
    go_ret
    exact ⟨rfl, Below.refl _ _⟩

/-- Some mode from k on clashes with b and not with a. -/
def badN (a b : Nat) : Nat → Nat → Bool
  | _, 0 => false
  | k, n + 1 => (clB b k && !clB a k) || badN a b (k + 1) n
theorem cov_bad {A B : Nat} (hA : A < 7) (hB : B < 7) : covB A B = (!badN A B 0 7 && !((B == 6) && (A != 6))) := by
  have h1 : A = 0 ∨ A = 1 ∨ A = 2 ∨ A = 3 ∨ A = 4 ∨ A = 5 ∨ A = 6 := by omega
  have h2 : B = 0 ∨ B = 1 ∨ B = 2 ∨ B = 3 ∨ B = 4 ∨ B = 5 ∨ B = 6 := by omega
  rcases h1 with rfl | rfl | rfl | rfl | rfl | rfl | rfl <;> rcases h2 with rfl | rfl | rfl | rfl | rfl | rfl | rfl <;> rfl

theorem coversR_in {A B : Nat} (hA : A < 7) (hB : B < 7) (hn : ¬ (B = 6 ∧ A ≠ 6)) (W : World) :
    Calls Try.prog 18 #[.int .i64 (A : Int), .int .i64 (B : Int)] W fun e W' => e = .returned (.bool (covB A B)) ∧ Below W.heap.size W W' := by
  have hv : covB A B = !badN A B 0 7 := by
    rw [cov_bad hA hB]
    have : ((B == 6) && (A != 6)) = false := by
      rw [Bool.and_eq_false_iff]
      by_cases h6 : B = 6
      · right; have : A = 6 := Classical.byContradiction fun h => hn ⟨h6, h⟩
        simp [this]
      · left; simpa using h6
    rw [this]; simp
  rw [hv]
  have h6 : ((B : Int) == 6) = false ∨ (((B : Int) == 6) = true ∧ ((A : Int) != 6) = false) := by
    by_cases h : B = 6
    · right; have h' : A = 6 := Classical.byContradiction fun h' => hn ⟨h, h'⟩
      subst h h'; exact ⟨rfl, rfl⟩
    · left; rw [beq_eq_false_iff_ne]; omega
  clear hv hn
  rcases h6 with h6 | ⟨h6, h6'⟩
  all_goals
    go_enter Try.func18, Try.ntmps18
    go_wp2_with (first
      | (go_at_call 24; ((with_reducible refine (thereR_yes (by omega) (by omega)).mono ?_)); rintro e w' ⟨rfl, rfl⟩))
    go_loopg [5] 7 (fun g i wr => ∃ k : Nat, i = .int .i64 k ∧ g + k = 7 ∧ badN A B 0 7 = badN A B k g ∧ Below W.heap.size W wr)
    case atStart => exact ⟨0, rfl, rfl, rfl, Below.refl _ _⟩
    case round =>
      obtain ⟨k, rfl, hgk, hbad, hbel⟩ := hrel
      have HG := hid hgk
      have HF := hid hbad
      have HB := hid hbel
      have hk7 : k ≤ 7 := by omega
      clear hgk hbad hbel
      by_cases hk : k < 7
      · obtain ⟨gk, rfl⟩ : ∃ n, gk = n + 1 := ⟨gk - 1, by have := HG.out; omega⟩
        cases h1 : clB B k with
        | false =>
          go_wp2_with fail
          refine (clash_any hB hk _).mono ?_
          rintro e w1 ⟨rfl, hb1⟩
          rw [h1]
          have HB1 := hbn HB hb1
          clear hb1
          go_wp2
          have hg := HG.out
          go_roundg gk
          case measure => omega
          case rel => exact ⟨k + 1, by go_num, by omega, by rw [HF.out]; simp [badN, h1], HB1.out⟩
        | true =>
          cases h2 : clB A k with
          | true =>
            go_wp2_with fail
            refine (clash_any hB hk _).mono ?_
            rintro e w1 ⟨rfl, hb1⟩
            rw [h1]
            have HB1 := hbn HB hb1
            clear hb1
            go_wp2_with fail
            refine (clash_any hA hk _).mono ?_
            rintro e w2 ⟨rfl, hb2⟩
            rw [h2]
            have HB2 := hbn HB1 hb2
            clear hb2
            go_wp2
            have hg := HG.out
            go_roundg gk
            case measure => omega
            case rel => exact ⟨k + 1, by go_num, by omega, by rw [HF.out]; simp [badN, h1, h2], HB2.out⟩
          | false =>
            have hbad : badN A B 0 7 = true := by rw [HF.out]; simp [badN, h1, h2]
            have HBAD := hid hbad
            clear hbad
            go_wp2_with fail
            refine (clash_any hB hk _).mono ?_
            rintro e w1 ⟨rfl, hb1⟩
            rw [h1]
            have HB1 := hbn HB hb1
            clear hb1
            go_wp2_with fail
            refine (clash_any hA hk _).mono ?_
            rintro e w2 ⟨rfl, hb2⟩
            rw [h2]
            have HB2 := hbn HB1 hb2
            clear hb2
            go_wp2
            go_ret
            exact ⟨by rw [HBAD.out]; rfl, HB2.out⟩
      · obtain rfl : gk = 0 := by have := HG.out; omega
        have HBAD := hid (show badN A B 0 7 = false by rw [HF.out]; rfl)
        go_wp2
        go_ret
        exact ⟨by rw [HBAD.out]; rfl, HB.out⟩
end Go.Proofs.Yteenjllcmgfpcaa
