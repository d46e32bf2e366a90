/-
  What Covers, Join and Above of package mode do, each by a contract.
-/
import Derived.Test.YteenjllcmgfpcaaMode
import Derived.Deep.LoopGhost
open Go Go.RowKit
namespace Go.Proofs.Yteenjllcmgfpcaa

theorem cov_no {a b : Int} (h : ¬ (0 ≤ a ∧ a < 7) ∨ ¬ (0 ≤ b ∧ b < 7)) : covB a b = false := by
  unfold covB
  rcases h with h | h
  · rw [inR_no h]; rfl
  · rw [inR_no (a := b) h]; simp

def arr7 : Array Value := #[.int .i64 0, .int .i64 80, .int .i64 120, .int .i64 84, .int .i64 126, .int .i64 116, .int .i64 126]
theorem arr7_at {a : Int} (h0 : 0 ≤ a) (h1 : a < 7) : (#[.int .i64 0, .int .i64 80, .int .i64 120, .int .i64 84, .int .i64 126, .int .i64 116, .int .i64 126] : Array Value)[a.toNat]? = some (.int .i64 (ct a)) := by
  rcases seven h0 h1 with rfl | rfl | rfl | rfl | rfl | rfl | rfl <;> rfl

theorem covers_in {a b : Int} (a0 : 0 ≤ a) (a1 : a < 7) (b0 : 0 ≤ b) (b1 : b < 7) (W : World) : Calls Try.prog 17 #[.int .i64 a, .int .i64 b] W fun e W' => e = .returned (.bool (covB a b)) ∧ Below W.heap.size W W' := by
  have hv := hid (cov_bits a0 a1 b0 b1)
  obtain ⟨A, rfl⟩ : ∃ A : Nat, a = A := ⟨a.toNat, by omega⟩
  obtain ⟨B, rfl⟩ : ∃ B : Nat, b = B := ⟨b.toNat, by omega⟩
  have ca := arr7_at a0 a1
  have cb := arr7_at b0 b1
  simp only [Int.toNat_natCast] at ca cb
  have CA := hid ca
  have CB := hid cb
  clear ca cb
  go_enter Try.func17, Try.ntmps17
  go_wp2_with (first
    | (go_at_call 22; ((with_reducible refine (there_yes (by omega) (by omega)).mono ?_)); rintro e w' ⟨rfl, rfl⟩)
    | (go_at_call 27; ((with_reducible refine (clashes_any _).mono ?_)); rintro e w1 ⟨rfl, hb⟩))
  have hA : (w1.alloc (.cells #[.int .i64 0, .int .i64 80, .int .i64 120, .int .i64 84, .int .i64 126, .int .i64 116, .int .i64 126] 38)).cell? ⟨w1.heap.size, A, none⟩ = some (.int .i64 (ct A)) :=
    ((Blk.new w1 38 _).cell A).trans CA.out
  have hB : (w1.alloc (.cells #[.int .i64 0, .int .i64 80, .int .i64 120, .int .i64 84, .int .i64 126, .int .i64 116, .int .i64 126] 38)).cell? ⟨w1.heap.size, B, none⟩ = some (.int .i64 (ct B)) :=
    ((Blk.new w1 38 _).cell B).trans CB.out
  have hbl := hb.alloc hb.size (.cells #[.int .i64 0, .int .i64 80, .int .i64 120, .int .i64 84, .int .i64 126, .int .i64 116, .int .i64 126] 38)
  generalize w1.alloc (.cells #[.int .i64 0, .int .i64 80, .int .i64 120, .int .i64 84, .int .i64 126, .int .i64 116, .int .i64 126] 38) = W1 at *
  generalize w1.heap.size = g at *
  have HBL := hid hbl
  clear hb hbl
  cases hx : (bits BinOp.andNot IntKind.i64 (ct B) (ct A) == 0) with
  | false =>
    go_quiet (fail)
    go_wp2
    go_ret
    exact ⟨by rw [hv.out, hx]; rfl, ⟨HBL.out.os, HBL.out.tape, HBL.out.output, HBL.out.size, HBL.out.block⟩⟩
  | true =>
    cases hy : ((B : Int) != 6) with
    | true =>
      go_quiet (fail)
      go_wp2
      go_ret
      exact ⟨by rw [hv.out, hx, hy]; rfl, ⟨HBL.out.os, HBL.out.tape, HBL.out.output, HBL.out.size, HBL.out.block⟩⟩
    | false =>
      cases hz : ((A : Int) == 6) with
      | true =>
        go_quiet (fail)
        go_wp2
        go_ret
        exact ⟨by rw [hv.out, hx, hy, hz]; rfl, ⟨HBL.out.os, HBL.out.tape, HBL.out.output, HBL.out.size, HBL.out.block⟩⟩
      | false =>
        go_quiet (fail)
        go_wp2
        go_ret
        exact ⟨by rw [hv.out, hx, hy, hz]; rfl, ⟨HBL.out.os, HBL.out.tape, HBL.out.output, HBL.out.size, HBL.out.block⟩⟩

theorem covers_any (a b : Int) (W : World) : Calls Try.prog 17 #[.int .i64 a, .int .i64 b] W fun e W' => e = .returned (.bool (covB a b)) ∧ Below W.heap.size W W' := by
  rcases inR_cases a with ⟨a0, a1⟩ | ha
  · rcases inR_cases b with ⟨b0, b1⟩ | hb
    · exact covers_in a0 a1 b0 b1 W
    · have HF := hid (cov_no (a := a) (b := b) (.inr (by omega)))
      have HB := hid hb
      clear hb
      go_enter Try.func17, Try.ntmps17
      go_wp2_with (first
        | (go_at_call_of 22 (Value.int IntKind.i64 a); ((with_reducible refine (there_yes (by omega) (by omega)).mono ?_)); rintro e w' ⟨rfl, rfl⟩)
        | (go_at_call_of 22 (Value.int IntKind.i64 b); ((with_reducible refine (there_no HB.out).mono ?_)); rintro e w' ⟨rfl, rfl⟩))
      go_ret
      exact ⟨by rw [HF.out]; rfl, Below.refl _ _⟩
  · have HF := hid (cov_no (a := a) (b := b) (.inl (by omega)))
    have HA := hid ha
    clear ha
    go_enter Try.func17, Try.ntmps17
    go_wp2_with (go_at_call 22; ((with_reducible refine (there_no HA.out).mono ?_)); rintro e w' ⟨rfl, rfl⟩)
    go_ret
    exact ⟨by rw [HF.out]; rfl, Below.refl _ _⟩

/-! ### Join -/
def joinStep (a b best : Int) (m : Nat) : Int := if covB m a && covB m b && covB best m then m else best
def joinTo (a b : Int) : Nat → Int
  | 0 => 6
  | k + 1 => joinStep a b (joinTo a b k) k
/-- What Join answers. -/
def joinB (a b : Int) : Int := if inR a && inR b then joinTo a b 7 else 0
def errB (a b : Int) : Int := if inR a && inR b then 0 else 1

theorem join_in {a b : Int} (a0 : 0 ≤ a) (a1 : a < 7) (b0 : 0 ≤ b) (b1 : b < 7) (W : World) :
    Calls Try.prog 9 #[.int .i64 a, .int .i64 b] W fun e W' => e = .returned (.tuple #[.int .i64 (joinTo a b 7), .int .i64 0]) ∧ Below W.heap.size W W' := by
  go_enter Try.func9, Try.ntmps9
  go_wp2_with (first
    | (go_at_call 22; ((with_reducible refine (there_yes (by omega) (by omega)).mono ?_)); rintro e w' ⟨rfl, rfl⟩))
  go_loopg [6, 16] 7 (fun g s i wr => ∃ k : Nat, i = .int .i64 k ∧ g + k = 7 ∧ ∃ z, joinTo a b k = z ∧ s = .int .i64 z ∧ Below W.heap.size W wr)
  case atStart => exact ⟨0, rfl, rfl, _, rfl, rfl, Below.refl _ _⟩
  case round =>
    obtain ⟨k, rfl, hgk, z, hz, rfl, hbel⟩ := hrel
    have HG := hid hgk
    have HZ := hid hz
    have HB := hid hbel
    have hk7 : k ≤ 7 := by omega
    clear hgk hz hbel
    by_cases hk : k < 7
    · cases h1 : covB k a with
      | false =>
        go_wp2_with fail
        refine (covers_any _ _ _).mono ?_
        rintro e w1 ⟨rfl, hb1⟩
        have HB1 := hid (HB.out.trans (hb1.mono HB.out.size))
        clear hb1
        rw [h1]
        go_wp2
        have hg := HG.out
        go_roundg (gk - 1)
        case measure => omega
        case rel => exact ⟨k + 1, by go_num, by omega, z, by simp [joinTo, joinStep, HZ.out, h1], rfl, HB1.out⟩
      | true =>
        cases h2 : covB k b with
        | false =>
          go_wp2_with fail
          refine (covers_any _ _ _).mono ?_
          rintro e w1 ⟨rfl, hb1⟩
          have HB1 := hid (HB.out.trans (hb1.mono HB.out.size))
          clear hb1
          rw [h1]
          go_wp2_with fail
          refine (covers_any _ _ _).mono ?_
          rintro e w2 ⟨rfl, hb2⟩
          have HB2 := hid (HB1.out.trans (hb2.mono HB1.out.size))
          clear hb2
          rw [h2]
          go_wp2
          have hg := HG.out
          go_roundg (gk - 1)
          case measure => omega
          case rel => exact ⟨k + 1, by go_num, by omega, z, by simp [joinTo, joinStep, HZ.out, h2], rfl, HB2.out⟩
        | true =>
          cases h3 : covB z k with
          | false =>
            go_wp2_with fail
            refine (covers_any _ _ _).mono ?_
            rintro e w1 ⟨rfl, hb1⟩
            have HB1 := hid (HB.out.trans (hb1.mono HB.out.size))
            clear hb1
            rw [h1]
            go_wp2_with fail
            refine (covers_any _ _ _).mono ?_
            rintro e w2 ⟨rfl, hb2⟩
            have HB2 := hid (HB1.out.trans (hb2.mono HB1.out.size))
            clear hb2
            rw [h2]
            go_wp2_with fail
            refine (covers_any _ _ _).mono ?_
            rintro e w3 ⟨rfl, hb3⟩
            have HB3 := hid (HB2.out.trans (hb3.mono HB2.out.size))
            clear hb3
            rw [h3]
            go_wp2
            have hg := HG.out
            go_roundg (gk - 1)
            case measure => omega
            case rel => exact ⟨k + 1, by go_num, by omega, z, by simp [joinTo, joinStep, HZ.out, h3], rfl, HB3.out⟩
          | true =>
            go_wp2_with fail
            refine (covers_any _ _ _).mono ?_
            rintro e w1 ⟨rfl, hb1⟩
            have HB1 := hid (HB.out.trans (hb1.mono HB.out.size))
            clear hb1
            rw [h1]
            go_wp2_with fail
            refine (covers_any _ _ _).mono ?_
            rintro e w2 ⟨rfl, hb2⟩
            have HB2 := hid (HB1.out.trans (hb2.mono HB1.out.size))
            clear hb2
            rw [h2]
            go_wp2_with fail
            refine (covers_any _ _ _).mono ?_
            rintro e w3 ⟨rfl, hb3⟩
            have HB3 := hid (HB2.out.trans (hb3.mono HB2.out.size))
            clear hb3
            rw [h3]
            go_wp2
            have hg := HG.out
            go_roundg (gk - 1)
            case measure => omega
            case rel => exact ⟨k + 1, by go_num, by omega, (k : Int), by simp [joinTo, joinStep, HZ.out, h1, h2, h3], rfl, HB3.out⟩
    · obtain rfl : k = 7 := by omega
      go_wp2
      go_ret2
      have hz := HZ.out
      subst hz
      exact ⟨rfl, HB.out⟩

theorem join_any (a b : Int) (W : World) :
    Calls Try.prog 9 #[.int .i64 a, .int .i64 b] W fun e W' => e = .returned (.tuple #[.int .i64 (joinB a b), .int .i64 (errB a b)]) ∧ Below W.heap.size W W' := by
  rcases inR_cases a with ⟨a0, a1⟩ | ha
  · rcases inR_cases b with ⟨b0, b1⟩ | hb
    · have h := join_in a0 a1 b0 b1 W
      have e1 : joinB a b = joinTo a b 7 := by simp [joinB, inR_yes a0 a1, inR_yes b0 b1]
      have e2 : errB a b = 0 := by simp [errB, inR_yes a0 a1, inR_yes b0 b1]
      rw [e1, e2]
      exact h
    · have e0 : inR b = false := inR_no (by omega)
      have e1 : joinB a b = 0 := by simp [joinB, e0]
      have e2 : errB a b = 1 := by simp [errB, e0]
      have HB := hid hb
      rw [e1, e2]
      clear hb e0 e1 e2
      go_enter Try.func9, Try.ntmps9
      go_wp2_with (first
        | (go_at_call_of 22 (Value.int IntKind.i64 a); ((with_reducible refine (there_yes (by omega) (by omega)).mono ?_)); rintro e w' ⟨rfl, rfl⟩)
        | (go_at_call_of 22 (Value.int IntKind.i64 b); ((with_reducible refine (there_no HB.out).mono ?_)); rintro e w' ⟨rfl, rfl⟩))
      go_ret2
      exact ⟨rfl, Below.refl _ _⟩
  · have e0 : inR a = false := inR_no (by omega)
    have e1 : joinB a b = 0 := by simp [joinB, e0]
    have e2 : errB a b = 1 := by simp [errB, e0]
    have HA := hid ha
    rw [e1, e2]
    clear ha e0 e1 e2
    go_enter Try.func9, Try.ntmps9
    go_wp2_with (go_at_call 22; ((with_reducible refine (there_no HA.out).mono ?_)); rintro e w' ⟨rfl, rfl⟩)
    go_ret2
    exact ⟨rfl, Below.refl _ _⟩

/-! ### Above -/
def aboveB (m : Int) : Int := if m = 1 ∨ m = 3 then 1 else if m = 2 ∨ m = 4 ∨ m = 5 ∨ m = 6 then 2 else 0
def aerrB (m : Int) : Int := if inR m then 0 else 1
theorem above_any (m : Int) (W : World) :
    Calls Try.prog 11 #[.int .i64 m] W fun e W' => e = .returned (.tuple #[.int .i64 (aboveB m), .int .i64 (aerrB m)]) ∧ W = W' := by
  rcases inR_cases m with ⟨a0, a1⟩ | ha
  · rw [show aerrB m = 0 by simp [aerrB, inR_yes a0 a1]]
    rcases seven a0 a1 with rfl | rfl | rfl | rfl | rfl | rfl | rfl
    all_goals
      go_enter Try.func11, Try.ntmps11
      go_wp2_with (go_at_call 22; ((with_reducible refine (there_yes (by omega) (by omega)).mono ?_)); rintro e w' ⟨rfl, rfl⟩)
      go_ret2
      exact ⟨rfl, rfl⟩
  · rw [show aerrB m = 1 by simp [aerrB, inR_no (a := m) (by omega)], show aboveB m = 0 by unfold aboveB; rw [if_neg (by omega), if_neg (by omega)]]
    have HA := hid ha
    clear ha
    go_enter Try.func11, Try.ntmps11
    go_wp2_with (go_at_call 22; ((with_reducible refine (there_no HA.out).mono ?_)); rintro e w' ⟨rfl, rfl⟩)
    go_ret2
    exact ⟨rfl, rfl⟩
end Go.Proofs.Yteenjllcmgfpcaa
