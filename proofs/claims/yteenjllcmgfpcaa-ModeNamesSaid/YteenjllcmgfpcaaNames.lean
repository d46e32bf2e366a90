/-
  ModeNames returns true for every input: the walk.
-/
import Derived.Test.YteenjllcmgfpcaaAnd2
import Derived.Deep.DeepCutAuto
import Derived.Deep.CutRange
open Go Go.RowKit
namespace Go.Proofs.Yteenjllcmgfpcaa

theorem findS_found {s : ByteArray} : ∀ (n k : Nat), k + n = 7 → findS s k n ≠ 7 → (s.toList == (nameS (findS s k n)).toList) = true ∧ findS s k n < 7 := by
  intro n
  induction n with
  | zero => intro k _ h; exact absurd rfl h
  | succ n ih =>
    intro k hk h
    cases hb : (s.toList == (nameS k).toList) with
    | true => rw [findS_hit n hb]; exact ⟨hb, by omega⟩
    | false =>
      rw [findS_miss n hb] at h ⊢
      exact ih (k + 1) (by omega) h

/-- What Parse finds has that name. -/
theorem parse_name {s : ByteArray} (h : perrB s = 0) : (nameB (parseB s)).toList = s.toList := by
  unfold perrB at h
  by_cases hf : findS s 0 7 = 7
  · rw [if_pos hf] at h; omega
  · obtain ⟨h1, h2⟩ := findS_found (s := s) 7 0 rfl hf
    have e : parseB s = (findS s 0 7 : Nat) := by unfold parseB; rw [if_neg hf]
    rw [e]
    have hn : nameB ((findS s 0 7 : Nat) : Int) = nameS (findS s 0 7) := by
      unfold nameB
      rw [inR_yes (by omega) (by omega)]
      simp
    rw [hn]
    exact (beq_iff_eq.1 h1).symm
theorem perr_cases (s : ByteArray) : perrB s = 0 ∨ perrB s = 4 := by
  unfold perrB
  split
  · exact .inr rfl
  · exact .inl rfl

theorem name_parse {m : Int} (a0 : 0 ≤ m) (a1 : m < 7) : parseB (nameB m) = m ∧ perrB (nameB m) = 0 ∧ (nameB m).toList.isEmpty = false := by
  rcases seven a0 a1 with rfl | rfl | rfl | rfl | rfl | rfl | rfl <;> decide +kernel
theorem name_none {m : Int} (h : ¬ (0 ≤ m ∧ m < 7)) : nameB m = ⟨#[]⟩ := by
  unfold nameB
  rw [inR_no h]
  rfl
theorem none_parse : perrB ⟨#[]⟩ = 4 := by decide +kernel

namespace modeNames
set_option linter.unusedVariables false in
set_option maxHeartbeats 2000000 in
set_option maxRecDepth 100000 in
theorem walk (a0 : Int) (a1 : ByteArray) (w0 : (Lit.int .i64 a0).wf = true) (w1 : a1.size ≤ maxLen) (w : World) :
    Calls Try.prog 6 #[.int .i64 a0, .string a1] w fun e w' => e = .returned (.bool true) ∧ Below w.heap.size w w' := by
  have HB : Hid (Below w.heap.size w w) := Below.refl _ _
  have hs := w1
  unfold maxLen at hs
  clear w0 w1
  by_cases h20 : (a1.size : Int) ≤ 20
  · go_enter Try.func6, Try.ntmps6
    go_upto_region 2 with fail
    rcases perr_cases a1 with hp | hp
    · have hq := parse_name hp
      by_cases hr : 0 ≤ a0 ∧ a0 < 7
      · obtain ⟨n1, n2, n3⟩ := name_parse hr.1 hr.2
        obtain ⟨r0, r1⟩ := hr
        go_wp2_with (first
          | (go_at_call 19; ((with_reducible refine (name_any _ _).mono ?_)); rintro e w1 ⟨rfl, hb⟩; replace HB := hb_next HB hb; clear hb)
          | (go_at_call 13; ((with_reducible refine (parse_any _ _).mono ?_)); rintro e w1 ⟨rfl, hb⟩; replace HB := hb_next HB hb; clear hb)
          | (go_at_call 21; ((with_reducible refine (fixed_any _).mono ?_)); rintro e w1 ⟨rfl, hb⟩; replace HB := hb_next HB hb; clear hb))
        go_ret
        exact ⟨rfl, HB.out⟩
      · have n1 := name_none hr
        have n2 := none_parse
        by_cases hr0 : a0 < 0
        · go_wp2_with (first
            | (go_at_call 19; ((with_reducible refine (name_any _ _).mono ?_)); rintro e w1 ⟨rfl, hb⟩; replace HB := hb_next HB hb; clear hb)
            | (go_at_call 13; ((with_reducible refine (parse_any _ _).mono ?_)); rintro e w1 ⟨rfl, hb⟩; replace HB := hb_next HB hb; clear hb)
            | (go_at_call 21; ((with_reducible refine (fixed_any _).mono ?_)); rintro e w1 ⟨rfl, hb⟩; replace HB := hb_next HB hb; clear hb))
          go_ret
          exact ⟨rfl, HB.out⟩
        · have hr1 : 7 ≤ a0 := by omega
          go_wp2_with (first
            | (go_at_call 19; ((with_reducible refine (name_any _ _).mono ?_)); rintro e w1 ⟨rfl, hb⟩; replace HB := hb_next HB hb; clear hb)
            | (go_at_call 13; ((with_reducible refine (parse_any _ _).mono ?_)); rintro e w1 ⟨rfl, hb⟩; replace HB := hb_next HB hb; clear hb)
            | (go_at_call 21; ((with_reducible refine (fixed_any _).mono ?_)); rintro e w1 ⟨rfl, hb⟩; replace HB := hb_next HB hb; clear hb))
          go_ret
          exact ⟨rfl, HB.out⟩
    · by_cases hr : 0 ≤ a0 ∧ a0 < 7
      · obtain ⟨n1, n2, n3⟩ := name_parse hr.1 hr.2
        obtain ⟨r0, r1⟩ := hr
        go_wp2_with (first
          | (go_at_call 19; ((with_reducible refine (name_any _ _).mono ?_)); rintro e w1 ⟨rfl, hb⟩; replace HB := hb_next HB hb; clear hb)
          | (go_at_call 13; ((with_reducible refine (parse_any _ _).mono ?_)); rintro e w1 ⟨rfl, hb⟩; replace HB := hb_next HB hb; clear hb)
          | (go_at_call 21; ((with_reducible refine (fixed_any _).mono ?_)); rintro e w1 ⟨rfl, hb⟩; replace HB := hb_next HB hb; clear hb))
        go_ret
        exact ⟨rfl, HB.out⟩
      · have n1 := name_none hr
        have n2 := none_parse
        by_cases hr0 : a0 < 0
        · go_wp2_with (first
            | (go_at_call 19; ((with_reducible refine (name_any _ _).mono ?_)); rintro e w1 ⟨rfl, hb⟩; replace HB := hb_next HB hb; clear hb)
            | (go_at_call 13; ((with_reducible refine (parse_any _ _).mono ?_)); rintro e w1 ⟨rfl, hb⟩; replace HB := hb_next HB hb; clear hb)
            | (go_at_call 21; ((with_reducible refine (fixed_any _).mono ?_)); rintro e w1 ⟨rfl, hb⟩; replace HB := hb_next HB hb; clear hb))
          go_ret
          exact ⟨rfl, HB.out⟩
        · have hr1 : 7 ≤ a0 := by omega
          go_wp2_with (first
            | (go_at_call 19; ((with_reducible refine (name_any _ _).mono ?_)); rintro e w1 ⟨rfl, hb⟩; replace HB := hb_next HB hb; clear hb)
            | (go_at_call 13; ((with_reducible refine (parse_any _ _).mono ?_)); rintro e w1 ⟨rfl, hb⟩; replace HB := hb_next HB hb; clear hb)
            | (go_at_call 21; ((with_reducible refine (fixed_any _).mono ?_)); rintro e w1 ⟨rfl, hb⟩; replace HB := hb_next HB hb; clear hb))
          go_ret
          exact ⟨rfl, HB.out⟩
  · go_enter Try.func6, Try.ntmps6
    go_upto_region 2 with fail
    generalize a1.extract 0 20 = s
    rcases perr_cases s with hp | hp
    · have hq := parse_name hp
      by_cases hr : 0 ≤ a0 ∧ a0 < 7
      · obtain ⟨n1, n2, n3⟩ := name_parse hr.1 hr.2
        obtain ⟨r0, r1⟩ := hr
        go_wp2_with (first
          | (go_at_call 19; ((with_reducible refine (name_any _ _).mono ?_)); rintro e w1 ⟨rfl, hb⟩; replace HB := hb_next HB hb; clear hb)
          | (go_at_call 13; ((with_reducible refine (parse_any _ _).mono ?_)); rintro e w1 ⟨rfl, hb⟩; replace HB := hb_next HB hb; clear hb)
          | (go_at_call 21; ((with_reducible refine (fixed_any _).mono ?_)); rintro e w1 ⟨rfl, hb⟩; replace HB := hb_next HB hb; clear hb))
        go_ret
        exact ⟨rfl, HB.out⟩
      · have n1 := name_none hr
        have n2 := none_parse
        by_cases hr0 : a0 < 0
        · go_wp2_with (first
            | (go_at_call 19; ((with_reducible refine (name_any _ _).mono ?_)); rintro e w1 ⟨rfl, hb⟩; replace HB := hb_next HB hb; clear hb)
            | (go_at_call 13; ((with_reducible refine (parse_any _ _).mono ?_)); rintro e w1 ⟨rfl, hb⟩; replace HB := hb_next HB hb; clear hb)
            | (go_at_call 21; ((with_reducible refine (fixed_any _).mono ?_)); rintro e w1 ⟨rfl, hb⟩; replace HB := hb_next HB hb; clear hb))
          go_ret
          exact ⟨rfl, HB.out⟩
        · have hr1 : 7 ≤ a0 := by omega
          go_wp2_with (first
            | (go_at_call 19; ((with_reducible refine (name_any _ _).mono ?_)); rintro e w1 ⟨rfl, hb⟩; replace HB := hb_next HB hb; clear hb)
            | (go_at_call 13; ((with_reducible refine (parse_any _ _).mono ?_)); rintro e w1 ⟨rfl, hb⟩; replace HB := hb_next HB hb; clear hb)
            | (go_at_call 21; ((with_reducible refine (fixed_any _).mono ?_)); rintro e w1 ⟨rfl, hb⟩; replace HB := hb_next HB hb; clear hb))
          go_ret
          exact ⟨rfl, HB.out⟩
    · by_cases hr : 0 ≤ a0 ∧ a0 < 7
      · obtain ⟨n1, n2, n3⟩ := name_parse hr.1 hr.2
        obtain ⟨r0, r1⟩ := hr
        go_wp2_with (first
          | (go_at_call 19; ((with_reducible refine (name_any _ _).mono ?_)); rintro e w1 ⟨rfl, hb⟩; replace HB := hb_next HB hb; clear hb)
          | (go_at_call 13; ((with_reducible refine (parse_any _ _).mono ?_)); rintro e w1 ⟨rfl, hb⟩; replace HB := hb_next HB hb; clear hb)
          | (go_at_call 21; ((with_reducible refine (fixed_any _).mono ?_)); rintro e w1 ⟨rfl, hb⟩; replace HB := hb_next HB hb; clear hb))
        go_ret
        exact ⟨rfl, HB.out⟩
      · have n1 := name_none hr
        have n2 := none_parse
        by_cases hr0 : a0 < 0
        · go_wp2_with (first
            | (go_at_call 19; ((with_reducible refine (name_any _ _).mono ?_)); rintro e w1 ⟨rfl, hb⟩; replace HB := hb_next HB hb; clear hb)
            | (go_at_call 13; ((with_reducible refine (parse_any _ _).mono ?_)); rintro e w1 ⟨rfl, hb⟩; replace HB := hb_next HB hb; clear hb)
            | (go_at_call 21; ((with_reducible refine (fixed_any _).mono ?_)); rintro e w1 ⟨rfl, hb⟩; replace HB := hb_next HB hb; clear hb))
          go_ret
          exact ⟨rfl, HB.out⟩
        · have hr1 : 7 ≤ a0 := by omega
          go_wp2_with (first
            | (go_at_call 19; ((with_reducible refine (name_any _ _).mono ?_)); rintro e w1 ⟨rfl, hb⟩; replace HB := hb_next HB hb; clear hb)
            | (go_at_call 13; ((with_reducible refine (parse_any _ _).mono ?_)); rintro e w1 ⟨rfl, hb⟩; replace HB := hb_next HB hb; clear hb)
            | (go_at_call 21; ((with_reducible refine (fixed_any _).mono ?_)); rintro e w1 ⟨rfl, hb⟩; replace HB := hb_next HB hb; clear hb))
          go_ret
          exact ⟨rfl, HB.out⟩
end modeNames
end Go.Proofs.Yteenjllcmgfpcaa
