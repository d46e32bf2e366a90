/-
  What the document's Take does, by a contract.
-/
import Derived.Test.YtcblkdocbmpkeaaBl
import Derived.Test.YtcblkdocbmpkeaaTf
namespace Go.Proofs.Ytcblkdocbmpkeaa
open Go Go.RowKit

theorem circ_lo {T : List Bool} {b j : Nat} (hb : b < T.length) (h1 : b ≤ j) (h2 : j < T.length) (ht : ∀ y, b ≤ y → y < j → tk T y = true) (hf : tk T j = false) :
    takeRX T b = j ∧ takeRE T b = 0 ∧ takeRT T b = takeT T j ∧ takeE T j = 0 := by
  refine take_hit (q := upto (rnd b T.length) (j - b)) (k := j - b + 1) (by omega) (hasB_nat hb) ?_ (by omega) ?_ (by rw [isB_nat h2]; exact hf)
  · rw [upto_succ, rnd_mod, show b + (j - b) = j by omega, Nat.mod_eq_of_lt h2]
  · intro y hy
    unfold upto at hy
    obtain ⟨i, hi, rfl⟩ := List.mem_map.1 hy
    have hi' := List.mem_range.1 hi
    rw [rnd_mod, Nat.mod_eq_of_lt (by omega), isB_nat (by omega)]
    exact ht _ (by omega) (by omega)
theorem circ_hi {T : List Bool} {b j : Nat} (hb : b < T.length) (h1 : j < b) (ht0 : ∀ y, b ≤ y → y < T.length → tk T y = true) (ht : ∀ y, y < j → tk T y = true) (hf : tk T j = false) :
    takeRX T b = j ∧ takeRE T b = 0 ∧ takeRT T b = takeT T j ∧ takeE T j = 0 := by
  refine take_hit (q := upto (rnd b T.length) (T.length - b + j)) (k := T.length - b + j + 1) (by omega) (hasB_nat hb) ?_ (by omega) ?_ (by rw [isB_nat (by omega)]; exact hf)
  · rw [upto_succ, rnd_mod, show b + (T.length - b + j) = j + T.length by omega, Nat.add_mod_right, Nat.mod_eq_of_lt (by omega)]
  · intro y hy
    unfold upto at hy
    obtain ⟨i, hi, rfl⟩ := List.mem_map.1 hy
    have hi' := List.mem_range.1 hi
    rcases Nat.lt_or_ge (b + i) T.length with hlt | hge
    · rw [rnd_mod, Nat.mod_eq_of_lt hlt, isB_nat hlt]
      exact ht0 _ (by omega) hlt
    · rw [rnd_mod, show b + i = (b + i - T.length) + T.length by omega, Nat.add_mod_right, Nat.mod_eq_of_lt (by omega), isB_nat (by omega)]
      exact ht _ (by omega)
theorem circ_no {T : List Bool} {b : Nat} (hb : b < T.length) (ht : ∀ y, y < T.length → tk T y = true) :
    takeRX T b = 0 ∧ takeRE T b = 6 ∧ takeRT T b = T := by
  have hf : freeX T b = none := by
    refine find_all fun y hy => ?_
    obtain ⟨i, hi, rfl⟩ := mem_upto (by omega) hy
    rw [isB_nat hi]
    exact ht i hi
  have hb' : hasB T (b : Int) = true := hasB_nat hb
  exact ⟨by simp [takeRX, hb', hf], by simp [takeRE, hb', hf], by simp [takeRT, hb', hf]⟩

set_option maxHeartbeats 2000000 in
set_option maxRecDepth 100000 in
theorem rtake_any {W : World} {B p : Nat} {v : Value} {T : List Bool} (h : Rb W B p v T) (b : Int) :
    Calls Try.prog 52 #[.pointer (some ⟨p, 0, none⟩), .int .i64 b] W fun e W' => e = .returned (.tuple #[.int .i64 (takeRX T b), .int .i64 (takeRE T b)]) ∧ Rb W' B p v (takeRT T b) ∧ Only (fun k => v.ownBlock = some k) W W' := by
  have H := hid h
  have hh := hid (rhas_any h b)
  have h1 := h.blk.cell 0
  simp only [List.getElem?_toArray, List.getElem?_cons_zero] at h1
  obtain ⟨g, cap, rfl, hg, hgs⟩ := h.form
  have hl2 := h.len2
  cases hb : hasB T b with
  | false =>
    rw [hb] at hh
    have e1 : takeRX T b = 0 := by simp [takeRX, hb]
    have e2 : takeRE T b = 1 := by simp [takeRE, hb]
    have e3 : takeRT T b = T := by simp [takeRT, hb]
    rw [e1, e2, e3]
    clear h e1 e2 e3
    go_enter Try.func52, Try.ntmps52
    go_wp2_with (first
      | (go_at_call 57; ((with_reducible refine hh.out.mono ?_)); rintro e w' ⟨rfl, rfl⟩))
    go_ret2
    exact ⟨rfl, H.out, Only.refl _ _⟩
  | true =>
    rw [hb] at hh
    have hb2 := hb
    simp only [hasB, Bool.and_eq_true, decide_eq_true_eq] at hb2
    obtain ⟨hi0, hi1⟩ := hb2
    obtain ⟨k, rfl⟩ : ∃ k : Nat, b = k := ⟨b.toNat, by omega⟩
    have hk : k < T.length := by omega
    have HK := hid hk
    clear h hb
    go_enter Try.func52, Try.ntmps52
    go_wp2_with (first
      | (go_at_call 57; ((with_reducible refine hh.out.mono ?_)); rintro e W ⟨rfl, rfl⟩))
    go_loopg [6] (T.length - k) (fun g' i wr => ∃ j : Nat, i = .int .i64 j ∧ k ≤ j ∧ g' + j = T.length ∧ (∀ y, k ≤ y → y < j → tk T y = true) ∧ W = wr)
    case atStart => exact ⟨k, rfl, Nat.le_refl _, by omega, fun y h1 h2 => by omega, rfl⟩
    case round =>
      obtain ⟨j, rfl, hkj, hgj, hz, rfl⟩ := hrel
      have HZ := hid hz
      have HKJ := hid hkj
      have HG := hid hgj
      have hjl : j ≤ T.length := by omega
      clear hz hkj hgj
      by_cases hj : j < T.length
      · have hc := H.out.row.cell hj
        have hji : (j : Int) < (T.length : Int) := by omega
        cases ht : tk T j with
        | true =>
          rw [ht] at hc
          have HT := hid ht
          clear ht
          go_wp2
          have hg := HG.out
          go_roundg (gk - 1)
          case measure => omega
          case rel => exact ⟨j + 1, by go_num, by have := HKJ.out; omega, by omega, fun y h1 h2 => by
            by_cases hy : y = j
            · rw [hy]; exact HT.out
            · exact HZ.out y h1 (by omega), rfl⟩
        | false =>
          rw [ht] at hc
          have HR := hid (circ_lo HK.out HKJ.out hj HZ.out ht)
          have HTA := hid (rtakeAt_any H.out (j : Int))
          rw [HR.out.2.2.2] at HTA
          clear ht
          go_wp2_with (go_at_call 53; ((with_reducible refine HTA.out.mono ?_)); rintro e w' ⟨rfl, hn, ho⟩)
          go_ret2
          rw [HR.out.1, HR.out.2.1, HR.out.2.2.1]
          exact ⟨rfl, hn, ho⟩
      · have hjN : j = T.length := by omega
        have hjni : ¬ (j : Int) < (T.length : Int) := by omega
        have HZ0 := hid (show ∀ y, k ≤ y → y < T.length → tk T y = true by rw [← hjN]; exact HZ.out)
        clear HZ hjN
        go_wp2
        go_loopg [7] k (fun g' i wr => ∃ j : Nat, i = .int .i64 j ∧ g' + j = k ∧ (∀ y, y < j → tk T y = true) ∧ W = wr)
        case atStart => exact ⟨0, rfl, by omega, fun y h => by omega, rfl⟩
        case round =>
          obtain ⟨j, rfl, hgj, hz, rfl⟩ := hrel
          have HZ := hid hz
          have HG := hid hgj
          have hjl : j ≤ k := by omega
          clear hz hgj
          by_cases hj : j < k
          · have hjT : j < T.length := by omega
            have hc := H.out.row.cell hjT
            have hji : (j : Int) < (k : Int) := by omega
            cases ht : tk T j with
            | true =>
              rw [ht] at hc
              have HT := hid ht
              clear ht
              go_wp2
              have hg := HG.out
              go_roundg (gk - 1)
              case measure => omega
              case rel => exact ⟨j + 1, by go_num, by omega, fun y h1 => by
                by_cases hy : y = j
                · rw [hy]; exact HT.out
                · exact HZ.out y (by omega), rfl⟩
            | false =>
              rw [ht] at hc
              have HR := hid (circ_hi HK.out hj HZ0.out HZ.out ht)
              have HTA := hid (rtakeAt_any H.out (j : Int))
              rw [HR.out.2.2.2] at HTA
              clear ht
              go_wp2_with (go_at_call 53; ((with_reducible refine HTA.out.mono ?_)); rintro e w' ⟨rfl, hn, ho⟩)
              go_ret2
              rw [HR.out.1, HR.out.2.1, HR.out.2.2.1]
              exact ⟨rfl, hn, ho⟩
          · have hjn : ¬ (j : Int) < (k : Int) := by omega
            have HR := hid (circ_no HK.out (fun y hy => by
              rcases Nat.lt_or_ge y k with h1 | h1
              · exact HZ.out y (by omega)
              · exact HZ0.out y h1 hy))
            go_wp2
            go_ret2
            rw [HR.out.1, HR.out.2.1, HR.out.2.2]
            exact ⟨rfl, H.out, Only.refl _ _⟩
end Go.Proofs.Ytcblkdocbmpkeaa
