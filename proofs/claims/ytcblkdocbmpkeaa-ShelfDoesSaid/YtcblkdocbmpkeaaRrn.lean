/-
  What the document's Run and Save do, by contracts.
-/
import Derived.Test.YtcblkdocbmpkeaaRtn
namespace Go.Proofs.Ytcblkdocbmpkeaa
open Go Go.RowKit

set_option maxHeartbeats 2000000 in
set_option maxRecDepth 100000 in
theorem rrun_any {W : World} {B p : Nat} {v : Value} {T : List Bool} (h : Rb W B p v T) (m : Int) (hmm : m ≤ 9223372036854775807) :
    Calls Try.prog 26 #[.pointer (some ⟨p, 0, none⟩), .int .i64 m] W fun e W' => e = .returned (.tuple #[.int .i64 (runX T m), .bool (runOk T m)]) ∧ W' = W := by
  have H := hid h
  have h1 := h.blk.cell 0
  simp only [List.getElem?_toArray, List.getElem?_cons_zero] at h1
  obtain ⟨g, cap, rfl, hg, hgs⟩ := h.form
  have hl2 := h.len2
  clear h
  by_cases hm : 1 ≤ m
  · by_cases hmN : m ≤ T.length
    · obtain ⟨n, rfl⟩ : ∃ n : Nat, m = n := ⟨m.toNat, by omega⟩
      have hn1 : 1 ≤ n := by omega
      have hn2 : n ≤ T.length := by omega
      have HN := hid hn2
      go_enter Try.func26, Try.ntmps26
      go_wp2
      go_loopg [6] (T.length + 1) (fun g' i wr => ∃ j : Nat, i = .int .i64 j ∧ g' + j = T.length + 1 ∧ j ≤ T.length ∧ (∀ y, y < j → ∃ x, y ≤ x ∧ x < y + n ∧ tk T x = true) ∧ W = wr)
      case atStart => exact ⟨0, rfl, by omega, by omega, fun y h => by omega, rfl⟩
      case round =>
        obtain ⟨j, rfl, hgj, hjl, hz, rfl⟩ := hrel
        have HZ := hid hz
        obtain ⟨go, hgo⟩ : ∃ go, gk = go := ⟨_, rfl⟩
        rw [hgo] at hgj
        have HG := hid hgj
        clear hz hgj
        by_cases hj : j + n ≤ T.length
        · have hji : (j : Int) + (n : Int) ≤ (T.length : Int) := by omega
          go_wp2
          go_loopg [7, 8] (n + 1) (fun g' f k wr => ∃ (t : Nat) (b : Bool), f = .bool b ∧ k = .int .i64 ((j + t : Nat) : Int) ∧ g' + t = n + 1 ∧ t ≤ n ∧ (b = true → ∀ y, j ≤ y → y < j + t → tk T y = false) ∧ (b = false → ∃ x, j ≤ x ∧ x < j + n ∧ tk T x = true) ∧ W = wr)
          case atStart => exact ⟨0, true, rfl, by go_num, by omega, by omega, fun _ y h1 h2 => by omega, (fun h => by cases h), rfl⟩
          case round =>
            obtain ⟨t, b, rfl, rfl, hgt, htn, hb1, hb2, rfl⟩ := hrel
            have HB1 := hid hb1
            have HB2 := hid hb2
            have HGT := hid hgt
            clear hb1 hb2 hgt
            cases b with
            | true =>
              have HF := hid (HB1.out rfl)
              clear HB1 HB2
              by_cases ht : t < n
              · have hti : ((j + t : Nat) : Int) < (j : Int) + (n : Int) := by omega
                have hjt : j + t < T.length := by omega
                have hjti : ((j + t : Nat) : Int) < (T.length : Int) := by omega
                have hc := H.out.row.cell hjt
                have HT := hid ht
                have hsucc : ((j + t : Nat) : Int) + 1 = ((j + (t + 1) : Nat) : Int) := by omega
                have hx := hid hjt
                clear ht hjt
                generalize hyy : j + t = y at *
                have hy8 : (y : Int) < 2000 := by omega
                cases hb : tk T y with
                | true =>
                  rw [hb] at hc
                  have HT2 := hid hb
                  have HYY := hid hyy
                  clear hb
                  go_wp2
                  have hg := HGT.out
                  have hT := HT.out
                  go_roundg (gk - 1)
                  case measure => omega
                  case rel => exact ⟨t + 1, false, rfl, by go_num, by omega, by omega, (fun h => by cases h), fun _ => ⟨y, by have := HYY.out; omega, by have := HYY.out; omega, HT2.out⟩, rfl⟩
                | false =>
                  rw [hb] at hc
                  have HT2 := hid hb
                  have HYY := hid hyy
                  clear hb
                  go_wp2
                  have hg := HGT.out
                  have hT := HT.out
                  go_roundg (gk - 1)
                  case measure => omega
                  case rel => exact ⟨t + 1, true, rfl, by go_num, by omega, by omega, fun _ x h1 h2 => by
                    by_cases hx : x = y
                    · rw [hx]; exact HT2.out
                    · exact HF.out x h1 (by have := HYY.out; omega), (fun h => by cases h), rfl⟩
              · have htn2 : t = n := by omega
                have hti : ¬ ((j + t : Nat) : Int) < (j : Int) + (n : Int) := by omega
                rw [htn2] at HF
                have HR := hid (run_hit hn1 hj HF.out HZ.out)
                clear HF
                go_wp2
                go_ret2
                rw [HR.out.1, HR.out.2]
                exact ⟨rfl, rfl⟩
            | false =>
              have HF := hid (HB2.out rfl)
              clear HB1 HB2
              have hyi : (0 : Int) ≤ ((j + t : Nat) : Int) := by omega
              have hg := HG.out
              by_cases ht : t < n
              · have hti : ((j + t : Nat) : Int) < (j : Int) + (n : Int) := by omega
                generalize j + t = y at *
                go_wp2
                go_roundg (go - 1)
                case measure => omega
                case rel => exact ⟨j + 1, by go_num, by omega, by omega, fun x hx => by
                  by_cases hxj : x = j
                  · rw [hxj]; exact HF.out
                  · exact HZ.out x (by omega), rfl⟩
              · have hti : ¬ ((j + t : Nat) : Int) < (j : Int) + (n : Int) := by omega
                generalize j + t = y at *
                go_wp2
                go_roundg (go - 1)
                case measure => omega
                case rel => exact ⟨j + 1, by go_num, by omega, by omega, fun x hx => by
                  by_cases hxj : x = j
                  · rw [hxj]; exact HF.out
                  · exact HZ.out x (by omega), rfl⟩
        · have hji : ¬ (j : Int) + (n : Int) ≤ (T.length : Int) := by omega
          have HR := hid (run_none (T := T) (m := (n : Int)) (fun _ x hx => by
            obtain ⟨y, y1, y2, y3⟩ := HZ.out x (by omega)
            exact ⟨y, y1, by omega, y3⟩))
          go_wp2
          go_ret2
          rw [HR.out.1, HR.out.2]
          exact ⟨rfl, rfl⟩
    · have HR := hid (run_none (T := T) (m := m) (fun _ x hx => by omega))
      have hm0 : ¬ m ≤ (T.length : Int) := hmN
      go_enter Try.func26, Try.ntmps26
      go_wp2
      go_loopg [6] 1 (fun g' i wr => i = .int .i64 0 ∧ W = wr)
      case atStart => exact ⟨rfl, rfl⟩
      case round =>
        obtain ⟨rfl, rfl⟩ := hrel
        go_wp2
        go_ret2
        rw [HR.out.1, HR.out.2]
        exact ⟨rfl, rfl⟩
  · have HR := hid (run_none (T := T) (m := m) (fun h x hx => by omega))
    go_enter Try.func26, Try.ntmps26
    go_wp2
    go_loopg [6] 1 (fun g' i wr => i = .int .i64 0 ∧ W = wr)
    case atStart => exact ⟨rfl, rfl⟩
    case round =>
      obtain ⟨rfl, rfl⟩ := hrel
      go_wp2
      go_ret2
      rw [HR.out.1, HR.out.2]
      exact ⟨rfl, rfl⟩

end Go.Proofs.Ytcblkdocbmpkeaa
