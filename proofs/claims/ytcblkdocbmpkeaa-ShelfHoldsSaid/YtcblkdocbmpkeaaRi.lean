/-
  The document's comparison of two rows of ints, by a contract.
-/
import Derived.Test.YtcblkdocbmpkeaaSl
import Derived.Test.YtcblkdocbmpkeaaChecked
import Derived.WalkKit
import Derived.WalkLawsBesides
import Derived.WalkSpells
import Derived.Deep.QuietTactic
import Derived.BigQuiet
import Derived.Deep.LoopGhost
import Derived.Deep.DeepCutAuto
import Derived.Deep.CutRange
import Derived.Deep.CutBlock
import Derived.Outline
open Go Go.RowKit
namespace Go.Proofs.Ytcblkdocbmpkeaa

theorem take_snocI {D : List Int} {k : Nat} (h : k < D.length) : D.take (k + 1) = D.take k ++ [D[k]] := List.take_succ_eq_append_getElem h
theorem take_next {D E : List Int} {k : Nat} (h1 : k < D.length) (h2 : k < E.length) (h : D.take k = E.take k) (hd : D[k] = E[k]) : D.take (k + 1) = E.take (k + 1) := by
  rw [take_snocI h1, take_snocI h2, h, hd]
theorem Ints.lit {B : Nat} {w : World} (h : B ≤ w.heap.size) (D : List Int) (hl : D.length ≤ 1024) : Ints (w.alloc (.cells (D.map (Value.int .i64)).toArray 3)) B (.slice (some ⟨w.heap.size, 0, none⟩) D.length D.length) D := by
  have := World.ownsRow_lit (base := B) (e := 3) (size := 1) w (D.map (Value.int .i64)).toArray D.length h (by unfold maxLen; omega) (by simp)
  simpa [Ints] using this

set_option maxHeartbeats 800000 in
theorem ints_any {W : World} {B B' : Nat} {v v' : Value} {D E : List Int} (h : RdI W B v D) (h' : RdI W B' v' E) :
    Calls Try.prog 20 #[v, v'] W fun e W' => e = .returned (.bool (decide (D = E))) ∧ ∃ m, W' = W.drewN m := by
  obtain ⟨a, cap, rfl, hl1, hm⟩ := h.shape
  obtain ⟨a', cap', rfl, hl1', hm'⟩ := h'.shape
  unfold maxLen at hm hm'
  have H := hid h
  have H' := hid h'
  clear h h'
  by_cases hle : D.length = E.length
  · rw [← hle] at H' hl1' ⊢
    have HL := hid hle
    clear hle
    go_enter Try.func20, Try.ntmps20
    go_wp2_with fail
    go_loopg [5] D.length (fun g i wr => ∃ k m : Nat, i = .int .i64 k ∧ g + k = D.length ∧ D.take k = E.take k ∧ wr = W.drewN m)
    case atStart => exact ⟨0, 0, rfl, rfl, rfl, rfl⟩
    case round =>
      obtain ⟨k, m, rfl, hgk, htk, rfl⟩ := hrel
      have HG := hid hgk
      have HT := hid htk
      have hk : k ≤ D.length := by omega
      clear hgk htk
      by_cases hlt : k < D.length
      · obtain ⟨g, off, rfl, _, hc⟩ := H.out.at_ (List.getElem?_eq_getElem hlt)
        have hlt' : k < E.length := by have := HL.out; omega
        obtain ⟨g', off', rfl, _, hc'⟩ := H'.out.at_ (List.getElem?_eq_getElem hlt')
        have hn := fun (h : D[k] = E[k]) => take_next hlt hlt' HT.out h
        have hne : D[k] ≠ E[k] → D ≠ E := fun h e => h (by simp [e])
        generalize D[k] = x at *
        generalize E[k] = y at *
        have HN := hid hn
        have HE := hid hne
        clear hn hne
        by_cases hxy : x = y
        · subst hxy
          go_wp2_with fail
          go_quiet (fail)
          go_wp2
          have hg := HG.out
          go_roundg (gk - 1)
          case measure => omega
          case rel => exact ⟨k + 1, _, by go_num, by omega, by simpa using HN.out, rfl⟩
        · go_wp2_with fail
          go_quiet (fail)
          go_wp2
          go_ret
          exact ⟨by rw [decide_eq_false (HE.out hxy)]; rfl, by simp only [World.drewN_drewN]; exact ⟨_, rfl⟩⟩
      · have hk' : k = D.length := by omega
        have hDE : D = E := by
          have := HT.out
          have hL := HL.out
          rwa [List.take_of_length_le (by omega), List.take_of_length_le (by omega)] at this
        have HE := hid hDE
        clear hDE
        go_wp2
        go_ret
        exact ⟨by rw [decide_eq_true HE.out]; rfl, _, rfl⟩
  · rw [show decide (D = E) = false by simp; intro e; exact hle (by rw [e])]
    have hle' : ¬ (D.length : Int) = E.length := by omega
    go_enter Try.func20, Try.ntmps20
    go_wp2
    go_ret
    exact ⟨rfl, 0, rfl⟩
end Go.Proofs.Ytcblkdocbmpkeaa
