/-
  What the document's Taken and Run do, by contracts.
-/
import Derived.Test.YtcblkdocbmpkeaaRtk
import Derived.Test.YtcblkdocbmpkeaaRp
namespace Go.Proofs.Ytcblkdocbmpkeaa
open Go Go.RowKit

set_option maxHeartbeats 2000000 in
set_option maxRecDepth 100000 in
theorem rtaken_any {W : World} {B p : Nat} {v : Value} {T : List Bool} (h : Rb W B p v T) :
    Calls Try.prog 22 #[.pointer (some ⟨p, 0, none⟩)] W fun e W' => ∃ vo, e = .returned vo ∧ Ints W' W.heap.size vo (takenL T) ∧ Below W.heap.size W W' := by
  have H := hid h
  obtain ⟨g, cap, rfl, hg, hgs⟩ := h.form
  have hl2 := h.len2
  clear h
  have HO := hid (show Ints (W.alloc (.cells #[] 3)) W.heap.size (.slice (some ⟨W.heap.size, 0, none⟩) 0 0) [] from World.ownsRow_lit W #[] 0 (Nat.le_refl _) (by unfold maxLen; omega) (by simp))
  have HB := hid ((Below.refl W.heap.size W).alloc (Nat.le_refl _) (.cells #[] 3))
  go_enter Try.func22, Try.ntmps22
  go_wp2
  go_loopg [3, 4] T.length (fun g' o i wr => ∃ j : Nat, i = .int .i64 j ∧ g' + j = T.length ∧ Ints wr W.heap.size o ((upto (rnd 0 T.length) j).filter (isB T)) ∧ Below W.heap.size W wr)
  case atStart => exact ⟨0, rfl, by omega, HO.out, HB.out⟩
  case round =>
    obtain ⟨j, rfl, hgj, ho, hb⟩ := hrel
    have HG := hid hgj
    have HO := hid ho
    have HB := hid hb
    have HR := hid (H.out.below hb)
    have h1 := HR.out.blk.cell 0
    simp only [List.getElem?_toArray, List.getElem?_cons_zero] at h1
    have hjl : j ≤ T.length := by omega
    clear ho hb hgj
    by_cases hj : j < T.length
    · have hc := HR.out.row.cell hj
      have hji : (j : Int) < (T.length : Int) := by omega
      have hup := hid (show upto (rnd 0 T.length) (j + 1) = upto (rnd 0 T.length) j ++ [(j : Int)] by rw [upto_succ, rnd_zero hj])
      cases ht : tk T j with
      | true =>
        rw [ht] at hc
        have HT := hid (show isB T (j : Int) = true by rw [isB_nat hj]; exact ht)
        have hlen := hid (show ((upto (rnd 0 T.length) j).filter (isB T)).length < 1000000 by have := List.length_filter_le (isB T) (upto (rnd 0 T.length) j); rw [upto_length] at this; omega)
        have hvo := hid (fun g e => (HO.out.block (g := g) e).1)
        clear ht
        go_wp2_with (at_builtin; refine wpList_push rfl (.tmp 22) (.tmp 24) rfl W.heap.size _ _ (j : Int) rfl HO.out rfl hlen.out HB.out.size ?_; intro v' w1 hown1 honly1; obtain ⟨g', cap', rfl, hg1, hg2⟩ := hown1.form (by simp); have HW := hid hown1; have HL := hid honly1; clear hown1 honly1)
        have hg := HG.out
        go_roundg (gk - 1)
        case measure => omega
        case rel => exact ⟨j + 1, by go_num, by omega, by rw [hup.out, List.filter_append]; simpa [HT.out] using HW.out, HB.out.trans (HL.out.below HB.out.size (fun k hk e => by have := hvo.out _ e; omega))⟩
      | false =>
        rw [ht] at hc
        have HT := hid (show isB T (j : Int) = false by rw [isB_nat hj]; exact ht)
        clear ht
        go_wp2
        have hg := HG.out
        go_roundg (gk - 1)
        case measure => omega
        case rel => exact ⟨j + 1, by go_num, by omega, by rw [hup.out, List.filter_append]; simpa [HT.out] using HO.out, HB.out⟩
    · have hjn : ¬ (j : Int) < (T.length : Int) := by omega
      have hjN : j = T.length := by omega
      go_wp2
      go_ret
      refine ⟨_, rfl, ?_, HB.out⟩
      have := HO.out
      rw [hjN] at this
      exact this

/-- Up to k there is no run of m free pages. -/
theorem run_state {T : List Bool} {m : Int} : ∀ k, k ≤ T.length → (∀ j : Nat, (j : Int) + m ≤ k → ∃ y, j ≤ y ∧ (y : Int) < j + m ∧ tk T y = true) → ∃ s, runTo T m (upto (rnd 0 T.length) k) = some s := by
  intro k
  induction k with
  | zero => intro _ _; exact ⟨0, rfl⟩
  | succ k ih =>
    intro hk hw
    obtain ⟨s, hs⟩ := ih (by omega) (fun j hj => hw j (by omega))
    rw [upto_succ, runTo_snoc, hs, runStep_some, rnd_zero (by omega)]
    cases hb : isB T (k : Int) with
    | true => exact ⟨0, rfl⟩
    | false =>
      rw [if_neg (by simp)]
      by_cases he : ((s + 1 : Nat) : Int) = m
      · exfalso
        obtain ⟨h1, h2⟩ := runTo_free k s (by omega) hs
        obtain ⟨y, y1, y2, y3⟩ := hw (k - s) (by omega)
        by_cases hy : y = k
        · rw [hy] at y3
          rw [isB_nat (by omega)] at hb
          rw [hb] at y3
          cases y3
        · have := h2 y y1 (by omega)
          rw [isB_nat (by omega)] at this
          rw [this] at y3
          cases y3
      · rw [if_neg he]
        exact ⟨_, rfl⟩
theorem run_grow {T : List Bool} {m : Int} {j : Nat} : ∀ k, k ≤ T.length → (∀ y, j ≤ y → y < k → tk T y = false) → ∀ s, runTo T m (upto (rnd 0 T.length) k) = some s → j ≤ k → k ≤ s + j := by
  intro k
  induction k with
  | zero => intro _ _ s _ h; omega
  | succ k ih =>
    intro hk hf s hs hj
    obtain ⟨s0, h0⟩ := runTo_upto (Nat.le_succ k) hs
    have he := runTo_next (by omega) h0 hs
    by_cases hjk : j ≤ k
    · have := ih (by omega) (fun y h1 h2 => hf y h1 (by omega)) s0 h0 hjk
      rw [isB_nat (by omega), hf k hjk (by omega), if_neg (by simp)] at he
      omega
    · omega
theorem run_hit {T : List Bool} {m i : Nat} (hm : 1 ≤ m) (hi : i + m ≤ T.length) (hf : ∀ y, i ≤ y → y < i + m → tk T y = false) (hw : ∀ j, j < i → ∃ y, j ≤ y ∧ y < j + m ∧ tk T y = true) :
    runX T m = i ∧ runOk T m = true := by
  obtain ⟨s, hs⟩ := run_state (T := T) (m := (m : Int)) (i + m - 1) (by omega) (fun j hj => by
    obtain ⟨y, y1, y2, y3⟩ := hw j (by omega)
    exact ⟨y, y1, by omega, y3⟩)
  have h1 := runTo_lt (by omega) hs
  have h2 := run_grow (j := i) (i + m - 1) (by omega) (fun y a b => hf y a (by omega)) s hs (by omega)
  have hb : runB T m = some ((i + m - 1 : Nat) : Int) := by
    unfold runB
    rw [if_pos (by omega)]
    obtain ⟨q, hq⟩ : ∃ q, T.length = (i + m - 1 + 1) + q := ⟨T.length - (i + m - 1 + 1), by omega⟩
    have : upto (rnd 0 T.length) T.length = upto (rnd 0 T.length) (i + m - 1) ++ (((i + m - 1 : Nat) : Int) :: ((List.range q).map (fun j => rnd 0 T.length (i + m - 1 + 1 + j)))) := by
      conv => lhs; rw [show upto (rnd 0 T.length) T.length = upto (rnd 0 T.length) (i + m - 1 + 1 + q) by rw [← hq]]
      rw [upto_add, upto_succ, rnd_zero (by omega), List.append_assoc]
      rfl
    rw [this, runFind_app _ _ 0 s hs, runFind, isB_nat (by omega), hf _ (by omega) (by omega), if_neg (by simp), if_pos (by omega)]
  unfold runX runOk
  rw [hb]
  refine ⟨?_, rfl⟩
  show ((i + m - 1 : Nat) : Int) - m + 1 = i
  omega
theorem run_none {T : List Bool} {m : Int} (hw : 1 ≤ m → ∀ j : Nat, (j : Int) + m ≤ T.length → ∃ y, j ≤ y ∧ (y : Int) < j + m ∧ tk T y = true) : runX T m = 0 ∧ runOk T m = false := by
  have hb : runB T m = none := by
    unfold runB
    split
    · rename_i hm
      obtain ⟨s, hs⟩ := run_state T.length (Nat.le_refl _) (hw hm)
      have := runFind_app (T := T) (m := m) [] _ 0 s hs
      rw [List.append_nil] at this
      rw [this]
      rfl
    · rfl
  unfold runX runOk
  rw [hb]
  exact ⟨rfl, rfl⟩
end Go.Proofs.Ytcblkdocbmpkeaa
