/-
  What Key and Less of the document's layer 5, page and Size of its layer 11 do, by contracts.
-/
import Derived.Test.YtfoidiebdklggaaSm
open Go Go.RowKit
namespace Go.Proofs.Ytfoidiebdklggaa

theorem rkey_any {W : World} (s : ByteArray) (hs : s.size ≤ 1000000) : Calls Try.prog 28 #[.string s] W fun e W' => e = .returned (.bool (keyB s)) ∧ W' = W := by
  unfold keyB
  by_cases h : 1 ≤ s.size
  · have hi : (1 : Int) ≤ (s.size : Int) := by omega
    rw [decide_eq_true h, Bool.true_and]
    by_cases h2 : s.size ≤ 16
    · have h3 : (s.size : Int) ≤ 16 := by omega
      rw [decide_eq_true h2]
      go_enter Try.func28, Try.ntmps28
      go_wp2
      go_ret
      exact ⟨rfl, rfl⟩
    · have h3 : ¬ (s.size : Int) ≤ 16 := by omega
      rw [decide_eq_false h2]
      go_enter Try.func28, Try.ntmps28
      go_wp2
      go_ret
      exact ⟨rfl, rfl⟩
  · have hi : ¬ (1 : Int) ≤ (s.size : Int) := by omega
    rw [decide_eq_false h, Bool.false_and]
    go_enter Try.func28, Try.ntmps28
    go_wp2
    go_ret
    exact ⟨rfl, rfl⟩

theorem less_drop : ∀ (i : Nat) (A B : List UInt8), (∀ j, j < i → A[j]? = B[j]?) → i ≤ A.length → i ≤ B.length → Op.bytesLess A B = Op.bytesLess (A.drop i) (B.drop i) := by
  intro i
  induction i with
  | zero => intro A B _ _ _; simp
  | succ i ih =>
    intro A B h ha hb
    match A, B, ha, hb with
    | a :: x, b :: y, ha, hb =>
      have h0 := h 0 (by omega)
      simp at h0
      subst h0
      rw [List.drop_succ_cons, List.drop_succ_cons, ← ih x y (fun j hj => by have := h (j + 1) (by omega); simpa using this) (by simpa using ha) (by simpa using hb)]
      simp [Op.bytesLess]
theorem less_end {A B : List UInt8} (i : Nat) (h : ∀ j, j < i → A[j]? = B[j]?) (ha : i ≤ A.length) (hb : i ≤ B.length) (he : i = A.length ∨ i = B.length) : Op.bytesLess A B = decide (A.length < B.length) := by
  rw [less_drop i A B h ha hb]
  rcases Nat.lt_or_ge i B.length with h1 | h1
  · have hA : i = A.length := by omega
    rw [List.drop_of_length_le (by omega), decide_eq_true (by omega), List.drop_eq_getElem_cons h1]
    rfl
  · rw [List.drop_of_length_le h1, decide_eq_false (by omega)]
    cases A.drop i <;> rfl
theorem less_at {A B : List UInt8} (i : Nat) (h : ∀ j, j < i → A[j]? = B[j]?) {a b : UInt8} (ha : A[i]? = some a) (hb : B[i]? = some b) (hne : ¬ a = b) : Op.bytesLess A B = decide (a.toNat < b.toNat) := by
  obtain ⟨h1, e1⟩ := List.getElem?_eq_some_iff.1 ha
  obtain ⟨h2, e2⟩ := List.getElem?_eq_some_iff.1 hb
  rw [less_drop i A B h (by omega) (by omega), List.drop_eq_getElem_cons h1, List.drop_eq_getElem_cons h2, e1, e2]
  have hb2 : (a == b) = false := by simpa using hne
  simp only [Op.bytesLess, hb2, Bool.false_and, Bool.or_false]
  rfl
theorem toL_len (s : ByteArray) : s.toList.length = s.size := by rw [ByteArray.toList_eq]; simp
theorem index_u8 (s : ByteArray) (j : Nat) {b : UInt8} (h : s.toList[j]? = some b) (w : World) : (Instr.index 9 (.string s) (.int .i64 (j : Int))).run Try.prog w = .ok (.int .u8 ((b.toNat : Nat) : Int)) w := by
  have hl : j < s.size := by rw [← toL_len]; exact (List.getElem?_eq_some_iff.1 h).1
  rw [run_index_string w 9 s .i64 (j : Int) (by kernel_rfl), dif_pos ⟨by omega, by omega⟩]
  have e : s.data.toList[j]'(by simpa using hl) = b := by
    rw [ByteArray.toList_eq] at h
    exact (List.getElem?_eq_some_iff.1 h).2
  rw [← e]
  simp only [Int.toNat_natCast]
  rfl

set_option maxHeartbeats 2000000 in
set_option maxRecDepth 100000 in
theorem rless_any {W : World} (a b : ByteArray) (ha : a.size ≤ 1000000) (hb : b.size ≤ 1000000) :
    Calls Try.prog 36 #[.string a, .string b] W fun e W' => e = .returned (.bool (Op.bytesLess a.toList b.toList)) ∧ ∃ m, W' = W.drewN m := by
  have hai : (a.size : Int) ≤ 1000000 := by omega
  have hbi : (b.size : Int) ≤ 1000000 := by omega
  have LA := hid (toL_len a)
  have LB := hid (toL_len b)
  go_enter Try.func36, Try.ntmps36
  go_wp2
  go_loopg [5] a.size (fun g i wr => ∃ j q : Nat, i = .int .i64 j ∧ g + j = a.size ∧ j ≤ b.size ∧ (∀ x, x < j → a.toList[x]? = b.toList[x]?) ∧ wr = W.drewN q)
  case atStart => exact ⟨0, 0, rfl, rfl, Nat.zero_le _, fun x h => by omega, rfl⟩
  case round =>
    obtain ⟨j, q, rfl, hgj, hjb, hx, rfl⟩ := hrel
    have HG := hid hgj
    have HX := hid hx
    have hja : j ≤ a.size := by omega
    clear hgj hx
    by_cases h1 : j < a.size ∧ j < b.size
    · obtain ⟨h1, h2⟩ := h1
      obtain ⟨x, hxa⟩ : ∃ x, a.toList[j]? = some x := ⟨_, List.getElem?_eq_getElem (by rw [LA.out]; exact h1)⟩
      obtain ⟨y, hyb⟩ : ∃ y, b.toList[j]? = some y := ⟨_, List.getElem?_eq_getElem (by rw [LB.out]; exact h2)⟩
      have i1 := index_u8 a j hxa
      have i2 := index_u8 b j hyb
      have hi1 : (j : Int) < (a.size : Int) := by omega
      have hi2 : (j : Int) < (b.size : Int) := by omega
      have HXA := hid hxa
      have HYB := hid hyb
      have H1 := hid h1
      have H2 := hid h2
      clear hxa hyb h1 h2
      by_cases hxy : x = y
      · subst hxy
        have hne : (((x.toNat : Nat) : Int) != ((x.toNat : Nat) : Int)) = false := by simp
        go_wp2
        go_quiet (fail)
        go_wp2
        have hg := HG.out
        have hh2 := H2.out
        go_roundg (gk - 1)
        case measure => omega
        case rel => exact ⟨j + 1, q + nq, by go_num, by omega, by omega, fun z hz => by
          by_cases hzj : z = j
          · rw [hzj, HXA.out, HYB.out]
          · exact HX.out z (by omega), rfl⟩
      · have HL := hid (less_at j HX.out HXA.out HYB.out hxy)
        have hxy2 : ¬ x.toNat = y.toNat := fun e => hxy (UInt8.toNat_inj.1 e)
        clear hxy
        generalize x.toNat = p at *
        generalize y.toNat = r at *
        have hne : ((p : Int) != (r : Int)) = true := by simp; omega
        have hpr : ¬ (p : Int) = (r : Int) := by omega
        go_wp2
        go_quiet (fail)
        go_wp2
        go_quiet (fail)
        go_wp2
        go_ret
        rw [HL.out]
        exact ⟨by simp, _, by rw [World.drewN_drewN, World.drewN_drewN]⟩
    · have HE := hid (less_end j HX.out (by rw [LA.out]; omega) (by rw [LB.out]; omega) (by rw [LA.out, LB.out]; omega))
      rw [LA.out, LB.out] at HE
      by_cases hi1 : (j : Int) < (a.size : Int)
      · have hi2 : ¬ (j : Int) < (b.size : Int) := by omega
        go_wp2
        go_ret
        rw [HE.out]
        exact ⟨by simp, q, rfl⟩
      · go_wp2
        go_ret
        rw [HE.out]
        exact ⟨by simp, q, rfl⟩
end Go.Proofs.Ytfoidiebdklggaa
