/-
  The document's shelf of pages: what its Take, TakeAt, Give, Write, Swap, Free do, by contracts.
-/
import Derived.Test.YtcblkdocbmpkeaaRs
open Go Go.RowKit
namespace Go.Proofs.Ytcblkdocbmpkeaa

set_option maxRecDepth 100000 in
theorem rtake12 {W : World} {B S p : Nat} {bv lv : Value} {M : Mt} (h : Rs W B S p bv lv M) :
    Calls Try.prog 38 #[.pointer (some ⟨S, 0, none⟩)] W fun e W' => e = .returned (.tuple #[.int .i64 (takeMX M), .int .i64 (takeME M)]) ∧ Rs W' B S p bv lv (takeM M) ∧ Only (RsO bv lv) W W' := by
  obtain ⟨g, cap, rfl, hg, hgs⟩ := h.form
  have H := hid h
  have c0 := h.blk.cell 0
  simp only [List.getElem?_toArray, List.getElem?_cons_zero] at c0
  have hN := h.rb.len1
  rw [tks_len] at hN
  obtain ⟨q1, q2, q3⟩ := take_tks hN
  have hC := hid (rtake_any h.rb 0)
  rw [q1, q2, q3] at hC
  have hl2 := h.rb.len2
  rw [tks_len] at hl2
  clear q1 q2 q3
  by_cases he : takeME M = 0
  · obtain ⟨i, eX, hi, e3⟩ : ∃ i : Nat, takeMX M = i ∧ i < M.length ∧ takeM M = M.set i (some ⟨#[]⟩) := by
      unfold takeME at he
      cases hf : freeX (tks M) 0 with
      | none => rw [hf] at he; cases he
      | some x =>
        obtain ⟨i, rfl, hi, hb⟩ := free_some (by rw [tks_len]; omega) hf
        rw [tks_len] at hi
        exact ⟨i, by unfold takeMX; rw [hf], hi, by unfold takeM; rw [hf]; rfl⟩
    rw [eX, he, e3] at hC
    rw [eX, he, e3]
    have HI := hid hi
    have hii : (i : Int) < (M.length : Int) := by omega
    clear h eX he e3 hi
    go_enter Try.func38, Try.ntmps38
    go_wp2_with fail
    refine hC.out.mono ?_
    rintro e w1 ⟨rfl, hb, ho⟩
    obtain ⟨k1, L, k2, k3, _⟩ := H.out.bits ho
    have HS := hid (H.out.put ho HI.out hb)
    have c1 := k1.cell 1
    simp only [List.getElem?_toArray, List.getElem?_cons_zero, List.getElem?_cons_succ] at c1
    have f1 := k2.frozen i
    have g1 := k2.cell (i := i) (by rw [k3]; exact HI.out)
    clear hb ho k1 k2
    go_wp2
    go_ret2
    exact ⟨rfl, HS.out⟩
  · have e3 := take_none he
    rw [e3] at hC
    rw [e3]
    have hz : (takeME M == 0) = false := by simpa using he
    generalize takeME M = z at *
    generalize takeMX M = zx at *
    clear h e3
    go_enter Try.func38, Try.ntmps38
    go_wp2_with fail
    refine hC.out.mono ?_
    rintro e w1 ⟨rfl, hb, ho⟩
    have HS := hid (H.out.same (M' := M) ho hb rfl (fun i _ hh => ⟨hh, rfl⟩))
    clear hb ho
    go_wp2
    go_ret2
    exact ⟨rfl, HS.out⟩
set_option maxRecDepth 100000 in
theorem rtakeAt12 {W : World} {B S p : Nat} {bv lv : Value} {M : Mt} (h : Rs W B S p bv lv M) (i : Int) :
    Calls Try.prog 39 #[.pointer (some ⟨S, 0, none⟩), .int .i64 i] W fun e W' => e = .returned (.int .i64 (takeE (tks M) i)) ∧ Rs W' B S p bv lv (takeAtM M i) ∧ Only (RsO bv lv) W W' := by
  obtain ⟨g, cap, rfl, hg, hgs⟩ := h.form
  have H := hid h
  have c0 := h.blk.cell 0
  simp only [List.getElem?_toArray, List.getElem?_cons_zero] at c0
  have hC := hid (rtakeAt_any h.rb i)
  rw [takeAt_tks] at hC
  have hl2 := h.rb.len2
  rw [tks_len] at hl2
  by_cases hz : takeE (tks M) i = 0
  · obtain ⟨j, rfl, hj, hT⟩ := takeAt_zero hz
    have e3 : takeAtM M (j : Int) = M.set j (some ⟨#[]⟩) := by unfold takeAtM; rw [if_pos hz, Int.toNat_natCast]
    rw [hz, e3] at hC
    rw [hz, e3]
    have HI := hid hj
    have hji : (j : Int) < (M.length : Int) := by omega
    clear h hz hT e3 hj
    go_enter Try.func39, Try.ntmps39
    go_wp2_with fail
    refine hC.out.mono ?_
    rintro e w1 ⟨rfl, hb, ho⟩
    obtain ⟨k1, L, k2, k3, _⟩ := H.out.bits ho
    have HS := hid (H.out.put ho HI.out hb)
    have c1 := k1.cell 1
    simp only [List.getElem?_toArray, List.getElem?_cons_zero, List.getElem?_cons_succ] at c1
    have f1 := k2.frozen j
    have g1 := k2.cell (i := j) (by rw [k3]; exact HI.out)
    clear hb ho k1 k2
    go_wp2
    go_ret
    exact ⟨rfl, HS.out⟩
  · have e3 : takeAtM M i = M := by unfold takeAtM; rw [if_neg hz]
    rw [e3] at hC
    rw [e3]
    generalize takeE (tks M) i = z at *
    have hz2 : (z == 0) = false := by simpa using hz
    clear h e3
    go_enter Try.func39, Try.ntmps39
    go_wp2_with fail
    refine hC.out.mono ?_
    rintro e w1 ⟨rfl, hb, ho⟩
    have HS := hid (H.out.same (M' := M) ho hb rfl (fun i _ hh => ⟨hh, rfl⟩))
    clear hb ho
    go_wp2
    go_ret
    exact ⟨rfl, HS.out⟩
theorem give_len (M : Mt) (i : Int) : (giveM M i).length = M.length := by
  unfold giveM
  split
  · rw [List.length_set]
  · rfl
theorem give_less (M : Mt) (i : Int) (j : Nat) (hh : hasM (giveM M i) j = true) : hasM M j = true ∧ getM (giveM M i) j = getM M j := by
  by_cases hz : giveE (tks M) i = 0
  · obtain ⟨k, rfl, hk, _⟩ := give_zero hz
    have e : giveM M (k : Int) = M.set k none := by unfold giveM; rw [if_pos hz, Int.toNat_natCast]
    rw [e] at hh ⊢
    rw [hasM_set hk] at hh
    rw [getM_set hk]
    by_cases e2 : j = k
    · rw [if_pos e2] at hh; cases hh
    · rw [if_neg e2] at hh ⊢
      exact ⟨hh, rfl⟩
  · have e : giveM M i = M := by unfold giveM; rw [if_neg hz]
    rw [e] at hh ⊢
    exact ⟨hh, rfl⟩
theorem rgive12 {W : World} {B S p : Nat} {bv lv : Value} {M : Mt} (h : Rs W B S p bv lv M) (i : Int) :
    Calls Try.prog 40 #[.pointer (some ⟨S, 0, none⟩), .int .i64 i] W fun e W' => e = .returned (.int .i64 (giveE (tks M) i)) ∧ Rs W' B S p bv lv (giveM M i) ∧ Only (RsO bv lv) W W' := by
  have H := hid h
  have c0 := h.blk.cell 0
  simp only [List.getElem?_toArray, List.getElem?_cons_zero] at c0
  have hC := hid (rgive_any h.rb i)
  rw [give_tks] at hC
  generalize giveE (tks M) i = z at *
  clear h
  go_enter Try.func40, Try.ntmps40
  go_wp2_with fail
  refine hC.out.mono ?_
  rintro e w1 ⟨rfl, hb, ho⟩
  have HS := hid (H.out.same ho hb (give_len M i) (fun j _ hh => give_less M i j hh))
  clear hb ho
  go_wp2
  go_ret
  exact ⟨rfl, HS.out⟩
theorem Rs.over {w : World} {B S p g n cap i : Nat} {bv : Value} {M : Mt} (h : Rs w B S p bv (.slice (some ⟨g, 0, none⟩) n cap) M) (hi : i < M.length) (hh : hasM M i = true) (s : ByteArray) :
    Rs (w.setCell ⟨g, i, none⟩ (.string s)) B S p bv (.slice (some ⟨g, 0, none⟩) n cap) (M.set i (some s)) ∧ Only (RsO bv (.slice (some ⟨g, 0, none⟩) n cap)) w (w.setCell ⟨g, i, none⟩ (.string s)) :=
  h.put (Only.refl _ w) hi (by rw [tks_over hi hh]; exact h.rb)
set_option maxRecDepth 100000 in
theorem rwrite12 {W : World} {B S p : Nat} {bv lv : Value} {M : Mt} (h : Rs W B S p bv lv M) (i : Int) (s : ByteArray) :
    Calls Try.prog 41 #[.pointer (some ⟨S, 0, none⟩), .int .i64 i, .string s] W fun e W' => e = .returned (.int .i64 (writeE M i s)) ∧ Rs W' B S p bv lv (writeM M i s) ∧ Only (RsO bv lv) W W' := by
  obtain ⟨g, cap, rfl, hg, hgs⟩ := h.form
  have H := hid h
  have c1 := h.blk.cell 1
  simp only [List.getElem?_toArray, List.getElem?_cons_zero, List.getElem?_cons_succ] at c1
  have HC := hid (rbad_any h i)
  have hl2 := h.rb.len2
  rw [tks_len] at hl2
  by_cases hr : readE M i = 0
  · rw [hr] at HC
    obtain ⟨j, rfl, hj, hh⟩ := read_zero hr
    have hji : (j : Int) < (M.length : Int) := by omega
    by_cases hs : 252 < s.size
    · have e1 : writeE M (j : Int) s = 2 := by unfold writeE; rw [if_pos hr, if_pos hs]
      have e2 : writeM M (j : Int) s = M := by unfold writeM; rw [if_neg (by rw [e1]; decide)]
      rw [e1, e2]
      have hsi : (252 : Int) < (s.size : Int) := by omega
      clear h hr e1 e2 hj hh hs
      go_enter Try.func41, Try.ntmps41
      go_wp2_with fail
      refine HC.out.mono ?_
      rintro e w1 ⟨rfl, rfl⟩
      go_wp2
      go_ret
      exact ⟨rfl, H.out, Only.refl _ _⟩
    · have e1 : writeE M (j : Int) s = 0 := by unfold writeE; rw [if_pos hr, if_neg hs]
      have e2 : writeM M (j : Int) s = M.set j (some s) := by unfold writeM; rw [if_pos e1, Int.toNat_natCast]
      rw [e1, e2]
      have hsi : ¬ (252 : Int) < (s.size : Int) := by omega
      have HS := hid (h.over hj hh s)
      obtain ⟨L, k2, k3, _⟩ := h.row
      have f1 := k2.frozen j
      have g1 := k2.cell (i := j) (by rw [k3]; exact hj)
      clear h hr e1 e2 hj hh hs k2
      go_enter Try.func41, Try.ntmps41
      go_wp2_with fail
      refine HC.out.mono ?_
      rintro e w1 ⟨rfl, rfl⟩
      go_wp2
      go_ret
      exact ⟨rfl, HS.out⟩
  · have e1 : writeE M i s = readE M i := by unfold writeE; rw [if_neg hr]
    have e2 : writeM M i s = M := by unfold writeM; rw [if_neg (by rw [e1]; exact hr)]
    rw [e1, e2]
    generalize readE M i = z at *
    have hz : (z == 0) = false := by simpa using hr
    clear h e1 e2
    go_enter Try.func41, Try.ntmps41
    go_wp2_with fail
    refine HC.out.mono ?_
    rintro e w1 ⟨rfl, rfl⟩
    go_wp2
    go_ret
    exact ⟨rfl, H.out, Only.refl _ _⟩
set_option maxRecDepth 100000 in
theorem rswap12 {W : World} {B S p : Nat} {bv lv : Value} {M : Mt} (h : Rs W B S p bv lv M) (a b : Int) :
    Calls Try.prog 42 #[.pointer (some ⟨S, 0, none⟩), .int .i64 a, .int .i64 b] W fun e W' => e = .returned (.int .i64 (swapE M a b)) ∧ Rs W' B S p bv lv (swapM M a b) ∧ Only (RsO bv lv) W W' := by
  obtain ⟨g, cap, rfl, hg, hgs⟩ := h.form
  have H := hid h
  have c1 := h.blk.cell 1
  simp only [List.getElem?_toArray, List.getElem?_cons_zero, List.getElem?_cons_succ] at c1
  have HA := hid (rbad_any h a)
  have HB := hid (rbad_any h b)
  have hl2 := h.rb.len2
  rw [tks_len] at hl2
  by_cases hr : readE M a = 0
  · rw [hr] at HA
    by_cases hr2 : readE M b = 0
    · rw [hr2] at HB
      have e1 : swapE M a b = 0 := by unfold swapE; rw [if_pos hr, hr2]
      obtain ⟨i, rfl, hi, hih⟩ := read_zero hr
      obtain ⟨j, rfl, hj, hjh⟩ := read_zero hr2
      have e2 := swapM_eq e1
      rw [e1, e2]
      have hii : (i : Int) < (M.length : Int) := by omega
      have hji : (j : Int) < (M.length : Int) := by omega
      have d1 := h.cell hi hih
      have d2 := h.cell hj hjh
      obtain ⟨L, k2, k3, _⟩ := h.row
      have f1 := fun x => k2.frozen x
      have HS1 := h.over hi hih (getM M j)
      have hjh1 : hasM (M.set i (some (getM M j))) j = true := by
        rw [hasM_set hi]
        split
        · rfl
        · exact hjh
      have HS2 := HS1.1.over (i := j) (by simpa using hj) hjh1 (getM M i)
      obtain ⟨L1, k4, k5, _⟩ := HS1.1.row
      have f2 := fun x => k4.frozen x
      have g2 := k4.cell (i := j) (by rw [k5, List.length_set]; exact hj)
      have c2 := HS1.1.blk.cell 1
      simp only [List.getElem?_toArray, List.getElem?_cons_zero, List.getElem?_cons_succ] at c2
      have HS := hid (And.intro HS2.1 (HS1.2.trans HS2.2))
      generalize getM M i = si at *
      generalize getM M j = sj at *
      clear h hr hr2 e1 e2 hi hj hih hjh k2 k4 HS1 HS2 hjh1
      go_enter Try.func42, Try.ntmps42
      go_wp2_with fail
      refine HA.out.mono ?_
      rintro e w1 ⟨rfl, rfl⟩
      go_wp2_with fail
      refine HB.out.mono ?_
      rintro e w1 ⟨rfl, rfl⟩
      go_wp2
      go_region
      all_goals
        go_wp2
        go_ret
        exact ⟨rfl, HS.out.1.drewN 1, HS.out.2.drew⟩
    · have e1 : swapE M a b = readE M b := by unfold swapE; rw [if_pos hr]
      have e2 : swapM M a b = M := by unfold swapM; rw [if_neg (by rw [e1]; exact hr2)]
      rw [e1, e2]
      generalize readE M b = z at *
      have hz : (z == 0) = false := by simpa using hr2
      clear h e1 e2
      go_enter Try.func42, Try.ntmps42
      go_wp2_with fail
      refine HA.out.mono ?_
      rintro e w1 ⟨rfl, rfl⟩
      go_wp2_with fail
      refine HB.out.mono ?_
      rintro e w1 ⟨rfl, rfl⟩
      go_wp2
      go_ret
      exact ⟨rfl, H.out, Only.refl _ _⟩
  · have e1 : swapE M a b = readE M a := by unfold swapE; rw [if_neg hr]
    have e2 : swapM M a b = M := by unfold swapM; rw [if_neg (by rw [e1]; exact hr)]
    rw [e1, e2]
    generalize readE M a = z at *
    have hz : (z == 0) = false := by simpa using hr
    clear h e1 e2 HB
    go_enter Try.func42, Try.ntmps42
    go_wp2_with fail
    refine HA.out.mono ?_
    rintro e w1 ⟨rfl, rfl⟩
    go_wp2
    go_ret
    exact ⟨rfl, H.out, Only.refl _ _⟩
end Go.Proofs.Ytcblkdocbmpkeaa
