/-
  What the document's bad says: can kids not be grouped so? By a contract.
-/
import Derived.Test.YtfoidiebdklggaaRk
import Derived.Test.YtfoidiebdklggaaRg
open Go Go.RowKit
namespace Go.Proofs.Ytfoidiebdklggaa

set_option maxHeartbeats 6400000 in
set_option maxRecDepth 100000 in
theorem bad_any {W : World} {v pv : Value} {K : List Kid} {P : List Int} (h : RdK W W.heap.size v K) (hf : ∀ k ∈ K, k.1.size ≤ 1000) (hp : RdI W W.heap.size pv P) (m : Int) :
    Calls Try.prog 32 #[v, .int .i64 m, pv] W fun e W' => e = .returned (.bool (!canB K m P)) ∧ Below W.heap.size W W' := by
  obtain ⟨ad, cap, rfl, hl, hm⟩ := h.shape
  obtain ⟨ad', cap', rfl, hl', hm'⟩ := hp.shape
  have HK := hid h
  have HP := hid hp
  have HF := hid hf
  unfold maxLen at hm hm'
  clear h hp hf
  have HC0 := hid (show canB K m P = (decide (1 ≤ K.length ∧ K.length ≤ 1024 ∧ 2 ≤ m ∧ m ≤ 13) && (rightB K && (decide (P.length = manyL K.length m.toNat) && !anyOdd P))) from rfl)
  go_enter Try.func32, Try.ntmps32
  go_wp2_with fail
  refine (rgroups_any (K.length : Int) m).mono ?_
  rintro e w1 hgp
  obtain ⟨ga, gn, gc, ec, rfl, hb, hcan⟩ : ∃ ga gn gc ec, e = .returned (.tuple #[.slice ga gn gc, .int .i64 ec]) ∧ Below W.heap.size W w1 ∧ canB K m P = (decide (ec = 0) && (rightB K && (decide (P.length = gn) && !anyOdd P))) := by
    by_cases hin : 1 ≤ K.length ∧ K.length ≤ 1024 ∧ 2 ≤ m ∧ m ≤ 13
    · obtain ⟨b, rfl⟩ : ∃ b : Nat, m = b := ⟨m.toNat, by omega⟩
      obtain ⟨gv, rfl, hgv, hb⟩ := hgp.get ⟨hin.1, hin.2.1⟩ (by omega)
      obtain ⟨ga, gc, rfl⟩ := hgv.shape
      refine ⟨_, _, _, 0, rfl, hb, ?_⟩
      rw [HC0.out, groupsL_len, decide_eq_true hin, Int.toNat_natCast]
      rfl
    · obtain ⟨rfl, rfl⟩ := hgp.no (by omega)
      exact ⟨_, _, _, 1, rfl, Below.refl _ _, by rw [HC0.out, decide_eq_false hin]; rfl⟩
  have HC := hid hcan
  have HB := hid hb
  have HK1 := hid ((HK.out.below hb).more hb.size)
  have HP1 := hid ((HP.out.below hb).more hb.size)
  clear HC0 hgp hcan hb
  go_wp2_with fail
  go_loopg [9] P.length (fun g' i wr => ∃ j : Nat, i = .int .i64 j ∧ g' + j = P.length ∧ (∀ y ∈ P.take j, pageB y = true) ∧ w1 = wr)
  case atStart => exact ⟨0, rfl, rfl, fun y hy => by simp at hy, rfl⟩
  case round =>
    obtain ⟨j, rfl, hgj, hok, rfl⟩ := hrel
    have HG := hid hgj
    have HO := hid hok
    have hjl : j ≤ P.length := by omega
    clear hgj hok
    by_cases hj : j < P.length
    · have hji : (j : Int) < (P.length : Int) := by omega
      obtain ⟨gb, off, rfl, _, hc⟩ := HP1.out.at_ (List.getElem?_eq_getElem hj)
      have HT := hid (show P.take (j + 1) = P.take j ++ [P[j]] from List.take_succ_eq_append_getElem hj)
      have HM := hid (show P[j] ∈ P from List.getElem_mem hj)
      generalize P[j] = y at *
      have HPG := hid (show pageB y = (decide (0 ≤ y) && decide (y < 1024)) from rfl)
      have HNO := hid (show pageB y = false → canB K m P = false from fun hp => by
        rw [HC.out, show anyOdd P = true from List.any_eq_true.2 ⟨y, HM.out, by rw [hp]; rfl⟩]
        simp)
      clear hj
      by_cases hy0 : 0 ≤ y
      · by_cases hy1 : y ≤ 1023
        · have hp0 : decide (y < 0) = false := by simp; omega
          have hp1 : decide (1023 < y) = false := by simp; omega
          have HY := hid (show pageB y = true by rw [HPG.out, decide_eq_true hy0, decide_eq_true (show y < 1024 by omega)]; rfl)
          go_wp2
          have hg := HG.out
          go_roundg (gk - 1)
          case measure => omega
          case rel => exact ⟨j + 1, by go_num, by omega, fun z hz => by
            rw [HT.out, List.mem_append] at hz
            rcases hz with hz | hz
            · exact HO.out z hz
            · simp at hz; rw [hz]; exact HY.out, rfl⟩
        · have hp0 : decide (y < 0) = false := by simp; omega
          have hp1 : decide (1023 < y) = true := by simp; omega
          have HN := hid (HNO.out (by rw [HPG.out, decide_eq_false (show ¬ y < 1024 by omega), Bool.and_false]))
          go_wp2
          go_ret
          rw [HN.out]
          exact ⟨rfl, HB.out⟩
      · have hp0 : decide (y < 0) = true := by simp; omega
        have HN := hid (HNO.out (by rw [HPG.out, decide_eq_false hy0, Bool.false_and]))
        go_wp2
        go_ret
        rw [HN.out]
        exact ⟨rfl, HB.out⟩
    · have hji : ¬ (j : Int) < (P.length : Int) := by omega
      rw [show anyOdd P = false by
        unfold anyOdd
        rw [List.any_eq_false]
        intro z hz
        rw [List.take_of_length_le (by omega)] at HO
        rw [HO.out z hz]
        simp] at HC
      clear HO HG
      by_cases hec : ec = 0
      · rw [decide_eq_true hec, Bool.true_and] at HC
        subst hec
        cases hr : rightB K with
        | false =>
          rw [hr, Bool.false_and] at HC
          go_wp2_with fail
          refine (rright_any HK1.out HF.out).mono ?_
          rintro e w2 ⟨rfl, hb2⟩
          rw [hr]
          have HB2 := hid (HB.out.trans (hb2.mono HB.out.size))
          clear hb2 hr
          go_wp2
          go_ret
          rw [HC.out]
          exact ⟨rfl, HB2.out⟩
        | true =>
          rw [hr, Bool.true_and] at HC
          go_wp2_with fail
          refine (rright_any HK1.out HF.out).mono ?_
          rintro e w2 ⟨rfl, hb2⟩
          rw [hr]
          have HB2 := hid (HB.out.trans (hb2.mono HB.out.size))
          clear hb2 hr
          by_cases hn : P.length = gn
          · rw [decide_eq_true hn] at HC
            subst hn
            go_wp2
            go_ret
            rw [HC.out]
            exact ⟨rfl, HB2.out⟩
          · rw [decide_eq_false hn] at HC
            have hn1 : ¬ gn = P.length := fun e => hn e.symm
            have hn2 : ((gn : Int) != (P.length : Int)) = true := by simp; omega
            have hn3 : (gn != P.length) = true := by simp; omega
            go_wp2
            go_ret
            rw [HC.out]
            refine ⟨?_, HB2.out⟩
            simp
      · rw [decide_eq_false hec, Bool.false_and] at HC
        have hec' : (ec == 0) = false := by simpa using hec
        go_wp2
        go_ret
        rw [HC.out]
        exact ⟨rfl, HB.out⟩
end Go.Proofs.Ytfoidiebdklggaa
