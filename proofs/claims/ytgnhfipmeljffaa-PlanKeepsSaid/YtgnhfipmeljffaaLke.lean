/-
  PlanKeeps returns true for every input: the walk.
-/
import Derived.Test.YtgnhfipmeljffaaLon
open Go Go.RowKit
namespace Go.Proofs.Ytgnhfipmeljffaa

theorem RdI.drewN {w : World} {B : Nat} {v : Value} {D : List Int} (h : RdI w B v D) (n : Nat) : RdI (w.drewN n) B v D := h

namespace planKeeps
set_option maxHeartbeats 3200000 in
set_option maxRecDepth 100000 in
theorem walk {W : World} {v : Value} {D : List Int} (h : RdI W W.heap.size v D) (most many : Int) :
    Calls Try.prog 4 #[v, .int .i64 most, .int .i64 many] W fun e w' => e = .returned (.bool true) ∧ Below W.heap.size W w' := by
  have HD := hid h
  clear h
  obtain ⟨m, hm⟩ : ∃ m, 1 + most % 256 = m := ⟨_, rfl⟩
  obtain ⟨k, hk⟩ : ∃ k, 2 + many % 8 = k := ⟨_, rfl⟩
  have HM := hid hm
  have e1 := and255 most
  have e2 := and7 many
  have e3 : wrap64 (1 + most % 256) = m := by unfold wrap64; omega
  have e4 : wrap64 (2 + many % 8) = k := by unfold wrap64; omega
  have m1 : 1 ≤ m := by omega
  have m2 : m ≤ 256 := by omega
  have k1 : 2 ≤ k := by omega
  have k2 : k ≤ 9 := by omega
  go_enter Try.func4, Try.ntmps4
  go_wp2_with fail
  refine (tame_any HD.out most).mono ?_
  rintro e w1 ⟨v1, rfl, ad, n, cap, E, rfl, ho1, hE, hT, hb1⟩
  rw [HM.out] at hT
  have HO1 := hid (RdI.of_own ho1)
  have hR : Right E m k := ⟨by omega, m1, by omega, k1, by omega, hT⟩
  have HR := hid hR
  have HB1 := hid hb1
  have hlen : n = E.length := ho1.len
  subst hlen
  have hcap : E.length ≤ cap := by obtain ⟨_, _, e, h2, _⟩ := HO1.out.shape; simp at e; omega
  have hcap2 : cap ≤ maxLen := by obtain ⟨_, _, e, _, h3⟩ := HO1.out.shape; simp at e; omega
  unfold maxLen at hcap2
  clear ho1 hb1 hT hR
  go_wp2_with fail
  clear e1 e2 e3 e4 hm hk
  refine (units_any HO1.out (by omega) m k).mono ?_
  rintro e w2 hp
  obtain ⟨vu, rfl, hu, hb2⟩ := hp.get (unitsB_right HR.out)
  have HB2 := hid (HB1.out.trans (hb2.mono HB1.out.size))
  have HO2 := hid ((HO1.out.below hb2).more hb2.size)
  have HU2 := hid (RdU.of_own hu)
  clear hp hu hb2 HB1 HO1
  go_wp2_with fail
  refine (after_any HO2.out HU2.out (by omega)).mono ?_
  rintro e w3 hp
  obtain ⟨va, rfl, ha, hb3⟩ := hp.get (after_units HR.out)
  have HB3 := hid (HB2.out.trans (hb3.mono HB2.out.size))
  have HO3 := hid ((HO2.out.below hb3).more hb3.size)
  have HU3 := hid ((HU2.out.below hb3).more hb3.size)
  have HA3 := hid (RdI.of_own ha)
  obtain ⟨s1, s2, s3, -, -⟩ := merge_keeps HR.out E.length 0 (by omega) (Nat.zero_le _)
  have hok := units_ok HR.out E.length 0 (by omega)
  clear hp ha hb3 HB2 HO2 HU2
  generalize mergeE E m k 0 = A at *
  generalize unitsE E m k 0 = U at *
  have hsE : sumW E = E.sum := sumW_eq (HR.out.tame.mono (by omega)) (by omega)
  have hsA : sumW A = E.sum := by rw [sumW_eq (s1.mono (by omega)) (by omega), s2]; rfl
  have HSE := hid hsE
  have HSA := hid hsA
  have HTA := hid s1
  have HOK := hid hok
  have hAE : ¬ E.length < A.length := by omega
  obtain ⟨aa, ac, rfl, hac1, hac2⟩ := HA3.out.shape
  obtain ⟨ua, uc, rfl, huc1, huc2⟩ := HU3.out.shape
  unfold maxLen at hac2 huc2
  clear hsE hsA s1 s2 s3 hok
  go_wp2_with fail
  refine (Sum_any HA3.out).mono ?_
  rintro e w4 ⟨rfl, rfl⟩
  rw [HSA.out]
  go_wp2_with fail
  refine (Sum_any HO3.out).mono ?_
  rintro e w4 ⟨rfl, rfl⟩
  rw [HSE.out]
  go_wp2_with fail
  go_loopg [14, 15] U.length (fun g p i wr => ∃ j at_ q : Nat, i = .int .i64 j ∧ g + j = U.length ∧ p = .int .i64 at_ ∧ okU E m k at_ (U.drop j) ∧ wr = w3.drewN q)
  case atStart => exact ⟨0, 0, 0, rfl, rfl, rfl, HOK.out, rfl⟩
  case round =>
    obtain ⟨j, at_, q, rfl, hgj, rfl, hokj, rfl⟩ := hrel
    have HGJ := hid hgj
    have hjl : j ≤ U.length := by omega
    clear hgj
    by_cases hj : j < U.length
    · rw [List.drop_eq_getElem_cons hj] at hokj
      obtain ⟨f, e, hu, o1, o2, o3, o4, o5, o6, o7⟩ := hokj
      obtain ⟨M, rfl⟩ : ∃ M : Nat, e = f + M := ⟨e - f, by omega⟩
      have hM : ((f + M : Nat) : Int) - f = (M : Int) := by omega
      rw [hM] at hu o3 o6
      obtain ⟨g, off, rfl, hg, hc1, hc2⟩ := HU3.out.at_ (List.getElem?_eq_getElem hj)
      rw [hu] at hc1 hc2
      simp only at hc1 hc2
      have H7 := hid o7
      have hfm : (f : Int) + (M : Int) ≤ (E.length : Int) := by omega
      have hmf : (2 : Int) ≤ (M : Int) := by omega
      have hf0 : (at_ : Int) ≤ (f : Int) := by omega
      obtain ⟨s2, hs2', hr2⟩ := run_sub HO3.out f (f + M) (by omega) (by omega)
      have hs2 : ∀ W, (Instr.slice 22 (.slice (some ad) E.length cap) (some (.int .i64 (f : Int))) (some (.int .i64 ((f : Int) + (M : Int)))) none).run Try.prog W = .ok s2 W := fun W => by have := hs2' W; rwa [Int.natCast_add] at this
      have R2 := hid hr2
      obtain ⟨y, hy⟩ : ∃ y, sumW ((E.take (f + M)).drop f) = y := ⟨_, rfl⟩
      have hym : y ≤ m := by rw [← hy]; exact o5
      have HY := hid hy
      have O6 := hid o6
      have O1 := hid o1
      have O2 := hid (show 2 ≤ M by omega)
      have O3 := hid o3
      have O4 := hid o4
      clear hu hs2' hr2 o1 o2 o3 o4 o5 o6 o7 hM hy
      go_wp2_with fail
      go_quiet (fail)
      have o3 := O3.out
      go_wp2_with fail
      refine (Sum_any (R2.out.drewN _)).mono ?_
      rintro e w4 ⟨rfl, rfl⟩
      rw [HY.out]
      clear hs2
      by_cases c1 : (M : Int) < k
      · by_cases c2 : (f : Int) + (M : Int) < (E.length : Int)
        · obtain ⟨s3, hs3', hr3⟩ := run_sub HO3.out f (f + M + 1) (by omega) (by have := O4.out; omega)
          have hs3 : ∀ W, (Instr.slice 22 (.slice (some ad) E.length cap) (some (.int .i64 (f : Int))) (some (.int .i64 ((f : Int) + (M : Int) + 1))) none).run Try.prog W = .ok s3 W := fun W => by have := hs3' W; rwa [Int.natCast_add, Int.natCast_add, Int.natCast_one] at this
          have R3 := hid hr3
          obtain ⟨z, hz⟩ : ∃ z, sumW ((E.take (f + M + 1)).drop f) = z := ⟨_, rfl⟩
          have hzm : ¬ z ≤ m := by rw [← hz]; have h := O6.out c1 (by omega); unfold cutL at h; omega
          have HZ := hid hz
          clear hs3' hr3 hz
          go_wp2_with fail
          refine (Sum_any (R3.out.drewN _)).mono ?_
          rintro e w4 ⟨rfl, rfl⟩
          rw [HZ.out]
          clear hs3
          go_wp2_with fail
          have hg := HGJ.out
          go_roundg (gk - 1)
          case measure => omega
          case rel => exact ⟨j + 1, f + M, _, by go_num, by omega, by simp, H7.out, rfl⟩
        · go_wp2_with fail
          have hg := HGJ.out
          go_roundg (gk - 1)
          case measure => omega
          case rel => exact ⟨j + 1, f + M, _, by go_num, by omega, by simp, H7.out, rfl⟩
      · go_wp2_with fail
        have hg := HGJ.out
        go_roundg (gk - 1)
        case measure => omega
        case rel => exact ⟨j + 1, f + M, _, by go_num, by omega, by simp, H7.out, rfl⟩
    · go_wp2_with fail
      go_loopg [17] A.length (fun g i wr => ∃ t : Nat, i = .int .i64 t ∧ g + t = A.length ∧ wr = w3.drewN q)
      case atStart => exact ⟨0, rfl, rfl, rfl⟩
      case round =>
        obtain ⟨t, rfl, hgt, rfl⟩ := hrel
        have HGT := hid hgt
        have htl : t ≤ A.length := by omega
        clear hgt
        by_cases ht : t < A.length
        · obtain ⟨g, off, rfl, hg, hc1⟩ := HA3.out.at_ (List.getElem?_eq_getElem ht)
          have hx := (HTA.out A[t] (List.getElem_mem ht)).2
          generalize A[t] = x at *
          go_wp2_with fail
          have hg := HGT.out
          go_roundg (gk - 1)
          case measure => omega
          case rel => exact ⟨t + 1, by go_num, by omega, rfl⟩
        · go_wp2_with fail
          refine (fixed_any (w3.drewN q)).mono ?_
          rintro e w5 ⟨rfl, hb5⟩
          have HB4 := hid (below_drewN HB3.out q)
          have HB5 := hid (HB4.out.trans (hb5.mono HB4.out.size))
          clear hb5
          go_wp2
          go_ret
          exact ⟨rfl, HB5.out⟩
end planKeeps
end Go.Proofs.Ytgnhfipmeljffaa
