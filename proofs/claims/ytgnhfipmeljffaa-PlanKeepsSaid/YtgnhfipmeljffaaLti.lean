/-
  PlanTight returns true for every input: the walk.
-/
import Derived.Test.YtgnhfipmeljffaaLaf
import Derived.Test.YtgnhfipmeljffaaTgt
open Go Go.RowKit
namespace Go.Proofs.Ytgnhfipmeljffaa

theorem Tame.bound {D : List Int} {m : Int} (h : Tame D m) (hm : m ≤ 1000) (hl : D.length ≤ 1024) : 0 ≤ D.sum ∧ D.sum ≤ 1024000 := by
  have h1 := sum_le h
  have h2 := sum_nonneg h
  refine ⟨h2, Int.le_trans h1 ?_⟩
  have h3 : m * (D.length : Int) ≤ 1000 * (D.length : Int) := Int.mul_le_mul_of_nonneg_right hm (by omega)
  omega

namespace planTight
set_option maxHeartbeats 1600000 in
set_option maxRecDepth 100000 in
theorem walk {W : World} {v : Value} {D : List Int} (h : RdI W W.heap.size v D) (most many : Int) :
    Calls Try.prog 5 #[v, .int .i64 most, .int .i64 many] W fun e w' => e = .returned (.bool true) ∧ Below W.heap.size W w' := by
  have HD := hid h
  clear h
  obtain ⟨m, hm⟩ : ∃ m, 1 + most % 256 = m := ⟨_, rfl⟩
  obtain ⟨k, hk⟩ : ∃ k, 2 + many % 8 = k := ⟨_, rfl⟩
  have HM := hid hm
  have e1 := and255 most
  have e2 := and7 many
  have e3 : wrap64 (1 + most % 256) = m := by unfold wrap64; omega
  have e4 : wrap64 (2 + many % 8) = k := by unfold wrap64; omega
  have m1 : 1 ≤ m := by omega
  have m2 : m ≤ 256 := by omega
  have k1 : 2 ≤ k := by omega
  have k2 : k ≤ 9 := by omega
  go_enter Try.func5, Try.ntmps5
  go_wp2_with fail
  refine (tame_any HD.out most).mono ?_
  rintro e w1 ⟨v1, rfl, ad, n, cap, E, rfl, ho1, hE, hT, hb1⟩
  rw [HM.out] at hT
  have HO1 := hid (RdI.of_own ho1)
  have hR : Right E m k := ⟨by omega, m1, by omega, k1, by omega, hT⟩
  have HR := hid hR
  have HB1 := hid hb1
  have hlen : n = E.length := ho1.len
  subst hlen
  clear ho1 hb1 hT hR
  go_wp2_with fail
  refine (rounds_any HO1.out HR.out).mono ?_
  rintro e w2 hp
  have hspec := roundsE_spec HR.out
  obtain ⟨c, L, hcl⟩ : ∃ c L, roundsE E m k 0 = (c, L) := ⟨_, _, rfl⟩
  rw [hcl] at hp hspec
  obtain ⟨vl, rfl, hl2, hb2⟩ := hp
  obtain ⟨s1, s2, s3, s4, s5, s6⟩ := hspec
  simp only at s1 s2 s3 s4 s5 s6 hl2
  have htight := hid (show tightB m L = true from tight_of_none s2 L.length 0 (by omega) s4)
  have hL := hid (RdI.of_own hl2)
  obtain ⟨la, lc, rfl⟩ := hl2.shape
  have HO2 := hid ((HO1.out.below hb2).more hb2.size)
  have HB2 := hid (HB1.out.trans (hb2.mono HB1.out.size))
  have hsE : sumW E = E.sum := sumW_eq (HR.out.tame.mono (by omega)) (by omega)
  have hsL : sumW L = E.sum := by rw [sumW_eq (s2.tame.mono (by omega)) (by omega), s3]
  have HSE := hid hsE
  have HSL := hid hsL
  have HS2 := hid s2
  have HS4 := hid s4
  have HS3 := hid s3
  have hL0 : 0 < E.length → ¬ L.length = 0 := fun h => by
    have := s6 (by intro h0; rw [h0] at h; simp at h)
    intro h0
    exact this (List.eq_nil_of_length_eq_zero h0)
  have hhalf := hid (show ((L.length / 2 : Nat) : Int) * (m + 1) ≤ E.sum by rw [← s3]; exact half_sum (by omega) L.length L (Nat.le_refl _) s2.tame htight.out)
  clear hl2 hb2 hcl s2 s3 s4 s6 HO1 HB1 hsE hsL hm hk
  have hL0' := hid hL0
  clear hL0
  go_wp2_with fail
  refine (tight_any hL.out m).mono ?_
  rintro e w3 ⟨rfl, m3, hw3⟩
  have hb3 : Below w2.heap.size w2 w3 := by rw [hw3]; exact below_drewN (Below.refl _ w2) m3
  clear hw3
  rw [htight.out]
  have HB3 := hid (HB2.out.trans (hb3.mono HB2.out.size))
  have HL3 := hid ((hL.out.below hb3).more hb3.size)
  have HO3 := hid ((HO2.out.below hb3).more hb3.size)
  clear hb3 hL HO2 HB2
  go_wp2_with fail
  refine (Sum_any HL3.out).mono ?_
  rintro e w4 ⟨rfl, rfl⟩
  rw [HSL.out]
  go_wp2_with fail
  refine (Sum_any HO3.out).mono ?_
  rintro e w4 ⟨rfl, rfl⟩
  rw [HSE.out]
  rcases Nat.eq_zero_or_pos E.length with hE0 | hE0
  · have hLz : L.length = 0 := by omega
    have hLn : L = [] := List.eq_nil_of_length_eq_zero hLz
    have hEn : E = [] := List.eq_nil_of_length_eq_zero hE0
    have hcz : c = 0 := by omega
    subst hLn hEn hcz
    go_wp2_with fail
    refine (units_any HL3.out (by simp) m k).mono ?_
    rintro e w5 hp
    obtain ⟨vu, rfl, hu, hb5⟩ := hp.get (unitsB_right HS2.out)
    rw [HS4.out] at hu
    obtain ⟨ua, uc, rfl⟩ := hu.shape
    have HB5 := hid (HB3.out.trans (hb5.mono HB3.out.size))
    have HL5 := hid ((HL3.out.below hb5).more hb5.size)
    clear hp hu hb5 HB3 HL3 HO3
    have hm1 : wrap64 (m + 1) = m + 1 := by unfold wrap64; omega
    go_wp2_with fail
    refine (Sum_any HL5.out).mono ?_
    rintro e w6 ⟨rfl, rfl⟩
    rw [show sumW [] = 0 from rfl]
    go_wp2_with fail
    refine (fixed_any w5).mono ?_
    rintro e w6 ⟨rfl, hb6⟩
    have HB6 := hid (HB5.out.trans (hb6.mono HB5.out.size))
    clear hb6
    go_wp2
    go_ret
    exact ⟨rfl, HB6.out⟩
  · have hLp := hL0'.out hE0
    have hI1 : (0 : Int) < (E.length : Int) := by omega
    have hI2 : ¬ (L.length : Int) = 0 := by omega
    have hI3 : ((L.length : Int) == 0) = false := by simp [hLp]
    have hI4 : ¬ E.length < c := by omega
    have hI5 : ¬ E.length < L.length := by omega
    have hI6 : c ≤ E.length := by omega
    go_wp2_with fail
    refine (units_any HL3.out (by omega) m k).mono ?_
    rintro e w5 hp
    obtain ⟨vu, rfl, hu, hb5⟩ := hp.get (unitsB_right HS2.out)
    rw [HS4.out] at hu
    obtain ⟨ua, uc, rfl⟩ := hu.shape
    have HB5 := hid (HB3.out.trans (hb5.mono HB3.out.size))
    have HL5 := hid ((HL3.out.below hb5).more hb5.size)
    clear hp hu hb5 HB3 HL3 HO3
    obtain ⟨q, hq⟩ : ∃ q : Nat, L.length / 2 = q := ⟨_, rfl⟩
    have hqi : (L.length : Int).tdiv 2 = (q : Int) := by rw [Int.tdiv_eq_ediv_of_nonneg (by omega), ← hq]; omega
    have hh := hhalf.out
    rw [hq] at hh
    obtain ⟨z, hz⟩ : ∃ z, (q : Int) * (m + 1) = z := ⟨_, rfl⟩
    rw [hz] at hh
    have hz0 : 0 ≤ z := by rw [← hz]; exact Int.mul_nonneg (by omega) (by omega)
    have hbd := (HR.out.tame.bound (by omega) (by omega)).2
    have hm1 : wrap64 (m + 1) = m + 1 := by unfold wrap64; omega
    have hzw : wrap64 z = z := by unfold wrap64; omega
    have hqw : wrap64 (q : Int) = q := by unfold wrap64; omega
    clear hq
    go_wp2_with fail
    refine (Sum_any HL5.out).mono ?_
    rintro e w6 ⟨rfl, rfl⟩
    rw [HSL.out]
    go_wp2_with fail
    refine (fixed_any w5).mono ?_
    rintro e w6 ⟨rfl, hb6⟩
    have HB6 := hid (HB5.out.trans (hb6.mono HB5.out.size))
    clear hb6
    go_wp2
    go_ret
    exact ⟨rfl, HB6.out⟩
end planTight
end Go.Proofs.Ytgnhfipmeljffaa
