/-
  BuildEven returns true for every input: the walk.
-/
import Derived.Test.YtfoidiebdklggaaNw
import Derived.Test.YtfoidiebdklggaaLe
open Go Go.RowKit
namespace Go.Proofs.Ytfoidiebdklggaa

/-- How many kids group i has. -/
def gN (k m i : Nat) : Nat := k / manyL k m + (if i < k % manyL k m then 1 else 0)
theorem groupsN_at {k m i : Nat} (h : i < manyL k m) : (groupsN k m)[i]? = some (gN k m i) := by
  unfold groupsN gN
  rw [List.getElem?_map, List.getElem?_range h]
  rfl
theorem gN_facts {k m i : Nat} (hk : 1 ≤ k) (hm : 2 ≤ m) (hi : i < manyL k m) :
    1 ≤ gN k m i ∧ gN k m i ≤ m ∧ gN k m (i + 1) ≤ gN k m i ∧ gN k m 0 ≤ gN k m i + 1 ∧ (2 ≤ manyL k m → m ≤ 2 * gN k m i) ∧ (manyL k m - 1) * m < k := by
  have hc1 := manyL_pos (n := k) (m := m) hk (by omega)
  have hck := manyL_le (n := k) (m := m) (by omega)
  have e1 := Nat.div_add_mod (k + m - 1) m
  have e2 := Nat.mod_lt (k + m - 1) (show m > 0 by omega)
  have e3 := Nat.div_add_mod k (manyL k m)
  have e4 := Nat.mod_lt k (show manyL k m > 0 by omega)
  have hq := Nat.div_pos hck hc1
  have hcm : m * manyL k m + (k + m - 1) % m = k + m - 1 := e1
  unfold gN
  generalize manyL k m = c at *
  generalize k / c = q at *
  generalize k % c = r at *
  generalize (k + m - 1) % m = s at *
  obtain ⟨d, rfl⟩ : ∃ d, c = d + 1 := ⟨c - 1, by omega⟩
  have p1 : m * (d + 1) = m * d + m := by rw [Nat.mul_add, Nat.mul_one]
  have p2 : (d + 1) * q = d * q + q := by rw [Nat.add_mul, Nat.one_mul]
  refine ⟨by omega, ?_, ?_, ?_, ?_, ?_⟩
  · rcases Nat.lt_or_ge m (q + (if i < r then 1 else 0)) with h | h
    · exfalso
      by_cases hir : i < r
      · rw [if_pos hir] at h
        have := Nat.mul_le_mul_left (d + 1) (show m ≤ q by omega)
        rw [Nat.mul_comm (d + 1) m, p1, p2] at this
        omega
      · rw [if_neg hir] at h
        have := Nat.mul_le_mul_left (d + 1) (show m + 1 ≤ q by omega)
        rw [Nat.mul_add, Nat.mul_comm (d + 1) m, p1, p2] at this
        omega
    · exact h
  · split <;> split <;> omega
  · split <;> split <;> omega
  · intro h2
    obtain ⟨b, rfl⟩ : ∃ b, d = b + 1 := ⟨d - 1, by omega⟩
    rcases Nat.lt_or_ge (2 * (q + (if i < r then 1 else 0))) m with h | h
    · exfalso
      have h3 : 2 * q + 1 ≤ m := by split at h <;> omega
      have h4 := Nat.mul_le_mul_left (b + 1 + 1) h3
      have h5 := Nat.mul_le_mul_left b (show 2 ≤ m from hm)
      have h6 : (b + 1 + 1) * (2 * q + 1) = 2 * (b * q) + 4 * q + b + 2 := by
        rw [Nat.add_mul, Nat.add_mul, Nat.mul_add, Nat.mul_left_comm]
        omega
      have h7 : (b + 1 + 1) * m = b * m + 2 * m := by rw [Nat.add_mul, Nat.add_mul]; omega
      have h8 : m * (b + 1) = b * m + m := by rw [Nat.mul_comm, Nat.add_mul]; omega
      have h9 : (b + 1) * q = b * q + q := by rw [Nat.add_mul]; omega
      rw [h6, h7] at h4
      omega
    · exact h
  · rw [Nat.add_sub_cancel, Nat.mul_comm]
    omega

namespace buildEven
set_option maxHeartbeats 6400000 in
set_option maxRecDepth 100000 in
theorem walk0 (fx : ∀ W : World, Calls Try.prog 20 #[] W fun e W' => e = .returned (.bool true) ∧ Below W.heap.size W W') {W : World} (n most : Int) :
    Calls Try.prog 5 #[.int .i64 n, .int .i64 most] W fun e w' => e = .returned (.bool true) ∧ Below W.heap.size W w' := by
  have e1 := and1023 n
  have e2 := and255 most
  obtain ⟨b, hb, hb2⟩ := nat_of most 12 (by decide) 256 (by decide)
  obtain ⟨k, hk⟩ : ∃ k : Nat, 1 + n % 1024 = (k : Int) := ⟨(1 + n % 1024).toNat, by omega⟩
  obtain ⟨m, hm⟩ : ∃ m : Nat, 2 + b = m := ⟨_, rfl⟩
  have hm1 : 2 + (b : Int) = (m : Int) := by omega
  have e3 : wrap64 (1 + n % 1024) = (k : Int) := by unfold wrap64; omega
  have hka1 : 1 ≤ k := by omega
  have hka2 : k ≤ 1024 := by omega
  have hma1 : 2 ≤ m := by omega
  have hma2 : m ≤ 13 := by omega
  have hF := hid (fun i (hi : i < manyL k m) => gN_facts hka1 hma1 hi)
  have hc1 := manyL_pos (n := k) (m := m) hka1 (by omega)
  have hck := manyL_le (n := k) (m := m) (by omega)
  have FX := hid fx
  have hsum := hid (groupsN_sum (n := k) (m := m) hka1 (by omega))
  clear fx hm
  go_enter Try.func5, Try.ntmps5
  go_wp2_with fail
  refine (groups_any (k : Int) (m : Int)).mono ?_
  rintro e w1 hp
  obtain ⟨v, rfl, hv, hb1⟩ := hp.get ⟨hka1, hka2⟩ ⟨hma1, hma2⟩
  have hg0 := hv
  rw [groups_cast] at hv
  obtain ⟨g, cap, rfl, hgb, hgs⟩ := hv.form (by intro e; have := congrArg List.length e; simp [groupsN_len] at this; omega)
  rw [List.length_map, groupsN_len] at hv ⊢
  have HV := hid hv
  have HB1 := hid hb1
  have hat := hid (fun i (hi : i < manyL k m) => show w1.cell? ⟨g, i, none⟩ = some (.int .i64 (gN k m i : Nat)) from Ints.cell HV.out (by rw [List.getElem?_map, groupsN_at hi]; rfl))
  have hsz := hid (show ∀ i, i < manyL k m → ((groupsN k m).take (i + 1)).sum = ((groupsN k m).take i).sum + gN k m i from fun i hi => by
    rw [List.take_add_one, groupsN_at hi, List.sum_append]; simp)
  have hse := hid (show ((groupsN k m).take (manyL k m)).sum = k by rw [List.take_of_length_le (by rw [groupsN_len]; exact Nat.le_refl _)]; exact hsum.out)
  have hle := hid (show ∀ i, ((groupsN k m).take i).sum ≤ k from fun i => by
    have h1 : (groupsN k m).sum = ((groupsN k m).take i).sum + ((groupsN k m).drop i).sum := by rw [← List.sum_append, List.take_append_drop]
    have := hsum.out
    omega)
  obtain ⟨hf1, hf2, hf3, hf4, hf5, hf6⟩ := hF.out 0 (by omega)
  obtain ⟨u, hu⟩ : ∃ u : Nat, (manyL k m - 1) * m = u := ⟨_, rfl⟩
  have hmul : (((manyL k m : Nat) : Int) - 1) * (m : Int) = (u : Int) := by
    rw [← hu, Int.natCast_mul, Int.natCast_sub hc1]
    rfl
  have huk : u < k := by omega
  have HTWO := hid hf5
  clear hp hv hb1 hg0 hf1 hf2 hf3 hf4 hf5 hf6 hu hsum
  generalize hcc : manyL k m = c at *
  have hc0 : ((c : Int) == 0) = false := by simp; omega
  have hc2 : (c == 0) = false := by simp; omega
  have hwc : IntKind.i64.wrap ((c : Int) - 1) = (c : Int) - 1 := by rw [IntKind.wrap_i64]; omega
  have hge : decide ((k : Int) ≤ (u : Int)) = false := by simp; omega
  have hge2 : decide (k ≤ u) = false := by simp; omega
  go_wp2_with fail
  go_loopg [9, 10] c (fun g' s i wr => ∃ j : Nat, i = .int .i64 j ∧ s = .int .i64 (((groupsN k m).take j).sum : Nat) ∧ g' + j = c ∧ ∃ q, wr = w1.drewN q)
  case atStart => exact ⟨0, rfl, rfl, rfl, 0, rfl⟩
  case round =>
    obtain ⟨j, rfl, rfl, hgj, q, hwr⟩ := hrel
    have HG := hid hgj
    have hjc : j ≤ c := by omega
    have hsj := hle.out j
    have HW := hid hwr
    clear hgj
    by_cases hj : j < c
    · obtain ⟨hf1, hf2, hf3, hf4, hf5, hf6⟩ := hF.out j hj
      have hji : (j : Int) < (c : Int) := by omega
      have d0 : wr.cell? ⟨g, 0, none⟩ = some (.int .i64 (gN k m 0 : Nat)) := by rw [hwr]; exact hat.out 0 (by omega)
      have dj : wr.cell? ⟨g, j, none⟩ = some (.int .i64 (gN k m j : Nat)) := by rw [hwr]; exact hat.out j hj
      have hsj2 := hsz.out j hj
      have hsj3 := hle.out (j + 1)
      have HS := hid hsj2
      have hlow : gN k m 0 ≤ gN k m j + 1 := hf4
      have hwr2 := hwr
      subst hwr
      obtain ⟨x, hx⟩ : ∃ x, gN k m j = x := ⟨_, rfl⟩
      obtain ⟨y, hy⟩ : ∃ y, gN k m 0 = y := ⟨_, rfl⟩
      obtain ⟨sj, hsj0⟩ : ∃ sj, ((groupsN k m).take j).sum = sj := ⟨_, rfl⟩
      rw [hx] at dj hf1 hf2 hf4 hf5 hlow hsj2 HS
      rw [hy] at d0 hlow
      rw [hsj0] at hsj HS hsj2
      rw [hsj2] at hsj3
      rw [hsj0]
      have hxm : decide ((m : Int) < (x : Int)) = false := by simp; omega
      have hxm2 : decide (m < x) = false := by simp; omega
      have hx1 : decide ((x : Int) < 1) = false := by simp; omega
      have hx2 : decide (x < 1) = false := by simp; omega
      have hw1 : IntKind.i64.wrap ((y : Int) - (x : Int)) = (y : Int) - (x : Int) := by rw [IntKind.wrap_i64]; omega
      have hyx : decide ((1 : Int) < (y : Int) - (x : Int)) = false := by simp; omega
      have hw2 : IntKind.i64.wrap (2 * (x : Int)) = 2 * (x : Int) := by rw [IntKind.wrap_i64]; omega
      have dj' : w1.cell? ⟨g, j, none⟩ = some (.int .i64 (x : Int)) := dj
      have d0' : w1.cell? ⟨g, 0, none⟩ = some (.int .i64 (y : Int)) := d0
      have hw3 : IntKind.i64.wrap ((j : Int) - 1) = (j : Int) - 1 := by rw [IntKind.wrap_i64]; omega
      have hyi : (y : Int) ≤ (x : Int) + 1 := by omega
      have hcpos : (0 : Int) < (c : Int) := by omega
      have hcpos2 : 0 < c := by omega
      have hz3 : IntKind.i64.wrap ((sj : Int) + (x : Int)) = (sj : Int) + (x : Int) := by rw [IntKind.wrap_i64]; omega
      have hzi : (sj : Int) + (x : Int) ≤ 1024 := by omega
      clear d0 dj hf3 hf6 hwr2
      by_cases hcc1 : c = 1
      · have hj0 : j = 0 := by omega
        have hjd : decide ((0 : Int) < (j : Int)) = false := by simp; omega
        have hjd2 : decide (0 < j) = false := by simp; omega
        have hcd : decide ((1 : Int) < (c : Int)) = false := by simp; omega
        have hcd2 : decide (1 < c) = false := by simp; omega
        have HCC := hid hcc1
        clear hj0 hf5 HTWO hcc1
        go_wp2
        go_quiet (fail)
        go_wp2
        have hg := HG.out
        go_roundg (gk - 1)
        case measure => omega
        case rel => exact ⟨j + 1, by go_num, by rw [HS.out]; go_num, by omega, q + nq, rfl⟩
      · have hcd : decide ((1 : Int) < (c : Int)) = true := by simp; omega
        have hcd2 : decide (1 < c) = true := by simp; omega
        have h2x := hf5 (by omega)
        have h2d : decide (2 * (x : Int) < (m : Int)) = false := by simp; omega
        have h2d2 : decide (2 * x < m) = false := by simp; omega
        clear hf5 HTWO
        rcases Nat.eq_zero_or_pos j with h0 | h0
        · have hjd : decide ((0 : Int) < (j : Int)) = false := by simp; omega
          have hjd2 : decide (0 < j) = false := by simp; omega
          have H0 := hid h0
          clear h0
          go_wp2
          go_quiet (fail)
          go_wp2
          have hg := HG.out
          go_roundg (gk - 1)
          case measure => omega
          case rel => exact ⟨j + 1, by go_num, by rw [HS.out]; go_num, by omega, q + nq, rfl⟩
        · obtain ⟨i, rfl⟩ : ∃ i, j = i + 1 := ⟨j - 1, by omega⟩
          have hjd : decide ((0 : Int) < ((i + 1 : Nat) : Int)) = true := by simp
          obtain ⟨_, _, hf3, _⟩ := hF.out i (by omega)
          have di := hat.out i (by omega)
          obtain ⟨z, hz⟩ : ∃ z, gN k m i = z := ⟨_, rfl⟩
          rw [hz] at di hf3
          rw [hx] at hf3
          have hzd : decide ((z : Int) < (x : Int)) = false := by simp; omega
          have hzd2 : decide (z < x) = false := by simp; omega
          have hii : ((i + 1 : Nat) : Int) - 1 = (i : Int) := by omega
          have hic : (i : Int) < (c : Int) := by omega
          have hi0 : (0 : Int) ≤ (i : Int) := by omega
          go_wp2
          go_quiet (fail)
          go_wp2
          have hg := HG.out
          go_roundg (gk - 1)
          case measure => omega
          case rel => exact ⟨i + 1 + 1, by go_num, by rw [HS.out]; go_num, by omega, q + nq, rfl⟩
    · have hji : ¬ (j : Int) < (c : Int) := by omega
      have hjc2 : j = c := by omega
      have hsk : ((groupsN k m).take j).sum = k := by rw [hjc2]; exact hse.out
      rw [hsk]
      have hb2 : Below W.heap.size W wr := by rw [hwr]; exact below_dN HB1.out q
      have HB2 := hid hb2
      clear hwr hb2 hsj
      go_wp2_with fail
      refine (FX.out wr).mono ?_
      rintro e w7 ⟨rfl, hb7⟩
      have HB7 := hid (HB2.out.trans (hb7.mono HB2.out.size))
      clear hb7
      go_wp2
      go_ret
      exact ⟨rfl, HB7.out⟩
end buildEven
end Go.Proofs.Ytfoidiebdklggaa
