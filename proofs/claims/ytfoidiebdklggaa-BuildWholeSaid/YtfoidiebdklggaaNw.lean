/-
  BuildNeed returns true for every input: the walk.
-/
import Derived.Test.YtfoidiebdklggaaNd
import Derived.Test.YtfoidiebdklggaaMask
open Go Go.RowKit
namespace Go.Proofs.Ytfoidiebdklggaa

theorem manyL_mono {n n' m : Nat} (h : n ≤ n') : manyL n m ≤ manyL n' m := by
  unfold manyL
  exact Nat.div_le_div_right (by omega)
theorem needs_eq (m f n : Nat) : needs m (f + 1) n = if n ≤ 1 then (0, 0) else ((needs m f (manyL n m)).1 + manyL n m, (needs m f (manyL n m)).2 + 1) := rfl
theorem needs_mono (m : Nat) : ∀ f n n', n ≤ n' → (needs m f n).1 ≤ (needs m f n').1 := by
  intro f
  induction f with
  | zero => intro n n' _; simp [needs]
  | succ f ih =>
    intro n n' h
    rw [needs, needs]
    by_cases h1 : n ≤ 1
    · rw [if_pos h1]
      exact Nat.zero_le _
    · rw [if_neg h1, if_neg (by omega)]
      have h2 := manyL_mono (m := m) h
      have h3 := ih _ _ h2
      show (needs m f (manyL n m)).1 + manyL n m ≤ (needs m f (manyL n' m)).1 + manyL n' m
      omega
theorem needs_more (m : Nat) : ∀ f n, (needs m f n).1 ≤ (needs m (f + 1) n).1 := by
  intro f
  induction f with
  | zero => intro n; simp [needs]
  | succ f ih =>
    intro n
    rw [needs_eq, needs_eq m (f + 1)]
    by_cases h1 : n ≤ 1
    · rw [if_pos h1, if_pos h1]
      exact Nat.le_refl _
    · rw [if_neg h1, if_neg h1]
      have h3 := ih (manyL n m)
      show (needs m f (manyL n m)).1 + manyL n m ≤ (needs m (f + 1) (manyL n m)).1 + manyL n m
      omega
theorem needs_up (m k : Nat) : (needs m k k).1 ≤ (needs m (k + 1) (k + 1)).1 :=
  Nat.le_trans (needs_mono m k k (k + 1) (by omega)) (needs_more m k (k + 1))

theorem nat_of (x k : Int) (hk : 0 < k) (m : Int) (hm : 0 < m) : ∃ a : Nat, (x % m).tmod k = (a : Int) ∧ (a : Int) < k := by
  have h0 : 0 ≤ x % m := Int.emod_nonneg _ (by omega)
  refine ⟨((x % m).tmod k).toNat, ?_, ?_⟩
  · have := Int.tmod_nonneg k h0
    omega
  · have h1 := Int.tmod_lt_of_pos (x % m) hk
    have := Int.tmod_nonneg k h0
    omega

namespace buildNeed
set_option maxHeartbeats 3200000 in
set_option maxRecDepth 100000 in
theorem walk0 (fx : ∀ W : World, Calls Try.prog 20 #[] W fun e W' => e = .returned (.bool true) ∧ Below W.heap.size W W') {W : World} (n most : Int) :
    Calls Try.prog 8 #[.int .i64 n, .int .i64 most] W fun e w' => e = .returned (.bool true) ∧ Below W.heap.size W w' := by
  have e1 := and65535 n
  have e2 := and255 most
  obtain ⟨a, ha, ha2⟩ := nat_of n 300 (by decide) 65536 (by decide)
  obtain ⟨b, hb, hb2⟩ := nat_of most 12 (by decide) 256 (by decide)
  obtain ⟨k, hk⟩ : ∃ k : Nat, 1 + a = k := ⟨_, rfl⟩
  obtain ⟨m, hm⟩ : ∃ m : Nat, 2 + b = m := ⟨_, rfl⟩
  have hk1 : 1 + (a : Int) = (k : Int) := by omega
  have hm1 : 2 + (b : Int) = (m : Int) := by omega
  have hka : 1 ≤ k ∧ k ≤ 300 := by omega
  have hma : 2 ≤ m ∧ m ≤ 13 := by omega
  obtain ⟨hka1, hka2⟩ := hka
  obtain ⟨hma1, hma2⟩ := hma
  obtain ⟨t1, t2⟩ := needs_le m (by omega) k k
  obtain ⟨s1, s2⟩ := needs_le m (by omega) (k + 1) (k + 1)
  have t3 : k * k ≤ 300 * 300 := Nat.mul_le_mul (by omega) (by omega)
  have HUP := hid (needs_up m k)
  have HT1 := hid (show (needs m k k).1 ≤ 90000 by omega)
  have HT2 := hid (show (needs m k k).2 ≤ 300 by omega)
  have FX := hid fx
  clear t1 t2 s1 s2 t3 fx hk hm
  go_enter Try.func8, Try.ntmps8
  go_wp2_with fail
  refine (need_any (k : Int) (m : Int)).mono ?_
  rintro e w1 hp
  obtain ⟨rfl, hb1⟩ := hp.get ⟨hka1, by omega⟩ ⟨hma1, hma2⟩
  have HB1 := hid hb1
  clear hp hb1
  go_wp2_with fail
  refine (need_any ((k : Int) + 1) (m : Int)).mono ?_
  rintro e w2 hp
  rw [show (k : Int) + 1 = ((k + 1 : Nat) : Int) from by omega] at hp
  obtain ⟨rfl, hb2⟩ := hp.get ⟨by omega, by omega⟩ ⟨hma1, hma2⟩
  have HB2 := hid (HB1.out.trans (hb2.mono HB1.out.size))
  clear hp hb2 HB1
  obtain ⟨p, hp⟩ : ∃ p, (needs m k k).1 = p := ⟨_, rfl⟩
  obtain ⟨l, hl⟩ : ∃ l, (needs m k k).2 = l := ⟨_, rfl⟩
  obtain ⟨p', hp'⟩ : ∃ p', (needs m (k + 1) (k + 1)).1 = p' := ⟨_, rfl⟩
  rw [hp, hl, hp']
  rw [hp, hp'] at HUP
  rw [hp] at HT1
  rw [hl] at HT2
  have hpp := HUP.out
  have hT1 := HT1.out
  have hT2 := HT2.out
  have HP := hid hp
  have HL := hid hl
  clear hp hl hp'
  have hd1 : decide ((p' : Int) < (p : Int)) = false := by simp; omega
  have hd2 : decide (p' < p) = false := by simp; omega
  go_wp2_with fail
  go_loopg [13, 14, 15] k (fun g q r y wr => ∃ (y' q' r' : Nat), y = .int .i64 y' ∧ q = .int .i64 q' ∧ r = .int .i64 r' ∧ 1 ≤ y' ∧ y' ≤ g ∧ y' ≤ 300 ∧ q' + (needs m g y').1 = p ∧ r' + (needs m g y').2 = l ∧ Below W.heap.size W wr)
  case atStart => exact ⟨k, 0, 0, rfl, rfl, rfl, hka1, Nat.le_refl _, hka2, by rw [HP.out]; omega, by rw [HL.out]; omega, HB2.out⟩
  case round =>
    obtain ⟨y, q, r, rfl, rfl, rfl, hy1, hyg, hy2, hq, hr, hbw⟩ := hrel
    have HQ := hid hq
    have HR := hid hr
    have HB := hid hbw
    have hqi : (q : Int) ≤ 90000 := by omega
    have hri : (r : Int) ≤ 300 := by omega
    have HYG := hid hyg
    clear hq hr hbw hyg HB2
    by_cases h1y : y = 1
    · subst h1y
      rw [needs_one] at HQ HR
      have hqe : q = p := HQ.out
      have hre : r = l := HR.out
      subst hqe
      subst hre
      go_wp2_with fail
      refine (FX.out wr).mono ?_
      rintro e w7 ⟨rfl, hb7⟩
      have HB7 := hid (HB.out.trans (hb7.mono HB.out.size))
      clear hb7
      go_wp2
      go_ret
      exact ⟨rfl, HB7.out⟩
    · have h1i : (1 : Int) < (y : Int) := by omega
      go_wp2_with fail
      refine (groups_any (y : Int) (m : Int)).mono ?_
      rintro e w3 hp
      obtain ⟨v, rfl, hv, hb3⟩ := hp.get ⟨hy1, by omega⟩ ⟨hma1, hma2⟩
      obtain ⟨va, vc, rfl⟩ := hv.shape
      rw [groupsL_len]
      have HB3 := hid (HB.out.trans (hb3.mono HB.out.size))
      clear hp hv hb3
      have hml := manyL_lt (n := y) (m := m) (by omega) hma1
      have hmp := manyL_pos (n := y) (m := m) hy1 (by omega)
      obtain ⟨g, hg⟩ : ∃ g, gk = g + 1 := ⟨gk - 1, by have := HYG.out; omega⟩
      rw [hg, needs_step (by omega)] at HQ HR
      have hq2 := HQ.out
      have hr2 := HR.out
      simp only at hq2 hr2
      have HQ2 := hid hq2
      have HR2 := hid hr2
      clear hq2 hr2 HQ HR h1y
      generalize manyL y m = z at *
      have hz0 : ((z : Int) == 0) = false := by simp; omega
      have hzy : decide ((y : Int) ≤ (z : Int)) = false := by simp; omega
      have hz2 : (z == 0) = false := by simp; omega
      have hzy2 : decide (y ≤ z) = false := by simp; omega
      go_wp2
      have hgg := HYG.out
      go_roundg g
      case measure => omega
      case rel =>
        have h1 := HQ2.out
        have h2 := HR2.out
        exact ⟨z, q + z, r + 1, rfl, by go_num, by go_num, by omega, by omega, by omega, by omega, by omega, HB3.out⟩
end buildNeed
end Go.Proofs.Ytfoidiebdklggaa
