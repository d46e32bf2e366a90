/-
  ShelfFull: the walk.
-/
import Derived.Test.YtcblkdocbmpkeaaFy
import Derived.Test.YtcblkdocbmpkeaaCy
import Derived.Test.YtcblkdocbmpkeaaMask
open Go Go.RowKit
namespace Go.Proofs.Ytcblkdocbmpkeaa

theorem take_tks {M : Mt} (h : 1 ≤ M.length) : takeRX (tks M) 0 = takeMX M ∧ takeRE (tks M) 0 = takeME M ∧ takeRT (tks M) 0 = tks (takeM M) := by
  have hN : 1 ≤ (tks M).length := by rw [tks_len]; exact h
  have hh : hasB (tks M) 0 = true := by simp [hasB]; omega
  refine ⟨by unfold takeRX takeMX; rw [if_pos hh]; rfl, by unfold takeRE takeME; rw [if_pos hh]; rfl, ?_⟩
  unfold takeRT takeM
  rw [if_pos hh]
  show (match freeX (tks M) 0 with | some x => _ | none => _) = _
  cases hf : freeX (tks M) 0 with
  | none => rfl
  | some x => rw [tks_set]; rfl
theorem give_tks (M : Mt) (i : Int) : giveT (tks M) i = tks (giveM M i) := by
  by_cases hz : giveE (tks M) i = 0
  · obtain ⟨j, rfl, hj, hT⟩ := give_zero hz
    rw [hT]
    unfold giveM
    rw [if_pos hz, Int.toNat_natCast]
  · rw [give_other hz]
    unfold giveM
    rw [if_neg hz]
theorem takeAt_tks (M : Mt) (i : Int) : takeT (tks M) i = tks (takeAtM M i) := by
  by_cases hz : takeE (tks M) i = 0
  · obtain ⟨j, rfl, hj, hT⟩ := takeAt_zero hz
    rw [hT]
    unfold takeAtM
    rw [if_pos hz, Int.toNat_natCast]
  · rw [takeAt_other hz]
    unfold takeAtM
    rw [if_neg hz]
theorem tmod_nat (x k : Nat) : (x : Int).tmod (k : Int) = ((x % k : Nat) : Int) := by
  rw [Int.tmod_eq_emod_of_nonneg (by omega)]
  rfl
theorem cycM {M : Mt} {k i : Nat} (h : Cyc (tks M) k 0 i) (hi : i < k) : takeMX M = i ∧ takeME M = 0 ∧ Cyc (tks (takeM M)) k 0 (i + 1) := by
  have hl : 1 ≤ M.length := by have := h.len; rw [tks_len] at this; omega
  obtain ⟨h1, h2, h3⟩ := take_tks hl
  obtain ⟨t1, t2, t3, _⟩ := cyc_take h (by omega) hi
  rw [Nat.zero_add, Nat.mod_eq_of_lt hi] at t1
  exact ⟨by rw [← h1]; exact t1, by rw [← h2]; exact t2, by rw [← h3]; exact t3⟩
theorem fullM {M : Mt} {k : Nat} (h : Full (tks M) k) (hk : 1 ≤ k) : takeME M = 6 ∧ Full (tks (takeM M)) k := by
  have hl : 1 ≤ M.length := by have := h.len; rw [tks_len] at this; omega
  obtain ⟨h1, h2, h3⟩ := take_tks hl
  obtain ⟨t1, t2⟩ := full_take h (a := 0) (by omega)
  refine ⟨by rw [← h2]; exact t1, ?_⟩
  rw [← h3]
  have t2' : takeRT (tks M) 0 = tks M := t2
  rw [t2']
  exact h
theorem fullG {M : Mt} {k g : Nat} (h : Full (tks M) k) (hg : g < k) : giveE (tks M) (g : Int) = 0 ∧ takeMX (giveM M (g : Int)) = g ∧ takeME (giveM M (g : Int)) = 0 ∧ freeN (tks (takeM (giveM M (g : Int)))) = 0 := by
  have hl : 1 ≤ M.length := by have := h.len; rw [tks_len] at this; omega
  obtain ⟨f1, f2, _⟩ := full_give h hg
  obtain ⟨q1, q2, q3⟩ := full_back h hg (a := 0) (by omega)
  have hgt := give_tks M (g : Int)
  rw [f2] at hgt
  have hl2 : 1 ≤ (giveM M (g : Int)).length := by
    have := congrArg List.length hgt
    rw [List.length_set, tks_len, tks_len] at this
    omega
  obtain ⟨h1, h2, h3⟩ := take_tks hl2
  rw [← hgt] at h1 h2 h3
  refine ⟨f1, by rw [← h1]; exact q1, by rw [← h2]; exact q2, ?_⟩
  rw [← h3]
  have q3' : takeRT ((tks M).set g false) 0 = tks M := q3
  rw [q3']
  exact h.free

namespace shelfFull
set_option maxRecDepth 100000 in
set_option maxHeartbeats 3200000 in
theorem walk {W : World} (n give : Int) :
    Calls Try.prog 4 #[.int .i64 n, .int .i64 give] W fun e w' => e = .returned (.bool true) ∧ Below W.heap.size W w' := by
  obtain ⟨k, hk⟩ : ∃ k : Nat, 1 + n % 64 = (k : Int) := ⟨(1 + n % 64).toNat, by omega⟩
  have hk1 : 1 ≤ k := by omega
  have hk2 : k ≤ 64 := by omega
  obtain ⟨a, ha⟩ : ∃ a : Nat, (give % 65536).tmod (k : Int) = (a : Int) := by
    obtain ⟨f, hf⟩ : ∃ f : Nat, give % 65536 = (f : Int) := ⟨(give % 65536).toNat, by omega⟩
    exact ⟨f % k, by rw [hf, tmod_nat]⟩
  have hak : a < k := by
    have h1 := Int.tmod_lt_of_pos (give % 65536) (show (0 : Int) < (k : Int) by omega)
    omega
  have e1 := and63 n
  have e2 := and65535 give
  have hk0 : ¬ (k : Int) = 0 := by omega
  have e3 : wrap64 (1 + n % 64) = (k : Int) := by unfold wrap64; omega
  go_enter Try.func4, Try.ntmps4
  go_wp2_with fail
  refine (new_s (k : Int)).mono ?_
  rintro e w1 hp
  obtain ⟨S, p, mb, v, rfl, hs, hb⟩ := hp.get (by omega) (by omega)
  have HS1 := hid hs
  have HB1 := hid hb
  have HC1 := hid (show Cyc (tks (List.replicate k none)) k 0 0 by rw [tks_new]; exact cyc_start k 0)
  clear hp hs hb
  go_wp2_with fail
  go_loopg [8] k (fun g i wr => ∃ (j : Nat) (M : Mt), i = .int .i64 j ∧ g + j = k ∧ Cyc (tks M) k 0 j ∧ Sh wr W.heap.size S p mb v M ∧ Below W.heap.size W wr)
  case atStart => exact ⟨0, _, rfl, rfl, HC1.out, HS1.out, HB1.out⟩
  case round =>
    obtain ⟨j, M, rfl, hgj, hcy, hs, hb⟩ := hrel
    have HG := hid hgj
    have HC := hid hcy
    have HS := hid hs
    have HB := hid hb
    have hjk : j ≤ k := by omega
    clear hgj hcy hs hb HS1 HB1 HC1
    by_cases hj : j < k
    · obtain ⟨t1, t2, t3⟩ := cycM HC.out hj
      have HT := hid (And.intro t1 t2)
      have HC2 := hid t3
      have HFR := hid (show freeN (tks (takeM M)) = (k : Int) - (j : Int) - 1 by rw [t3.free]; omega)
      clear t1 t2 t3
      have hji : (j : Int) < (k : Int) := by omega
      have hjj : ((j : Int) != (j : Int)) = false := by simp
      have hw1 : IntKind.i64.wrap ((k : Int) - (j : Int)) = (k : Int) - (j : Int) := by rw [IntKind.wrap_i64]; omega
      have hw2 : IntKind.i64.wrap ((k : Int) - (j : Int) - 1) = (k : Int) - (j : Int) - 1 := by rw [IntKind.wrap_i64]; omega
      have hkk : ((k : Int) - (j : Int) - 1 != (k : Int) - (j : Int) - 1) = false := by simp
      go_wp2_with fail
      refine (take_s HS.out).mono ?_
      rintro e w2 ⟨rfl, hs, ho⟩
      rw [HT.out.1, HT.out.2]
      have HS2 := hid hs
      have HB2 := hid (HB.out.trans (HS.out.only_below ho HB.out.size))
      clear hs ho HS HB
      go_wp2_with fail
      refine (free_s HS2.out).mono ?_
      rintro e w3 ⟨rfl, hb⟩
      rw [HFR.out]
      have HS3 := hid (HS2.out.below hb)
      have HB3 := hid (HB2.out.trans (hb.mono HB2.out.size))
      clear hb HS2 HB2
      go_wp2_with fail
      have hg := HG.out
      go_roundg (gk - 1)
      case measure => omega
      case rel => exact ⟨j + 1, _, by go_num, by omega, HC2.out, HS3.out, HB3.out⟩
    · have hji : ¬ (j : Int) < (k : Int) := by omega
      have hjk' : j = k := by omega
      rw [hjk'] at HC
      have HF := hid (fullM (cyc_full HC.out (by omega)) hk1)
      have HQ := hid (fullG HF.out.2 hak)
      clear hj
      go_wp2_with fail
      refine (take_s HS.out).mono ?_
      rintro e w2 ⟨rfl, hs, ho⟩
      rw [HF.out.1]
      have HS2 := hid hs
      have HB2 := hid (HB.out.trans (HS.out.only_below ho HB.out.size))
      clear hs ho HS HB
      go_wp2_with fail
      refine (give_s HS2.out (a : Int)).mono ?_
      rintro e w3 ⟨rfl, hs, ho⟩
      rw [HQ.out.1]
      have HS3 := hid hs
      have HB3 := hid (HB2.out.trans (HS2.out.only_below ho HB2.out.size))
      clear hs ho HS2 HB2
      go_wp2_with fail
      refine (take_s HS3.out).mono ?_
      rintro e w4 ⟨rfl, hs, ho⟩
      rw [HQ.out.2.1, HQ.out.2.2.1]
      have HS4 := hid hs
      have HB4 := hid (HB3.out.trans (HS3.out.only_below ho HB3.out.size))
      clear hs ho HS3 HB3
      have haa : ((a : Int) == (a : Int)) = true := by simp
      go_wp2_with fail
      refine (free_s HS4.out).mono ?_
      rintro e w5 ⟨rfl, hb⟩
      rw [HQ.out.2.2.2]
      have HB5 := hid (HB4.out.trans (hb.mono HB4.out.size))
      clear hb HS4 HB4
      go_wp2_with fail
      refine (fixed_any w5).mono ?_
      rintro e w6 ⟨rfl, hb⟩
      have HB6 := hid (HB5.out.trans (hb.mono HB5.out.size))
      clear hb HB5
      go_wp2_with fail
      go_ret
      exact ⟨rfl, HB6.out⟩
end shelfFull
end Go.Proofs.Ytcblkdocbmpkeaa
