/-
  What the document's Groups and Need do, by contracts.
-/
import Derived.Test.YtfoidiebdklggaaEv
open Go Go.RowKit
namespace Go.Proofs.Ytfoidiebdklggaa

theorem take_sum (k m j : Nat) (hj : j ≤ manyL k m) : ((groupsN k m).take j).sum = j * (k / manyL k m) + min j (k % manyL k m) := by
  have : (groupsN k m).take j = (List.range j).map (fun i => k / manyL k m + (if i < k % manyL k m then 1 else 0)) := by
    unfold groupsN
    rw [← List.map_take, List.take_range, Nat.min_eq_left hj]
  rw [this, sum_even]
theorem gN_ceil {k m j : Nat} (hk : 1 ≤ k) (hm : 2 ≤ m) (hj : j < manyL k m) :
    (gN k m j - 1) * (manyL k m - j) < k - ((groupsN k m).take j).sum ∧ k - ((groupsN k m).take j).sum ≤ gN k m j * (manyL k m - j) ∧ 1 ≤ gN k m j ∧ ((groupsN k m).take j).sum ≤ k := by
  have hck := manyL_le (n := k) (m := m) (by omega)
  have hc1 := manyL_pos (n := k) (m := m) hk (by omega)
  have e3 := Nat.div_add_mod k (manyL k m)
  have e4 := Nat.mod_lt k (show manyL k m > 0 by omega)
  have hq := Nat.div_pos hck hc1
  rw [take_sum k m j (by omega)]
  unfold gN
  generalize manyL k m = c at *
  generalize k / c = q at *
  generalize k % c = r at *
  obtain ⟨d, rfl⟩ : ∃ d, c = j + d := ⟨c - j, by omega⟩
  have p1 : (j + d) * q = j * q + d * q := Nat.add_mul _ _ _
  rw [Nat.add_sub_cancel_left]
  have hd : 0 < d := by omega
  by_cases hr : j < r
  · rw [if_pos hr, Nat.min_eq_left (by omega), Nat.add_sub_cancel]
    have p2 : (q + 1) * d = d * q + d := by rw [Nat.add_mul, Nat.mul_comm, Nat.one_mul]
    have p3 : q * d = d * q := Nat.mul_comm _ _
    refine ⟨by omega, by omega, by omega, by omega⟩
  · rw [if_neg hr, Nat.min_eq_right (by omega), Nat.add_zero]
    obtain ⟨p, rfl⟩ : ∃ p, q = p + 1 := ⟨q - 1, by omega⟩
    have p2 : (p + 1) * d = d * (p + 1) := Nat.mul_comm _ _
    have p3 : (p + 1 - 1) * d + d = d * (p + 1) := by rw [Nat.add_sub_cancel, Nat.mul_add, Nat.mul_one, Nat.mul_comm]
    refine ⟨by omega, by omega, by omega, by omega⟩

set_option maxHeartbeats 4000000 in
set_option maxRecDepth 100000 in
theorem rgroups_any {W : World} (n m : Int) : Calls Try.prog 22 #[.int .i64 n, .int .i64 m] W (GrPost W n m) := by
  by_cases h : 1 ≤ n ∧ n ≤ 1024 ∧ 2 ≤ m ∧ m ≤ 13
  · obtain ⟨h1, h2, h3, h4⟩ := h
    obtain ⟨a, rfl⟩ : ∃ a : Nat, n = a := ⟨n.toNat, by omega⟩
    obtain ⟨b, rfl⟩ : ∃ b : Nat, m = b := ⟨m.toNat, by omega⟩
    have hP : GrPost W (a : Int) (b : Int) = fun e w => ∃ v, e = .returned (.tuple #[v, .int .i64 0]) ∧ Ints w W.heap.size v (groupsL a b) ∧ Below W.heap.size W w := by
      funext e w
      unfold GrPost
      rw [if_pos ⟨h1, h2, h3, h4⟩, Int.toNat_natCast, Int.toNat_natCast]
    rw [hP, groups_cast]
    have hk1 : 1 ≤ manyL a b := manyL_pos (by omega) (by omega)
    have hk2 : manyL a b ≤ a := manyL_le (by omega)
    have HC := hid (fun j (hj : j < manyL a b) => gN_ceil (k := a) (m := b) (by omega) (by omega) hj)
    have HFF := hid (fun j (hj : j < manyL a b) => gN_facts (k := a) (m := b) (by omega) (by omega) hj)
    have HTK := hid (show ∀ i, i < manyL a b → (groupsN a b).take (i + 1) = (groupsN a b).take i ++ [gN a b i] from fun i hi => by rw [List.take_add_one, groupsN_at hi]; rfl)
    have HTL := hid (show (groupsN a b).length = manyL a b from groupsN_len a b)
    have hmany : manyL a b * b + 1 > a := by
      have e1 := Nat.div_add_mod (a + b - 1) b
      have e2 := Nat.mod_lt (a + b - 1) (show b > 0 by omega)
      have : b * manyL a b + (a + b - 1) % b = a + b - 1 := e1
      rw [Nat.mul_comm]
      omega
    have HMN := hid hmany
    have hlow := (HFF.out 0 hk1).2.2.2.2.2
    have HLOW := hid hlow
    clear hP hmany hlow
    obtain ⟨gs, hgs⟩ : ∃ gs, groupsN a b = gs := ⟨_, rfl⟩
    rw [hgs] at HC HTK HTL ⊢
    obtain ⟨G, hG⟩ : ∃ G, gN a b = G := ⟨_, rfl⟩
    rw [hG] at HC HFF HTK
    clear hgs hG
    generalize manyL a b = c at *
    have HOE := hid (show Ints (W.alloc (.cells #[] 3)) W.heap.size (.slice (some ⟨W.heap.size, 0, none⟩) 0 0) [] from World.ownsRow_lit W #[] 0 (Nat.le_refl _) (by unfold maxLen; omega) (by simp))
    have HBE := hid ((Below.refl W.heap.size W).alloc (Nat.le_refl _) (.cells #[] 3))
    go_enter Try.func22, Try.ntmps22
    go_wp2
    go_loopg [6] (c - 1) (fun g x wr => ∃ j : Nat, x = .int .i64 j ∧ 1 ≤ j ∧ g + j = c ∧ W = wr)
    case atStart => exact ⟨1, rfl, Nat.le_refl _, by omega, rfl⟩
    case round =>
      obtain ⟨j, rfl, hj1, hgj, rfl⟩ := hrel
      obtain ⟨u, hu⟩ : ∃ u, j * b = u := ⟨_, rfl⟩
      have hjb : (j : Int) * (b : Int) = (u : Int) := by rw [← hu]; exact (Int.natCast_mul j b).symm
      have HG := hid hgj
      have hjc : j ≤ c := by omega
      have hu2 : u ≤ 1024 * 13 := by rw [← hu]; exact Nat.mul_le_mul (by omega) (by omega)
      clear hgj
      by_cases hlt : j < c
      · have hua : u < a := by
          rw [← hu]
          exact Nat.lt_of_le_of_lt (Nat.mul_le_mul_right b (show j ≤ c - 1 by omega)) HLOW.out
        have hui : (u : Int) < (a : Int) := by omega
        clear hu
        go_wp2
        have hg := HG.out
        go_roundg (gk - 1)
        case measure => omega
        case rel => exact ⟨j + 1, by go_num, by omega, by omega, rfl⟩
      · have hjc2 : j = c := by omega
        have hua : ¬ (u : Int) < (a : Int) := by
          have := HMN.out
          rw [← hjc2, hu] at this
          omega
        have hcj : c = j := hjc2.symm
        clear hu hlt hjc2
        subst hcj
        go_wp2
        clear hjb hua
        go_loopg [7, 8, 9] c (fun g o l i wr => ∃ (j t : Nat), i = .int .i64 j ∧ l = .int .i64 t ∧ g + j = c ∧ t = a - (gs.take j).sum ∧ Ints wr W.heap.size o ((gs.take j).map fun (x : Nat) => (x : Int)) ∧ Below W.heap.size W wr)
        case atStart => exact ⟨0, a, rfl, rfl, rfl, by simp, HOE.out, HBE.out⟩
        case round =>
          obtain ⟨j, t, rfl, rfl, hgj, ht, ho, hb⟩ := hrel
          obtain ⟨go, hgo⟩ : ∃ go, gk = go := ⟨_, rfl⟩
          rw [hgo] at hgj
          have HG2 := hid hgj
          have HO := hid ho
          have HB := hid hb
          have HT := hid ht
          have hjl : j ≤ c := by omega
          have hta : t ≤ a := by omega
          clear hgj ho hb ht
          by_cases hj : j < c
          · obtain ⟨f1, f2, f3, f4⟩ := HC.out j hj
            rw [← HT.out] at f1 f2
            have HTKj := hid (HTK.out j hj)
            have f5 := (HFF.out j hj).2.1
            have hji : (j : Int) < (c : Int) := by omega
            obtain ⟨e, he⟩ : ∃ e, c - j = e := ⟨_, rfl⟩
            have hce : (c : Int) - (j : Int) = (e : Int) := by omega
            rw [he] at f1 f2
            obtain ⟨x, hx⟩ : ∃ x, G j = x := ⟨_, rfl⟩
            rw [hx] at f1 f2 f3 f5 HTKj
            have HF1 := hid f1
            have HF2 := hid f2
            have hlen := hid (show ((gs.take j).map fun (x : Nat) => (x : Int)).length < 1000000 by simp; omega)
            have HE := hid he
            have hec : e ≤ 1024 := by omega
            clear f1 f2 f4 he hx
            go_wp2
            go_loopg [10] x (fun g k wr' => ∃ y : Nat, k = .int .i64 y ∧ g + y = x ∧ wr = wr')
            case atStart => exact ⟨0, rfl, rfl, rfl⟩
            case round =>
              obtain ⟨y, rfl, hgy, rfl⟩ := hrel
              have HGY := hid hgy
              have hyx : y ≤ x := by omega
              obtain ⟨u, hu⟩ : ∃ u, y * e = u := ⟨_, rfl⟩
              have hye : (y : Int) * (e : Int) = (u : Int) := by rw [← hu]; exact (Int.natCast_mul y e).symm
              have hu2 : u ≤ 13 * 1024 := by rw [← hu]; exact Nat.mul_le_mul (by omega) hec
              clear hgy
              by_cases hlt : y < x
              · have hut : (u : Int) < (t : Int) := by
                  have := Nat.lt_of_le_of_lt (Nat.mul_le_mul_right e (show y ≤ x - 1 by omega)) HF1.out
                  omega
                clear hu
                go_wp2
                have hg := HGY.out
                go_roundg (gk - 1)
                case measure => omega
                case rel => exact ⟨y + 1, by go_num, by omega, rfl⟩
              · have hyx2 : y = x := by omega
                have hut : ¬ (u : Int) < (t : Int) := by
                  have := HF2.out
                  rw [← hyx2, hu] at this
                  omega
                subst hyx2
                have HTX := hid (show y ≤ t by
                  have h1 := HF1.out
                  have h2 : y - 1 ≤ (y - 1) * e := Nat.le_mul_of_pos_right _ (by have := HE.out; omega)
                  omega)
                have hyt : (y : Int) ≤ (t : Int) := by have := HTX.out; omega
                have hvo := hid (fun g e => (HO.out.block (g := g) e).1)
                clear hu
                go_wp2_with (at_builtin; refine wpList_push rfl (.tmp 48) (.tmp 50) rfl W.heap.size _ _ (y : Int) rfl HO.out rfl hlen.out HB.out.size ?_; intro v' w1 hown1 honly1; obtain ⟨g', cap', rfl, hg1, hg2⟩ := hown1.form (by simp); have HW := hid hown1; have HL := hid honly1; clear hown1 honly1)
                have hg := HG2.out
                go_roundg (go - 1)
                case measure => omega
                case rel =>
                  refine ⟨j + 1, t - y, by go_num, by have := HTX.out; go_num, by omega, ?_, ?_, HB.out.trans (HL.out.below HB.out.size (fun k hk e => by have := hvo.out _ e; omega))⟩
                  · rw [HTKj.out, List.sum_append, HT.out]
                    simp
                    omega
                  · rw [HTKj.out, List.map_append]
                    simpa using HW.out
          · have hji : ¬ (j : Int) < (c : Int) := by omega
            have hjc3 : j = c := by omega
            go_wp2
            go_ret2
            refine ⟨_, rfl, ?_, HB.out⟩
            have := HO.out
            rw [List.take_of_length_le (by rw [HTL.out]; omega)] at this
            exact this
  · have hP : GrPost W n m = fun e w => e = .returned (.tuple #[.slice none 0 0, .int .i64 1]) ∧ w = W := by
      funext e w
      unfold GrPost
      rw [if_neg h]
    rw [hP]
    clear hP
    rcases (show n < 1 ∨ (1 ≤ n ∧ 1024 < n) ∨ (1 ≤ n ∧ n ≤ 1024 ∧ m < 2) ∨ (1 ≤ n ∧ n ≤ 1024 ∧ 2 ≤ m ∧ 13 < m) by omega) with h1 | ⟨h1, h2⟩ | ⟨h1, h2, h3⟩ | ⟨h1, h2, h3, h4⟩
    all_goals
      clear h
      go_enter Try.func22, Try.ntmps22
      go_wp2
      go_ret2
      exact ⟨rfl, rfl⟩

set_option maxHeartbeats 2000000 in
set_option maxRecDepth 100000 in
theorem rneed_rec (m : Nat) (hm1 : 2 ≤ m) (hm2 : m ≤ 13) : ∀ (f y : Nat) (W : World), 1 ≤ y → y ≤ f → y ≤ 1024 → f ≤ 1024 →
    Calls Try.prog 24 #[.int .i64 (y : Int), .int .i64 (m : Int)] W fun e w => e = .returned (.tuple #[.int .i64 ((needs m f y).1 : Nat), .int .i64 ((needs m f y).2 : Nat), .int .i64 0]) ∧ Below W.heap.size W w := by
  intro f
  induction f with
  | zero => intro y W h1 h2 _ _; omega
  | succ f ih =>
    intro y W hy1 hyf hy2 hf2
    by_cases h1 : y = 1
    · subst h1
      rw [needs_one]
      have h11 : (((1 : Nat) : Int) == 1) = true := rfl
      clear ih
      go_enter Try.func24, Try.ntmps24
      go_wp2_with fail
      refine (rgroups_any ((1 : Nat) : Int) (m : Int)).mono ?_
      rintro e w1 hp
      obtain ⟨v, rfl, hv, hb⟩ := hp.get ⟨hy1, hy2⟩ ⟨hm1, hm2⟩
      obtain ⟨va, vc, rfl⟩ := hv.shape
      have HB := hid hb
      clear hp hv hb
      go_wp2_with fail
      go_ret3
      exact ⟨rfl, HB.out⟩
    · have hml := manyL_lt (n := y) (m := m) (by omega) hm1
      have hmp := manyL_pos (n := y) (m := m) hy1 (by omega)
      have IH := fun W => hid (ih (manyL y m) W hmp (by omega) (by omega) (by omega))
      rw [needs_step (by omega)]
      obtain ⟨n1, n2⟩ := needs_le m (by omega) f (manyL y m)
      have hff : ∃ a b : Nat, needs m f (manyL y m) = (a, b) := ⟨_, _, rfl⟩
      obtain ⟨pa, pb, hpab⟩ := hff
      rw [hpab] at IH n1 n2 ⊢
      simp only at n1 n2 ⊢
      have hz2 : manyL y m ≤ 1024 := by omega
      have n3 : f * manyL y m ≤ 1024 * 1024 := Nat.mul_le_mul (by omega) hz2
      have hpa : pa ≤ 1048576 := by omega
      have h1i : ((y : Int) == 1) = false := by simp; omega
      have h1n : (y == 1) = false := by simp; omega
      clear ih hpab n1 n3
      go_enter Try.func24, Try.ntmps24
      go_wp2_with fail
      refine (rgroups_any (y : Int) (m : Int)).mono ?_
      rintro e w1 hp
      obtain ⟨v, rfl, hv, hb⟩ := hp.get ⟨hy1, hy2⟩ ⟨hm1, hm2⟩
      obtain ⟨va, vc, rfl⟩ := hv.shape
      rw [groupsL_len]
      have HB := hid hb
      clear hp hv hb
      generalize hzz : manyL y m = z at *
      have HZ := hid hzz
      clear hzz
      go_wp2_with fail
      refine (IH w1).out.mono ?_
      rintro e w2 ⟨rfl, hb⟩
      have HB2 := hid (HB.out.trans (hb.mono HB.out.size))
      clear hb
      have hzi : (z : Int) ≤ 1024 := by omega
      have hpi : (pa : Int) ≤ 1048576 := by omega
      have hbi : (pb : Int) ≤ 1024 := by omega
      go_wp2_with fail
      go_ret3
      refine ⟨?_, HB2.out⟩
      rw [HZ.out]
      first | rfl | (simp; done) | (simp; omega)

theorem rneed_no {W : World} {n m : Int} (hn : ¬ (1 ≤ n ∧ n ≤ 1024 ∧ 2 ≤ m ∧ m ≤ 13)) : Calls Try.prog 24 #[.int .i64 n, .int .i64 m] W fun e w => e = .returned (.tuple #[.int .i64 0, .int .i64 0, .int .i64 1]) ∧ w = W := by
  have HN := hid hn
  clear hn
  go_enter Try.func24, Try.ntmps24
  go_wp2_with fail
  refine (rgroups_any n m).mono ?_
  rintro e w1 hp
  obtain ⟨rfl, rfl⟩ := hp.no HN.out
  clear hp
  go_wp2_with fail
  go_ret3
  exact ⟨rfl, rfl⟩

namespace buildGroups
set_option maxHeartbeats 3200000 in
set_option maxRecDepth 100000 in
theorem walk0 (fx : ∀ W : World, Calls Try.prog 20 #[] W fun e W' => e = .returned (.bool true) ∧ Below W.heap.size W W') {W : World} (n m : Int) :
    Calls Try.prog 4 #[.int .i64 n, .int .i64 m] W fun e w' => e = .returned (.bool true) ∧ Below W.heap.size W w' := by
  have FX := hid fx
  clear fx
  by_cases h : 1 ≤ n ∧ n ≤ 1024 ∧ 2 ≤ m ∧ m ≤ 13
  · obtain ⟨h1, h2, h3, h4⟩ := h
    obtain ⟨a, rfl⟩ : ∃ a : Nat, n = a := ⟨n.toNat, by omega⟩
    obtain ⟨b, rfl⟩ : ∃ b : Nat, m = b := ⟨m.toNat, by omega⟩
    go_enter Try.func4, Try.ntmps4
    go_wp2_with fail
    refine (groups_any (a : Int) (b : Int)).mono ?_
    rintro e w1 hp
    obtain ⟨v, rfl, hv, hb⟩ := hp.get (by omega) (by omega)
    obtain ⟨va, vn, vc, rfl⟩ := ints_slice hv
    have HV1 := hid (RdI.of_own hv)
    have HB1 := hid hb
    clear hp hv hb
    go_wp2_with fail
    refine (rgroups_any (a : Int) (b : Int)).mono ?_
    rintro e w2 hp
    obtain ⟨u, rfl, hu, hb⟩ := hp.get (by omega) (by omega)
    obtain ⟨ua, un, uc, rfl⟩ := ints_slice hu
    have HV2 := hid (HV1.out.below hb)
    have HU2 := hid (RdI.of_own hu)
    have HB2 := hid (HB1.out.trans (hb.mono HB1.out.size))
    have HE2 := hid (Nat.le_refl w2.heap.size)
    have hsz := hb.size
    clear hp hu hb HV1 HB1
    go_wp2_with fail
    refine (need_any (a : Int) (b : Int)).mono ?_
    rintro e w3 hp
    obtain ⟨rfl, hb⟩ := hp.get (by omega) (by omega)
    have HV3 := hid (HV2.out.below (hb.mono hsz))
    have HU3 := hid (HU2.out.below hb)
    have HB3 := hid (HB2.out.trans (hb.mono HB2.out.size))
    have hsz3 := hb.size
    clear hp hb HV2 HU2 HB2
    obtain ⟨pa, pb, hpab⟩ : ∃ pa pb : Nat, needs b a a = (pa, pb) := ⟨_, _, rfl⟩
    rw [hpab]
    have HPAB := hid hpab
    clear hpab
    go_wp2_with fail
    refine (rneed_rec b (by omega) (by omega) a a w3 (by omega) (Nat.le_refl _) (by omega) (by omega)).mono ?_
    rintro e w4 ⟨rfl, hb⟩
    rw [HPAB.out]
    have HV4 := hid (HV3.out.below (hb.mono (by omega)))
    have HU4 := hid (HU3.out.below (hb.mono (by omega)))
    have HB4 := hid (HB3.out.trans (hb.mono HB3.out.size))
    clear hb HV3 HU3 HB3
    go_wp2_with fail
    refine (ints_any HV4.out HU4.out).mono ?_
    rintro e w5 ⟨rfl, q, hw⟩
    rw [decide_eq_true rfl]
    have HB5 : Hid (Below W.heap.size W w5) := by rw [hw]; exact below_dN HB4.out q
    clear hw HV4 HU4 HB4
    go_wp2_with fail
    refine (FX.out w5).mono ?_
    rintro e w7 ⟨rfl, hb7⟩
    have HB7 := hid (HB5.out.trans (hb7.mono HB5.out.size))
    clear hb7
    go_wp2
    go_ret
    exact ⟨rfl, HB7.out⟩
  · have HN := hid h
    clear h
    go_enter Try.func4, Try.ntmps4
    go_wp2_with fail
    refine (groups_any n m).mono ?_
    rintro e w1 hp
    obtain ⟨rfl, rfl⟩ := hp.no HN.out
    clear hp
    go_wp2_with fail
    refine (rgroups_any n m).mono ?_
    rintro e w1 hp
    obtain ⟨rfl, rfl⟩ := hp.no HN.out
    clear hp
    go_wp2_with fail
    refine (need_any n m).mono ?_
    rintro e w2 hp
    obtain ⟨rfl, hb⟩ := hp.no HN.out
    have HB2 := hid hb
    clear hp hb
    go_wp2_with fail
    refine (rneed_no (W := w2) HN.out).mono ?_
    rintro e w3 ⟨rfl, rfl⟩
    go_wp2_with fail
    refine (ints_any (RdI.nil_ w3 0) (RdI.nil_ w3 0)).mono ?_
    rintro e w5 ⟨rfl, q, hw⟩
    rw [decide_eq_true rfl]
    have HB5 : Hid (Below w1.heap.size w1 w5) := by rw [hw]; exact below_dN HB2.out q
    clear hw
    go_wp2_with fail
    refine (FX.out w5).mono ?_
    rintro e w7 ⟨rfl, hb7⟩
    have HB7 := hid (HB5.out.trans (hb7.mono HB5.out.size))
    clear hb7
    go_wp2
    go_ret
    exact ⟨rfl, HB7.out⟩
end buildGroups
end Go.Proofs.Ytfoidiebdklggaa
