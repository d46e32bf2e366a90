/-
  BitsOnce returns true for every input: the walk.
-/
import Derived.Test.YtkcfkmmjmgjhgaaCy
import Derived.Test.YtkcfkmmjmgjhgaaMask
import Derived.Test.YtkcfkmmjmgjhgaaRowu2
namespace Go.Proofs.Ytkcfkmmjmgjhgaa
open Go Go.RowKit

theorem tmod_nat (x k : Nat) : (x : Int).tmod (k : Int) = ((x % k : Nat) : Int) := by
  rw [Int.tmod_eq_emod_of_nonneg (by omega)]
  rfl

namespace bitsOnce
set_option maxRecDepth 100000 in
set_option maxHeartbeats 3200000 in
theorem walk {W : World} {v : Value} {D : List Int} (h : RdI W W.heap.size v D) (n from_ : Int) :
    Calls Try.prog 4 #[.int .i64 n, .int .i64 from_, v] W fun e w' => e = .returned (.bool true) ∧ Below W.heap.size W w' := by
  obtain ⟨ad, cap, rfl, hl, hm⟩ := h.shape
  have HD := hid h
  unfold maxLen at hm
  clear h
  obtain ⟨k, hk⟩ : ∃ k : Nat, 1 + n % 64 = (k : Int) := ⟨(1 + n % 64).toNat, by omega⟩
  have hk1 : 1 ≤ k := by omega
  have hk2 : k ≤ 64 := by omega
  obtain ⟨a, ha⟩ : ∃ a : Nat, (from_ % 65536).tmod (k : Int) = (a : Int) := by
    obtain ⟨f, hf⟩ : ∃ f : Nat, from_ % 65536 = (f : Int) := ⟨(from_ % 65536).toNat, by omega⟩
    exact ⟨f % k, by rw [hf, tmod_nat]⟩
  have hak : a < k := by
    have h1 := Int.tmod_lt_of_pos (from_ % 65536) (show (0 : Int) < (k : Int) by omega)
    omega
  have e1 := and63 n
  have e2 := and65535 from_
  have hk0 : ¬ (k : Int) = 0 := by omega
  have N1 := hid (new_any (W := W) (k : Int))
  have e3 : wrap64 (1 + n % 64) = (k : Int) := by unfold wrap64; omega
  go_enter Try.func4, Try.ntmps4
  go_wp2_with fail
  refine N1.out.mono ?_
  rintro e w1 hp
  obtain ⟨p, vb, rfl, hbt, hb⟩ := hp.get (by omega) (by omega)
  have HT1 := hid hbt
  have HB1 := hid hb
  have HC1 := hid (cyc_start k a)
  clear hp hbt hb N1
  go_wp2_with fail
  go_loopg [11] k (fun g i wr => ∃ (j : Nat) (T : List Bool), i = .int .i64 j ∧ g + j = k ∧ Cyc T k a j ∧ Bt wr W.heap.size p vb T ∧ Below W.heap.size W wr)
  case atStart => exact ⟨0, _, rfl, rfl, HC1.out, HT1.out, HB1.out⟩
  case round =>
    obtain ⟨j, T, rfl, hgj, hcy, hbt, hbw⟩ := hrel
    have HG := hid hgj
    have HC := hid hcy
    have HT := hid hbt
    have HB := hid hbw
    have hjk : j ≤ k := by omega
    clear hgj hcy hbt hbw HT1 HB1 HC1
    by_cases hj : j < k
    · obtain ⟨t1, t2, t3, t4⟩ := cyc_take HC.out hak hj
      obtain ⟨T', hT'⟩ : ∃ T', takeRT T (a : Int) = T' := ⟨_, rfl⟩
      obtain ⟨X, hX⟩ : ∃ X : Nat, (a + j) % k = X := ⟨_, rfl⟩
      rw [hT'] at t3 t4
      rw [hX] at t1 t4
      have HC2 := hid t3
      have HI2 := hid t4
      have HX1 := hid t1
      have HX2 := hid t2
      have HTT := hid hT'
      have hX1 : ((a : Int) + (j : Int)).tmod (k : Int) = (X : Int) := by rw [← hX, ← tmod_nat, Int.natCast_add]
      have hX2 : ((a : Int) + (j : Int)) % (k : Int) = (X : Int) := by rw [← hX, Int.natCast_emod, Int.natCast_add]
      have hfr := hid (show freeN T' = (k : Int) - (j : Int) - 1 by rw [t3.free]; omega)
      clear t1 t2 t3 t4 hT' hX
      go_wp2_with fail
      refine (take_any HT.out (a : Int)).mono ?_
      rintro e w2 ⟨rfl, hbt, ho⟩
      rw [HTT.out] at hbt
      rw [HX1.out, HX2.out]
      have HT2 := hid hbt
      have HB2 := hid (HB.out.trans (HT.out.only_below ho HB.out.size))
      clear hbt ho HT HB HTT
      go_wp2_with fail
      refine (is_any HT2.out (X : Int)).mono ?_
      rintro e w3 ⟨rfl, m3, hw3⟩
      rw [HI2.out]
      have hb : Below w2.heap.size w2 w3 := by rw [hw3]; exact below_dN (Below.refl _ _) m3
      clear hw3
      have HT3 := hid (HT2.out.below_keep hb)
      have HB3 := hid (HB2.out.trans (hb.mono HB2.out.size))
      clear hb HT2 HB2
      go_wp2_with fail
      refine (free_any HT3.out).mono ?_
      rintro e w4 ⟨rfl, hb⟩
      rw [hfr.out]
      have HT4 := hid (HT3.out.below_keep hb)
      have HB4 := hid (HB3.out.trans (hb.mono HB3.out.size))
      clear hb HT3 HB3
      have hji : (j : Int) < (k : Int) := by omega
      go_wp2_with fail
      have hg := HG.out
      go_roundg (gk - 1)
      case measure => omega
      case rel => exact ⟨j + 1, T', by go_num, by omega, HC2.out, HT4.out, HB4.out⟩
    · have hjk' : j = k := by omega
      subst hjk'
      have HF := hid (cyc_full HC.out hak)
      obtain ⟨f1, f2⟩ := full_take HF.out hak
      have HF1 := hid f1
      have HF2 := hid f2
      clear f1 f2
      go_wp2_with fail
      refine (take_any HT.out (a : Int)).mono ?_
      rintro e w2 ⟨rfl, hbt, ho⟩
      rw [HF1.out]
      rw [HF2.out] at hbt
      have HT2 := hid hbt
      have HB2 := hid (HB.out.trans (HT.out.only_below ho HB.out.size))
      clear hbt ho HT HB
      go_wp2_with fail
      go_loopg [16] (min D.length 20) (fun g i wr => ∃ t : Nat, i = .int .i64 t ∧ g + t = min D.length 20 ∧ Bt wr W.heap.size p vb T ∧ Below W.heap.size W wr)
      case atStart => exact ⟨0, rfl, rfl, HT2.out, HB2.out⟩
      case round =>
        obtain ⟨t, rfl, hgt, hbt, hbw⟩ := hrel
        have HG2 := hid hgt
        have HT := hid hbt
        have HB := hid hbw
        have htD : t ≤ D.length := by omega
        have ht20 : t ≤ 20 := by omega
        clear hgt hbt hbw HT2 HB2
        by_cases htl : t < D.length
        · by_cases ht2 : t < 20
          · obtain ⟨gd, off, rfl, hgd, hc1⟩ := HD.out.at_ (List.getElem?_eq_getElem htl)
            obtain ⟨y, hy⟩ : ∃ y, y = D[t] := ⟨_, rfl⟩
            rw [← hy] at hc1
            have hd1 := (HB.out.cell (p := ⟨gd, off + t, none⟩) hgd).trans hc1
            have e5 := and65535 y
            obtain ⟨G, hG⟩ : ∃ G : Nat, (y % 65536).tmod (j : Int) = (G : Int) := by
              obtain ⟨f, hf⟩ : ∃ f : Nat, y % 65536 = (f : Int) := ⟨(y % 65536).toNat, by omega⟩
              exact ⟨f % j, by rw [hf, tmod_nat]⟩
            have hGk : G < j := by
              have h1 := Int.tmod_lt_of_pos (y % 65536) (show (0 : Int) < (j : Int) by omega)
              omega
            obtain ⟨q1, q2, q3, q4, q5, q6⟩ := full_give HF.out hGk
            obtain ⟨q7, q8, q9⟩ := full_back HF.out hGk hak
            obtain ⟨T', hT'⟩ : ∃ T', T.set G false = T' := ⟨_, rfl⟩
            rw [hT'] at q2 q3 q4 q5 q6 q7 q8 q9
            have Q1 := hid q1
            have Q2 := hid q2
            have Q3 := hid q3
            have Q4 := hid q4
            have Q5 := hid q5
            have Q6 := hid q6
            have Q7 := hid q7
            have Q8 := hid q8
            have Q9 := hid q9
            clear q1 q2 q3 q4 q5 q6 q7 q8 q9 hT' hy hc1
            go_wp2_with fail
            refine (give_any HT.out (G : Int)).mono ?_
            rintro e w3 ⟨rfl, hbt, ho⟩
            rw [Q1.out]
            rw [Q2.out] at hbt
            have HT3 := hid hbt
            have HB3 := hid (HB.out.trans (HT.out.only_below ho HB.out.size))
            clear hbt ho HT HB
            go_wp2_with fail
            refine (is_any HT3.out (G : Int)).mono ?_
            rintro e w4 ⟨rfl, m4, hw4⟩
            rw [Q3.out]
            have hb : Below w3.heap.size w3 w4 := by rw [hw4]; exact below_dN (Below.refl _ _) m4
            clear hw4
            have HT4 := hid (HT3.out.below_keep hb)
            have HB4 := hid (HB3.out.trans (hb.mono HB3.out.size))
            clear hb HT3 HB3
            go_wp2_with fail
            refine (free_any HT4.out).mono ?_
            rintro e w5 ⟨rfl, hb⟩
            rw [Q4.out]
            have HT5 := hid (HT4.out.below_keep hb)
            have HB5 := hid (HB4.out.trans (hb.mono HB4.out.size))
            clear hb HT4 HB4
            go_wp2_with fail
            refine (give_any HT5.out (G : Int)).mono ?_
            rintro e w6 ⟨rfl, hbt, ho⟩
            rw [Q5.out]
            rw [Q6.out] at hbt
            have HT6 := hid hbt
            have HB6 := hid (HB5.out.trans (HT5.out.only_below ho HB5.out.size))
            clear hbt ho HT5 HB5
            go_wp2_with fail
            refine (take_any HT6.out (a : Int)).mono ?_
            rintro e w7 ⟨rfl, hbt, ho⟩
            rw [Q7.out, Q8.out]
            rw [Q9.out] at hbt
            have HT7 := hid hbt
            have HB7 := hid (HB6.out.trans (HT6.out.only_below ho HB6.out.size))
            clear hbt ho HT6 HB6
            go_wp2_with fail
            have hg := HG2.out
            go_roundg (gk - 1)
            case measure => omega
            case rel => exact ⟨t + 1, by go_num, by omega, HT7.out, HB7.out⟩
          · have : t = 20 := by omega
            subst this
            go_wp2_with fail
            refine (fixed_any wr).mono ?_
            rintro e w3 ⟨rfl, hb⟩
            have HB3 := hid (HB.out.trans (hb.mono HB.out.size))
            clear hb
            go_wp2
            go_ret
            exact ⟨rfl, HB3.out⟩
        · go_wp2_with fail
          refine (fixed_any wr).mono ?_
          rintro e w3 ⟨rfl, hb⟩
          have HB3 := hid (HB.out.trans (hb.mono HB.out.size))
          clear hb
          go_wp2
          go_ret
          exact ⟨rfl, HB3.out⟩
end bitsOnce
end Go.Proofs.Ytkcfkmmjmgjhgaa
