/-
  BitsBack returns true for every input: the walk.
-/
import Derived.Test.YtkcfkmmjmgjhgaaFi
namespace Go.Proofs.Ytkcfkmmjmgjhgaa
open Go Go.RowKit

/-- Taken and given back is as it was. -/
theorem back_take {T : List Bool} {P : Nat} (hP : P < T.length) (hf : isB T (P : Int) = false) :
    takeE T (P : Int) = 0 ∧ freeN (takeT T (P : Int)) = freeN T - 1 ∧ giveE (takeT T (P : Int)) (P : Int) = 0 ∧ giveT (takeT T (P : Int)) (P : Int) = T := by
  have hh := hasB_nat hP
  have ht : takeT T (P : Int) = T.set P true := by
    unfold takeT
    rw [hh, hf]
    simp only [Bool.not_false, Bool.and_true, if_true, Int.toNat_natCast]
  have htk : tk T P = false := by rw [← isB_nat hP]; exact hf
  have hl : P < (T.set P true).length := by rw [List.length_set]; exact hP
  have hb : isB (T.set P true) (P : Int) = true := by rw [isB_nat hl, tk_set hP]; simp
  rw [ht]
  refine ⟨by simp [takeE, hh, hf], freeN_take hP htk, by simp [giveE, hasB_nat hl, hb], ?_⟩
  unfold giveT
  rw [hb, if_pos rfl, Int.toNat_natCast, List.set_set]
  rw [tk_get hP] at htk
  rw [← htk]
  exact List.set_getElem_self hP
theorem twice {T : List Bool} {P : Nat} (hP : P < T.length) (hf : isB T (P : Int) = true) : takeE T (P : Int) = 8 ∧ takeT T (P : Int) = T := by
  have hh := hasB_nat hP
  exact ⟨by simp [takeE, hh, hf], by simp [takeT, hh, hf]⟩

namespace bitsBack
set_option maxRecDepth 100000 in
set_option maxHeartbeats 3200000 in
theorem walk {W : World} {v : Value} {D : List Int} (h : RdI W W.heap.size v D) (n : Int) :
    Calls Try.prog 7 #[.int .i64 n, v] W fun e w' => e = .returned (.bool true) ∧ Below W.heap.size W w' := by
  obtain ⟨ad, cap, rfl, hl, hm⟩ := h.shape
  have HD := hid h
  unfold maxLen at hm
  clear h
  obtain ⟨k, hk⟩ : ∃ k : Nat, 1 + n % 64 = (k : Int) := ⟨(1 + n % 64).toNat, by omega⟩
  have hk1 : 1 ≤ k := by omega
  have hk2 : k ≤ 64 := by omega
  have e1 := and63 n
  have hk0 : ¬ (k : Int) = 0 := by omega
  have e3 : wrap64 (1 + n % 64) = (k : Int) := by unfold wrap64; omega
  have N1 := hid (new_any (W := W) (k : Int))
  go_enter Try.func7, Try.ntmps7
  go_wp2_with fail
  refine N1.out.mono ?_
  rintro e w1 hp
  obtain ⟨p, vb, rfl, hbt, hb⟩ := hp.get (by omega) (by omega)
  have HT1 := hid hbt
  have HB1 := hid hb
  clear hp hbt hb N1
  go_upto_block 0 with fail
  go_cut [8] (fun i wx => ∃ T : List Bool, T.length = k ∧ Bt wx W.heap.size p vb T ∧ Below W.heap.size W wx)
  case first =>
    go_wp2_with fail
    go_loopg [8] (min D.length 40) (fun g i wr => ∃ (t : Nat) (T : List Bool), i = .int .i64 t ∧ g + t = min D.length 40 ∧ T.length = k ∧ Bt wr W.heap.size p vb T ∧ Below W.heap.size W wr)
    case atStart => exact ⟨0, _, rfl, rfl, by simp, HT1.out, HB1.out⟩
    case round =>
      obtain ⟨t, T, rfl, hgt, hlen, hbt, hbw⟩ := hrel
      have HG := hid hgt
      have HT := hid hbt
      have HB := hid hbw
      have HL := hid hlen
      have htD : t ≤ D.length := by omega
      have ht40 : t ≤ 40 := by omega
      clear hgt hbt hbw hlen
      by_cases htl : t < D.length
      · by_cases ht2 : t < 40
        · obtain ⟨gd, off, rfl, hgd, hc1⟩ := HD.out.at_ (List.getElem?_eq_getElem htl)
          obtain ⟨y, hy⟩ : ∃ y, y = D[t] := ⟨_, rfl⟩
          rw [← hy] at hc1
          have hd0 := hid ((HB.out.cell (p := ⟨gd, off + t, none⟩) hgd).trans hc1)
          have e5 := and65535 y
          obtain ⟨P, hP⟩ : ∃ P : Nat, (y % 65536).tmod (k : Int) = (P : Int) := by
            obtain ⟨f, hf⟩ : ∃ f : Nat, y % 65536 = (f : Int) := ⟨(y % 65536).toNat, by omega⟩
            exact ⟨f % k, by rw [hf, tmod_nat]⟩
          have hPk : P < k := by
            have h1 := Int.tmod_lt_of_pos (y % 65536) (show (0 : Int) < (k : Int) by omega)
            omega
          have hPl : P < T.length := by have := HL.out; omega
          obtain ⟨sT, hsT⟩ : ∃ sT : ByteArray, (⟨((bytesOf T).map UInt8.ofNat).toArray⟩ : ByteArray) = sT := ⟨_, rfl⟩
          have HST := hid hsT
          have hss : (sT.toList == sT.toList) = true := by simp
          obtain ⟨fr, hfr⟩ : ∃ fr, freeN T = fr := ⟨_, rfl⟩
          have hfr0 : 0 ≤ fr ∧ fr ≤ 64 := by
            rw [← hfr, freeN_count]
            have := List.countP_le_length (p := fun b => !b) (l := T)
            have := HL.out
            omega
          obtain ⟨fr0, fr1⟩ := hfr0
          have HFR := hid hfr
          clear hc1 hy hfr hsT
          go_wp2_with fail
          refine (save_any HT.out).mono ?_
          rintro e w2 ⟨rfl, rfl⟩
          rw [HST.out]
          go_wp2_with fail
          refine (free_any HT.out).mono ?_
          rintro e w3 ⟨rfl, hb⟩
          rw [HFR.out]
          have HT3 := hid (HT.out.below_keep hb)
          have HB3 := hid (HB.out.trans (hb.mono HB.out.size))
          have hd1 := (hb.cell (p := ⟨gd, off + t, none⟩) (by have := HB.out.size; simp only; omega)).trans hd0.out
          clear hb HT HB
          cases hx : isB T (P : Int) with
          | true =>
            obtain ⟨u1, u2⟩ := twice hPl hx
            have U1 := hid u1
            have U2 := hid u2
            clear u1 u2 hx
            go_wp2_with fail
            refine (takeAt_any HT3.out (P : Int)).mono ?_
            rintro e w4 ⟨rfl, hbt, ho⟩
            rw [U1.out]
            rw [U2.out] at hbt
            have HT4 := hid hbt
            have HB4 := hid (HB3.out.trans (HT3.out.only_below ho HB3.out.size))
            clear hbt ho HT3 HB3 hd1
            go_wp2_with fail
            refine (save_any HT4.out).mono ?_
            rintro e w5 ⟨rfl, rfl⟩
            rw [HST.out]
            go_wp2_with fail
            refine (taken_any HT4.out).mono ?_
            rintro e w8 ⟨vo, rfl, hvo, hb⟩
            obtain ⟨oa, oc, rfl⟩ := hvo.shape
            have HT8 := hid (HT4.out.below_keep hb)
            have HB8 := hid (HB4.out.trans (hb.mono HB4.out.size))
            clear hvo hb HT4 HB4
            go_wp2_with fail
            refine (free_any HT8.out).mono ?_
            rintro e w9 ⟨rfl, hb⟩
            have HT9 := hid (HT8.out.below_keep hb)
            have HB9 := hid (HB8.out.trans (hb.mono HB8.out.size))
            have hLL : (T).length = k := by exact HL.out
            obtain ⟨tl, htl'⟩ : ∃ tl : Nat, (takenL T).length = tl := ⟨_, rfl⟩
            have hfk : freeN T = (k : Int) - (tl : Int) := by unfold freeN; rw [htl', hLL]
            have htk : tl ≤ k := by rw [← htl', ← hLL]; exact takenL_len _
            have hsum : wrap64 ((tl : Int) + ((k : Int) - (tl : Int))) = (k : Int) := by unfold wrap64; omega
            have hsum2 : (tl : Int) + ((k : Int) - (tl : Int)) = (k : Int) := by omega
            rw [hfk]
            have HLL := hid hLL
            clear hb HT8 HB8 hfk hLL
            go_wp2_with fail
            have hg := HG.out
            go_roundg (gk - 1)
            case measure => omega
            case rel => exact ⟨t + 1, T, by go_num, by omega, HLL.out, HT9.out, HB9.out⟩
          | false =>
            obtain ⟨u1, u2, u3, u4⟩ := back_take hPl hx
            obtain ⟨T', hT'⟩ : ∃ T', takeT T (P : Int) = T' := ⟨_, rfl⟩
            have hl' : T'.length = T.length := by rw [← hT', takeT_len]
            rw [hT'] at u2 u3 u4
            have U0 := hid hT'
            have U1 := hid u1
            have U2 := hid (show freeN T' = fr - 1 by rw [u2, HFR.out])
            have U3 := hid u3
            have U4 := hid u4
            have HL' := hid hl'
            clear u1 u2 u3 u4 hx hT' hl'
            go_wp2_with fail
            refine (takeAt_any HT3.out (P : Int)).mono ?_
            rintro e w4 ⟨rfl, hbt, ho⟩
            rw [U1.out]
            rw [U0.out] at hbt
            have HT4 := hid hbt
            have HB4 := hid (HB3.out.trans (HT3.out.only_below ho HB3.out.size))
            clear hbt ho HT3 HB3 hd1
            go_wp2_with fail
            refine (free_any HT4.out).mono ?_
            rintro e w5 ⟨rfl, hb⟩
            rw [U2.out]
            have HT5 := hid (HT4.out.below_keep hb)
            have HB5 := hid (HB4.out.trans (hb.mono HB4.out.size))
            clear hb HT4 HB4
            go_wp2_with fail
            refine (give_any HT5.out (P : Int)).mono ?_
            rintro e w6 ⟨rfl, hbt, ho⟩
            rw [U3.out]
            rw [U4.out] at hbt
            have HT6 := hid hbt
            have HB6 := hid (HB5.out.trans (HT5.out.only_below ho HB5.out.size))
            clear hbt ho HT5 HB5
            go_wp2_with fail
            refine (save_any HT6.out).mono ?_
            rintro e w7 ⟨rfl, rfl⟩
            rw [HST.out]
            go_wp2_with fail
            refine (takeAt_any HT6.out (P : Int)).mono ?_
            rintro e w4 ⟨rfl, hbt, ho⟩
            rw [U1.out]
            rw [U0.out] at hbt
            have HT4 := hid hbt
            have HB4 := hid (HB6.out.trans (HT6.out.only_below ho HB6.out.size))
            clear hbt ho HT6 HB6
            go_wp2_with fail
            refine (taken_any HT4.out).mono ?_
            rintro e w8 ⟨vo, rfl, hvo, hb⟩
            obtain ⟨oa, oc, rfl⟩ := hvo.shape
            have HT8 := hid (HT4.out.below_keep hb)
            have HB8 := hid (HB4.out.trans (hb.mono HB4.out.size))
            clear hvo hb HT4 HB4
            go_wp2_with fail
            refine (free_any HT8.out).mono ?_
            rintro e w9 ⟨rfl, hb⟩
            have HT9 := hid (HT8.out.below_keep hb)
            have HB9 := hid (HB8.out.trans (hb.mono HB8.out.size))
            have hLL : (T').length = k := by rw [HL'.out]; exact HL.out
            obtain ⟨tl, htl'⟩ : ∃ tl : Nat, (takenL T').length = tl := ⟨_, rfl⟩
            have hfk : freeN T' = (k : Int) - (tl : Int) := by unfold freeN; rw [htl', hLL]
            have htk : tl ≤ k := by rw [← htl', ← hLL]; exact takenL_len _
            have hsum : wrap64 ((tl : Int) + ((k : Int) - (tl : Int))) = (k : Int) := by unfold wrap64; omega
            have hsum2 : (tl : Int) + ((k : Int) - (tl : Int)) = (k : Int) := by omega
            rw [hfk]
            have HLL := hid hLL
            clear hb HT8 HB8 hfk hLL
            go_wp2_with fail
            have hg := HG.out
            go_roundg (gk - 1)
            case measure => omega
            case rel => exact ⟨t + 1, T', by go_num, by omega, HLL.out, HT9.out, HB9.out⟩
        · have : t = 40 := by omega
          subst this
          go_wp2_with fail
          go_meet
          exact ⟨T, HL.out, HT.out, HB.out⟩
      · go_wp2_with fail
        go_meet
        exact ⟨T, HL.out, HT.out, HB.out⟩
  case rest =>
    obtain ⟨T, hlen, hbt, hbw⟩ := hcut
    have HT := hid hbt
    have HB := hid hbw
    subst hlen
    clear hbt hbw
    go_wp2_with fail
    refine (copy_any HT.out).mono ?_
    rintro e w2 ⟨x, rfl, pc, vc, rfl, hbc, hb⟩
    have HC2 := hid hbc
    have HT2 := hid (HT.out.below_keep hb)
    have HB2 := hid (HB.out.trans (hb.mono HB.out.size))
    clear hbc hb HT HB
    go_wp2_with fail
    refine (taken_any HC2.out).mono ?_
    rintro e w3 ⟨v1, rfl, hv1, hb⟩
    have HV1 := hid (RdI.of_own hv1)
    have HC3 := hid (HC2.out.below_keep hb)
    have HT3 := hid (HT2.out.below_keep hb)
    have HB3 := hid (HB2.out.trans (hb.mono HB2.out.size))
    clear hv1 hb HC2 HT2 HB2
    go_wp2_with fail
    refine (taken_any HT3.out).mono ?_
    rintro e w4 ⟨v2, rfl, hv2, hb⟩
    have HV2 := hid (RdI.of_own hv2)
    have HV3 := hid ((HV1.out.below hb).more hb.size)
    have HC4 := hid (HC3.out.below_keep hb)
    have HB4 := hid (HB3.out.trans (hb.mono HB3.out.size))
    clear hv2 hb HC3 HT3 HB3 HV1
    go_wp2_with fail
    refine (ints_any HV3.out HV2.out).mono ?_
    rintro e w5 ⟨rfl, m5, hw5⟩
    rw [decide_eq_true rfl]
    have HC5 : Hid (Bt w5 wc.heap.size pc vc T) := by rw [hw5]; exact HC4.out.drewN m5
    have HB5 : Hid (Below W.heap.size W w5) := by rw [hw5]; exact below_dN HB4.out m5
    clear hw5 HC4 HB4 HV2 HV3
    go_wp2_with fail
    refine (len_any HC5.out).mono ?_
    rintro e w6 ⟨rfl, rfl⟩
    go_wp2_with fail
    refine (fixed_any _).mono ?_
    rintro e w7 ⟨rfl, hb⟩
    have HB7 := hid (HB5.out.trans (hb.mono HB5.out.size))
    clear hb
    go_wp2
    go_ret
    exact ⟨rfl, HB7.out⟩
end bitsBack
end Go.Proofs.Ytkcfkmmjmgjhgaa
