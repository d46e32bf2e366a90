/-
  BitsRun returns true for every input: the walk.
-/
import Derived.Test.YtkcfkmmjmgjhgaaRp
import Derived.Test.YtkcfkmmjmgjhgaaOn
namespace Go.Proofs.Ytkcfkmmjmgjhgaa
open Go Go.RowKit

namespace bitsRun
set_option maxRecDepth 100000 in
set_option maxHeartbeats 3200000 in
theorem walk {W : World} {v : Value} {D : List Int} (h : RdI W W.heap.size v D) (n many : Int) :
    Calls Try.prog 5 #[.int .i64 n, .int .i64 many, v] W fun e w' => e = .returned (.bool true) ∧ Below W.heap.size W w' := by
  obtain ⟨ad, cap, rfl, hl, hm⟩ := h.shape
  have HD := hid h
  unfold maxLen at hm
  clear h
  obtain ⟨k, hk⟩ : ∃ k : Nat, 1 + n % 64 = (k : Int) := ⟨(1 + n % 64).toNat, by omega⟩
  obtain ⟨M, hM⟩ : ∃ M : Nat, 1 + many % 16 = (M : Int) := ⟨(1 + many % 16).toNat, by omega⟩
  have hk1 : 1 ≤ k := by omega
  have hk2 : k ≤ 64 := by omega
  have hM1 : 1 ≤ M := by omega
  have hM2 : M ≤ 16 := by omega
  have e1 := and63 n
  have e2 := and15 many
  have e3 : wrap64 (1 + n % 64) = (k : Int) := by unfold wrap64; omega
  have e4 : wrap64 (1 + many % 16) = (M : Int) := by unfold wrap64; omega
  have N1 := hid (new_any (W := W) (k : Int))
  go_enter Try.func5, Try.ntmps5
  go_wp2_with fail
  refine N1.out.mono ?_
  rintro e w1 hp
  obtain ⟨p, vb, rfl, hbt, hb⟩ := hp.get (by omega) (by omega)
  have HT1 := hid hbt
  have HB1 := hid hb
  clear hp hbt hb N1
  go_upto_block 0 with fail
  go_cut [11] (fun i wx => ∃ T : List Bool, T.length = k ∧ Bt wx W.heap.size p vb T ∧ Below W.heap.size W wx)
  case first =>
    go_wp2_with fail
    go_loopg [11] (min D.length 40) (fun g i wr => ∃ (t : Nat) (T : List Bool), i = .int .i64 t ∧ g + t = min D.length 40 ∧ T.length = k ∧ Bt wr W.heap.size p vb T ∧ Below W.heap.size W wr)
    case atStart => exact ⟨0, _, rfl, rfl, by simp, HT1.out, HB1.out⟩
    case round =>
      obtain ⟨t, T, rfl, hgt, hlen, hbt, hbw⟩ := hrel
      have HG := hid hgt
      have HT := hid hbt
      have HB := hid hbw
      have HL := hid hlen
      have htD : t ≤ D.length := by omega
      have ht40 : t ≤ 40 := by omega
      clear hgt hbt hbw hlen
      by_cases htl : t < D.length
      · by_cases ht2 : t < 40
        · obtain ⟨gd, off, rfl, hgd, hc1⟩ := HD.out.at_ (List.getElem?_eq_getElem htl)
          obtain ⟨y, hy⟩ : ∃ y, y = D[t] := ⟨_, rfl⟩
          rw [← hy] at hc1
          have hd1 := (HB.out.cell (p := ⟨gd, off + t, none⟩) hgd).trans hc1
          have e5 := and63 y
          clear hc1 hy
          go_wp2_with fail
          refine (takeAt_any HT.out (y % 64)).mono ?_
          rintro e w3 ⟨rfl, hbt, ho⟩
          have HT3 := hid hbt
          have HB3 := hid (HB.out.trans (HT.out.only_below ho HB.out.size))
          clear hbt ho HT HB
          go_wp2_with fail
          have hg := HG.out
          go_roundg (gk - 1)
          case measure => omega
          case rel => exact ⟨t + 1, _, by go_num, by omega, by rw [takeT_len]; exact HL.out, HT3.out, HB3.out⟩
        · have : t = 40 := by omega
          subst this
          go_wp2_with fail
          go_meet
          exact ⟨T, HL.out, HT.out, HB.out⟩
      · go_wp2_with fail
        go_meet
        exact ⟨T, HL.out, HT.out, HB.out⟩
  case rest =>
    obtain ⟨T, hlen, hbt, hbw⟩ := hcut
    have HT := hid hbt
    have HB := hid hbw
    subst hlen
    have HRY := hid (run_yes hbt (M : Int) (by omega))
    clear hbt hbw
    go_wp2_with fail
    refine HRY.out.mono ?_
    clear HRY
    rintro e w2 ⟨⟨rfl, s, hs⟩ | ⟨q, x, k', s, h1, hk', h2, h3, h4, rfl⟩, hb⟩
    · have HT2 := hid (HT.out.below_keep hb)
      have HB2 := hid (HB.out.trans (hb.mono HB.out.size))
      have HS := hid hs
      clear hb HT HB hs
      have hM1i : (1 : Int) ≤ (M : Int) := by omega
      go_wp2_with fail
      go_loopg [15, 16] T.length (fun g sd i wr => ∃ (j s q : Nat), i = .int .i64 j ∧ sd = .int .i64 s ∧ g + j = T.length ∧ s ≤ j ∧ runTo T (M : Int) (upto (rnd 0 T.length) j) = some s ∧ wr = w2.drewN q)
      case atStart => exact ⟨0, 0, 0, rfl, rfl, rfl, Nat.le_refl _, rfl, rfl⟩
      case round =>
        obtain ⟨j, s1, q1, rfl, rfl, hgj, hsj, hr, hwr⟩ := hrel
        have HTr : Hid (Bt wr W.heap.size p vb T) := by rw [hwr]; exact HT2.out.drewN q1
        have HBr : Hid (Below W.heap.size W wr) := by rw [hwr]; exact below_dN HB2.out q1
        have HG := hid hgj
        have HR := hid hr
        have HW := hid hwr
        have hjL : j ≤ T.length := by omega
        clear hgj hr hwr
        by_cases hj : j < T.length
        · obtain ⟨s2, hs2⟩ := runTo_upto (i := j + 1) (j := T.length) (by omega) HS.out
          have hn := runTo_next (by omega) HR.out hs2
          have hlt := runTo_lt (by omega) hs2
          have HS2 := hid hs2
          have hs1i : (s1 : Int) ≤ 64 := by omega
          have hjA : (j : Int) < (T.length : Int) := by omega
          cases hbj : isB T (j : Int) with
          | true =>
            rw [hbj, if_pos rfl] at hn
            have HBJ := hid hbj
            have HN := hid hn
            clear hn hbj hs2 hlt
            go_wp2_with fail
            refine (is_any HTr.out (j : Int)).mono ?_
            rintro e w4 ⟨rfl, m4, hw4⟩
            rw [HBJ.out]
            have HW4 := hid hw4
            clear hw4
            have hM0 : ¬ (M : Int) ≤ 0 := by omega
            go_wp2_with fail
            have hg := HG.out
            have hn := HN.out
            go_roundg (gk - 1)
            case measure => omega
            case rel => exact ⟨j + 1, 0, q1 + m4, by go_num, rfl, by omega, Nat.zero_le _, by have := HS2.out; rw [hn] at this; exact this, by rw [HW4.out, HW.out, World.drewN_drewN]⟩
          | false =>
            rw [hbj, if_neg (by simp)] at hn
            have HBJ := hid hbj
            have HN := hid hn
            have hge : ¬ (M : Int) ≤ (s1 : Int) + 1 := by omega
            clear hn hbj hs2 hlt
            go_wp2_with fail
            refine (is_any HTr.out (j : Int)).mono ?_
            rintro e w4 ⟨rfl, m4, hw4⟩
            rw [HBJ.out]
            have HW4 := hid hw4
            clear hw4
            go_wp2_with fail
            have hg := HG.out
            have hn := HN.out
            go_roundg (gk - 1)
            case measure => omega
            case rel => exact ⟨j + 1, s1 + 1, q1 + m4, by go_num, by go_num, by omega, by omega, by have := HS2.out; rw [hn] at this; exact this, by rw [HW4.out, HW.out, World.drewN_drewN]⟩
        · have hjL2 : j = T.length := by omega
          subst hjL2
          go_wp2_with fail
          all_goals
            go_loopg [17] 1 (fun g i wx => ∃ z : Nat, i = .int .i64 z ∧ g + z = 1 ∧ Below W.heap.size W wx)
            case atStart => exact ⟨0, rfl, rfl, HBr.out⟩
            case round =>
              obtain ⟨z, rfl, _, hbz⟩ := hrel
              have HBr := hid hbz
              clear hbz
              go_wp2_with fail
              refine (fixed_any _).mono ?_
              rintro e w3 ⟨rfl, hb⟩
              have HB3 := hid (HBr.out.trans (hb.mono HBr.out.size))
              clear hb
              go_wp2
              go_ret
              exact ⟨rfl, HB3.out⟩
    · have HT2 := hid (HT.out.below_keep hb)
      have HB2 := hid (HB.out.trans (hb.mono HB.out.size))
      have hkl : k' = q.length + 1 := by
        have := congrArg List.length h1
        rw [upto_length] at this
        simpa using this
      obtain ⟨X, hX⟩ : ∃ X : Nat, q.length = X := ⟨_, rfl⟩
      have hkX : k' = X + 1 := by omega
      subst hkX
      rw [upto_succ] at h1
      obtain ⟨hq, hxx⟩ := List.append_inj' h1 rfl
      simp only [List.cons.injEq, and_true] at hxx
      rw [rnd_zero (by omega)] at hxx
      subst hxx
      rw [← hq] at h2
      obtain ⟨hsX, hfree⟩ := runTo_free X s (by omega) h2
      obtain ⟨A, hA⟩ : ∃ A : Nat, A + M = X + 1 := ⟨X + 1 - M, by omega⟩
      have hat : wrap64 (wrap64 ((X : Int) - (M : Int)) + 1) = (A : Int) := by unfold wrap64; omega
      rw [hat]
      have HF := hid (show ∀ i, A ≤ i → i < A + M → isB T (i : Int) = false from fun i i1 i2 => by
        by_cases hi : i = X
        · rw [hi]; exact h3
        · exact hfree i (by omega) (by omega))
      have HS := hid h2
      have hXk : X < T.length := by omega
      have HA := hid hA
      have hA64 : (A : Int) ≤ 64 := by omega
      have hXA : ¬ (X : Int) < (A : Int) + (M : Int) - 1 := by omega
      clear hb HT HB h1 h2 h3 h4 hq hsX hfree hkl hX hat hA
      have hM1i : (1 : Int) ≤ (M : Int) := by omega
      go_wp2_with fail
      go_loopg [15, 16] X (fun g sd i wr => ∃ (j s q : Nat), i = .int .i64 j ∧ sd = .int .i64 s ∧ g + j = X ∧ s ≤ j ∧ runTo T (M : Int) (upto (rnd 0 T.length) j) = some s ∧ wr = w2.drewN q)
      case atStart => exact ⟨0, 0, 0, rfl, rfl, rfl, Nat.le_refl _, rfl, rfl⟩
      case round =>
        obtain ⟨j, s1, q1, rfl, rfl, hgj, hsj, hr, hwr⟩ := hrel
        have HTr : Hid (Bt wr W.heap.size p vb T) := by rw [hwr]; exact HT2.out.drewN q1
        have HBr : Hid (Below W.heap.size W wr) := by rw [hwr]; exact below_dN HB2.out q1
        have HG := hid hgj
        have HR := hid hr
        have HW := hid hwr
        have hjL : j ≤ X := by omega
        clear hgj hr hwr
        by_cases hj : j < X
        · obtain ⟨s2, hs2⟩ := runTo_upto (i := j + 1) (j := X) (by omega) HS.out
          have hn := runTo_next (by omega) HR.out hs2
          have hlt := runTo_lt (by omega) hs2
          have HS2 := hid hs2
          have hs1i : (s1 : Int) ≤ 64 := by omega
          have hjA : (j : Int) < (A : Int) + (M : Int) - 1 := by have := HA.out; omega
          cases hbj : isB T (j : Int) with
          | true =>
            rw [hbj, if_pos rfl] at hn
            have HBJ := hid hbj
            have HN := hid hn
            clear hn hbj hs2 hlt
            go_wp2_with fail
            refine (is_any HTr.out (j : Int)).mono ?_
            rintro e w4 ⟨rfl, m4, hw4⟩
            rw [HBJ.out]
            have HW4 := hid hw4
            clear hw4
            have hM0 : ¬ (M : Int) ≤ 0 := by omega
            go_wp2_with fail
            have hg := HG.out
            have hn := HN.out
            go_roundg (gk - 1)
            case measure => omega
            case rel => exact ⟨j + 1, 0, q1 + m4, by go_num, rfl, by omega, Nat.zero_le _, by have := HS2.out; rw [hn] at this; exact this, by rw [HW4.out, HW.out, World.drewN_drewN]⟩
          | false =>
            rw [hbj, if_neg (by simp)] at hn
            have HBJ := hid hbj
            have HN := hid hn
            have hge : ¬ (M : Int) ≤ (s1 : Int) + 1 := by omega
            clear hn hbj hs2 hlt
            go_wp2_with fail
            refine (is_any HTr.out (j : Int)).mono ?_
            rintro e w4 ⟨rfl, m4, hw4⟩
            rw [HBJ.out]
            have HW4 := hid hw4
            clear hw4
            go_wp2_with fail
            have hg := HG.out
            have hn := HN.out
            go_roundg (gk - 1)
            case measure => omega
            case rel => exact ⟨j + 1, s1 + 1, q1 + m4, by go_num, by go_num, by omega, by omega, by have := HS2.out; rw [hn] at this; exact this, by rw [HW4.out, HW.out, World.drewN_drewN]⟩
        · have hjL2 : j = X := by omega
          subst hjL2
          go_wp2_with fail
          go_loopg [17] M (fun g i wx => ∃ (t : Nat) (T' : List Bool), i = .int .i64 ((A + t : Nat) : Int) ∧ g + t = M ∧ T'.length = T.length ∧ (∀ i, A + t ≤ i → i < A + M → isB T' (i : Int) = false) ∧ Bt wx W.heap.size p vb T' ∧ Below W.heap.size W wx)
          case atStart => exact ⟨0, T, rfl, rfl, rfl, HF.out, HTr.out, HBr.out⟩
          case round =>
            obtain ⟨t, T', rfl, hgt, hl', hf', hbt, hbw⟩ := hrel
            have HG3 := hid hgt
            have HL3 := hid hl'
            have HF3 := hid hf'
            have HT3 := hid hbt
            have HB3 := hid hbw
            have htM : t ≤ M := by omega
            clear hgt hl' hf' hbt hbw
            by_cases ht : t < M
            · have hat : A + t < T'.length := by have := HL3.out; have := HA.out; omega
              obtain ⟨u1, u2⟩ := take_free hat (HF3.out (A + t) (Nat.le_refl _) (by omega))
              have U1 := hid u1
              have U2 := hid u2
              clear u1 u2
              obtain ⟨Z, hZ⟩ : ∃ Z : Nat, A + t = Z := ⟨_, rfl⟩
              rw [hZ] at U1 U2
              have hZi : (Z : Int) < (A : Int) + (M : Int) := by omega
              have hZn : (Z : Int) ≤ 200 := by omega
              have HZ := hid hZ
              rw [hZ]
              clear hZ hat
              go_wp2_with fail
              refine (takeAt_any HT3.out (Z : Int)).mono ?_
              rintro e w5 ⟨rfl, hbt, ho⟩
              rw [U1.out]
              have HT5 := hid hbt
              have HB5 := hid (HB3.out.trans (HT3.out.only_below ho HB3.out.size))
              clear hbt ho HT3 HB3
              go_wp2_with fail
              have hg := HG3.out
              have hz := HZ.out
              go_roundg (gk - 1)
              case measure => omega
              case rel => exact ⟨t + 1, _, by go_num, by omega, by rw [takeT_len]; exact HL3.out, fun i i1 i2 => by rw [U2.out i (by omega)]; exact HF3.out i (by omega) i2, HT5.out, HB5.out⟩
            · have : t = M := by omega
              subst this
              go_wp2_with fail
              refine (fixed_any _).mono ?_
              rintro e w3 ⟨rfl, hb⟩
              have HB4 := hid (HB3.out.trans (hb.mono HB3.out.size))
              clear hb
              go_wp2
              go_ret
              exact ⟨rfl, HB4.out⟩
end bitsRun
end Go.Proofs.Ytkcfkmmjmgjhgaa
