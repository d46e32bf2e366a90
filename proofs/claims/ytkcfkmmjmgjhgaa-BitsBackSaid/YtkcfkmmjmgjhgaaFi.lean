/-
  BitsFirst returns true for every input: the walk.
-/
import Derived.Test.YtkcfkmmjmgjhgaaRp
import Derived.Test.YtkcfkmmjmgjhgaaOn
import Derived.Test.YtkcfkmmjmgjhgaaCp
namespace Go.Proofs.Ytkcfkmmjmgjhgaa
open Go Go.RowKit

/-- What Take tells, page by page: full; or the first free one. -/
theorem take_first {T : List Bool} {a : Nat} (hN : 1 ≤ T.length) (ha : a < T.length) :
    (takeRE T (a : Int) = 6 ∧ freeN T = 0) ∨ ∃ i X : Nat, i < T.length ∧ X < T.length ∧ (a + i) % T.length = X ∧ takeRE T (a : Int) = 0 ∧ takeRX T (a : Int) = (X : Int) ∧ isB T (X : Int) = false ∧ isB (takeRT T (a : Int)) (X : Int) = true ∧ ∀ j, j < i → isB T (((a + j) % T.length : Nat) : Int) = true := by
  have hb := hasB_nat ha
  have hr : ∀ j, rnd a T.length j = (((a + j) % T.length : Nat) : Int) := fun j => rnd_mod
  have key : ∀ n, n ≤ T.length → (∀ j, j < n → isB T (rnd a T.length j) = true) ∨ ∃ i, i < n ∧ isB T (rnd a T.length i) = false ∧ ∀ j, j < i → isB T (rnd a T.length j) = true := by
    intro n
    induction n with
    | zero => intro _; exact .inl fun j hj => by omega
    | succ n ih =>
      intro hn
      rcases ih (by omega) with h | ⟨i, h1, h2, h3⟩
      · cases hx : isB T (rnd a T.length n) with
        | true =>
          refine .inl fun j hj => ?_
          by_cases e : j = n
          · rw [e]; exact hx
          · exact h j (by omega)
        | false => exact .inr ⟨n, by omega, hx, h⟩
      · exact .inr ⟨i, by omega, h2, h3⟩
  rcases key T.length (Nat.le_refl _) with h | ⟨i, h1, h2, h3⟩
  · left
    have hall : ∀ y ∈ upto (rnd a T.length) T.length, isB T y = true := fun y hy => by
      unfold upto at hy
      obtain ⟨j, hj, rfl⟩ := List.mem_map.1 hy
      exact h j (List.mem_range.1 hj)
    have hf : freeX T a = none := find_all hall
    refine ⟨by simp [takeRE, hb, hf], ?_⟩
    rw [freeN_count]
    have : T.countP (fun b => !b) = 0 := by
      rw [List.countP_eq_zero]
      intro b hbm
      obtain ⟨m, hm, rfl⟩ := List.getElem_of_mem hbm
      obtain ⟨j, hj, hjm⟩ : ∃ j, j < T.length ∧ (a + j) % T.length = m := by
        by_cases ham : a ≤ m
        · exact ⟨m - a, by omega, by rw [mod_two ha (by omega), if_pos (by omega)]; omega⟩
        · exact ⟨m + T.length - a, by omega, by rw [mod_two ha (by omega), if_neg (by omega)]; omega⟩
      have := h j hj
      rw [hr, hjm, isB_nat hm, tk_get hm] at this
      simp [this]
    rw [this]
    rfl
  · right
    have hX : (a + i) % T.length < T.length := Nat.mod_lt _ (by omega)
    obtain ⟨e1, e2, e3, _⟩ := take_hit (T := T) (b := a) hN hb (q := upto (rnd a T.length) i) (x := rnd a T.length i) (k := i + 1) (upto_succ _ _) (by omega) (fun y hy => by
      unfold upto at hy
      obtain ⟨j, hj, rfl⟩ := List.mem_map.1 hy
      exact h3 j (List.mem_range.1 hj)) h2
    refine ⟨i, (a + i) % T.length, h1, hX, rfl, e2, by rw [e1, hr], by rw [← hr]; exact h2, ?_, fun j hj => by rw [← hr]; exact h3 j hj⟩
    rw [e3]
    rw [hr] at h2 ⊢
    unfold takeT
    rw [hasB_nat hX, h2]
    simp only [Bool.not_false, Bool.and_true, if_true, Int.toNat_natCast]
    rw [isB_nat (by rw [List.length_set]; exact hX), tk_set hX]
    simp

namespace bitsFirst
set_option maxRecDepth 100000 in
set_option maxHeartbeats 3200000 in
theorem walk {W : World} {v : Value} {D : List Int} (h : RdI W W.heap.size v D) (n from_ : Int) :
    Calls Try.prog 8 #[.int .i64 n, .int .i64 from_, v] W fun e w' => e = .returned (.bool true) ∧ Below W.heap.size W w' := by
  obtain ⟨ad, cap, rfl, hl, hm⟩ := h.shape
  have HD := hid h
  unfold maxLen at hm
  clear h
  obtain ⟨k, hk⟩ : ∃ k : Nat, 1 + n % 64 = (k : Int) := ⟨(1 + n % 64).toNat, by omega⟩
  have hk1 : 1 ≤ k := by omega
  have hk2 : k ≤ 64 := by omega
  obtain ⟨a, ha⟩ : ∃ a : Nat, (from_ % 65536).tmod (k : Int) = (a : Int) := by
    obtain ⟨f, hf⟩ : ∃ f : Nat, from_ % 65536 = (f : Int) := ⟨(from_ % 65536).toNat, by omega⟩
    exact ⟨f % k, by rw [hf, tmod_nat]⟩
  have hak : a < k := by
    have h1 := Int.tmod_lt_of_pos (from_ % 65536) (show (0 : Int) < (k : Int) by omega)
    omega
  have e1 := and63 n
  have e2 := and65535 from_
  have hk0 : ¬ (k : Int) = 0 := by omega
  have e3 : wrap64 (1 + n % 64) = (k : Int) := by unfold wrap64; omega
  have N1 := hid (new_any (W := W) (k : Int))
  go_enter Try.func8, Try.ntmps8
  go_wp2_with fail
  refine N1.out.mono ?_
  rintro e w1 hp
  obtain ⟨p, vb, rfl, hbt, hb⟩ := hp.get (by omega) (by omega)
  have HT1 := hid hbt
  have HB1 := hid hb
  clear hp hbt hb N1
  go_upto_block 0 with fail
  go_cut [10] (fun i wx => ∃ T : List Bool, T.length = k ∧ Bt wx W.heap.size p vb T ∧ Below W.heap.size W wx)
  case first =>
    go_wp2_with fail
    go_loopg [10] (min D.length 40) (fun g i wr => ∃ (t : Nat) (T : List Bool), i = .int .i64 t ∧ g + t = min D.length 40 ∧ T.length = k ∧ Bt wr W.heap.size p vb T ∧ Below W.heap.size W wr)
    case atStart => exact ⟨0, _, rfl, rfl, by simp, HT1.out, HB1.out⟩
    case round =>
      obtain ⟨t, T, rfl, hgt, hlen, hbt, hbw⟩ := hrel
      have HG := hid hgt
      have HT := hid hbt
      have HB := hid hbw
      have HL := hid hlen
      have htD : t ≤ D.length := by omega
      have ht40 : t ≤ 40 := by omega
      clear hgt hbt hbw hlen
      by_cases htl : t < D.length
      · by_cases ht2 : t < 40
        · obtain ⟨gd, off, rfl, hgd, hc1⟩ := HD.out.at_ (List.getElem?_eq_getElem htl)
          obtain ⟨y, hy⟩ : ∃ y, y = D[t] := ⟨_, rfl⟩
          rw [← hy] at hc1
          have hd1 := (HB.out.cell (p := ⟨gd, off + t, none⟩) hgd).trans hc1
          have e5 := and63 y
          clear hc1 hy
          go_wp2_with fail
          refine (takeAt_any HT.out (y % 64)).mono ?_
          rintro e w3 ⟨rfl, hbt, ho⟩
          have HT3 := hid hbt
          have HB3 := hid (HB.out.trans (HT.out.only_below ho HB.out.size))
          clear hbt ho HT HB
          go_wp2_with fail
          have hg := HG.out
          go_roundg (gk - 1)
          case measure => omega
          case rel => exact ⟨t + 1, _, by go_num, by omega, by rw [takeT_len]; exact HL.out, HT3.out, HB3.out⟩
        · have : t = 40 := by omega
          subst this
          go_wp2_with fail
          go_meet
          exact ⟨T, HL.out, HT.out, HB.out⟩
      · go_wp2_with fail
        go_meet
        exact ⟨T, HL.out, HT.out, HB.out⟩
  case rest =>
    obtain ⟨T, hlen, hbt, hbw⟩ := hcut
    have HT := hid hbt
    have HB := hid hbw
    subst hlen
    clear hbt hbw
    go_wp2_with fail
    refine (copy_any HT.out).mono ?_
    rintro e w2 ⟨x, rfl, pc, vc, rfl, hbc, hb⟩
    have hlt := hid (fun k (e : vb.ownBlock = some k) => HT.out.lt e)
    have hdis := hid (show ∀ k, vc.ownBlock = some k → vb.ownBlock ≠ some k from fun k e e' => by have h1 := (hbc.row.block e).1; have h2 := hlt.out k e'; omega)
    obtain ⟨wcs, hwcs⟩ : ∃ s, wc.heap.size = s := ⟨_, rfl⟩
    rw [hwcs] at hbc
    have HC2 := hid hbc
    have HT2 := hid (HT.out.below_keep hb)
    have HB2 := hid (HB.out.trans (hb.mono HB.out.size))
    clear hbc hb HT HB hlt
    rcases take_first hk1 hak with ⟨f1, f2⟩ | ⟨i, X, i1, i2, i3, i4, i5, i6, i7, i8⟩
    · have F1 := hid f1
      have F2 := hid f2
      clear f1 f2
      go_wp2_with fail
      refine (take_any HT2.out (a : Int)).mono ?_
      rintro e w3 ⟨rfl, hbt, ho⟩
      rw [F1.out]
      have HC3 := hid (HC2.out.beside HT2.out hdis.out ho)
      have HB3 := hid (HB2.out.trans (HT2.out.only_below ho HB2.out.size))
      clear hbt ho HC2 HT2 HB2
      go_wp2_with fail
      refine (free_any HC3.out).mono ?_
      rintro e w4 ⟨rfl, hb⟩
      rw [F2.out]
      have HB4 := hid (HB3.out.trans (hb.mono HB3.out.size))
      clear hb
      go_wp2_with fail
      refine (fixed_any w4).mono ?_
      rintro e w5 ⟨rfl, hb⟩
      have HB5 := hid (HB4.out.trans (hb.mono HB4.out.size))
      clear hb
      go_wp2
      go_ret
      exact ⟨rfl, HB5.out⟩
    · obtain ⟨T', hT'⟩ : ∃ T', takeRT T (a : Int) = T' := ⟨_, rfl⟩
      rw [hT'] at i7
      have I3 := hid i3
      have I4 := hid i4
      have I5 := hid i5
      have I6 := hid i6
      have I7 := hid i7
      have I8 := hid i8
      have HTT := hid hT'
      have hX0 : ¬ (X : Int) < 0 := by omega
      have hXk : (X : Int) < (T.length : Int) := by omega
      have hXn : ¬ T.length ≤ X := by omega
      have hXd : decide (T.length ≤ X) = false := by simp; omega
      clear i3 i4 i5 i6 i7 i8 hT'
      go_wp2_with fail
      refine (take_any HT2.out (a : Int)).mono ?_
      rintro e w3 ⟨rfl, hbt, ho⟩
      rw [HTT.out] at hbt
      rw [I4.out, I5.out]
      have HT3 := hid hbt
      have HC3 := hid (HC2.out.beside HT2.out hdis.out ho)
      have HB3 := hid (HB2.out.trans (HT2.out.only_below ho HB2.out.size))
      clear hbt ho HC2 HT2 HB2 HTT
      go_wp2_with fail
      go_loopg [15] i (fun g y wr => ∃ j q : Nat, y = .int .i64 (((a + j) % T.length : Nat) : Int) ∧ g + j = i ∧ wr = w3.drewN q)
      case atStart => exact ⟨0, 0, by rw [Nat.add_zero, Nat.mod_eq_of_lt hak], rfl, rfl⟩
      case round =>
        obtain ⟨j, q, rfl, hgj, hwr⟩ := hrel
        have HTr : Hid (Bt wr W.heap.size p vb T') := by rw [hwr]; exact HT3.out.drewN q
        have HCr : Hid (Bt wr wcs pc vc T) := by rw [hwr]; exact HC3.out.drewN q
        have HBr : Hid (Below W.heap.size W wr) := by rw [hwr]; exact below_dN HB3.out q
        have HG := hid hgj
        have HW := hid hwr
        have hji : j ≤ i := by omega
        clear hgj hwr
        obtain ⟨Y, hY⟩ : ∃ Y : Nat, (a + j) % T.length = Y := ⟨_, rfl⟩
        rw [hY]
        by_cases hj : j < i
        · have hne : ¬ (Y : Int) = (X : Int) := by
            have := I3.out
            rw [mod_two hak i1] at this
            rw [mod_two hak (by omega)] at hY
            split at this <;> split at hY <;> omega
          have hnb : ((Y : Int) != (X : Int)) = true := by simp; omega
          have hIY := hid (show isB T (Y : Int) = true by rw [← hY]; exact I8.out j hj)
          obtain ⟨Z, hZ⟩ : ∃ Z : Nat, (a + (j + 1)) % T.length = Z := ⟨_, rfl⟩
          have hYZ : (Y + 1) % T.length = Z := by rw [← hY, ← hZ, Nat.mod_add_mod, Nat.add_assoc]
          have hZ1 : ((Y : Int) + 1).tmod (T.length : Int) = (Z : Int) := by rw [← hYZ, ← tmod_nat, Int.natCast_add]; rfl
          have hZ2 : ((Y : Int) + 1) % (T.length : Int) = (Z : Int) := by rw [← hYZ, Int.natCast_emod, Int.natCast_add]; rfl
          have hY64 : (Y : Int) ≤ 64 := by have : Y < T.length := by rw [← hY]; exact Nat.mod_lt _ (by omega)
                                           omega
          have HZ := hid hZ
          clear hY hZ hYZ
          go_wp2_with fail
          refine (is_any HCr.out (Y : Int)).mono ?_
          rintro e w4 ⟨rfl, m4, hw4⟩
          rw [hIY.out]
          have HW4 := hid hw4
          clear hw4
          go_wp2_with fail
          have hg := HG.out
          go_roundg (gk - 1)
          case measure => omega
          case rel => exact ⟨j + 1, q + m4, (show Value.int .i64 (Z : Int) = .int .i64 (((a + (j + 1)) % T.length : Nat) : Int) by rw [HZ.out]), by omega, by rw [HW4.out, HW.out, World.drewN_drewN]⟩
        · have hji' : j = i := by omega
          subst hji'
          have hYX : Y = X := by rw [← hY]; exact I3.out
          subst hYX
          clear hY
          go_wp2_with fail
          refine (is_any HCr.out (Y : Int)).mono ?_
          rintro e w4 ⟨rfl, m4, hw4⟩
          rw [I6.out]
          have hb : Below wr.heap.size wr w4 := by rw [hw4]; exact below_dN (Below.refl _ _) m4
          clear hw4
          have HT4 := hid (HTr.out.below_keep hb)
          have HB4 := hid (HBr.out.trans (hb.mono HBr.out.size))
          clear hb
          go_wp2_with fail
          refine (is_any HT4.out (Y : Int)).mono ?_
          rintro e w5 ⟨rfl, m5, hw5⟩
          rw [I7.out]
          have HB5 := hid (show Below W.heap.size W w5 by rw [hw5]; exact below_dN HB4.out m5)
          clear hw5
          go_wp2_with fail
          refine (fixed_any w5).mono ?_
          rintro e w6 ⟨rfl, hb⟩
          have HB6 := hid (HB5.out.trans (hb.mono HB5.out.size))
          clear hb
          go_wp2
          go_ret
          exact ⟨rfl, HB6.out⟩
end bitsFirst
end Go.Proofs.Ytkcfkmmjmgjhgaa
