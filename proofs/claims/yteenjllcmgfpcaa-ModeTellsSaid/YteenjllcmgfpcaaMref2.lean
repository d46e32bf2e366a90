/-
  What the document's functions of modes do, the rest: Covers at every input, both, Join, Above, Name, Parse.
-/
import Derived.Test.YteenjllcmgfpcaaMref
open Go Go.RowKit
namespace Go.Proofs.Yteenjllcmgfpcaa

theorem coversR_any (a b : Int) (W : World) : Calls Try.prog 18 #[.int .i64 a, .int .i64 b] W fun e W' => e = .returned (.bool (covB a b)) ∧ Below W.heap.size W W' := by
  rcases inR_cases a with ⟨a0, a1⟩ | ha
  · rcases inR_cases b with ⟨b0, b1⟩ | hb
    · obtain ⟨A, rfl⟩ : ∃ A : Nat, a = A := ⟨a.toNat, by omega⟩
      obtain ⟨B, rfl⟩ : ∃ B : Nat, b = B := ⟨b.toNat, by omega⟩
      by_cases h6 : B = 6 ∧ A ≠ 6
      · obtain ⟨rfl, hA6⟩ := h6
        have hv : covB A (6 : Nat) = false := by
          rw [cov_bad (by omega) (by omega)]
          simp [hA6]
        rw [hv]
        have hA' : ((A : Int) != 6) = true := by rw [bne_iff_ne]; omega
        clear hv hA6
        go_enter Try.func18, Try.ntmps18
        go_wp2_with (go_at_call 24; ((with_reducible refine (thereR_yes (by omega) (by omega)).mono ?_)); rintro e w' ⟨rfl, rfl⟩)
        go_ret
        exact ⟨rfl, Below.refl _ _⟩
      · exact coversR_in (by omega) (by omega) h6 W
    · rw [cov_no (a := a) (b := b) (.inr (by omega))]
      have HB := hid hb
      clear hb
      go_enter Try.func18, Try.ntmps18
      go_wp2_with (first
        | (go_at_call_of 24 (Value.int IntKind.i64 a); ((with_reducible refine (thereR_yes (by omega) (by omega)).mono ?_)); rintro e w' ⟨rfl, rfl⟩)
        | (go_at_call_of 24 (Value.int IntKind.i64 b); ((with_reducible refine (thereR_no HB.out).mono ?_)); rintro e w' ⟨rfl, rfl⟩))
      go_ret
      exact ⟨rfl, Below.refl _ _⟩
  · rw [cov_no (a := a) (b := b) (.inl (by omega))]
    have HA := hid ha
    clear ha
    go_enter Try.func18, Try.ntmps18
    go_wp2_with (go_at_call 24; ((with_reducible refine (thereR_no HA.out).mono ?_)); rintro e w' ⟨rfl, rfl⟩)
    go_ret
    exact ⟨rfl, Below.refl _ _⟩

def bothB (m a b : Int) : Bool := covB m a && covB m b
theorem both_any (m a b : Int) (W : World) : Calls Try.prog 23 #[.int .i64 m, .int .i64 a, .int .i64 b] W fun e W' => e = .returned (.bool (bothB m a b)) ∧ Below W.heap.size W W' := by
  cases h1 : covB m a with
  | false =>
    rw [show bothB m a b = false by simp [bothB, h1]]
    go_enter Try.func23, Try.ntmps23
    go_wp2_with fail
    refine (coversR_any _ _ _).mono ?_
    rintro e w1 ⟨rfl, hb⟩
    rw [h1]
    have HB := hid hb
    clear hb
    go_wp2
    go_ret
    exact ⟨rfl, HB.out⟩
  | true =>
    rw [show bothB m a b = covB m b by simp [bothB, h1]]
    go_enter Try.func23, Try.ntmps23
    go_wp2_with fail
    refine (coversR_any _ _ _).mono ?_
    rintro e w1 ⟨rfl, hb⟩
    rw [h1]
    have HB := hid hb
    clear hb
    go_wp2_with fail
    refine (coversR_any _ _ _).mono ?_
    rintro e w2 ⟨rfl, hb2⟩
    have HB2 := hid (HB.out.trans (hb2.mono HB.out.size))
    clear hb2
    go_wp2
    go_ret
    exact ⟨rfl, HB2.out⟩

/-- Is m the least one so far? -/
def leastTo (a b m : Int) : Nat → Bool
  | 0 => bothB m a b
  | k + 1 => leastTo a b m k && (!bothB k a b || covB k m)
theorem least_step (a b m : Int) (k : Nat) : leastTo a b m (k + 1) = (leastTo a b m k && (!bothB k a b || covB k m)) := rfl

set_option maxHeartbeats 800000 in
/-- Join's search: zz is the first mode that is least (7: there is none). -/
theorem joinR_core (a b z ev : Int) (zz : Nat) (hzz : zz ≤ 7) (hlt : ∀ m : Nat, m < zz → leastTo a b m 7 = false)
    (hok : (zz < 7 ∧ leastTo a b zz 7 = true ∧ z = zz ∧ ev = 0) ∨ (zz = 7 ∧ z = 0 ∧ ev = 1)) (W : World) :
    Calls Try.prog 10 #[.int .i64 a, .int .i64 b] W fun e W' => e = .returned (.tuple #[.int .i64 z, .int .i64 ev]) ∧ Below W.heap.size W W' := by
  have HOK := hid hok
  have HLT := hid hlt
  clear hok hlt
  go_enter Try.func10, Try.ntmps10
  go_wp2_with fail
  go_loopg [6] 7 (fun g i wr => ∃ k : Nat, i = .int .i64 k ∧ g + k = 7 ∧ k ≤ zz ∧ Below W.heap.size W wr)
  case atStart => exact ⟨0, rfl, rfl, Nat.zero_le _, Below.refl _ _⟩
  case round =>
    obtain ⟨k, rfl, hgk, hkz, hbel⟩ := hrel
    have HG := hid hgk
    have HB := hid hbel
    have hk7 : k ≤ 7 := by omega
    clear hgk hbel
    by_cases hk : k < 7
    · obtain ⟨l0, hl0⟩ : ∃ l0, bothB k a b = l0 := ⟨_, rfl⟩
      have HL0 := hid hl0
      go_wp2_with fail
      refine (both_any _ _ _ _).mono ?_
      rintro e w1 ⟨rfl, hb1⟩
      rw [hl0]
      have HB1 := hbn HB hb1
      clear hb1 hl0
      go_wp2_with fail
      go_loopg [7, 8] 7 (fun g s i wr2 => ∃ j : Nat, ∃ l, i = .int .i64 j ∧ g + j = 7 ∧ leastTo a b k j = l ∧ s = .bool l ∧ Below W.heap.size W wr2)
      case atStart => exact ⟨0, l0, rfl, rfl, HL0.out, rfl, HB1.out⟩
      case round =>
        obtain ⟨j, l, rfl, hgj, hl, rfl, hbel⟩ := hrel
        have HJ := hid hgj
        have HL := hid hl
        have HB2 := hid hbel
        have hj7 : j ≤ 7 := by omega
        clear hgj hbel hl
        by_cases hj : j < 7
        · cases l with
          | false =>
            go_wp2
            have hg := HJ.out
            go_roundg (gk - 1)
            case measure => omega
            case rel => exact ⟨j + 1, false, by go_num, by omega, by rw [least_step, HL.out]; rfl, rfl, HB2.out⟩
          | true =>
            cases h2 : bothB j a b with
            | false =>
              go_wp2_with fail
              refine (both_any _ _ _ _).mono ?_
              rintro e w2 ⟨rfl, hb2⟩
              rw [h2]
              have HB3 := hbn HB2 hb2
              clear hb2
              go_wp2
              have hg := HJ.out
              go_roundg (gk - 1)
              case measure => omega
              case rel => exact ⟨j + 1, true, by go_num, by omega, by rw [least_step, HL.out, h2]; rfl, rfl, HB3.out⟩
            | true =>
              go_wp2_with fail
              refine (both_any _ _ _ _).mono ?_
              rintro e w2 ⟨rfl, hb2⟩
              rw [h2]
              have HB3 := hbn HB2 hb2
              clear hb2
              go_wp2_with fail
              refine (coversR_any _ _ _).mono ?_
              rintro e w3 ⟨rfl, hb3⟩
              have HB4 := hbn HB3 hb3
              clear hb3
              obtain ⟨c, hc⟩ : ∃ c, covB j k = c := ⟨_, rfl⟩
              rw [hc]
              have HC := hid hc
              clear hc
              go_wp2
              have hg := HJ.out
              go_roundg (gk - 1)
              case measure => omega
              case rel => exact ⟨j + 1, c, by go_num, by omega, by rw [least_step, HL.out, h2, HC.out]; cases c <;> rfl, rfl, HB4.out⟩
        · obtain rfl : j = 7 := by omega
          by_cases hkl : k < zz
          · obtain rfl : l = false := by rw [← HL.out]; exact HLT.out k hkl
            go_wp2
            have hg := HG.out
            go_roundg (6 - k)
            case measure => omega
            case rel => exact ⟨k + 1, by go_num, by omega, by omega, HB2.out⟩
          · obtain rfl : k = zz := by omega
            have hh : l = true ∧ z = k ∧ ev = 0 := by
              rcases HOK.out with ⟨_, h1, h2, h3⟩ | ⟨h1, _⟩
              · exact ⟨by rw [← HL.out]; exact h1, h2, h3⟩
              · omega
            obtain ⟨rfl, rfl, rfl⟩ := hh
            go_wp2
            go_ret2
            exact ⟨rfl, HB2.out⟩
    · have hh : z = 0 ∧ ev = 1 := by
        rcases HOK.out with ⟨h0, _⟩ | ⟨_, h1⟩
        · omega
        · exact h1
      obtain ⟨rfl, rfl⟩ := hh
      go_wp2
      go_ret2
      exact ⟨rfl, HB.out⟩

theorem least_ok : ∀ i j : Fin 7, (∀ m : Fin 7, m.val < (joinB i.val j.val).toNat → leastTo i.val j.val (m.val : Int) 7 = false) ∧ leastTo i.val j.val ((joinB i.val j.val).toNat : Int) 7 = true ∧ joinB i.val j.val = ((joinB i.val j.val).toNat : Int) ∧ (joinB i.val j.val).toNat < 7 ∧ errB i.val j.val = 0 := by decide +kernel
theorem least_no {a b m : Int} (h : bothB m a b = false) : ∀ k, leastTo a b m k = false := by
  intro k
  induction k with
  | zero => exact h
  | succ k ih => rw [least_step, ih]; rfl
theorem joinR_any (a b : Int) (W : World) :
    Calls Try.prog 10 #[.int .i64 a, .int .i64 b] W fun e W' => e = .returned (.tuple #[.int .i64 (joinB a b), .int .i64 (errB a b)]) ∧ Below W.heap.size W W' := by
  by_cases hr : (0 ≤ a ∧ a < 7) ∧ (0 ≤ b ∧ b < 7)
  · obtain ⟨⟨a0, a1⟩, b0, b1⟩ := hr
    obtain ⟨i, hi⟩ : ∃ i : Fin 7, a = (i.val : Int) := ⟨⟨a.toNat, by omega⟩, by simp; omega⟩
    obtain ⟨j, hj⟩ : ∃ j : Fin 7, b = (j.val : Int) := ⟨⟨b.toNat, by omega⟩, by simp; omega⟩
    subst hi hj
    obtain ⟨h1, h2, h3, h4, h5⟩ := least_ok i j
    exact joinR_core _ _ _ _ (joinB i.val j.val).toNat (by omega) (fun m hm => h1 ⟨m, by omega⟩ hm) (.inl ⟨h4, h2, h3, h5⟩) W
  · have hb : ∀ m, bothB m a b = false := by
      intro m
      unfold bothB
      by_cases ha : 0 ≤ a ∧ a < 7
      · have hb' : ¬ (0 ≤ b ∧ b < 7) := fun h => hr ⟨ha, h⟩
        rw [cov_no (a := m) (b := b) (.inr hb')]
        simp
      · rw [cov_no (a := m) (b := a) (.inr ha)]
        rfl
    have e0 : (inR a && inR b) = false := by
      by_cases ha : 0 ≤ a ∧ a < 7
      · have hb' : ¬ (0 ≤ b ∧ b < 7) := fun h => hr ⟨ha, h⟩
        rw [inR_no hb']; simp
      · rw [inR_no ha]; rfl
    refine joinR_core _ _ _ _ 7 (Nat.le_refl _) (fun m _ => least_no (hb m) 7) (.inr ⟨rfl, ?_, ?_⟩) W
    · unfold joinB; rw [e0]; rfl
    · unfold errB; rw [e0]; rfl

/-! ### Above, Name, Parse -/
theorem aboveR_any (m : Int) (W : World) :
    Calls Try.prog 12 #[.int .i64 m] W fun e W' => e = .returned (.tuple #[.int .i64 (aboveB m), .int .i64 (aerrB m)]) ∧ Below W.heap.size W W' := by
  rcases inR_cases m with ⟨a0, a1⟩ | ha
  · rw [show aerrB m = 0 by simp [aerrB, inR_yes a0 a1]]
    have hbl := hid (fun o => (Below.refl W.heap.size W).alloc (Nat.le_refl _) o)
    rcases seven a0 a1 with rfl | rfl | rfl | rfl | rfl | rfl | rfl
    all_goals
      go_enter Try.func12, Try.ntmps12
      go_wp2_with (go_at_call 24; ((with_reducible refine (thereR_yes (by omega) (by omega)).mono ?_)); rintro e w' ⟨rfl, rfl⟩)
      go_ret2
      exact ⟨rfl, hbl.out _⟩
  · rw [show aerrB m = 1 by simp [aerrB, inR_no (a := m) (by omega)], show aboveB m = 0 by unfold aboveB; rw [if_neg (by omega), if_neg (by omega)]]
    have HA := hid ha
    clear ha
    go_enter Try.func12, Try.ntmps12
    go_wp2_with (go_at_call 24; ((with_reducible refine (thereR_no HA.out).mono ?_)); rintro e w' ⟨rfl, rfl⟩)
    go_ret2
    exact ⟨rfl, Below.refl _ _⟩

theorem nameR_any (m : Int) (W : World) : Calls Try.prog 20 #[.int .i64 m] W fun e W' => e = .returned (.string (nameB m)) ∧ Below W.heap.size W W' := by
  rcases inR_cases m with ⟨a0, a1⟩ | ha
  · rw [show nameB m = nameS m.toNat by simp [nameB, inR_yes a0 a1]]
    obtain ⟨A, rfl⟩ : ∃ A : Nat, m = A := ⟨m.toNat, by omega⟩
    have hA : A < 7 := by omega
    have hc := names_at hA W
    have hbl := hid (fun o => (Below.refl W.heap.size W).alloc (Nat.le_refl _) o)
    simp only [Int.toNat_natCast]
    generalize nameS A = s at *
    go_enter Try.func20, Try.ntmps20
    go_wp2_with (go_at_call 24; ((with_reducible refine (thereR_yes (by omega) (by omega)).mono ?_)); rintro e w' ⟨rfl, rfl⟩)
    go_ret
    exact ⟨rfl, hbl.out _⟩
  · rw [show nameB m = ⟨#[]⟩ by simp [nameB, inR_no (a := m) (by omega)]]
    have HA := hid ha
    clear ha
    go_enter Try.func20, Try.ntmps20
    go_wp2_with (go_at_call 24; ((with_reducible refine (thereR_no HA.out).mono ?_)); rintro e w' ⟨rfl, rfl⟩)
    go_ret
    exact ⟨rfl, Below.refl _ _⟩

theorem parseR_any (s : ByteArray) (W : World) : Calls Try.prog 14 #[.string s] W fun e W' => e = .returned (.tuple #[.int .i64 (parseB s), .int .i64 (perrB s)]) ∧ Below W.heap.size W W' := by
  obtain ⟨x, hx⟩ : ∃ x, parseB s = x := ⟨_, rfl⟩
  obtain ⟨y, hy⟩ : ∃ y, perrB s = y := ⟨_, rfl⟩
  rw [hx, hy]
  have HX := hid hx
  have HY := hid hy
  clear hx hy
  go_enter Try.func14, Try.ntmps14
  go_wp2_with fail
  go_loopg [4] 7 (fun gg i wr => ∃ k : Nat, i = .int .i64 k ∧ gg + k = 7 ∧ findS s 0 7 = findS s k gg ∧ Below W.heap.size W wr)
  case atStart => exact ⟨0, rfl, rfl, rfl, Below.refl _ _⟩
  case round =>
    obtain ⟨k, rfl, hgk, hf, hbel⟩ := hrel
    have HG := hid hgk
    have HF := hid hf
    have HB := hid hbel
    have hk7 : k ≤ 7 := by omega
    clear hgk hf hbel
    by_cases hk : k < 7
    · obtain ⟨gk, rfl⟩ : ∃ n, gk = n + 1 := ⟨gk - 1, by have := HG.out; omega⟩
      have hn : nameB (k : Int) = nameS k := by simp [nameB, inR_yes (a := (k : Int)) (by omega) (by omega)]
      have HN := hid hn
      clear hn
      cases he : (s.toList == (nameS k).toList) with
      | true =>
        have he2 : ((nameS k).toList == s.toList) = true := by rw [beq_iff_eq] at he ⊢; exact he.symm
        have hv : x = k ∧ y = 0 := by
          have h1 := HF.out
          rw [findS_hit gk he] at h1
          rw [← HX.out, ← HY.out]
          unfold parseB perrB
          rw [h1, if_neg (by omega), if_neg (by omega)]
          exact ⟨rfl, rfl⟩
        obtain ⟨rfl, rfl⟩ := hv
        clear he
        go_wp2_with fail
        refine (nameR_any _ _).mono ?_
        rintro e w1 ⟨rfl, hb1⟩
        rw [HN.out]
        have HB1 := hbn HB hb1
        clear hb1
        generalize nameS k = nm at *
        go_wp2
        go_ret2
        exact ⟨rfl, HB1.out⟩
      | false =>
        have he2 : ((nameS k).toList == s.toList) = false := by rw [beq_eq_false_iff_ne] at he ⊢; exact fun h => he h.symm
        have hm := hid (HF.out.trans (findS_miss gk he))
        clear he
        go_wp2_with fail
        refine (nameR_any _ _).mono ?_
        rintro e w1 ⟨rfl, hb1⟩
        rw [HN.out]
        have HB1 := hbn HB hb1
        clear hb1
        generalize nameS k = nm at *
        go_wp2
        have hg := HG.out
        go_roundg gk
        case measure => omega
        case rel => exact ⟨k + 1, by go_num, by omega, hm.out, HB1.out⟩
    · obtain rfl : k = 7 := by omega
      obtain rfl : gk = 0 := by have := HG.out; omega
      have hv : x = 0 ∧ y = 4 := by
        rw [← HX.out, ← HY.out]
        unfold parseB perrB
        rw [HF.out]
        exact ⟨rfl, rfl⟩
      obtain ⟨rfl, rfl⟩ := hv
      go_wp2
      go_ret2
      exact ⟨rfl, HB.out⟩
end Go.Proofs.Yteenjllcmgfpcaa
