/-
  RateWaits returns true for every input.
-/
import Derived.Test.YtokccncaclphhaaRate
import Derived.Test.YtokccncaclphhaaRow
open Go Go.RowKit Go.Conc
namespace Go.Proofs.Ytokccncaclphhaa.rateWaits

/-- Inside the second loop, so many ticks on. -/
def St2 (W w : World) (b c m : Nat) (wd now all : Int) (P : List Int) (n k : Nat) : Prop :=
  ∃ P', Rate w b c m wd (now + k) all P' ∧ (k < n → P' = P) ∧ (k = n → P'.length < m) ∧ Below W.heap.size W w

set_option maxHeartbeats 400000 in
theorem walk (a0 : Int) (a1 : Int) (a2 : Option Addr) (len2 cap2 : Nat) (z2 : List Int) (w : World) (w0 : (Lit.int .u8 a0).wf = true) (w1 : (Lit.int .u8 a1).wf = true) (w2 : IsRow .u8 w a2 len2 cap2 z2) :
    Calls Try.prog 5 #[.int .u8 a0, .int .u8 a1, .slice a2 len2 cap2] w fun e w' => e = .returned (.bool true) ∧ Below w.heap.size w w' := by
  obtain ⟨p0, p1⟩ := wf_u8 w0
  obtain ⟨q0, q1⟩ := wf_u8 w1
  have hlen := w2.len_le
  obtain ⟨m, hm⟩ : ∃ m : Nat, 1 + a0 % 10 = (m : Int) := ⟨(1 + a0 % 10).toNat, by omega⟩
  have R2 := hid w2
  have HM := hid hm
  have m1 : 1 ≤ m := by omega
  have m2 : m ≤ 10 := by omega
  clear w0 w1 w2 hm
  go_enter Try.func5, Try.ntmps5
  go_wp2_with fail
  refine (rate_new' _ _ m HM.out m1 (by omega) (by omega) (by omega)).mono ?_
  rintro e w1 ⟨b, c, rfl, r1, b1, hbw, hcw⟩
  have H0 : Hid (St w w1 b c m (1 + a1 % 20) 0) := ⟨0, 0, [], r1, by omega, by omega, Pl.good_nil _ _, b1⟩
  clear r1 b1
  go_upto_block 0 with fail
  go_cut [10] (fun _ wx => St w wx b c m (1 + a1 % 20) 100)
  case first =>
    go_wp2_with fail
    go_loopg [10] 100 (fun g i wr => ∃ k : Nat, i = .int .i64 k ∧ g + k = 100 ∧ St w wr b c m (1 + a1 % 20) k)
    case atStart => exact ⟨0, rfl, rfl, H0.out⟩
    case round =>
      obtain ⟨k, rfl, hgk, hst⟩ := hrel
      have HS := hid hst
      have HG := hid hgk
      have hk100 : k ≤ 100 := by omega
      clear hgk hst
      by_cases hl : k < len2
      · by_cases h100 : k < 100
        · obtain ⟨g, off, rfl, hg, hcell, hwf⟩ := R2.out.at_ hl
          obtain ⟨u0, u1⟩ := wf_u8 hwf
          obtain ⟨now, all, P, hr, hnow, hall, hgood, hbel⟩ := HS.out
          have hcw' := (hbel.cell (p := ⟨g, off + k, none⟩) hg).trans hcell
          obtain ⟨z, hz⟩ : ∃ z, z = z2.getD k 0 := ⟨_, rfl⟩
          rw [← hz] at hcw' u0 u1
          have HR := hid hr
          have HB := hid hbel
          have HGd := hid hgood
          clear hcell hwf hz hr hbel hg hgood
          by_cases hz : z % 4 = 0
          · go_wp2_with fail
            refine (rate_tick HR.out (now + 1) _ (by omega) rfl rfl).mono ?_
            rintro e w2 ⟨rfl, hr2, ho2⟩
            have H2 : Hid (St w w2 b c m (1 + a1 % 20) (k + 1)) := ⟨_, _, _, hr2, by omega, by omega, Pl.good_tick HGd.out, below_bc HB.out ho2 hbw hcw⟩
            clear hr2 ho2
            go_wp2
            have hg := HG.out
            go_roundg (gk - 1)
            case measure => omega
            case rel => exact ⟨k + 1, by go_num, by omega, H2.out⟩
          · by_cases hp : P.length < m
            · go_wp2_with fail
              refine (rate_take HR.out (all + 1) _ hp (by omega) rfl rfl).mono ?_
              rintro e w2 ⟨rfl, hr2, ho2⟩
              have H2 : Hid (St w w2 b c m (1 + a1 % 20) (k + 1)) := ⟨_, _, _, hr2, by omega, by omega, Pl.good_take HGd.out (by omega) (fun t ht => (HR.out.2.1 t ht).2), below_bc HB.out ho2 hbw hcw⟩
              clear hr2 ho2
              go_wp2
              have hg := HG.out
              go_roundg (gk - 1)
              case measure => omega
              case rel => exact ⟨k + 1, by go_num, by omega, H2.out⟩
            · have hp2 : P.length = m := by have := HR.out.2.2.2.2.1; omega
              have HP2 := hid hp2
              clear hp2
              go_wp2_with fail
              refine (rate_take_no HR.out HP2.out).mono ?_
              rintro e w2 ⟨rfl, rfl⟩
              have H2 : Hid (St w wr b c m (1 + a1 % 20) (k + 1)) := HS.out.more (by omega)
              go_wp2
              have hg := HG.out
              go_roundg (gk - 1)
              case measure => omega
              case rel => exact ⟨k + 1, by go_num, by omega, H2.out⟩
        · go_wp2
          go_meet
          exact HS.out.more (by omega)
      · go_wp2
        go_meet
        exact HS.out.more (by omega)
  case rest =>
    obtain ⟨now, all, P, hr, hnow, hall, hgood, hbel⟩ := hcut
    have HR := hid hr
    have HB := hid hbel
    have n0 : 0 ≤ now := hr.2.2.2.2.2.2.2.1
    by_cases hp : P.length < m
    · clear hr hbel hgood
      go_wp2_with fail
      refine (rate_wait0 HR.out hp).mono ?_
      rintro e w2 ⟨rfl, rfl⟩
      go_wp2_with fail
      refine (rate_may HR.out true (by simpa using hp)).mono ?_
      rintro e w2 ⟨rfl, rfl⟩
      go_wp2_with fail
      go_loopg [12] 0 (fun g i wr => i = .int .i64 0 ∧ wr = wc)
      case atStart => exact ⟨rfl, rfl⟩
      case round =>
        obtain ⟨rfl, rfl⟩ := hrel
        go_wp2_with fail
        refine (rate_may HR.out true (by simpa using hp)).mono ?_
        rintro e w2 ⟨rfl, rfl⟩
        go_wp2_with fail
        refine (rate_take HR.out (all + 1) _ hp (by omega) rfl rfl).mono ?_
        rintro e w2 ⟨rfl, hr2, ho2⟩
        have H2 := hid (below_bc HB.out ho2 hbw hcw)
        clear hr2 ho2
        go_wp2_with fail
        refine (fixed_any _).mono ?_
        rintro e w3 ⟨rfl, hb3⟩
        have H3 := hid hb3
        clear hb3
        go_wp2
        go_ret
        exact ⟨rfl, H2.out.trans (H3.out.mono H2.out.size)⟩
    · obtain ⟨t, r, hP⟩ : ∃ t r, P = t :: r := by
        cases P with
        | nil => simp at hp; omega
        | cons t r => exact ⟨t, r, rfl⟩
      have ht := hr.2.1 t (by simp [hP])
      have hg := hgood.2 t (by simp [hP])
      have hlen : P.length = m := by have := hr.2.2.2.2.1; omega
      obtain ⟨n, hn⟩ : ∃ n : Nat, t + (1 + a1 % 20) - now = (n : Int) := ⟨(t + (1 + a1 % 20) - now).toNat, by omega⟩
      have n1 : 1 ≤ n := by omega
      have n2 : n ≤ 20 := by omega
      have n3 : (n : Int) ≤ 1 + a1 % 20 := by omega
      have HN := hid hn
      have HL := hid hlen
      have HP := hid hP
      clear hr hbel hgood hp ht hg hn hlen
      subst hP
      go_wp2_with fail
      refine (rate_wait HR.out n HL.out (by omega) HN.out.symm).mono ?_
      rintro e w2 ⟨rfl, hr2, ho2⟩
      have HR2 := hid hr2
      have HB2 := hid (below_bc HB.out ho2 hbw hcw)
      clear hr2 ho2
      have hne : ((n : Int) == 0) = false := by rw [beq_eq_false_iff_ne]; omega
      go_wp2_with fail
      refine (rate_may HR2.out false (by have := HL.out; rw [decide_eq_false_iff_not]; omega)).mono ?_
      rintro e w2' ⟨rfl, rfl⟩
      go_wp2_with fail
      have S0 : Hid (St2 w w2 b c m (1 + a1 % 20) now all (t :: r) n 0) := ⟨t :: r, by simpa using HR2.out, fun _ => rfl, fun h => by omega, HB2.out⟩
      clear hne
      go_loopg [12] n (fun g i wr => ∃ k : Nat, i = .int .i64 k ∧ g + k = n ∧ St2 w wr b c m (1 + a1 % 20) now all (t :: r) n k)
      case atStart => exact ⟨0, rfl, rfl, S0.out⟩
      case round =>
        obtain ⟨k, rfl, hgk, P', hr, hlt, heq, hbel⟩ := hrel
        have HR := hid hr
        have HB := hid hbel
        have HG := hid hgk
        have hkn : k ≤ n := by omega
        clear hgk hbel hr
        by_cases hk : k < n
        · obtain rfl := hlt hk
          clear hlt heq
          have hg := HN.out
          go_wp2_with fail
          refine (rate_may HR.out false (by have := HL.out; rw [decide_eq_false_iff_not]; omega)).mono ?_
          rintro e w' ⟨rfl, rfl⟩
          go_wp2_with fail
          refine (rate_wait HR.out ((n : Int) - k) HL.out (by omega) (by have := HN.out; omega)).mono ?_
          rintro e w3 ⟨rfl, hr3, ho3⟩
          have HR3 := hid hr3
          have HB3 := hid (below_bc HB.out ho3 hbw hcw)
          clear hr3 ho3
          go_wp2_with fail
          refine (rate_tick HR3.out (now + (k + 1 : Nat)) _ (by omega) (by omega) rfl).mono ?_
          rintro e w4 ⟨rfl, hr4, ho4⟩
          have H4 : Hid (St2 w w4 b c m (1 + a1 % 20) now all (t :: r) n (k + 1)) := ⟨_, hr4, fun h => Pl.drops_same (by have := HN.out; omega), fun h => by
            have h1 := Pl.drops_less (lim := now + (k + 1 : Nat) - (1 + a1 % 20)) (t := t) (r := r) (by have := HN.out; omega)
            have h2 := HL.out
            omega, below_bc HB3.out ho4 hbw hcw⟩
          clear hr4 ho4
          go_wp2
          have hg2 := HG.out
          go_roundg (gk - 1)
          case measure => omega
          case rel => exact ⟨k + 1, by go_num, by omega, H4.out⟩
        · obtain rfl : k = n := by omega
          have hp := heq rfl
          clear hlt heq
          go_wp2_with fail
          refine (rate_may HR.out true (by simpa using hp)).mono ?_
          rintro e w' ⟨rfl, rfl⟩
          go_wp2_with fail
          refine (rate_take HR.out (all + 1) _ hp (by omega) rfl rfl).mono ?_
          rintro e w3 ⟨rfl, hr3, ho3⟩
          have H3 := hid (below_bc HB.out ho3 hbw hcw)
          clear hr3 ho3
          go_wp2_with fail
          refine (fixed_any _).mono ?_
          rintro e w4 ⟨rfl, hb4⟩
          have H4 := hid hb4
          clear hb4
          go_wp2
          go_ret
          exact ⟨rfl, H3.out.trans (H4.out.mono H3.out.size)⟩
end Go.Proofs.Ytokccncaclphhaa.rateWaits
