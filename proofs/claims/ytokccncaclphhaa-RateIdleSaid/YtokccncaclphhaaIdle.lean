/-
  RateIdle returns true for every input.
-/
import Derived.Test.YtokccncaclphhaaRate
import Derived.Test.YtokccncaclphhaaRow
open Go Go.RowKit Go.Conc
namespace Go.Proofs.Ytokccncaclphhaa.rateIdle

/-- In the second loop, so many ticks on: what is held was done ahead of them. -/
def StA (W w : World) (b c m : Nat) (wd now all : Int) (k : Nat) : Prop :=
  ∃ P, Rate w b c m wd (now + k) all P ∧ Pl.Good wd (now + k) P ∧ (∀ t ∈ P, t ≤ now) ∧ Below W.heap.size W w
/-- In the third loop, so many things on. -/
def StB (W w : World) (b c m : Nat) (wd now all : Int) (k : Nat) : Prop :=
  ∃ P, Rate w b c m wd now (all + k) P ∧ P.length = k ∧ (∀ t ∈ P, t = now) ∧ Below W.heap.size W w

set_option maxHeartbeats 400000 in
theorem walk (a0 : Int) (a1 : Int) (a2 : Option Addr) (len2 cap2 : Nat) (z2 : List Int) (w : World) (w0 : (Lit.int .u8 a0).wf = true) (w1 : (Lit.int .u8 a1).wf = true) (w2 : IsRow .u8 w a2 len2 cap2 z2) :
    Calls Try.prog 6 #[.int .u8 a0, .int .u8 a1, .slice a2 len2 cap2] w fun e w' => e = .returned (.bool true) ∧ Below w.heap.size w w' := by
  obtain ⟨p0, p1⟩ := wf_u8 w0
  obtain ⟨q0, q1⟩ := wf_u8 w1
  have hlen := w2.len_le
  obtain ⟨m, hm⟩ : ∃ m : Nat, 1 + a0 % 20 = (m : Int) := ⟨(1 + a0 % 20).toNat, by omega⟩
  have R2 := hid w2
  have HM := hid hm
  have m1 : 1 ≤ m := by omega
  have m2 : m ≤ 20 := by omega
  clear w0 w1 w2 hm
  go_enter Try.func6, Try.ntmps6
  go_wp2_with fail
  refine (rate_new' _ _ m HM.out m1 (by omega) (by omega) (by omega)).mono ?_
  rintro e w1 ⟨b, c, rfl, r1, b1, hbw, hcw⟩
  have H0 : Hid (St w w1 b c m (1 + a1 % 20) 0) := ⟨0, 0, [], r1, by omega, by omega, Pl.good_nil _ _, b1⟩
  clear r1 b1
  go_upto_block 0 with fail
  go_cut [11] (fun _ wx => St w wx b c m (1 + a1 % 20) 100)
  case first =>
    go_wp2_with fail
    go_loopg [11] 100 (fun g i wr => ∃ k : Nat, i = .int .i64 k ∧ g + k = 100 ∧ St w wr b c m (1 + a1 % 20) k)
    case atStart => exact ⟨0, rfl, rfl, H0.out⟩
    case round =>
      obtain ⟨k, rfl, hgk, hst⟩ := hrel
      have HS := hid hst
      have HG := hid hgk
      have hk100 : k ≤ 100 := by omega
      clear hgk hst
      by_cases hl : k < len2
      · by_cases h100 : k < 100
        · obtain ⟨g, off, rfl, hg, hcell, hwf⟩ := R2.out.at_ hl
          obtain ⟨u0, u1⟩ := wf_u8 hwf
          obtain ⟨now, all, P, hr, hnow, hall, hgood, hbel⟩ := HS.out
          have hcw' := (hbel.cell (p := ⟨g, off + k, none⟩) hg).trans hcell
          obtain ⟨z, hz⟩ : ∃ z, z = z2.getD k 0 := ⟨_, rfl⟩
          rw [← hz] at hcw' u0 u1
          have HR := hid hr
          have HB := hid hbel
          have HGd := hid hgood
          clear hcell hwf hz hr hbel hg hgood
          by_cases hz : z % 3 = 0
          · go_wp2_with fail
            refine (rate_tick HR.out (now + 1) _ (by omega) rfl rfl).mono ?_
            rintro e w2 ⟨rfl, hr2, ho2⟩
            have H2 : Hid (St w w2 b c m (1 + a1 % 20) (k + 1)) := ⟨_, _, _, hr2, by omega, by omega, Pl.good_tick HGd.out, below_bc HB.out ho2 hbw hcw⟩
            clear hr2 ho2
            go_wp2
            have hg := HG.out
            go_roundg (gk - 1)
            case measure => omega
            case rel => exact ⟨k + 1, by go_num, by omega, H2.out⟩
          · by_cases hp : P.length < m
            · go_wp2_with fail
              refine (rate_take HR.out (all + 1) _ hp (by omega) rfl rfl).mono ?_
              rintro e w2 ⟨rfl, hr2, ho2⟩
              have H2 : Hid (St w w2 b c m (1 + a1 % 20) (k + 1)) := ⟨_, _, _, hr2, by omega, by omega, Pl.good_take HGd.out (by omega) (fun t ht => (HR.out.2.1 t ht).2), below_bc HB.out ho2 hbw hcw⟩
              clear hr2 ho2
              go_wp2
              have hg := HG.out
              go_roundg (gk - 1)
              case measure => omega
              case rel => exact ⟨k + 1, by go_num, by omega, H2.out⟩
            · have hp2 : P.length = m := by have := HR.out.2.2.2.2.1; omega
              have HP2 := hid hp2
              clear hp2
              go_wp2_with fail
              refine (rate_take_no HR.out HP2.out).mono ?_
              rintro e w2 ⟨rfl, rfl⟩
              have H2 : Hid (St w wr b c m (1 + a1 % 20) (k + 1)) := HS.out.more (by omega)
              go_wp2
              have hg := HG.out
              go_roundg (gk - 1)
              case measure => omega
              case rel => exact ⟨k + 1, by go_num, by omega, H2.out⟩
        · go_wp2
          go_meet
          exact HS.out.more (by omega)
      · go_wp2
        go_meet
        exact HS.out.more (by omega)
  case rest =>
    obtain ⟨now, all, P, hr, hnow, hall, hgood, hbel⟩ := hcut
    have n0 : 0 ≤ now := hr.2.2.2.2.2.2.2.1
    have a00 : 0 ≤ all := hr.2.2.2.2.2.2.2.2
    obtain ⟨n, hn⟩ : ∃ n : Nat, 1 + a1 % 20 = (n : Int) := ⟨(1 + a1 % 20).toNat, by omega⟩
    have n1 : 1 ≤ n := by omega
    have n2 : n ≤ 20 := by omega
    have HN := hid hn
    have HR := hid hr
    have S0 : Hid (StA w wc b c m (1 + a1 % 20) now all 0) := ⟨P, by simpa using hr, by simpa using hgood, fun t ht => (hr.2.1 t ht).2, hbel⟩
    clear hr hgood hbel hn
    go_wp2_with fail
    refine (rate_all HR.out).mono ?_
    rintro e w2 ⟨rfl, rfl⟩
    clear HR
    go_wp2_with fail
    go_loopg [13] n (fun g i wr => ∃ k : Nat, i = .int .i64 k ∧ g + k = n ∧ StA w wr b c m (1 + a1 % 20) now all k)
    case atStart => exact ⟨0, rfl, rfl, S0.out⟩
    case round =>
      obtain ⟨k, rfl, hgk, P', hr, hgood, hle, hbel⟩ := hrel
      have HR := hid hr
      have HG := hid hgk
      have HB := hid hbel
      have HGd := hid hgood
      have HL := hid hle
      have hkn : k ≤ n := by omega
      clear hr hgk hbel hgood hle
      by_cases hk : k < n
      · have hk' : (k : Int) < 1 + a1 % 20 := by have := HN.out; omega
        go_wp2_with fail
        refine (rate_tick HR.out (now + (k + 1 : Nat)) _ (by omega) (by omega) rfl).mono ?_
        rintro e w4 ⟨rfl, hr4, ho4⟩
        have e4 : now + (k + 1 : Nat) = now + k + 1 := by omega
        have H4 : Hid (StA w w4 b c m (1 + a1 % 20) now all (k + 1)) := ⟨_, hr4, by rw [e4]; exact Pl.good_tick HGd.out, fun t ht => HL.out t (Pl.drops_mem ht), below_bc HB.out ho4 hbw hcw⟩
        clear hr4 ho4 e4
        go_wp2
        have hg2 := HG.out
        go_roundg (gk - 1)
        case measure => omega
        case rel => exact ⟨k + 1, by go_num, by omega, H4.out⟩
      · obtain rfl : k = n := by omega
        have hk' : ¬ (k : Int) < 1 + a1 % 20 := by have := HN.out; omega
        have hP : P' = [] := by
          cases P' with
          | nil => rfl
          | cons t r =>
            have h1 := HGd.out.2 t (by simp)
            have h2 := HL.out t (by simp)
            have h3 := HN.out
            omega
        have S1 : Hid (StB w wr b c m (1 + a1 % 20) (now + k) all 0) := ⟨[], by have := HR.out; rw [hP] at this; simpa using this, rfl, fun t ht => by simp at ht, HB.out⟩
        clear HR HG HGd HL hP HB
        go_wp2_with fail
        go_loopg [14] m (fun g i wr => ∃ k' : Nat, i = .int .i64 k' ∧ g + k' = m ∧ StB w wr b c m (1 + a1 % 20) (now + k) all k')
        case atStart => exact ⟨0, rfl, rfl, S1.out⟩
        case round =>
          obtain ⟨j, rfl, hgj, P, hr, hlen, heq, hbel⟩ := hrel
          have HR := hid hr
          have HG := hid hgj
          have HB := hid hbel
          have HL := hid hlen
          have HE := hid heq
          have hjm : j ≤ m := by omega
          clear hr hgj hbel hlen heq
          by_cases hj : j < m
          · have hj' : (j : Int) < 1 + a0 % 20 := by have := HM.out; omega
            go_wp2_with fail
            refine (rate_left HR.out ((1 + a0 % 20) - j) (by have := HM.out; have := HL.out; omega)).mono ?_
            rintro e w5 ⟨rfl, rfl⟩
            go_wp2_with fail
            refine (rate_take HR.out (all + (j + 1 : Nat)) _ (by have := HL.out; omega) (by omega) (by omega) rfl).mono ?_
            rintro e w5 ⟨rfl, hr5, ho5⟩
            have H5 : Hid (StB w w5 b c m (1 + a1 % 20) (now + k) all (j + 1)) := ⟨_, hr5, by have := HL.out; simp; omega, fun t ht => by
              simp at ht
              rcases ht with ht | ht
              · exact HE.out t ht
              · exact ht, below_bc HB.out ho5 hbw hcw⟩
            clear hr5 ho5
            go_wp2
            have hg2 := HG.out
            go_roundg (gk - 1)
            case measure => omega
            case rel => exact ⟨j + 1, by go_num, by omega, H5.out⟩
          · obtain rfl : j = m := by omega
            have hj' : ¬ (j : Int) < 1 + a0 % 20 := by have := HM.out; omega
            obtain ⟨t, r, hP⟩ : ∃ t r, P = t :: r := by
              cases P with
              | nil => have := HL.out; simp at this; omega
              | cons t r => exact ⟨t, r, rfl⟩
            subst hP
            go_wp2_with fail
            refine (rate_take_no HR.out HL.out).mono ?_
            rintro e w5 ⟨rfl, rfl⟩
            go_wp2_with fail
            refine (rate_all' HR.out (all + (1 + a0 % 20)) (by have := HM.out; omega)).mono ?_
            rintro e w5 ⟨rfl, rfl⟩
            go_wp2_with fail
            refine (rate_wait HR.out (1 + a1 % 20) HL.out (by omega) (by have := HE.out t (by simp); omega)).mono ?_
            rintro e w5 ⟨rfl, hr5, ho5⟩
            have H5 := hid (below_bc HB.out ho5 hbw hcw)
            clear hr5 ho5
            go_wp2_with fail
            refine (fixed_any _).mono ?_
            rintro e w6 ⟨rfl, hb6⟩
            have H6 := hid hb6
            clear hb6
            go_wp2
            go_ret
            exact ⟨rfl, H5.out.trans (H6.out.mono H5.out.size)⟩
end Go.Proofs.Ytokccncaclphhaa.rateIdle
