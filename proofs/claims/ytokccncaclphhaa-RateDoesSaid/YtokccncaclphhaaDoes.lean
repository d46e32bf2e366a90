/-
  RateDoes returns true for every input: the walk.
-/
import Derived.Test.YtokccncaclphhaaDoesA
import Derived.Deep.RegionHeld3
open Go Go.RowKit Go.Conc
namespace Go.Proofs.Ytokccncaclphhaa.rateDoes

/-- What the document's Wait tells, of times that are held. -/
theorem wait_is {wd now t : Int} {r T : List Int} {m n : Nat} (hP : t :: r = Pl.alive (now - wd) T) (hs : Pl.Sorted T) (hl : (t :: r).length = m) (hn : t + wd - now = (n : Int)) :
    (∀ i : Nat, i < n → (m : Int) - Pl.count (now + i - wd) T ≤ 0) ∧ 0 < (m : Int) - Pl.count (now + n - wd) T := by
  have hg := Pl.sorted_alive (now - wd) hs
  rw [← hP] at hg
  constructor
  · intro i hi
    have e : Pl.alive (now + i - wd) T = t :: r := by
      rw [← Pl.alive_alive (l := now - wd) (by omega), ← hP, ← Pl.drops_eq _ hg, Pl.drops_same (by omega)]
    have : Pl.count (now + i - wd) T = m := by rw [Pl.count, e]; exact hl
    omega
  · have e : Pl.alive (now + n - wd) T = Pl.drops (now + n - wd) (t :: r) := by
      rw [← Pl.alive_alive (l := now - wd) (by omega), ← hP, ← Pl.drops_eq _ hg]
    have : Pl.count (now + n - wd) T < m := by
      rw [Pl.count, e, ← hl]
      exact Pl.drops_less (by omega)
    omega

set_option linter.unusedVariables false in
set_option maxRecDepth 100000 in
set_option maxHeartbeats 1600000 in
theorem walk (a0 : Int) (a1 : Int) (a2 : Option Addr) (len2 cap2 : Nat) (z2 : List Int) (w : World) (w0 : (Lit.int .i64 a0).wf = true) (w1 : (Lit.int .i64 a1).wf = true) (w2 : IsRow .u8 w a2 len2 cap2 z2) :
    Calls Try.prog 3 #[.int .i64 a0, .int .i64 a1, .slice a2 len2 cap2] w fun e w' => e = .returned (.bool true) ∧ Below w.heap.size w w' := by
  have hlen := w2.len_le
  have R2 := hid w2
  clear w0 w1 w2
  by_cases hbad : a0 < 1 ∨ 1000 < a0 ∨ a1 < 1 ∨ 1000 < a1
  · have HB := hid hbad
    clear hbad
    go_enter Try.func3, Try.ntmps3
    go_wp2_with fail
    refine (new_bad a0 a1 HB.out).mono ?_
    rintro e w' ⟨rfl, rfl⟩
    go_wp2_with fail
    refine (refNew_bad a0 a1 HB.out).mono ?_
    rintro e w' ⟨rfl, rfl⟩
    go_wp2_with fail
    go_loopg [11] 0 (fun g i wr => i = .int .i64 0 ∧ wr = w)
    case atStart => exact ⟨rfl, rfl⟩
    case round =>
      obtain ⟨rfl, rfl⟩ := hrel
      go_wp2_with fail
      refine (fixed_any _).mono ?_
      rintro e w1 ⟨rfl, hb⟩
      go_wp2
      go_ret
      exact ⟨rfl, hb⟩
  · obtain ⟨m, rfl⟩ : ∃ m : Nat, a0 = m := ⟨a0.toNat, by omega⟩
    have m1 : 1 ≤ m := by omega
    have m2 : m ≤ 1000 := by omega
    have v1 : 1 ≤ a1 := by omega
    have v2 : a1 ≤ 1000 := by omega
    clear hbad
    go_enter Try.func3, Try.ntmps3
    go_wp2_with fail
    refine (rate_new' _ a1 m rfl m1 m2 v1 v2).mono ?_
    rintro e w1 ⟨b, c, rfl, r1, b1, hbw, hcw⟩
    have HR1 := hid r1
    have HB1 := hid b1
    clear r1 b1
    go_wp2_with fail
    refine (refNew_ok m a1 w.heap.size (by omega) (by omega) v1 v2).mono ?_
    rintro e w2 ⟨d, rfl, f2, o2, hdw⟩
    have H0 : Hid (StD w w2 b c d m a1 0) := ⟨0, [], .slice none 0 0, [], ⟨HR1.out.keep o2 id id, f2, rfl, trivial, fun x hx => by simp at hx, HB1.out.trans (o2.below HB1.out.size (fun _ _ e => e))⟩, by omega, by simp⟩
    have hdw' : w.heap.size ≤ d := by have := HB1.out.size; omega
    clear f2 o2 hdw HR1 HB1
    go_wp2_with fail
    go_loopg [11] 100 (fun g i wr => ∃ k : Nat, i = .int .i64 k ∧ g + k = 100 ∧ StD w wr b c d m a1 k)
    case atStart => exact ⟨0, rfl, rfl, H0.out⟩
    case round =>
      obtain ⟨k, rfl, hgk, hst⟩ := hrel
      have HS := hid hst
      have HG := hid hgk
      have hk100 : k ≤ 100 := by omega
      clear hgk hst
      by_cases hl : k < len2
      · by_cases h100 : k < 100
        · obtain ⟨g, off, rfl, hg, hcell, hwf⟩ := R2.out.at_ hl
          obtain ⟨u0, u1⟩ := wf_u8 hwf
          obtain ⟨now, P, v, T, H, hnow, hTk⟩ := HS.out
          have hnow0 : 0 ≤ now := H.r.2.2.2.2.2.2.2.1
          have hcw' := (H.bel.cell (p := ⟨g, off + k, none⟩) hg).trans hcell
          obtain ⟨z, hz⟩ : ∃ z, z = z2.getD k 0 := ⟨_, rfl⟩
          rw [← hz] at hcw' hcell u0 u1
          have HT := hid H
          have HC := hid hcell
          clear hcell hwf hz H
          go_upto_if 53 with fail
          go_cut [] (fun wx => StD w wx b c d m a1 (if z % 3 = 0 then k + 1 else k))
          case first =>
            by_cases hz : z % 3 = 0
            · go_wp2_with fail
              refine (rate_tick HT.out.r (now + 1) _ (by omega) rfl rfl).mono ?_
              rintro e w3 ⟨rfl, hr3, ho3⟩
              have H3 := hid (HT.out.tick hbw hcw hdw' hr3 ho3)
              obtain ⟨e0, e1, e2, e3, ez⟩ := (rf_aside HT.out.f HT.out.r ho3).cells
              clear hr3 ho3
              go_wp2
              go_meet
              exact ⟨now + 1, _, v, T, H3.out, by rw [if_pos hz]; omega, by rw [if_pos hz]; omega⟩
            · go_wp2
              go_meet
              exact ⟨now, P, v, T, HT.out, by rw [if_neg hz]; omega, by rw [if_neg hz]; omega⟩
          case rest =>
            obtain ⟨now, P, v, T, H, hnow, hTk⟩ := hcut
            have hnow0 : 0 ≤ now := H.r.2.2.2.2.2.2.2.1
            have hTP : ∀ x ∈ T, 0 ≤ x ∧ x ≤ 1000000 := fun x hx => by have := H.t x hx; split at hnow <;> omega
            have hn100 : now ≤ 100 := by split at hnow <;> omega
            have hT100 : T.length ≤ 100 := by split at hTk <;> omega
            have hcw2 := (H.bel.cell (p := ⟨g, off + k, none⟩) hg).trans HC.out
            have HN := hid hnow
            have HTk := hid hTk
            have H2 := hid H
            have HTP := hid hTP
            clear hcw' HT H hnow hTk hTP
            go_upto_region 11 with fail
            go_cut [76] (fun s wx => s = .bool false ∧ StD w wx b c d m a1 (k + 1))
            case first =>
              by_cases hz : z % 3 = 1
              · have hz0 : ¬ z % 3 = 0 := by omega
                have hc := H2.out.count
                by_cases hp : P.length < m
                · go_wp2_with fail
                  refine (rate_take H2.out.r (T.length + 1 : Nat) _ hp (by omega) (by omega) rfl).mono ?_
                  rintro e w3 ⟨rfl, hr3, ho3⟩
                  have hf3 := rf_aside H2.out.f H2.out.r ho3
                  have HR3 := hid hr3
                  have HO3 := hid ho3
                  have hsz := hid (below_bc H2.out.bel ho3 hbw hcw).size
                  clear hr3 ho3
                  go_wp2_with fail
                  refine (refTake_yes hf3 hsz.out (by omega) (by omega) HTP.out (by omega) (by omega) (by omega) v2 hnow0 (by omega)).mono ?_
                  rintro e w4 ⟨rfl, ⟨v', hf4⟩, ho4⟩
                  have H4 := hid (H2.out.take hbw hcw hdw' HR3.out HO3.out hf4 ho4)
                  clear hf3 hf4 ho4
                  go_wp2
                  go_meet
                  have hN := HN.out
                  have hK := HTk.out
                  rw [if_neg hz0] at hN hK
                  exact ⟨rfl, now, _, v', _, H4.out, by omega, by simp; omega⟩
                · have hpm : P.length = m := by have := H2.out.r.2.2.2.2.1; omega
                  have HPM := hid hpm
                  have HCC := hid hc
                  clear hpm hc
                  go_wp2_with fail
                  refine (rate_take_no H2.out.r HPM.out).mono ?_
                  rintro e w3 ⟨rfl, rfl⟩
                  go_wp2_with fail
                  refine (refTake_no H2.out.f (by have := HPM.out; have := HCC.out; omega) (by omega) HTP.out (by omega) (by omega) (by omega) v2 hnow0 (by omega)).mono ?_
                  rintro e w4 ⟨rfl, n, rfl⟩
                  go_wp2
                  go_meet
                  have hN := HN.out
                  have hK := HTk.out
                  rw [if_neg hz0] at hN hK
                  exact ⟨rfl, now, P, v, T, H2.out.drewN n, by omega, by omega⟩
              · go_wp2
                go_meet
                have hN := HN.out
                have hK := HTk.out
                exact ⟨rfl, now, P, v, T, H2.out, by split at hN <;> omega, by split at hK <;> omega⟩
            case rest =>
              clear H2 HN HTk HTP hcw2
              obtain ⟨rfl, now, P, v, T, H, hnow, hTk⟩ := hcut
              have hnow0 : 0 ≤ now := H.r.2.2.2.2.2.2.2.1
              have hTP : ∀ x ∈ T, 0 ≤ x ∧ x ≤ 1000000 := fun x hx => by have := H.t x hx; omega
              have HTP := hid hTP
              obtain ⟨wo, nq, rfl⟩ : ∃ (wo : World) (nq : Nat), wc = wo.drewN nq := ⟨wc, 0, rfl⟩
              replace H := H.undrewN
              have HT := hid H
              obtain ⟨e0, e1, e2, e3, ez⟩ := H.f.cells
              obtain ⟨av, capv, hv⟩ := H.f.2.shape
              subst hv
              clear hTP
              have hcount := H.count
              have hle := H.r.2.2.2.2.1
              obtain ⟨l, hl⟩ : ∃ l, (m : Int) - P.length = l := ⟨_, rfl⟩
              have HL := hid hl
              have HLC := hid (show (m : Int) - Pl.count (now - a1) T = l by rw [hcount]; exact hl)
              go_wp2_with fail
              go_cut [115] (fun s wx => s = .bool false ∧ StD w wx b c d m a1 (k + 1))
              case first =>
                by_cases hp : P.length < m
                · have hl0 : 0 < l := by omega
                  have HW := hid (show 0 < (m : Int) - Pl.count (now + (0 : Nat) - a1) T by simpa using by rw [hcount]; omega)
                  clear H hl hcount hle
                  go_region_held3 (fun w' => w'.cell? ⟨d, 2, none⟩ = some (.int .i64 now) ∧ w'.cell? ⟨d, 3, none⟩ = some (.slice av T.length capv))
                    (first | go_keep)
                    (first
                    | (go_at_call 12; ((with_reducible refine (rate_left (HT.out.r.drewN _) l HL.out.symm).mono ?_)); rintro e w' ⟨rfl, rfl⟩)
                    | (go_at_call 13; ((with_reducible refine (refLeft_any (HT.out.f.drewN _) l HLC.out (by omega) HTP.out (by omega) (by omega) (by omega) v2 hnow0 (by omega)).mono ?_)); rintro e w' ⟨rfl, nd, rfl⟩)
                    | (go_at_call 14; ((with_reducible refine (rate_may (HT.out.r.drewN _) true (by simpa using hp)).mono ?_)); rintro e w' ⟨rfl, rfl⟩)
                    | (go_at_call 15; ((with_reducible refine (rate_wait0 (HT.out.r.drewN _) hp).mono ?_)); rintro e w' ⟨rfl, rfl⟩)
                    | (go_at_call 16; ((with_reducible refine (refWait_any (HT.out.f.drewN _) 0 (fun n hn => absurd hn (Nat.not_lt_zero n)) HW.out (by omega) HTP.out (by omega) (by omega) (by omega) v2 hnow0 (by omega) (by omega)).mono ?_)); rintro e w' ⟨rfl, nd, rfl⟩)
                    | (go_at_call 17; ((with_reducible refine (rate_now (HT.out.r.drewN _)).mono ?_)); rintro e w' ⟨rfl, rfl⟩)
                    | (go_at_call 18; ((with_reducible refine (rate_all (HT.out.r.drewN _)).mono ?_)); rintro e w' ⟨rfl, rfl⟩))
                  all_goals (go_wp2_with fail; go_meet; exact ⟨rfl, now, P, _, T, HT.out.drewN _, by omega, by omega⟩)
                · obtain rfl : l = 0 := by omega
                  obtain ⟨t, r, hP⟩ : ∃ t r, P = t :: r := by
                    cases P with
                    | nil => simp at hp; omega
                    | cons t r => exact ⟨t, r, rfl⟩
                  subst hP
                  have hlen : (t :: r).length = m := by omega
                  have hmem : t ∈ T ∧ now - a1 < t := Pl.alive_mem (by rw [← H.p]; simp)
                  have ht := H.t t hmem.1
                  obtain ⟨n, hn⟩ : ∃ n : Nat, t + a1 - now = (n : Int) := ⟨(t + a1 - now).toNat, by omega⟩
                  have n1000 : n ≤ 1000 := by omega
                  have HW := hid (wait_is H.p H.s hlen hn)
                  have HLN := hid hlen
                  have HNX := hid hn
                  clear H hl hcount hle hlen hmem ht hn hp
                  go_region_held3 (fun w' => w'.cell? ⟨d, 2, none⟩ = some (.int .i64 now) ∧ w'.cell? ⟨d, 3, none⟩ = some (.slice av T.length capv))
                    (first | go_keep | exact ⟨f2, f3⟩)
                    (first
                    | (go_at_call 12; ((with_reducible refine (rate_left (HT.out.r.drewN _) 0 HL.out.symm).mono ?_)); rintro e w' ⟨rfl, rfl⟩)
                    | (go_at_call 13; ((with_reducible refine (refLeft_any (HT.out.f.drewN _) 0 HLC.out (by omega) HTP.out (by omega) (by omega) (by omega) v2 hnow0 (by omega)).mono ?_)); rintro e w' ⟨rfl, nd, rfl⟩)
                    | (go_at_call 14; ((with_reducible refine (rate_may (HT.out.r.drewN _) false (by have := HLN.out; rw [decide_eq_false_iff_not]; omega)).mono ?_)); rintro e w' ⟨rfl, rfl⟩)
                    | (go_at_call 15; ((with_reducible refine (rate_wait (HT.out.r.drewN _) n HLN.out (by omega) HNX.out.symm).mono ?_)); rintro e w5 ⟨rfl, hr5, ho5⟩; have H5 := hid ((HT.out.drewN _).waited hbw hcw hr5 ho5); obtain ⟨f0, f1, f2, f3, fz⟩ := H5.out.f.cells; clear hr5 ho5)
                    | (go_at_call 16; ((with_reducible refine (refWait_any H5.out.f n HW.out.1 HW.out.2 (by omega) HTP.out (by omega) (by omega) (by omega) v2 hnow0 (by omega) n1000).mono ?_)); rintro e w' ⟨rfl, nd, rfl⟩)
                    | (go_at_call 17; ((with_reducible refine (rate_now (H5.out.r.drewN _)).mono ?_)); rintro e w' ⟨rfl, rfl⟩)
                    | (go_at_call 18; ((with_reducible refine (rate_all (H5.out.r.drewN _)).mono ?_)); rintro e w' ⟨rfl, rfl⟩))
                  all_goals (go_wp2_with fail; go_meet; exact ⟨rfl, now, t :: r, _, T, H5.out.drewN _, by omega, by omega⟩)
              case rest =>
                obtain ⟨rfl, hst⟩ := hcut
                go_wp2
                have hg2 := HG.out
                go_roundg (gk - 1)
                case measure => omega
                case rel => exact ⟨k + 1, by go_num, by omega, hst⟩
        · go_wp2_with fail
          refine (fixed_any _).mono ?_
          rintro e w1 ⟨rfl, hb⟩
          obtain ⟨now, P, v, T, H, _⟩ := HS.out
          have HB := hid (H.bel.trans (hb.mono H.bel.size))
          clear hb H
          go_wp2
          go_ret
          exact ⟨rfl, HB.out⟩
      · go_wp2_with fail
        refine (fixed_any _).mono ?_
        rintro e w1 ⟨rfl, hb⟩
        obtain ⟨now, P, v, T, H, _⟩ := HS.out
        have HB := hid (H.bel.trans (hb.mono H.bel.size))
        clear hb H
        go_wp2
        go_ret
        exact ⟨rfl, HB.out⟩
end Go.Proofs.Ytokccncaclphhaa.rateDoes
