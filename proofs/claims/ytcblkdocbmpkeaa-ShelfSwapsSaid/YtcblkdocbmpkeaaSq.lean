/-
  ShelfSwaps: the walk.
-/
import Derived.Test.YtcblkdocbmpkeaaSs
import Derived.Deep.QuietTactic
open Go Go.RowKit
namespace Go.Proofs.Ytcblkdocbmpkeaa

namespace shelfSwaps
set_option maxRecDepth 100000 in
set_option maxHeartbeats 6400000 in
theorem walk {W : World} {v u : Value} {L : List ByteArray} {P : List (Nat × Nat)} (h : RdS W W.heap.size v L) (hp : RdPr W W.heap.size u P) :
    Calls Try.prog 5 #[v, u] W fun e w' => e = .returned (.bool true) ∧ Below W.heap.size W w' := by
  obtain ⟨la, lc, rfl, hl, hm⟩ := h.shape
  obtain ⟨pa, pc, rfl, hl', hm'⟩ := hp.shape
  have HL := hid h
  have HP := hid hp
  unfold maxLen at hm hm'
  obtain ⟨n, hn⟩ : ∃ n : Nat, n = min P.length 30 := ⟨_, rfl⟩
  have hnP : n ≤ P.length := by omega
  have hn30 : n ≤ 30 := by omega
  have hmin : ∀ (ts : Array TypeId) (t : TypeId) (w : World), (Builtin.min_ ts t #[.int .i64 (P.length : Int), .int .i64 30]).run Try.prog w = .ok (.int .i64 (n : Int)) w := fun ts t w => by
    rw [run_min_int2, hn]
    congr 2
    split <;> omega
  clear h hp hn
  go_enter Try.func5, Try.ntmps5
  go_wp2_with fail
  refine (new_s (8 : Int)).mono ?_
  rintro e w1 hq
  obtain ⟨S, p, mb, vb, rfl, hs, hb⟩ := hq.get (n := 8) (by omega) (by omega)
  have HS1 := hid hs
  have HB1 := hid hb
  have HC1 := hid (show Cyc (tks (List.replicate 8 none)) 8 0 0 by rw [tks_new]; exact cyc_start 8 0)
  clear hq hs hb
  go_wp2_with fail
  go_loopg [7] 8 (fun g i wr => ∃ (j : Nat) (M : Mt), i = .int .i64 j ∧ g + j = 8 ∧ Cyc (tks M) 8 0 j ∧ Sh wr W.heap.size S p mb vb M ∧ Below W.heap.size W wr)
  case atStart => exact ⟨0, _, rfl, rfl, HC1.out, HS1.out, HB1.out⟩
  case round =>
    obtain ⟨j, M, rfl, hgj, hcy, hs, hb⟩ := hrel
    have HG := hid hgj
    have HC := hid hcy
    have HS := hid hs
    have HB := hid hb
    have hj8 : j ≤ 8 := by omega
    clear hgj hcy hs hb HS1 HB1 HC1
    by_cases hj : j < 8
    · obtain ⟨_, _, t3⟩ := cycM HC.out hj
      have HC2 := hid t3
      clear t3
      have hji : (j : Int) < 8 := by omega
      go_wp2_with fail
      refine (take_s HS.out).mono ?_
      rintro e w2 ⟨rfl, hs, ho⟩
      have HS2 := hid hs
      have HB2 := hid (HB.out.trans (HS.out.only_below ho HB.out.size))
      clear hs ho HS HB
      by_cases hjl : j < L.length
      · have hjli : (j : Int) < (L.length : Int) := by omega
        obtain ⟨g, off, rfl, hg, hc⟩ := HL.out.at_ (List.getElem?_eq_getElem hjl)
        generalize L[j] = s at *
        obtain ⟨q, hqd⟩ : ∃ q : Nat, q = (if s.size ≤ 252 then s.size else 252) := ⟨_, rfl⟩
        have hqs : (q : Int) ≤ (s.size : Int) := by rw [hqd]; split <;> omega
        have hq0 : (0 : Int) ≤ (q : Int) := by omega
        have hmin2 : ∀ (ts : Array TypeId) (t : TypeId) (w : World), (Builtin.min_ ts t #[.int .i64 (s.size : Int), .int .i64 252]).run Try.prog w = .ok (.int .i64 (q : Int)) w := fun ts t w => by
          rw [run_min_int2, hqd]
          congr 2
          split <;> split <;> omega
        have hcell := (HB2.out.cell (p := ⟨g, off + j, none⟩) hg).trans hc
        have HWD := hid (write_s (W := w2.drew) (HS2.out.drewN 1) (j : Int) (s.extract 0 q))
        have HBD := hid HB2.out.drew
        have HSD := hid (show Sh w2.drew W.heap.size S p mb vb _ from HS2.out.drewN 1)
        clear hqd hc hjl
        go_wp2
        go_region_held3 (fun w' => w'.cell? ⟨g, off + j, none⟩ = some (.string s))
          (first | go_keep | assumption)
          (first
          | (go_at_call 11; (with_reducible refine HWD.out.mono ?_); rintro e w3 ⟨rfl, hs, ho⟩; have HS3 := hid hs; have HB3 := hid (HBD.out.trans (HSD.out.only_below ho HBD.out.size)); have hS3 := (HB3.out.cell (p := ⟨g, off + j, none⟩) hg).trans ((HB2.out.cell (p := ⟨g, off + j, none⟩) hg).symm.trans hcell); clear hs ho))
        all_goals
          go_wp2
          have hg := HG.out
          go_roundg (gk - 1)
          case measure => omega
          case rel => exact ⟨j + 1, _, by go_num, by omega, by rw [write_tks]; exact HC2.out, HS3.out, HB3.out⟩
      · have hjli : ¬ (j : Int) < (L.length : Int) := by omega
        go_wp2
        have hg := HG.out
        go_roundg (gk - 1)
        case measure => omega
        case rel => exact ⟨j + 1, _, by go_num, by omega, HC2.out, HS2.out, HB2.out⟩
    · have hji : ¬ (j : Int) < 8 := by omega
      have hj8' : j = 8 := by omega
      rw [hj8'] at HC
      have HA := hid (AllM.of_full (cyc_full HC.out (by omega)))
      clear HC hj
      go_wp2_with fail
      refine (copy_s HS.out).mono ?_
      rintro e w2 ⟨S2, p2, mb2, v2, rfl, hc, hb⟩
      have HS2 := hid (HS.out.below hb)
      have HC2 := hid hc
      have HB2 := hid (HB.out.trans (hb.mono HB.out.size))
      obtain ⟨Bw, hBw⟩ : ∃ Bw, Bw = wr.heap.size := ⟨_, rfl⟩
      have HN := hid HS.out.small
      rw [← hBw] at HN HC2
      clear hc hb HS HB hBw
      go_wp2_with fail
      go_loopg [10] n (fun g i wr => ∃ t : Nat, i = .int .i64 t ∧ g + t = n ∧ Sh wr W.heap.size S p mb vb (sts M (P.take t)) ∧ Sh wr Bw S2 p2 mb2 v2 M ∧ Below W.heap.size W wr)
      case atStart => exact ⟨0, rfl, rfl, HS2.out, HC2.out, HB2.out⟩
      case round =>
        obtain ⟨t, rfl, hgt, hs, hc, hb⟩ := hrel
        have HG2 := hid hgt
        have HS := hid hs
        have HC := hid hc
        have HB := hid hb
        have htn : t ≤ n := by omega
        clear hgt hs hc hb HS2 HC2 HB2
        by_cases ht : t < n
        · have hti : (t : Int) < (n : Int) := by omega
          have htP : t < P.length := by omega
          obtain ⟨q, hq⟩ : ∃ q, P[t]? = some q := ⟨_, List.getElem?_eq_getElem htP⟩
          obtain ⟨g, off, rfl, hg, hc0, hc1⟩ := HP.out.at_ hq
          obtain ⟨hq1, hq2⟩ := HP.out.2 q (List.mem_of_getElem? hq)
          have hb1 := and7u ⟨q.1, hq1⟩
          have hb2 := and7u ⟨q.2, hq2⟩
          have HX := hid (sts_take (M := M) hq)
          have HXE := hid (swap_all (sts_all HA.out (P.take t)) (Nat.mod_lt q.1 (show 0 < 8 by omega)) (Nat.mod_lt q.2 (show 0 < 8 by omega))).1
          have hd0 := (HB.out.cell (p := ⟨g, off + t * 2, none⟩) hg).trans hc0
          have hd1 := (HB.out.cell (p := ⟨g, off + t * 2 + 1, none⟩) hg).trans hc1
          simp only at hb1 hb2
          have hq1i : (q.1 : Int) < 256 := by omega
          have hq2i : (q.2 : Int) < 256 := by omega
          have ha8 : q.1 % 8 < 8 := Nat.mod_lt _ (by omega)
          have hb8 : q.2 % 8 < 8 := Nat.mod_lt _ (by omega)
          generalize q.1 % 8 = a at *
          generalize q.2 % 8 = b at *
          generalize q.1 = qa at *
          generalize q.2 = qb at *
          have hai : (a : Int) < 8 := by omega
          have hbi : (b : Int) < 8 := by omega
          have haw : IntKind.i64.wrap (a : Int) = (a : Int) := by rw [IntKind.wrap_i64]; omega
          have hbw : IntKind.i64.wrap (b : Int) = (b : Int) := by rw [IntKind.wrap_i64]; omega
          have htPi : (t : Int) < (P.length : Int) := by omega
          have HWD := hid (swap_s (W := wr.drew) (HS.out.drewN 1) (a : Int) (b : Int))
          have HBD := hid HB.out.drew
          have HSD := hid (show Sh wr.drew W.heap.size S p mb vb _ from HS.out.drewN 1)
          have HCD := hid (show Sh wr.drew Bw S2 p2 mb2 v2 M from HC.out.drewN 1)
          clear hc0 hc1 hq htP ht hq1 hq2 ha8 hb8
          go_wp2
          go_region_held3 (fun w' => w'.cell? ⟨g, off + t * 2, none⟩ = some (.int .u8 (qa : Int)) ∧ w'.cell? ⟨g, off + t * 2 + 1, none⟩ = some (.int .u8 (qb : Int)))
            (first | go_keep | assumption)
            (first
            | (go_at_call 12; (with_reducible refine HWD.out.mono ?_); rintro e w3 ⟨rfl, hs, ho⟩; rw [HXE.out]; have HS3 := hid hs; have HC3 := hid (HCD.out.beside ho HN.out); have HB3 := hid (HBD.out.trans (HSD.out.only_below ho HBD.out.size)); have hS3 := And.intro ((HB3.out.cell (p := ⟨g, off + t * 2, none⟩) hg).trans ((HB.out.cell (p := ⟨g, off + t * 2, none⟩) hg).symm.trans hd0)) ((HB3.out.cell (p := ⟨g, off + t * 2 + 1, none⟩) hg).trans ((HB.out.cell (p := ⟨g, off + t * 2 + 1, none⟩) hg).symm.trans hd1)); clear hs ho))
          all_goals
            go_wp2
            have hg2 := HG2.out
            go_roundg (gk - 1)
            case measure => omega
            case rel => exact ⟨t + 1, by go_num, by omega, by rw [HX.out]; exact HS3.out, HC3.out, HB3.out⟩
        · have hti : ¬ (t : Int) < (n : Int) := by omega
          have htn' : t = n := by omega
          rw [htn'] at HS
          have hnw : IntKind.i64.wrap ((n : Int) - 1) = (n : Int) - 1 := by rw [IntKind.wrap_i64]; omega
          clear ht
          go_wp2_with fail
          go_loopg [11] n (fun g i wr => ∃ t : Nat, i = .int .i64 ((t : Int) - 1) ∧ g = t ∧ t ≤ n ∧ Sh wr W.heap.size S p mb vb (sts M (P.take t)) ∧ Sh wr Bw S2 p2 mb2 v2 M ∧ Below W.heap.size W wr)
          case atStart => exact ⟨n, rfl, rfl, Nat.le_refl _, HS.out, HC.out, HB.out⟩
          case round =>
            obtain ⟨t, rfl, hgt, htn2, hs, hc, hb⟩ := hrel
            have HG3 := hid hgt
            have HS4 := hid hs
            have HC4 := hid hc
            have HB4 := hid hb
            clear hgt hs hc hb
            rcases Nat.eq_zero_or_pos t with h0 | h0
            · subst h0
              have hneg : ¬ (0 : Int) ≤ ((0 : Nat) : Int) - 1 := by omega
              have hM0 := hid (show sts M (P.take 0) = M from rfl)
              rw [hM0.out] at HS4
              go_wp2_with fail
              go_loopg [12] 8 (fun g i wr => ∃ r : Nat, i = .int .i64 r ∧ g + r = 8 ∧ Sh wr W.heap.size S p mb vb M ∧ Sh wr Bw S2 p2 mb2 v2 M ∧ Below W.heap.size W wr)
              case atStart => exact ⟨0, rfl, rfl, HS4.out, HC4.out, HB4.out⟩
              case round =>
                obtain ⟨r, rfl, hgr, hs, hc, hb⟩ := hrel
                have HGR := hid hgr
                have HS5 := hid hs
                have HC5 := hid hc
                have HB5 := hid hb
                have hr8 : r ≤ 8 := by omega
                clear hgr hs hc hb
                by_cases hr : r < 8
                · have hri : (r : Int) < 8 := by omega
                  go_wp2_with fail
                  refine (read_s HS5.out (r : Int)).mono ?_
                  rintro e wa ⟨rfl, hwa⟩
                  rw [hwa]
                  go_wp2_with fail
                  refine (read_s HC5.out (r : Int)).mono ?_
                  rintro e wb ⟨rfl, hwb⟩
                  rw [hwb]
                  generalize readS M (r : Int) = rs at *
                  generalize readE M (r : Int) = re at *
                  have hss : (rs.toList == rs.toList) = true := by simp
                  clear hwa hwb
                  go_wp2_with fail
                  have hg4 := HGR.out
                  go_roundg (gk - 1)
                  case measure => omega
                  case rel => exact ⟨r + 1, by go_num, by omega, HS5.out, HC5.out, HB5.out⟩
                · have hri : ¬ (r : Int) < 8 := by omega
                  clear hr
                  go_wp2_with fail
                  refine (fixed_any _).mono ?_
                  rintro e w6 ⟨rfl, hb⟩
                  have HB6 := hid (HB5.out.trans (hb.mono HB5.out.size))
                  clear hb
                  go_wp2_with fail
                  go_ret
                  exact ⟨rfl, HB6.out⟩
            · obtain ⟨t, rfl⟩ : ∃ t', t = t' + 1 := ⟨t - 1, by omega⟩
              rw [show ((t + 1 : Nat) : Int) - 1 = (t : Int) by omega]
              have htP : t < P.length := by omega
              have htPi : (t : Int) < (P.length : Int) := by omega
              obtain ⟨q, hq⟩ : ∃ q, P[t]? = some q := ⟨_, List.getElem?_eq_getElem htP⟩
              obtain ⟨g, off, rfl, hg, hc0, hc1⟩ := HP.out.at_ hq
              obtain ⟨hq1, hq2⟩ := HP.out.2 q (List.mem_of_getElem? hq)
              have hb1 := and7u ⟨q.1, hq1⟩
              have hb2 := and7u ⟨q.2, hq2⟩
              have hX := sts_take (M := M) hq
              rw [hX] at HS4
              have hN := sts_all HA.out (P.take t)
              have ha8 : q.1 % 8 < 8 := Nat.mod_lt _ (by omega)
              have hb8 : q.2 % 8 < 8 := Nat.mod_lt _ (by omega)
              generalize hNN : sts M (P.take t) = N at *
              have HNN := hid hNN
              have HE1 := hid (swap_all (swap_keeps hN ha8 hb8) hb8 ha8).1
              have HE2 := hid (swap_back hN ha8 hb8)
              have HE3 := hid (swap_all hN ha8 ha8).1
              have HE4 := hid (swap_self hN ha8)
              have hd0 := (HB4.out.cell (p := ⟨g, off + t * 2, none⟩) hg).trans hc0
              have hd1 := (HB4.out.cell (p := ⟨g, off + t * 2 + 1, none⟩) hg).trans hc1
              simp only at hb1 hb2
              have hq1i : (q.1 : Int) < 256 := by omega
              have hq2i : (q.2 : Int) < 256 := by omega
              generalize q.1 % 8 = a at *
              generalize q.2 % 8 = b at *
              generalize q.1 = qa at *
              generalize q.2 = qb at *
              have hai : (a : Int) < 8 := by omega
              have hbi : (b : Int) < 8 := by omega
              have haw : IntKind.i64.wrap (a : Int) = (a : Int) := by rw [IntKind.wrap_i64]; omega
              have hbw : IntKind.i64.wrap (b : Int) = (b : Int) := by rw [IntKind.wrap_i64]; omega
              have hw1 : IntKind.i64.wrap ((t : Int) - 1) = (t : Int) - 1 := by rw [IntKind.wrap_i64]; omega
              have hpos : (0 : Int) ≤ (t : Int) := by omega
              have HWD := hid (swap_s (W := wr.drew) (HS4.out.drewN 1) (b : Int) (a : Int))
              have HBD := hid HB4.out.drew
              have HSD := hid (show Sh wr.drew W.heap.size S p mb vb _ from HS4.out.drewN 1)
              have HCD := hid (show Sh wr.drew Bw S2 p2 mb2 v2 M from HC4.out.drewN 1)
              have HCE := hid (show ∀ w', Below W.heap.size W w' → w'.cell? ⟨g, off + t * 2, none⟩ = some (.int .u8 (qa : Int)) ∧ w'.cell? ⟨g, off + t * 2 + 1, none⟩ = some (.int .u8 (qb : Int)) from fun w' hb' => ⟨(hb'.cell (p := ⟨g, off + t * 2, none⟩) hg).trans hc0, (hb'.cell (p := ⟨g, off + t * 2 + 1, none⟩) hg).trans hc1⟩)
              clear hc0 hc1 hq htP hq1 hq2 ha8 hb8 hX hN hNN h0
              go_wp2
              go_region_held3 (fun w' => w'.cell? ⟨g, off + t * 2, none⟩ = some (.int .u8 (qa : Int)) ∧ w'.cell? ⟨g, off + t * 2 + 1, none⟩ = some (.int .u8 (qb : Int)))
                (first | go_keep | assumption)
                (first
                | (go_at_call 12; (with_reducible refine HWD.out.mono ?_); rintro e w3 ⟨rfl, hs, ho⟩; rw [HE1.out]; rw [HE2.out] at hs; have HS5 := hid hs; have HC5 := hid (HCD.out.beside ho HN.out); have HB5 := hid (HBD.out.trans (HSD.out.only_below ho HBD.out.size)); have hS3 := HCE.out w3 HB5.out; have HWE := hid (swap_s HS5.out (a : Int) (a : Int)); clear hs ho)
                | (go_at_call 12; (with_reducible refine HWE.out.mono ?_); rintro e w4 ⟨rfl, hs, ho⟩; rw [HE3.out]; rw [HE4.out] at hs; have HS6 := hid hs; have HC6 := hid (HC5.out.beside ho HN.out); have HB6 := hid (HB5.out.trans (HS5.out.only_below ho HB5.out.size)); have hS4 := HCE.out w4 HB6.out; clear hs ho))
              all_goals
                go_wp2
                have hg3 := HG3.out
                go_roundg (gk - 1)
                case measure => omega
                case rel => exact ⟨t, by go_num, by omega, by omega, by rw [HNN.out]; exact HS6.out, HC6.out, HB6.out⟩
end shelfSwaps
end Go.Proofs.Ytcblkdocbmpkeaa
