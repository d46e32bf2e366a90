/-
  PlanOnce returns true for every input: the walk.
-/
import Derived.Test.YtgnhfipmeljffaaLti
open Go Go.RowKit
namespace Go.Proofs.Ytgnhfipmeljffaa

theorem replicate_snoc {α : Type} (k : Nat) (x : α) : List.replicate (k + 1) x = List.replicate k x ++ [x] := List.replicate_succ'

namespace planOnce
set_option maxHeartbeats 3200000 in
set_option maxRecDepth 100000 in
theorem walk {W : World} {v : Value} {D : List Int} (h : RdI W W.heap.size v D) :
    Calls Try.prog 6 #[v] W fun e w' => e = .returned (.bool true) ∧ Below W.heap.size W w' := by
  obtain ⟨a, cap, rfl, hl, hm⟩ := h.shape
  have H := hid h
  have H0 := hid (Ints.empty (w := W) (Nat.le_refl _))
  have B0 := hid ((Below.refl W.heap.size W).alloc (Nat.le_refl _) (.cells #[] 3))
  unfold maxLen at hm
  clear h
  go_enter Try.func6, Try.ntmps6
  go_upto_block 0 with fail
  go_cut [3] (fun v wx => ∃ (ad : Addr) (cp : Nat) (E : List Int), v = .slice (some ad) E.length cp ∧ Ints wx W.heap.size v E ∧ Tame E 50 ∧ E.length ≤ 16 ∧ Below W.heap.size W wx)
  case first =>
    go_wp2_with fail
    go_loopg [3, 4] (min D.length 16) (fun g s i wr => ∃ (k : Nat) (ad : Addr) (cp : Nat) (E : List Int), i = .int .i64 k ∧ g + k = min D.length 16 ∧ s = .slice (some ad) k cp ∧ E.length = k ∧ Ints wr W.heap.size s E ∧ Tame E 50 ∧ Below W.heap.size W wr)
    case atStart => exact ⟨0, _, _, [], rfl, rfl, rfl, rfl, H0.out, fun d hd => by simp at hd, B0.out⟩
    case round =>
      obtain ⟨k, ad, cp, E, rfl, hgk, rfl, hE, ho, ht, hb⟩ := hrel
      have HG := hid hgk
      have HO := hid ho
      have HB := hid hb
      have HT := hid ht
      have HE := hid hE
      have hk : k ≤ D.length := by omega
      have hk16 : k ≤ 16 := by omega
      clear hgk ho hb hE ht
      by_cases hlt : k < D.length
      · by_cases h16 : k < 16
        · obtain ⟨g, off, rfl, hg, hc1⟩ := H.out.at_ (List.getElem?_eq_getElem hlt)
          obtain ⟨x, hx⟩ : ∃ x, x = D[k] := ⟨_, rfl⟩
          rw [← hx] at hc1
          have hd1 := (HB.out.cell (p := ⟨g, off + k, none⟩) hg).trans hc1
          have e1 := and255 x
          obtain ⟨y, hy⟩ : ∃ y, (x % 256).tmod 50 = y := ⟨_, rfl⟩
          have hy0 : 0 ≤ y ∧ y < 50 := by
            rw [← hy, Int.tmod_eq_emod_of_nonneg (by omega)]
            omega
          obtain ⟨y0, y1⟩ := hy0
          have e3 : wrap64 (1 + y) = 1 + y := by unfold wrap64; omega
          have hlen := hid (show E.length < 1000000 by have := HE.out; omega)
          have hGW := HB.out.size
          clear hx hc1
          go_wp2_with (at_builtin; go_must (refine wpList_push rfl (.tmp 25) (.tmp 33) rfl W.heap.size (.slice (some ad) k cp) E (1 + y) rfl HO.out rfl hlen.out hGW ?_); intro v2 w2 hown2 honly2)
          have hne : E ++ [1 + y] ≠ [] := by simp
          obtain ⟨g2, cap2, rfl, _⟩ := hown2.form hne
          have hg := HG.out
          have hel := HE.out
          have hb2 := honly2.below HB.out.size (fun x hx e => by have := (HO.out.block e).1; omega)
          go_roundg (gk - 1)
          case measure => omega
          case rel =>
            refine ⟨k + 1, ⟨g2, 0, none⟩, cap2, E ++ [1 + y], by go_num, by omega, by simp [hel], by simp [hel], hown2, fun d hd => ?_, HB.out.trans hb2⟩
            rcases List.mem_append.1 hd with hd | hd
            · exact HT.out d hd
            · simp at hd; subst hd; omega
        · have hk' : k = 16 := by omega
          subst hk'
          go_wp2
          go_meet
          have hE := HE.out
          exact ⟨ad, cp, E, by rw [hE], HO.out, HT.out, by omega, HB.out⟩
      · go_wp2
        go_meet
        have hE := HE.out
        exact ⟨ad, cp, E, by rw [hE], HO.out, HT.out, by omega, HB.out⟩
  case rest =>
    obtain ⟨ad, cp, E, rfl, ho, hT, hE, hb⟩ := hcut
    have hR := hid (once_right hT hE)
    have HO := hid (RdI.of_own ho)
    have HB := hid hb
    have hu := once_units hT hE
    have hr := once_rounds hT hE
    have hsE := hid (show sumW E = E.sum from sumW_eq (hT.mono (by omega)) (by omega))
    have hbd := (hR.out.tame.bound (by omega) (by omega))
    clear ho hb hT
    by_cases h2 : 2 ≤ E.length
    · rw [if_pos h2] at hu hr
      have HU := hid hu
      have HR := hid hr
      clear hu hr
      go_wp2_with fail
      refine (units_any HO.out (by omega) 1000 16).mono ?_
      rintro e w2 hp
      obtain ⟨vu, rfl, hu, hb2⟩ := hp.get (unitsB_right hR.out)
      rw [HU.out] at hu
      obtain ⟨ua, uc, rfl⟩ := hu.shape
      have HB2 := hid (HB.out.trans (hb2.mono HB.out.size))
      have HO2 := hid ((HO.out.below hb2).more hb2.size)
      have HUR := hid (RdU.of_own hu)
      clear hp hu hb2 HB HO
      go_wp2_with fail
      refine (rounds_any HO2.out hR.out).mono ?_
      rintro e w3 hp
      rw [HR.out] at hp
      obtain ⟨vl, rfl, hl3, hb3⟩ := hp
      obtain ⟨la, lc, rfl⟩ := hl3.shape
      have HB3 := hid (HB2.out.trans (hb3.mono HB2.out.size))
      have HO3 := hid ((HO2.out.below hb3).more hb3.size)
      have HU3 := hid ((HUR.out.below hb3).more hb3.size)
      have HL3 := hid (RdI.of_own hl3)
      clear hl3 hb3 HB2 HO2 HUR
      go_wp2_with fail
      refine (Sum_any HL3.out).mono ?_
      rintro e w4 ⟨rfl, rfl⟩
      rw [show sumW [E.sum] = E.sum by unfold sumW wrap64; simp; omega]
      go_wp2_with fail
      refine (Sum_any HO3.out).mono ?_
      rintro e w4 ⟨rfl, rfl⟩
      rw [hsE.out]
      obtain ⟨g1, o1, rfl, _, d1, d2⟩ := HU3.out.at_ (i := 0) (u := (0, (E.length : Int))) rfl
      simp only [Nat.zero_mul, Nat.add_zero] at d1 d2
      have hI : (2 : Int) ≤ (E.length : Int) := by omega
      have H4 := hid (Ints.empty (w := w3) (Nat.le_refl _))
      have B4 := hid (below_alloc w3 (.cells #[] 3))
      go_wp2_with fail
      go_loopg [10, 11] E.length (fun g s i wr => ∃ j : Nat, i = .int .i64 j ∧ g + j = E.length ∧ Ints wr w3.heap.size s (List.replicate j (60 : Int)) ∧ Below w3.heap.size w3 wr)
      case atStart => exact ⟨0, rfl, rfl, H4.out, B4.out⟩
      case round =>
        obtain ⟨j, rfl, hgj, hoj, hbj⟩ := hrel
        have HGJ := hid hgj
        have HOJ := hid hoj
        have HBJ := hid hbj
        have hjl : j ≤ E.length := by omega
        clear hgj hoj hbj
        by_cases hj : j < E.length
        · have hlen := hid (show (List.replicate j (60 : Int)).length < 1000000 by simp; omega)
          go_wp2_with (at_builtin; go_must (refine wpList_push rfl (.tmp 106) (.tmp 107) rfl w3.heap.size u10 (List.replicate j (60 : Int)) 60 rfl HOJ.out rfl hlen.out HBJ.out.size ?_); intro v2 w5 hown2 honly2)
          have hg := HGJ.out
          go_roundg (gk - 1)
          case measure => omega
          case rel => exact ⟨j + 1, by go_num, by omega, by rw [replicate_snoc]; exact hown2, HBJ.out.trans (honly2.below HBJ.out.size (fun x hx e => by have := (HOJ.out.block e).1; omega))⟩
        · have hje : j = E.length := by omega
          have hbr := hid (big_right (n := j) (by omega))
          have hbu := hid (big_units j (List.replicate j (60 : Int)).length 0 (by omega))
          have htb := hid (show tightB 100 (List.replicate j (60 : Int)) = true from tight_of_none hbr.out (List.replicate j (60 : Int)).length 0 (by omega) hbu.out)
          have HBW := hid (HB3.out.trans (HBJ.out.mono HB3.out.size))
          have HRJ := hid (RdI.of_own HOJ.out)
          clear HOJ HBJ hje
          go_wp2_with fail
          refine (units_any HRJ.out (by simp; omega) 100 16).mono ?_
          rintro e w6 hp
          obtain ⟨vu2, rfl, hu2, hb6⟩ := hp.get (unitsB_right hbr.out)
          rw [hbu.out] at hu2
          obtain ⟨ua2, uc2, rfl⟩ := hu2.shape
          have HB6 := hid (HBW.out.trans (hb6.mono HBW.out.size))
          have HR6 := hid ((HRJ.out.below hb6).more hb6.size)
          clear hp hu2 hb6 HBW HRJ
          go_wp2_with fail
          refine (tight_any HR6.out 100).mono ?_
          rintro e w7 ⟨rfl, m7, hw7⟩
          have hb7 : Below w6.heap.size w6 w7 := by rw [hw7]; exact below_drewN (Below.refl _ w6) m7
          clear hw7
          rw [htb.out]
          have HB7 := hid (HB6.out.trans (hb7.mono HB6.out.size))
          clear hb7
          go_wp2_with fail
          refine (fixed_any w7).mono ?_
          rintro e w8 ⟨rfl, hb8⟩
          have HB8 := hid (HB7.out.trans (hb8.mono HB7.out.size))
          clear hb8
          go_wp2
          go_ret
          exact ⟨rfl, HB8.out⟩
    · rw [if_neg h2] at hu hr
      have HU := hid hu
      have HR := hid hr
      clear hu hr
      go_wp2_with fail
      refine (units_any HO.out (by omega) 1000 16).mono ?_
      rintro e w2 hp
      obtain ⟨vu, rfl, hu, hb2⟩ := hp.get (unitsB_right hR.out)
      rw [HU.out] at hu
      obtain ⟨ua, uc, rfl⟩ := hu.shape
      have HB2 := hid (HB.out.trans (hb2.mono HB.out.size))
      have HO2 := hid ((HO.out.below hb2).more hb2.size)
      have HUR := hid (RdU.of_own hu)
      clear hp hu hb2 HB HO
      go_wp2_with fail
      refine (rounds_any HO2.out hR.out).mono ?_
      rintro e w3 hp
      rw [HR.out] at hp
      obtain ⟨vl, rfl, hl3, hb3⟩ := hp
      obtain ⟨la, lc, rfl⟩ := hl3.shape
      have HB3 := hid (HB2.out.trans (hb3.mono HB2.out.size))
      have HO3 := hid ((HO2.out.below hb3).more hb3.size)
      have HU3 := hid ((HUR.out.below hb3).more hb3.size)
      have HL3 := hid (RdI.of_own hl3)
      clear hl3 hb3 HB2 HO2 HUR
      go_wp2_with fail
      refine (Sum_any HL3.out).mono ?_
      rintro e w4 ⟨rfl, rfl⟩
      rw [hsE.out]
      go_wp2_with fail
      refine (Sum_any HO3.out).mono ?_
      rintro e w4 ⟨rfl, rfl⟩
      rw [hsE.out]
      have hI : ¬ (2 : Int) ≤ (E.length : Int) := by omega
      have H4 := hid (Ints.empty (w := w3) (Nat.le_refl _))
      have B4 := hid (below_alloc w3 (.cells #[] 3))
      go_wp2_with fail
      go_loopg [10, 11] E.length (fun g s i wr => ∃ j : Nat, i = .int .i64 j ∧ g + j = E.length ∧ Ints wr w3.heap.size s (List.replicate j (60 : Int)) ∧ Below w3.heap.size w3 wr)
      case atStart => exact ⟨0, rfl, rfl, H4.out, B4.out⟩
      case round =>
        obtain ⟨j, rfl, hgj, hoj, hbj⟩ := hrel
        have HGJ := hid hgj
        have HOJ := hid hoj
        have HBJ := hid hbj
        have hjl : j ≤ E.length := by omega
        clear hgj hoj hbj
        by_cases hj : j < E.length
        · have hlen := hid (show (List.replicate j (60 : Int)).length < 1000000 by simp; omega)
          go_wp2_with (at_builtin; go_must (refine wpList_push rfl (.tmp 106) (.tmp 107) rfl w3.heap.size u10 (List.replicate j (60 : Int)) 60 rfl HOJ.out rfl hlen.out HBJ.out.size ?_); intro v2 w5 hown2 honly2)
          have hg := HGJ.out
          go_roundg (gk - 1)
          case measure => omega
          case rel => exact ⟨j + 1, by go_num, by omega, by rw [replicate_snoc]; exact hown2, HBJ.out.trans (honly2.below HBJ.out.size (fun x hx e => by have := (HOJ.out.block e).1; omega))⟩
        · have hje : j = E.length := by omega
          have hbr := hid (big_right (n := j) (by omega))
          have hbu := hid (big_units j (List.replicate j (60 : Int)).length 0 (by omega))
          have htb := hid (show tightB 100 (List.replicate j (60 : Int)) = true from tight_of_none hbr.out (List.replicate j (60 : Int)).length 0 (by omega) hbu.out)
          have HBW := hid (HB3.out.trans (HBJ.out.mono HB3.out.size))
          have HRJ := hid (RdI.of_own HOJ.out)
          clear HOJ HBJ hje
          go_wp2_with fail
          refine (units_any HRJ.out (by simp; omega) 100 16).mono ?_
          rintro e w6 hp
          obtain ⟨vu2, rfl, hu2, hb6⟩ := hp.get (unitsB_right hbr.out)
          rw [hbu.out] at hu2
          obtain ⟨ua2, uc2, rfl⟩ := hu2.shape
          have HB6 := hid (HBW.out.trans (hb6.mono HBW.out.size))
          have HR6 := hid ((HRJ.out.below hb6).more hb6.size)
          clear hp hu2 hb6 HBW HRJ
          go_wp2_with fail
          refine (fixed_any w6).mono ?_
          rintro e w8 ⟨rfl, hb8⟩
          have HB8 := hid (HB6.out.trans (hb8.mono HB6.out.size))
          clear hb8
          go_wp2
          go_ret
          exact ⟨rfl, HB8.out⟩
end planOnce
end Go.Proofs.Ytgnhfipmeljffaa
