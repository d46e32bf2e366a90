/-
  BuildWhole: the walk of the law.
-/
import Derived.Test.YtfoidiebdklggaaWl
open Go Go.RowKit
namespace Go.Proofs.Ytfoidiebdklggaa

/-- Where all kids of a row lie. -/
theorem RdK.whole {w : World} {B n c : Nat} {a : Option Addr} {K : List Kid} (h : RdK w B (.slice a n c) K) (h1 : 1 ≤ K.length) :
    ∃ g off, a = some ⟨g, off, none⟩ ∧ g < B ∧ ∀ i, i < K.length → w.cell? ⟨g, off + i * 2, none⟩ = some (.string (lowAt K i)) ∧ w.cell? ⟨g, off + i * 2 + 1, none⟩ = some (.int .i64 (pageAt K i)) := by
  obtain ⟨g, off, rfl, hg, _⟩ := h.at_ (kid_at (show 0 < K.length by omega))
  refine ⟨g, off, rfl, hg, fun i hi => ?_⟩
  obtain ⟨g', off', e, _, c1, c2⟩ := h.at_ (kid_at hi)
  simp only [Option.some.injEq, Addr.mk.injEq] at e
  obtain ⟨rfl, rfl, _⟩ := e
  exact ⟨c1, c2⟩
namespace buildWhole

set_option maxHeartbeats 6400000 in
set_option maxRecDepth 100000 in
theorem walk0 (fx : ∀ W : World, Calls Try.prog 20 #[] W fun e W' => e = .returned (.bool true) ∧ Below W.heap.size W W') {W : World} {v : Value} {K : List Kid} (h : RdK W W.heap.size v K) (most base : Int) :
    Calls Try.prog 6 #[v, .int .i64 most, .int .i64 base] W fun e w' => e = .returned (.bool true) ∧ Below W.heap.size W w' := by
  have FX := hid fx
  have HK := hid h
  have e2 := and255 most
  have e3 := and255 base
  obtain ⟨b, hb, hb2⟩ := nat_of most 12 (by decide) 256 (by decide)
  obtain ⟨p, hp⟩ : ∃ p : Nat, base % 256 = (p : Int) := ⟨(base % 256).toNat, by omega⟩
  have hp255 : p ≤ 255 := by omega
  have hp255i : (p : Int) ≤ 255 := by omega
  obtain ⟨m, hm⟩ : ∃ m : Nat, 2 + b = m := ⟨_, rfl⟩
  have hm1 : 2 + (b : Int) = (m : Int) := by omega
  have hma1 : 2 ≤ m := by omega
  have hma2 : m ≤ 13 := by omega
  clear fx h hm
  go_enter Try.func6, Try.ntmps6
  go_wp2_with fail
  refine (cut_any HK.out).mono ?_
  rintro e w1 ⟨v1, rfl, ho1, hb1⟩
  obtain ⟨a1, c1, rfl⟩ := ho1.shape
  rw [List.length_map] at ho1 ⊢
  have hL60 := cutK_len K
  generalize cutK K = L at *
  have HB1 := hid hb1
  have HO1 := hid ho1
  clear ho1 hb1 HK
  go_wp2_with fail
  refine (right_any (RdK.own HO1.out)).mono ?_
  rintro e w2 ⟨rfl, hb⟩
  have HO2 := hid (HO1.out.below hb)
  have HB2 := hid (HB1.out.trans (hb.mono HB1.out.size))
  clear hb HO1 HB1
  cases hR : rightB L with
  | false =>
    go_wp2_with fail
    refine (FX.out w2).mono ?_
    rintro e w3 ⟨rfl, hb⟩
    have HBE := hid (HB2.out.trans (hb.mono HB2.out.size))
    clear hb
    go_wp2_with fail
    go_ret
    exact ⟨rfl, HBE.out⟩
  | true =>
    have HR := hid hR
    have hL1 := (right_parts hR).1
    have hq1 := manyL_pos (n := L.length) (m := m) hL1 (by omega)
    have hqL := manyL_le (n := L.length) (m := m) (by omega)
    clear hR
    go_wp2_with fail
    refine (groups_any (L.length : Int) (m : Int)).mono ?_
    rintro e w3 hgp
    obtain ⟨v, rfl, hv, hb⟩ := hgp.get ⟨hL1, by omega⟩ ⟨hma1, hma2⟩
    rw [groups_cast] at hv
    obtain ⟨gb, gc, rfl, hgb, hgs⟩ := hv.form (by intro e; have := congrArg List.length e; simp [groupsN_len] at this; omega)
    rw [List.length_map, groupsN_len] at hv ⊢
    have HV := hid hv
    have HO3 := hid (HO2.out.below hb)
    have HB3 := hid (HB2.out.trans (hb.mono HB2.out.size))
    have HCG := hid (fun i (hi : i < manyL L.length m) => show w3.cell? ⟨gb, i, none⟩ = some (.int .i64 (gN L.length m i : Nat)) from Ints.cell HV.out (by rw [List.getElem?_map, groupsN_at hi]; rfl))
    clear hgp hv hb HO2 HB2
    have HCAN := hid (can_whole (b := p) HR.out ⟨hma1, hma2⟩ hL60 hp255)
    have HUR := hid (up_right (b := p) HR.out ⟨hma1, hma2⟩ hL60 hp255)
    have HPG := hid (fun j (hj : j < manyL L.length m) => whole_pg (L := L) (m := m) hj (pgs p (manyL L.length m)))
    have HATS := hid (fun j (hj : j < manyL L.length m) => atG_succ hj)
    have HATL := hid (fun j (hj : j < manyL L.length m) => atG_le hL1 (show 1 ≤ m by omega) hj)
    have HATA := hid (atG_all hL1 (show 1 ≤ m by omega))
    have HGN := hid (fun j (hj : j < manyL L.length m) => groupsN_at (k := L.length) (m := m) hj)
    have HGX := hid (fun j (hj : j < manyL L.length m) => (gN_facts hL1 hma1 hj).2.1)
    have HUL := hid (fun j (hj : j < manyL L.length m) => up_low (L := L) (m := m) hj (pgs p (manyL L.length m)))
    have HUP := hid (fun j (hj : j < manyL L.length m) => up_page (L := L) (m := m) hj (pgs p (manyL L.length m)))
    have HIL := hid (show (lvL (pgs p (manyL L.length m)) 0 (groupsN L.length m) L).length = manyL L.length m by rw [lvL_len, groupsN_len])
    have HUI := hid (show (upL (pgs p (manyL L.length m)) 0 (groupsN L.length m) L).length = manyL L.length m by rw [upL_len, groupsN_len])
    have HLV := hid (show lvR L (m : Int) (pgs p (manyL L.length m)) = lvL (pgs p (manyL L.length m)) 0 (groupsN L.length m) L by unfold lvR; rw [if_pos HCAN.out, Int.toNat_natCast])
    have HUV := hid (show upR L (m : Int) (pgs p (manyL L.length m)) = upL (pgs p (manyL L.length m)) 0 (groupsN L.length m) L by unfold upR; rw [if_pos HCAN.out, Int.toNat_natCast])
    have HEC := hid (show ecR L (m : Int) (pgs p (manyL L.length m)) = 0 by unfold ecR; rw [if_pos HCAN.out])
    generalize lvL (pgs p (manyL L.length m)) 0 (groupsN L.length m) L = I at *
    generalize upL (pgs p (manyL L.length m)) 0 (groupsN L.length m) L = U at *
    generalize gN L.length m = gn at *
    generalize hat : atG L.length m = at_ at *
    have HAT0 := hid (show at_ 0 = 0 by rw [← hat]; exact atG_zero)
    generalize hcc : manyL L.length m = c at *
    have hP0 := hid (show Ints (w3.alloc (.cells #[] 3)) w3.heap.size (.slice (some ⟨w3.heap.size, 0, none⟩) 0 0) [] from Ints.lit (Nat.le_refl _) [] (by simp))
    have hPB := hid ((Below.refl w3.heap.size w3).alloc (Nat.le_refl _) (.cells #[] 3))
    clear hat hcc
    go_wp2_with fail
    go_loopg [11, 12] c (fun g' s i wr => ∃ j : Nat, i = .int .i64 j ∧ g' + j = c ∧ Ints wr w3.heap.size s (pgs p j) ∧ Below w3.heap.size w3 wr)
    case atStart => exact ⟨0, rfl, rfl, hP0.out, hPB.out⟩
    case round =>
      obtain ⟨j, rfl, hgj, ho, hb⟩ := hrel
      have HG := hid hgj
      have HO := hid ho
      have HB := hid hb
      have hjc : j ≤ c := by omega
      clear hgj ho hb
      by_cases hj : j < c
      · have hji : (j : Int) < (c : Int) := by omega
        have hw3 : IntKind.i64.wrap (3 * (j : Int)) = 3 * (j : Int) := by rw [IntKind.wrap_i64]; omega
        have hw4 : IntKind.i64.wrap ((p : Int) + 3 * (j : Int)) = (p : Int) + 3 * (j : Int) := by rw [IntKind.wrap_i64]; omega
        have hlen := hid (show (pgs p j).length < 1000000 by rw [pgs_len]; omega)
        have hvo := hid (fun g e => (HO.out.block (g := g) e).1)
        have hup := hid (show pgs p (j + 1) = pgs p j ++ [(p : Int) + 3 * (j : Int)] by rw [pgs_succ, Int.natCast_add, Int.natCast_mul]; rfl)
        go_wp2_with (at_builtin; refine wpList_push rfl (.tmp 45) (.tmp 51) rfl w3.heap.size _ _ ((p : Int) + 3 * (j : Int)) rfl HO.out rfl hlen.out HB.out.size ?_; intro v' w4 hown1 honly1; obtain ⟨g', cap', rfl, hg1, hg2⟩ := hown1.form (by simp); have HW := hid hown1; have HL := hid honly1; clear hown1 honly1)
        have hg := HG.out
        go_roundg (gk - 1)
        case measure => omega
        case rel => exact ⟨j + 1, by go_num, by omega, by rw [hup.out]; have := HW.out; rw [List.length_append] at this; exact this, HB.out.trans (HL.out.below HB.out.size (fun k hk e => by have := hvo.out _ e; omega))⟩
      · have hji : ¬ (j : Int) < (c : Int) := by omega
        have hjc2 : j = c := by omega
        have hP := HO.out
        rw [hjc2] at hP
        obtain ⟨pb, pc, rfl, hpb1, hpb2⟩ := hP.form (by intro e; have := congrArg List.length e; rw [pgs_len] at this; simp at this; omega)
        rw [pgs_len] at hP ⊢
        have HP4 := hid hP
        have HV4 := hid (HV.out.below HB.out)
        have HO4 := hid (HO3.out.below HB.out)
        have HB4 := hid (HB3.out.trans (HB.out.mono HB3.out.size))
        clear hP HO HV HO3 HB3 HB HG hP0 hPB hjc2 hj hjc HCG
        go_wp2_with fail
        refine (level_any (RdK.own HO4.out) (RdI.of_own HP4.out) (m : Int)).mono ?_
        rintro e w5 hq
        obtain ⟨xa, xc, rfl, hA, hb⟩ := hq.any
        rw [HLV.out, HIL.out] at hA
        rw [HLV.out, HIL.out, HEC.out]
        have HA5 := hid hA
        have HP5 := hid (HP4.out.below hb)
        have HV5 := hid (HV4.out.below hb)
        have HO5 := hid (HO4.out.below hb)
        have HB5 := hid (HB4.out.trans (hb.mono HB4.out.size))
        clear hq hA hb HP4 HV4 HO4 HB4
        go_wp2_with fail
        refine (up_any (RdK.own HO5.out) (RdI.of_own HP5.out) (m : Int)).mono ?_
        rintro e w6 hq
        obtain ⟨ua, uc, rfl, hU, hb⟩ := hq.any
        rw [HUV.out, HUI.out] at hU
        rw [HUV.out, HUI.out, HEC.out]
        have HU6 := hid hU
        have HA6 := hid (HA5.out.below hb)
        have HP6 := hid (HP5.out.below hb)
        have HV6 := hid (HV5.out.below hb)
        have HO6 := hid (HO5.out.below hb)
        have HB6 := hid (HB5.out.trans (hb.mono HB5.out.size))
        clear hq hU hb HA5 HP5 HV5 HO5 HB5 HLV HUV HEC
        go_wp2_with fail
        refine (right_any (RdK.own HU6.out)).mono ?_
        rintro e ws ⟨rfl, hb⟩
        rw [HUR.out]
        have HU7 := hid (HU6.out.below hb)
        have HA7 := hid (HA6.out.below hb)
        have HP7 := hid (HP6.out.below hb)
        have HV7 := hid (HV6.out.below hb)
        have HO7 := hid (HO6.out.below hb)
        have HB7 := hid (HB6.out.trans (hb.mono HB6.out.size))
        clear hb HU6 HA6 HP6 HV6 HO6 HB6 HUR HCAN
        obtain ⟨lb, lo, rfl, hlb, hlc⟩ := (RdK.own HO7.out).whole hL1
        obtain ⟨ub, uo, rfl, hub, huc⟩ := (RdK.own HU7.out).whole (by rw [HUI.out]; exact hq1)
        have HLB := hid hlb
        have HLC := hid hlc
        have HUB := hid hub
        have HUC := hid huc
        have HPBB := hid (show pb < ws.heap.size from (HP7.out.block rfl).2.elim fun _ h => h.lt)
        have HGBB := hid (show gb < ws.heap.size from (HV7.out.block rfl).2.elim fun _ h => h.lt)
        have HVC := hid (fun i (hi : i < c) => show ws.cell? ⟨gb, i, none⟩ = some (.int .i64 (gn i : Nat)) from Ints.cell HV7.out (by rw [List.getElem?_map, HGN.out i hi]; rfl))
        have HPC := hid (fun i (hi : i < c) => show ws.cell? ⟨pb, i, none⟩ = some (.int .i64 ((p : Int) + 3 * (i : Int))) from Ints.cell HP7.out (by rw [pgs_at hi, Int.natCast_add, Int.natCast_mul]; rfl))
        clear hlb hlc hub huc
        go_wp2_with fail
        go_loopg [17, 18] c (fun g' t i wr => ∃ j : Nat, i = .int .i64 j ∧ t = .int .i64 (at_ j : Nat) ∧ g' + j = c ∧ Below ws.heap.size ws wr)
        case atStart => exact ⟨0, rfl, by rw [HAT0.out]; rfl, rfl, Below.refl _ _⟩
        case round =>
          as_aux_lemma =>
            obtain ⟨j, rfl, rfl, hgj, hb⟩ := hrel
            obtain ⟨go, hgo⟩ : ∃ go, gk = go := ⟨_, rfl⟩
            rw [hgo] at hgj
            have HGO := hid hgo
            have HG := hid hgj
            have HB := hid hb
            have hjc : j ≤ c := by omega
            clear hgj hgo
            by_cases hj : j < c
            · have hji : (j : Int) < (c : Int) := by omega
              obtain ⟨ba, oa, vs', vk', rfl, hba, x0, x1, x2, x3, xs, xk⟩ := own_page HA7.out (HPG.out j hj)
              obtain ⟨hatl, hx1⟩ := HATL.out j hj
              have hx13 : gn j ≤ 13 := by have := HGX.out j hj; omega
              have HSU := hid (HATS.out j hj)
              have HPR := hid (pg_right (P := pgs p c) (j := j) HR.out hatl hx1 hx13 (pgs_next hp255 (by omega)))
              have HPF := hid (pg_fair (P := pgs p c) (j := j) HR.out hatl hx1 hx13)
              have hsl := pg_seps (P := pgs p c) (j := j) hatl hx1
              have hkl := pg_kids (P := pgs p c) (j := j) hatl
              have HSE := hid (fun i (hi : i + 1 < gn j) => pg_sep (P := pgs p c) (j := j) hatl hi)
              have HKI := hid (fun i (hi : i < gn j) => pg_kid (P := pgs p c) (j := j) hatl hi)
              have hhi := pg_high (L := L) (P := pgs p c) (j := j) (a := at_ j) (g := gn j)
              have hnx := pg_next (L := L) (P := pgs p c) (j := j) (a := at_ j) (g := gn j)
              have hv0 := HVC.out j hj
              have hp0 := HPC.out j hj
              obtain ⟨hu0, hu1⟩ := HUC.out j (by rw [HUI.out]; exact hj)
              rw [HUL.out j hj] at hu0
              rw [HUP.out j hj, pgs_at hj, Option.getD_some, Int.natCast_add, Int.natCast_mul] at hu1
              replace hu1 : ws.cell? ⟨ub, uo + j * 2 + 1, none⟩ = some (.int .i64 ((p : Int) + 3 * (j : Int))) := hu1
              have hl0 := (HLC.out (at_ j) (by omega)).1
              generalize pgOf (pgs p c) j ((L.drop (at_ j)).take (gn j)) (L.drop (at_ j + gn j)) = pg at *
              obtain ⟨_, _, rfl, _⟩ := xs.shape
              obtain ⟨_, _, rfl, _⟩ := xk.shape
              rename_i sa sc _ ka kc _
              generalize gn j = x at *
              obtain ⟨y, hy⟩ : ∃ y, pg.seps.length = y := ⟨_, rfl⟩
              have hyx : y + 1 = x := by omega
              generalize hA0 : at_ j = A at *
              obtain ⟨Z, hZ⟩ : ∃ Z, A + x = Z := ⟨_, rfl⟩
              have hZi : (A : Int) + (x : Int) = (Z : Int) := by omega
              have hZw : IntKind.i64.wrap ((A : Int) + (x : Int)) = (Z : Int) := by rw [IntKind.wrap_i64]; omega
              have hZw2 : IntKind.i64.wrap (Z : Int) = (Z : Int) := by rw [IntKind.wrap_i64]; omega
              rw [hZ] at hatl hhi hnx HSU
              generalize hshd : lowAt L Z = sh at *
              generalize hsld : lowAt L A = sl at *
              generalize hpjd : (p : Int) + 3 * (j : Int) = pj at *
              obtain ⟨nx, hnx2⟩ : ∃ nx, pg.next = nx := ⟨_, rfl⟩
              rw [hhi] at x2
              rw [hnx2] at x3 hnx
              rw [hy] at x0 xs
              rw [hkl] at x1 xk
              have HCC := hid (show ∀ w', Below ws.heap.size ws w' → w'.cell? ⟨gb, j, none⟩ = some (.int .i64 x) ∧ w'.cell? ⟨pb, j, none⟩ = some (.int .i64 pj) ∧ w'.cell? ⟨ub, uo + j * 2, none⟩ = some (.string sl) ∧ w'.cell? ⟨ub, uo + j * 2 + 1, none⟩ = some (.int .i64 pj) ∧ w'.cell? ⟨lb, lo + A * 2, none⟩ = some (.string sl) ∧
                  w'.cell? ⟨ba, oa + j * 4, none⟩ = some (.slice sa y sc) ∧ w'.cell? ⟨ba, oa + j * 4 + 1, none⟩ = some (.slice ka x kc) ∧ w'.cell? ⟨ba, oa + j * 4 + 2, none⟩ = some (.string sh) ∧ w'.cell? ⟨ba, oa + j * 4 + 3, none⟩ = some (.int .i64 nx) from fun w' hb' =>
                ⟨(hb'.cell (p := ⟨gb, j, none⟩) HGBB.out).trans hv0, (hb'.cell (p := ⟨pb, j, none⟩) HPBB.out).trans hp0, (hb'.cell (p := ⟨ub, uo + j * 2, none⟩) HUB.out).trans hu0, (hb'.cell (p := ⟨ub, uo + j * 2 + 1, none⟩) HUB.out).trans hu1, (hb'.cell (p := ⟨lb, lo + A * 2, none⟩) HLB.out).trans hl0,
                  (hb'.cell (p := ⟨ba, oa + j * 4, none⟩) hba).trans x0, (hb'.cell (p := ⟨ba, oa + j * 4 + 1, none⟩) hba).trans x1, (hb'.cell (p := ⟨ba, oa + j * 4 + 2, none⟩) hba).trans x2, (hb'.cell (p := ⟨ba, oa + j * 4 + 3, none⟩) hba).trans x3⟩)
              have HRD := hid (show ∀ w', Below ws.heap.size ws w' → RdP w' w'.heap.size (.agg #[.slice sa y sc, .slice ka x kc, .string sh, .int .i64 nx]) pg from fun w' hb' =>
                ⟨_, _, by rw [hhi, hnx2], by have := (xs.below hb').more hb'.size; exact this, (xk.below hb').more hb'.size⟩)
              have HRF := hid (ref_any (W := wr.drew) (B := wr.drew.heap.size) (HRD.out wr.drew HB.out.drew))
              have HBD := hid HB.out.drew
              have HXS := hid xs
              have HXK := hid xk
              have HNX := hid hnx
              have HZ2 := hid (show at_ (j + 1) = Z from HSU.out)
              have HSHD := hid hshd
              have HPJD := hid hpjd
              have HYX := hid hyx
              obtain ⟨z1, z2, z3, z4, z5, z6, z7, z8, z9⟩ := HCC.out wr hb
              have hx1d : decide ((x : Int) < 1) = false := by simp; omega
              have hx1e : decide (x < 1) = false := by simp; omega
              have hzd : decide ((L.length : Int) < (Z : Int)) = false := by simp; omega
              have hze : decide (L.length < Z) = false := by simp; omega
              have hxx : ((x : Int) != (x : Int)) = false := by simp
              have hpp : (pj != pj) = false := by simp
              have hss : (sl.toList == sl.toList) = true := by simp
              have hAi : (A : Int) < (L.length : Int) := by omega
              have hx13i : (x : Int) ≤ 13 := by omega
              clear hb x0 x1 x2 x3 xs xk hba hj hhi hnx hnx2 hsl hkl hv0 hp0 hu0 hu1 hl0 hshd hsld hpjd HSU hyx hy hA0
              go_wp2
              go_region_held3 (fun w' => w'.cell? ⟨gb, j, none⟩ = some (.int .i64 x) ∧ w'.cell? ⟨pb, j, none⟩ = some (.int .i64 pj) ∧ w'.cell? ⟨ub, uo + j * 2, none⟩ = some (.string sl) ∧ w'.cell? ⟨ub, uo + j * 2 + 1, none⟩ = some (.int .i64 pj) ∧ w'.cell? ⟨lb, lo + A * 2, none⟩ = some (.string sl) ∧
                  w'.cell? ⟨ba, oa + j * 4, none⟩ = some (.slice sa y sc) ∧ w'.cell? ⟨ba, oa + j * 4 + 1, none⟩ = some (.slice ka x kc) ∧ w'.cell? ⟨ba, oa + j * 4 + 2, none⟩ = some (.string sh) ∧ w'.cell? ⟨ba, oa + j * 4 + 3, none⟩ = some (.int .i64 nx))
                (first | go_keep | assumption)
                (first
                | (go_at_call 19; (with_reducible refine HRF.out.mono ?_); rintro e w13 ⟨rfl, hbw⟩; have HBW := hid (HBD.out.trans (hbw.mono HBD.out.size)); have hS2 := HCC.out w13 HBW.out; have HSM := hid (right11_any (HRD.out w13 HBW.out) HPF.out); clear hbw)
                | (go_at_call 26; (with_reducible refine HSM.out.mono ?_); rintro e w14 ⟨rfl, hbw⟩; rw [HPR.out]; have HBV := hid (HBW.out.trans (hbw.mono HBW.out.size)); have hS3 := HCC.out w14 HBV.out; clear hbw))
              all_goals
                as_aux_lemma =>
                  obtain ⟨wo, hwo⟩ : ∃ wo, wo = wr := ⟨_, rfl⟩
                  subst hwo
                  clear z1 z2 z3 z4 z5 z6 z7 z8 z9 hS2 hS3 HSM HRF HRD HBD HBW
                  go_wp2
                  go_loopg [19] x (fun g' i wq => ∃ k : Nat, i = .int .i64 k ∧ g' + k = x ∧ Below ws.heap.size ws wq)
                  case atStart => exact ⟨0, rfl, rfl, HBV.out⟩
                  case round =>
                    as_aux_lemma =>
                      obtain ⟨k, rfl, hgk, hb⟩ := hrel
                      have HGK := hid hgk
                      have HBK := hid hb
                      have hkx : k ≤ x := by omega
                      obtain ⟨z1, z2, z3, z4, z5, z6, z7, z8, z9⟩ := HCC.out wr hb
                      clear hgk hb
                      by_cases hk : k < x
                      · have hki : (k : Int) < (x : Int) := by omega
                        obtain ⟨kb, ko, rfl, hkb, hkc⟩ := HXK.out.at_ (HKI.out k hk)
                        have hk0 := (HBK.out.cell (p := ⟨kb, ko + k, none⟩) hkb).trans hkc
                        obtain ⟨hl1, hl2⟩ := HLC.out (A + k) (by omega)
                        have hm1 := (HBK.out.cell (p := ⟨lb, lo + (A + k) * 2, none⟩) HLB.out).trans hl1
                        have hm2 := (HBK.out.cell (p := ⟨lb, lo + (A + k) * 2 + 1, none⟩) HLB.out).trans hl2
                        obtain ⟨z, hz⟩ : ∃ z, A + k = z := ⟨_, rfl⟩
                        rw [hz] at hm1 hm2 hk0
                        have hzi : (A : Int) + (k : Int) = (z : Int) := by omega
                        have hzw : IntKind.i64.wrap ((A : Int) + (k : Int)) = (z : Int) := by rw [IntKind.wrap_i64]; omega
                        have hzw2 : IntKind.i64.wrap (z : Int) = (z : Int) := by rw [IntKind.wrap_i64]; omega
                        have hzL : (z : Int) < (L.length : Int) := by omega
                        generalize pageAt L z = pk at *
                        have hpk : (pk != pk) = false := by simp
                        clear hkb hkc hl1 hl2
                        rcases Nat.eq_zero_or_pos k with h0 | h0
                        · have hk0d : decide ((0 : Int) < (k : Int)) = false := by simp; omega
                          have hk0e : decide (0 < k) = false := by simp; omega
                          have H0 := hid h0
                          clear h0
                          go_wp2
                          go_quiet (fail)
                          go_wp2
                          have hg := HGK.out
                          go_roundg (gk - 1)
                          case measure => omega
                          case rel => exact ⟨k + 1, by go_num, by omega, below_dN HBK.out _⟩
                        · have hk0d : decide ((0 : Int) < (k : Int)) = true := by simp; omega
                          have hk0e : decide (0 < k) = true := by simp; omega
                          obtain ⟨i, hi⟩ : ∃ i, k = i + 1 := ⟨k - 1, by omega⟩
                          have hyx := HYX.out
                          obtain ⟨sb, so, rfl, hsb, hsc⟩ := HXS.out.at_ (HSE.out i (by omega))
                          have hs0 := (HBK.out.cell (p := ⟨sb, so + i, none⟩) hsb).trans hsc
                          rw [show A + 1 + i = z by omega] at hs0
                          generalize lowAt L z = lz at *
                          have hll : (lz.toList == lz.toList) = true := by simp
                          have hk1 : (k : Int) - 1 = (i : Int) := by omega
                          have hk1w : IntKind.i64.wrap ((k : Int) - 1) = (i : Int) := by rw [IntKind.wrap_i64]; omega
                          have hk1w2 : IntKind.i64.wrap (i : Int) = (i : Int) := by rw [IntKind.wrap_i64]; omega
                          have hiy : (i : Int) < (y : Int) := by omega
                          clear hsb hsc h0 hi hyx
                          go_wp2
                          go_quiet (fail)
                          go_wp2
                          have hg := HGK.out
                          go_roundg (gk - 1)
                          case measure => omega
                          case rel => exact ⟨k + 1, by go_num, by omega, below_dN HBK.out _⟩
                      · have hki : ¬ (k : Int) < (x : Int) := by omega
                        obtain ⟨d, hd⟩ : ∃ d, c = d + 1 := ⟨c - 1, by omega⟩
                        have hcd : (c : Int) - 1 = (d : Int) := by omega
                        have hcw : IntKind.i64.wrap ((c : Int) - 1) = (d : Int) := by rw [IntKind.wrap_i64]; omega
                        have hdw : IntKind.i64.wrap (d : Int) = (d : Int) := by rw [IntKind.wrap_i64]; omega
                        clear hk hkx
                        by_cases hl : j = d
                        · have hZn : Z = L.length := by rw [← HZ2.out, hl, ← hd]; exact HATA.out
                          have hjd : ((j : Int) == (d : Int)) = true := by simp; omega
                          have hje : (j == d) = true := by simp; omega
                          have hsh : sh = ⟨#[]⟩ := by rw [← HSHD.out, low_out (by omega)]
                          have hnx := HNX.out
                          rw [if_pos (by omega)] at hnx
                          rw [hsh] at z8
                          rw [hnx] at z9
                          have hee : ((⟨#[]⟩ : ByteArray).toList == (⟨#[]⟩ : ByteArray).toList) = true := by simp
                          have HD := hid hd
                          clear hZn hsh hnx hl hd
                          go_wp2
                          go_quiet (fail)
                          go_wp2
                          have hg := HG.out
                          have hgo := HGO.out
                          go_roundg (go - 1)
                          case measure => omega
                          case rel => exact ⟨j + 1, by go_num, by rw [HZ2.out], by omega, below_dN HBK.out _⟩
                        · have hjd : ((j : Int) == (d : Int)) = false := by simp; omega
                          have hje : (j == d) = false := by simp; omega
                          obtain ⟨j1, hj1⟩ : ∃ j1, j + 1 = j1 := ⟨_, rfl⟩
                          have hat1 := HATL.out j1 (by omega)
                          rw [← hj1, HZ2.out] at hat1
                          have hzl1 : decide ((L.length : Int) ≤ (Z : Int)) = false := by simp; omega
                          have hzl2 : decide (L.length ≤ Z) = false := by simp; omega
                          have hZL : (Z : Int) < (L.length : Int) := by omega
                          obtain ⟨hl1, _⟩ := HLC.out Z (by omega)
                          have hm1 := (HBK.out.cell (p := ⟨lb, lo + Z * 2, none⟩) HLB.out).trans hl1
                          rw [HSHD.out] at hm1
                          have hm2 := (HBK.out.cell (p := ⟨pb, j1, none⟩) HPBB.out).trans (HPC.out j1 (by omega))
                          have hnx := HNX.out
                          rw [if_neg (by omega), pgs_nx (by omega), hj1, Int.natCast_add, Int.natCast_mul] at hnx
                          replace hnx : nx = (p : Int) + 3 * (j1 : Int) + 1 := hnx
                          obtain ⟨pn, hpn⟩ : ∃ pn : Int, (p : Int) + 3 * (j1 : Int) = pn := ⟨_, rfl⟩
                          rw [hpn] at hnx hm2
                          rw [hnx] at z9
                          have hpnw : IntKind.i64.wrap (pn + 1) = pn + 1 := by rw [IntKind.wrap_i64]; omega
                          have hpnn : (pn + 1 != pn + 1) = false := by simp
                          have hpn0 : 0 ≤ pn ∧ pn ≤ 2000 := by omega
                          have hj1i : (j : Int) + 1 = (j1 : Int) := by omega
                          have hj1w : IntKind.i64.wrap ((j : Int) + 1) = (j1 : Int) := by rw [IntKind.wrap_i64]; omega
                          have hj1c : (j1 : Int) < (c : Int) := by omega
                          have hsh : (sh.toList == sh.toList) = true := by simp
                          have HD := hid hd
                          have HJ1 := hid hj1
                          clear hl1 hl hd hnx hpn hat1
                          go_wp2
                          go_quiet (fail)
                          go_wp2
                          have hg := HG.out
                          have hgo := HGO.out
                          go_roundg (go - 1)
                          case measure => omega
                          case rel => exact ⟨j + 1, by go_num, by rw [HZ2.out], by omega, below_dN HBK.out _⟩
            · have hji : ¬ (j : Int) < (c : Int) := by omega
              have hjc2 : j = c := by omega
              rw [show at_ j = L.length by rw [hjc2]; exact HATA.out]
              have hLL : ((L.length : Int) == (L.length : Int)) = true := by simp
              clear hb hj
              go_wp2_with fail
              refine (FX.out wr).mono ?_
              rintro e w13 ⟨rfl, hb⟩
              have HBE := hid (HB7.out.trans ((HB.out.trans (hb.mono HB.out.size)).mono HB7.out.size))
              clear hb
              go_wp2_with fail
              go_ret
              exact ⟨rfl, HBE.out⟩
end buildWhole
end Go.Proofs.Ytfoidiebdklggaa
