/-
  BuildLevels: the walk of the law.
-/
import Derived.Test.YtfoidiebdklggaaPo
open Go Go.RowKit
namespace Go.Proofs.Ytfoidiebdklggaa
namespace buildLevels

set_option maxHeartbeats 6400000 in
set_option maxRecDepth 100000 in
theorem walk0 (fx : ∀ W : World, Calls Try.prog 20 #[] W fun e W' => e = .returned (.bool true) ∧ Below W.heap.size W W') {W : World} {v pv : Value} {K : List Kid} {P : List Int} (h : RdK W W.heap.size v K) (hp : RdI W W.heap.size pv P) (m : Int) :
    Calls Try.prog 3 #[v, .int .i64 m, pv] W fun e w' => e = .returned (.bool true) ∧ Below W.heap.size W w' := by
  have FX := hid fx
  clear fx
  obtain ⟨ad', cap', rfl, hl', hm'⟩ := hp.shape
  unfold maxLen at hm'
  have HK := hid h
  have HP := hid hp
  obtain ⟨ad, cap, rfl, hl, hm⟩ := h.shape
  unfold maxLen at hm
  clear h hp
  go_enter Try.func3, Try.ntmps3
  go_wp2_with fail
  refine (cut_any HK.out).mono ?_
  rintro e w1 ⟨v1, rfl, ho1, hb1⟩
  have HB1 := hid hb1
  have HO1 := hid ho1
  have HP1 := hid ((HP.out.below hb1).more hb1.size)
  have hL60 := cutK_len K
  have HF := hid (cutK_fair K)
  generalize cutK K = L at *
  obtain ⟨mn, hmnd⟩ : ∃ mn : Nat, mn = min P.length 60 := ⟨_, rfl⟩
  have hmin : ∀ (ts : Array TypeId) (t : TypeId) (w : World), (Builtin.min_ ts t #[.int .i64 (P.length : Int), .int .i64 60]).run Try.prog w = .ok (.int .i64 (mn : Int)) w := fun ts t w => by
    rw [run_min_int2, hmnd]
    congr 2
    split <;> omega
  obtain ⟨p', hs1, hp1⟩ := run_upto HP1.out mn (by omega)
  have hPl : (P.take mn).length ≤ 60 := by simp; omega
  have HP2 := hid hp1
  obtain ⟨pa, pc, rfl, _⟩ := hp1.shape
  generalize P.take mn = Q at *
  obtain ⟨a1, c1, rfl⟩ := ho1.shape
  rw [List.length_map] at HO1 ⊢
  clear hb1 ho1 hp1 hmnd
  have hUm := hid (show (upR L m Q).length ≤ 1000 by have := upR_len L m Q; omega)
  have hIm := hid (show (lvR L m Q).length ≤ 1000 by have := lvR_len L m Q; omega)
  have HX1 := hid (fun W w e (h : LePost W L m Q e w) => h.any)
  have HX2 := hid (fun W w e (h : RLePost W L m Q e w) => h.any)
  have HX3 := hid (fun W w e (h : UpPost W L m Q e w) => h.any)
  have HX4 := hid (fun W w e (h : RUpPost W L m Q e w) => h.any)
  generalize lvR L m Q = I at *
  generalize upR L m Q = U at *
  generalize ecR L m Q = ec at *
  clear HK HP HP1
  go_wp2_with fail
  refine (level_any (RdK.own HO1.out) HP2.out m).mono ?_
  rintro e w2 hq
  obtain ⟨a2, c2, rfl, hA, hb⟩ := HX1.out _ _ _ hq
  clear hq
  have HO2_ := hid (HO1.out.below hb)
  have HP2_ := hid ((HP2.out.below hb).more hb.size)
  have HB2_ := hid (HB1.out.trans (hb.mono HB1.out.size))
  have HA2_ := hid hA
  clear hb hA HO1 HP2 HB1
  go_wp2_with fail
  refine (refs_any (RdK.own HO2_.out) (by omega)).mono ?_
  rintro e w3 ⟨v3, rfl, hr, hb⟩
  obtain ⟨a3, c3, rfl⟩ := hr.shape
  rw [List.length_map] at hr ⊢
  have HO3_ := hid (HO2_.out.below hb)
  have HP3_ := hid ((HP2_.out.below hb).more hb.size)
  have HB3_ := hid (HB2_.out.trans (hb.mono HB2_.out.size))
  have HA3_ := hid (HA2_.out.below hb)
  have HR3_ := hid hr
  clear hb hr HO2_ HP2_ HB2_ HA2_
  go_wp2_with fail
  refine (rlevel_any (RdK.own HR3_.out) HF.out HP3_.out m).mono ?_
  rintro e w4 hq
  obtain ⟨a4, c4, rfl, hC, hb⟩ := HX2.out _ _ _ hq
  clear hq
  have HO4_ := hid (HO3_.out.below hb)
  have HP4_ := hid ((HP3_.out.below hb).more hb.size)
  have HB4_ := hid (HB3_.out.trans (hb.mono HB3_.out.size))
  have HA4_ := hid (HA3_.out.below hb)
  have HC4_ := hid hC
  clear hb hC HO3_ HP3_ HB3_ HA3_ HR3_
  go_wp2_with fail
  refine (up_any (RdK.own HO4_.out) HP4_.out m).mono ?_
  rintro e w5 hq
  obtain ⟨a5, c5, rfl, hU, hb⟩ := HX3.out _ _ _ hq
  clear hq
  have HO5_ := hid (HO4_.out.below hb)
  have HP5_ := hid ((HP4_.out.below hb).more hb.size)
  have HB5_ := hid (HB4_.out.trans (hb.mono HB4_.out.size))
  have HA5_ := hid (HA4_.out.below hb)
  have HC5_ := hid (HC4_.out.below hb)
  have HU5_ := hid hU
  clear hb hU HO4_ HP4_ HB4_ HA4_ HC4_
  go_wp2_with fail
  refine (refs_any (RdK.own HO5_.out) (by omega)).mono ?_
  rintro e w6 ⟨v6, rfl, hr, hb⟩
  obtain ⟨a6, c6, rfl⟩ := hr.shape
  rw [List.length_map] at hr ⊢
  have HO6_ := hid (HO5_.out.below hb)
  have HP6_ := hid ((HP5_.out.below hb).more hb.size)
  have HB6_ := hid (HB5_.out.trans (hb.mono HB5_.out.size))
  have HA6_ := hid (HA5_.out.below hb)
  have HC6_ := hid (HC5_.out.below hb)
  have HU6_ := hid (HU5_.out.below hb)
  have HR6_ := hid hr
  clear hb hr HO5_ HP5_ HB5_ HA5_ HC5_ HU5_
  go_wp2_with fail
  refine (rup_any (RdK.own HR6_.out) HF.out HP6_.out m).mono ?_
  rintro e w7 hq
  obtain ⟨a7, c7, rfl, hD, hb⟩ := HX4.out _ _ _ hq
  clear hq
  have HO7_ := hid (HO6_.out.below hb)
  have HB7_ := hid (HB6_.out.trans (hb.mono HB6_.out.size))
  have HA7_ := hid (HA6_.out.below hb)
  have HC7_ := hid (HC6_.out.below hb)
  have HU7_ := hid (HU6_.out.below hb)
  have HD7_ := hid hD
  clear hb hD HO6_ HP6_ HB6_ HA6_ HC6_ HU6_ HR6_
  go_wp2_with fail
  refine (refs_any (RdK.own HU7_.out) hUm.out).mono ?_
  rintro e w8 ⟨v8, rfl, hr, hb⟩
  obtain ⟨a8, c8, rfl⟩ := hr.shape
  rw [List.length_map] at hr ⊢
  have HO8_ := hid (HO7_.out.below hb)
  have HB8_ := hid (HB7_.out.trans (hb.mono HB7_.out.size))
  have HA8_ := hid (HA7_.out.below hb)
  have HC8_ := hid (HC7_.out.below hb)
  have HD8_ := hid (HD7_.out.below hb)
  have HR8_ := hid hr
  clear hb hr HO7_ HB7_ HA7_ HC7_ HU7_ HD7_
  go_wp2_with fail
  refine (rkids_same (RdK.own HR8_.out) (RdK.own HD8_.out)).mono ?_
  rintro e w9 ⟨rfl, hb⟩
  have HO9_ := hid (HO8_.out.below hb)
  have HB9_ := hid (HB8_.out.trans (hb.mono HB8_.out.size))
  have HA9_ := hid (HA8_.out.below hb)
  have HC9_ := hid (HC8_.out.below hb)
  clear hb  HO8_ HB8_ HA8_ HC8_ HD8_ HR8_
  go_wp2_with fail
  refine (right_any (RdK.own HO9_.out)).mono ?_
  rintro e w10 ⟨rfl, hb⟩
  have HO10_ := hid (HO9_.out.below hb)
  have HB10_ := hid (HB9_.out.trans (hb.mono HB9_.out.size))
  have HA10_ := hid (HA9_.out.below hb)
  have HC10_ := hid (HC9_.out.below hb)
  clear hb  HO9_ HB9_ HA9_ HC9_
  go_wp2_with fail
  refine (refs_any (RdK.own HO10_.out) (by omega)).mono ?_
  rintro e w11 ⟨v11, rfl, hr, hb⟩
  obtain ⟨a11, c11, rfl⟩ := hr.shape
  rw [List.length_map] at hr ⊢
  have HB11_ := hid (HB10_.out.trans (hb.mono HB10_.out.size))
  have HA11_ := hid (HA10_.out.below hb)
  have HC11_ := hid (HC10_.out.below hb)
  have HR11_ := hid hr
  clear hb hr HO10_ HB10_ HA10_ HC10_
  go_wp2_with fail
  refine (rright_any (RdK.own HR11_.out) HF.out).mono ?_
  rintro e w12 ⟨rfl, hb⟩
  have HB12_ := hid (HB11_.out.trans (hb.mono HB11_.out.size))
  have HA12_ := hid (HA11_.out.below hb)
  have HC12_ := hid (HC11_.out.below hb)
  clear hb  HB11_ HA11_ HC11_ HR11_
  have hIl := hIm.out
  go_wp2
  clear HX1 HX2 HX3 HX4 hUm HF hmin hs1 hPl
  go_loopg [17] I.length (fun g' i wr => ∃ j : Nat, i = .int .i64 j ∧ g' + j = I.length ∧ Below w12.heap.size w12 wr)
  case atStart => exact ⟨0, rfl, rfl, Below.refl _ _⟩
  case round =>
    obtain ⟨j, rfl, hgj, hb⟩ := hrel
    have HG := hid hgj
    have HB := hid hb
    have hjl : j ≤ I.length := by omega
    clear hgj
    by_cases hj : j < I.length
    · have hji : (j : Int) < (I.length : Int) := by omega
      obtain ⟨g, hg⟩ : ∃ g, I[j]? = some g := ⟨_, List.getElem?_eq_getElem hj⟩
      obtain ⟨ba, oa, vs, vk, rfl, hba, x0, x1, x2, x3, xs, xk⟩ := own_page HA12_.out hg
      obtain ⟨bc, oc, vs', vk', rfl, hbc, y0, y1, y2, y3, ys, yk⟩ := rown_page HC12_.out hg
      obtain ⟨_, _, rfl, _⟩ := xs.shape
      obtain ⟨_, _, rfl, _⟩ := xk.shape
      obtain ⟨_, _, rfl, _⟩ := ys.shape
      obtain ⟨_, _, rfl, _⟩ := yk.shape
      rename_i sa1 sc1 _ ka1 kc1 _ sa2 sc2 _ ka2 kc2 _
      have hbd := hb.drew
      have hsz : w12.heap.size ≤ wr.heap.size := hb.size
      have HCC := hid (show ∀ w', Below wr.heap.size wr w' → w'.cell? ⟨bc, oc + j * 4, none⟩ = some (.slice sa2 g.seps.length sc2) ∧ w'.cell? ⟨bc, oc + j * 4 + 1, none⟩ = some (.slice ka2 g.kids.length kc2) ∧ w'.cell? ⟨bc, oc + j * 4 + 2, none⟩ = some (.string g.high) ∧ w'.cell? ⟨bc, oc + j * 4 + 3, none⟩ = some (.int .i64 g.next) ∧ w'.cell? ⟨ba, oa + j * 4, none⟩ = some (.slice sa1 g.seps.length sc1) ∧ w'.cell? ⟨ba, oa + j * 4 + 1, none⟩ = some (.slice ka1 g.kids.length kc1) ∧ w'.cell? ⟨ba, oa + j * 4 + 2, none⟩ = some (.string g.high) ∧ w'.cell? ⟨ba, oa + j * 4 + 3, none⟩ = some (.int .i64 g.next) from fun w' hb' => by
        have hbb : Below w12.heap.size w12 w' := hb.trans (hb'.mono hsz)
        exact ⟨(hbb.cell (p := ⟨bc, oc + j * 4, none⟩) hbc).trans y0, (hbb.cell (p := ⟨bc, oc + j * 4 + 1, none⟩) hbc).trans y1, (hbb.cell (p := ⟨bc, oc + j * 4 + 2, none⟩) hbc).trans y2, (hbb.cell (p := ⟨bc, oc + j * 4 + 3, none⟩) hbc).trans y3, (hbb.cell (p := ⟨ba, oa + j * 4, none⟩) hba).trans x0, (hbb.cell (p := ⟨ba, oa + j * 4 + 1, none⟩) hba).trans x1, (hbb.cell (p := ⟨ba, oa + j * 4 + 2, none⟩) hba).trans x2, (hbb.cell (p := ⟨ba, oa + j * 4 + 3, none⟩) hba).trans x3⟩)
      have HRD := hid (show ∀ w', Below wr.heap.size wr w' → RdP w' w'.heap.size (.agg #[.slice sa1 g.seps.length sc1, .slice ka1 g.kids.length kc1, .string g.high, .int .i64 g.next]) g ∧ RdP w' w'.heap.size (.agg #[.slice sa2 g.seps.length sc2, .slice ka2 g.kids.length kc2, .string g.high, .int .i64 g.next]) g from fun w' hb' => by
        have hbb : Below w12.heap.size w12 w' := hb.trans (hb'.mono hsz)
        exact ⟨⟨_, _, rfl, (xs.below hbb).more hbb.size, (xk.below hbb).more hbb.size⟩, ⟨_, _, rfl, (ys.below hbb).more hbb.size, (yk.below hbb).more hbb.size⟩⟩)
      have HRF := hid (ref_any (W := wr.drew) (B := wr.drew.heap.size) (HRD.out wr.drew ((Below.refl _ wr).drew)).1)
      have HBD := hid (show Below wr.heap.size wr wr.drew from (Below.refl _ wr).drew)
      obtain ⟨z0, z1, z2, z3, v0, v1, v2, v3⟩ := HCC.out wr (Below.refl _ _)
      clear hb hbd x0 x1 x2 x3 y0 y1 y2 y3 xs xk ys yk hba hbc hg hsz hj
      go_wp2
      go_region_held3 (fun w' => w'.cell? ⟨bc, oc + j * 4, none⟩ = some (.slice sa2 g.seps.length sc2) ∧ w'.cell? ⟨bc, oc + j * 4 + 1, none⟩ = some (.slice ka2 g.kids.length kc2) ∧ w'.cell? ⟨bc, oc + j * 4 + 2, none⟩ = some (.string g.high) ∧ w'.cell? ⟨bc, oc + j * 4 + 3, none⟩ = some (.int .i64 g.next) ∧ w'.cell? ⟨ba, oa + j * 4, none⟩ = some (.slice sa1 g.seps.length sc1) ∧ w'.cell? ⟨ba, oa + j * 4 + 1, none⟩ = some (.slice ka1 g.kids.length kc1) ∧ w'.cell? ⟨ba, oa + j * 4 + 2, none⟩ = some (.string g.high) ∧ w'.cell? ⟨ba, oa + j * 4 + 3, none⟩ = some (.int .i64 g.next))
        (first | go_keep | assumption)
        (first
        | (go_at_call 19; (with_reducible refine HRF.out.mono ?_); rintro e w13 ⟨rfl, hbw⟩; have HBW := hid (HBD.out.trans (hbw.mono HBD.out.size)); have hS2 := HCC.out w13 HBW.out; have HSM := hid (same11_any (HRD.out w13 HBW.out).1 (HRD.out w13 HBW.out).2); clear hbw)
        | (go_at_call 18; (with_reducible refine HSM.out.mono ?_); rintro e w14 ⟨rfl, hbw⟩; rw [sameB_self]; have HBV := hid (HBW.out.trans (hbw.mono HBW.out.size)); have hS3 := HCC.out w14 HBV.out; clear hbw))
      all_goals
        go_wp2
        have hg := HG.out
        go_roundg (gk - 1)
        case measure => omega
        case rel => exact ⟨j + 1, by go_num, by omega, HB.out.trans (HBV.out.mono HB.out.size)⟩
    · have hji : ¬ (j : Int) < (I.length : Int) := by omega
      clear hb hj
      go_wp2_with fail
      refine (FX.out wr).mono ?_
      rintro e w13 ⟨rfl, hb⟩
      have HBE := hid (HB12_.out.trans ((HB.out.trans (hb.mono HB.out.size)).mono HB12_.out.size))
      clear hb
      go_wp2_with fail
      go_ret
      exact ⟨rfl, HBE.out⟩
end buildLevels
end Go.Proofs.Ytfoidiebdklggaa
