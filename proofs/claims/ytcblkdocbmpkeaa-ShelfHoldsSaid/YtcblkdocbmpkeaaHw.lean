/-
  ShelfHolds: the walk.
-/
import Derived.Test.YtcblkdocbmpkeaaHd
import Derived.Test.YtcblkdocbmpkeaaOq
import Derived.Deep.RegionHeld3
import Derived.Deep.QuietTactic
import Derived.Deep.Cut
import Derived.Deep.CutBlock
open Go Go.RowKit
namespace Go.Proofs.Ytcblkdocbmpkeaa

namespace shelfHolds
set_option maxRecDepth 100000 in
set_option maxHeartbeats 6400000 in
theorem walk {W : World} {v : Value} {U : List Oq} (h : RdOq W W.heap.size v U) :
    Calls Try.prog 3 #[v] W fun e w' => e = .returned (.bool true) ∧ Below W.heap.size W w' := by
  obtain ⟨ad, cap, rfl, hl, hm⟩ := h.shape
  have HD := hid h
  unfold maxLen at hm
  clear h
  obtain ⟨i0, hi, hz0, hz1, hz2⟩ := info_parts bool_info
  have hmkB := fun w : World => run_makeSlice w 28 4 i0 (.bool false) (by kernel_rfl) hi hz0 .i64 .i64 16 16 (by omega) (Int.le_refl _) (by rw [hz1]; simp) (by rw [hz2]; decide) (by omega)
  obtain ⟨j0, hj, hy0, hy1, hy2⟩ := info_parts (show (Try.prog.info? 9).map (fun i => (i.zero, i.size, i.bytes)) = some (some (.string ⟨#[]⟩), 1, 16) by kernel_rfl)
  have hmkS := fun w : World => run_makeSlice w 27 9 j0 (.string ⟨#[]⟩) (by kernel_rfl) hj hy0 .i64 .i64 16 16 (by omega) (Int.le_refl _) (by rw [hy1]; simp) (by rw [hy2]; decide) (by omega)
  rw [hz1] at hmkB
  rw [hy1] at hmkS
  simp only [Nat.mul_one, Value.cells, Int.reduceToNat] at hmkB hmkS
  have HRB := hid (fun (w : World) (B : Nat) (hB : B ≤ w.heap.size) => show Bls (w.alloc (.cells (madeCells #[.bool false] 16) 4)) B (.slice (some ⟨w.heap.size, 0, none⟩) 16 16) (List.replicate 16 false) by
    have hrow := World.ownsRow_lit (base := B) (e := 4) (size := 1) w (madeCells #[.bool false] 16) 16 hB (by decide) (by rw [size_madeCells])
    unfold Bls
    rw [toList_madeCells_one] at hrow
    simpa using hrow)
  have HRS := hid (fun (w : World) (B : Nat) (hB : B ≤ w.heap.size) => show Sls (w.alloc (.cells (madeCells #[.string ⟨#[]⟩] 16) 9)) B (.slice (some ⟨w.heap.size, 0, none⟩) 16 16) (List.replicate 16 ⟨#[]⟩) by
    have hrow := World.ownsRow_lit (base := B) (e := 9) (size := 1) w (madeCells #[.string ⟨#[]⟩] 16) 16 hB (by decide) (by rw [size_madeCells])
    unfold Sls
    rw [toList_madeCells_one] at hrow
    simpa using hrow)
  clear hz0 hz1 hz2 hy0 hy1 hy2
  go_enter Try.func3, Try.ntmps3
  go_wp2_with fail
  refine (new_s (16 : Int)).mono ?_
  rintro e w1 hq
  obtain ⟨S, p, mb, vb, rfl, hs, hb⟩ := hq.get (n := 16) (by omega) (by omega)
  have HS1 := hid hs
  have HB1 := hid hb
  clear hq hs hb
  go_upto_region 4 with fail
  go_cut [5, 6] (fun a b wx => ∃ hb tb : Nat, a = .slice (some ⟨hb, 0, none⟩) 16 16 ∧ b = .slice (some ⟨tb, 0, none⟩) 16 16 ∧ Sh wx W.heap.size S p mb vb (List.replicate 16 none) ∧ Sls wx W.heap.size (.slice (some ⟨hb, 0, none⟩) 16 16) (List.replicate 16 ⟨#[]⟩) ∧ Bls wx W.heap.size (.slice (some ⟨tb, 0, none⟩) 16 16) (List.replicate 16 false) ∧ Below W.heap.size W wx)
  case first =>
    go_region
    all_goals
      go_wp2_with fail
      go_meet
    · have e1 : (w1.alloc (.cells (madeCells #[.string ⟨#[]⟩] 16) 9)).heap.size = w1.heap.size + 1 := by simp
      have hb1 := HB1.out.alloc HB1.out.size (.cells (madeCells #[.string ⟨#[]⟩] 16) 9)
      have k1 := HRB.out (w1.alloc (.cells (madeCells #[.string ⟨#[]⟩] 16) 9)) W.heap.size hb1.size
      rw [e1] at k1
      exact ⟨_, _, rfl, rfl, ((HS1.out.alloc _).alloc _).drewN 1, ((HRS.out w1 W.heap.size HB1.out.size).alloc _).drewN 1, k1.drewN 1, (hb1.alloc hb1.size _).drew⟩
    · have e1 : (w1.alloc (.cells (madeCells #[.bool false] 16) 4)).heap.size = w1.heap.size + 1 := by simp
      have hb1 := HB1.out.alloc HB1.out.size (.cells (madeCells #[.bool false] 16) 4)
      have k1 := HRS.out (w1.alloc (.cells (madeCells #[.bool false] 16) 4)) W.heap.size hb1.size
      rw [e1] at k1
      exact ⟨_, _, rfl, rfl, ((HS1.out.alloc _).alloc _).drewN 1, k1.drewN 1, ((HRB.out w1 W.heap.size HB1.out.size).alloc _).drewN 1, (hb1.alloc hb1.size _).drew⟩
  case rest =>
    obtain ⟨hb, tb, rfl, rfl, h1, h2, h3, h4⟩ := hcut
    have HS2 := hid h1
    have HH2 := hid h2
    have HT2 := hid h3
    have HB2 := hid h4
    clear h1 h2 h3 h4 HS1 HB1 HRB HRS hmkB hmkS
    go_wp2_with fail
    go_loopg [7] (min U.length 60) (fun g i wr => ∃ (t : Nat) (M : Mt) (T : List Bool) (H : List ByteArray), i = .int .i64 t ∧ g + t = min U.length 60 ∧ Iv M T H ∧ Sh wr W.heap.size S p mb vb M ∧ Sls wr W.heap.size (.slice (some ⟨hb, 0, none⟩) 16 16) H ∧ Bls wr W.heap.size (.slice (some ⟨tb, 0, none⟩) 16 16) T ∧ Below W.heap.size W wr)
    case atStart => exact ⟨0, _, _, _, rfl, rfl, Iv.new, HS2.out, HH2.out, HT2.out, HB2.out⟩
    case round =>
      obtain ⟨t, M, T, H, rfl, hgt, hiv, hs, hh, ht, hb'⟩ := hrel
      obtain ⟨go, hgo⟩ : ∃ go, gk = go := ⟨_, rfl⟩
      rw [hgo] at hgt
      have HGO := hid hgo
      have HG := hid hgt
      have HI := hid hiv
      have HS := hid hs
      have HH := hid hh
      have HT := hid ht
      have HB := hid hb'
      have htD : t ≤ U.length := by omega
      have ht60 : t ≤ 60 := by omega
      clear hgt hiv hs hh ht hb' hgo HS2 HH2 HT2 HB2
      by_cases htl : t < U.length
      · have htli : (t : Int) < (U.length : Int) := by omega
        by_cases ht2 : t < 60
        · obtain ⟨q, hq⟩ : ∃ q, U[t]? = some q := ⟨_, List.getElem?_eq_getElem htl⟩
          obtain ⟨gd, off, rfl, hgd, c0, c1, c2, c3, _, _⟩ := HD.out.at_ hq
          obtain ⟨x, y, z, s⟩ := q
          have d0 := (HB.out.cell (p := ⟨gd, off + t * 4, none⟩) hgd).trans c0
          have d1 := (HB.out.cell (p := ⟨gd, off + t * 4 + 1, none⟩) hgd).trans c1
          have d2 := (HB.out.cell (p := ⟨gd, off + t * 4 + 2, none⟩) hgd).trans c2
          have d3 := (HB.out.cell (p := ⟨gd, off + t * 4 + 3, none⟩) hgd).trans c3
          simp only at d0 d1 d2 d3
          have ht60i : (t : Int) < 60 := by omega
          have HS0 : Hid (Hd W S p mb vb hb tb wr.heap.size x y z s M T H (wr.alloc (.cells #[.int .i64 x, .int .i64 y, .int .i64 z, .string s] 30))) := ⟨HS.out.alloc _, HH.out.alloc _, HT.out.alloc _, Blk.new wr _ _, HB.out.alloc HB.out.size _, HB.out.size⟩
          obtain ⟨a, ha⟩ : ∃ a : Nat, y % 16 = (a : Int) := ⟨(y % 16).toNat, by omega⟩
          obtain ⟨b, hbb⟩ : ∃ b : Nat, z % 16 = (b : Int) := ⟨(z % 16).toNat, by omega⟩
          have ha16 : a < 16 := by omega
          have hb16 : b < 16 := by omega
          have ey := and15 y
          have ez := and15 z
          clear c0 c1 c2 c3 hq HS HH HT HB
          go_upto_region 9 with fail
          clear d0 d1 d2 d3
          generalize wr.alloc (.cells #[.int .i64 x, .int .i64 y, .int .i64 z, .string s] 30) = w3 at *
          generalize wr.heap.size = o at *
          have o0 := HS0.out.op.cell 0
          have o1 := HS0.out.op.cell 1
          have o2 := HS0.out.op.cell 2
          simp only [List.getElem?_toArray, List.getElem?_cons_zero, List.getElem?_cons_succ] at o0 o1 o2
          go_quiet (fail)
          have HS4 := hid (HS0.out.drewN nq)
          generalize w3.drewN nq = w4 at *
          clear HS0 o0 o1 o2 ey ez
          have o0 := HS4.out.op.cell 0
          have o3 := HS4.out.op.cell 3
          simp only [List.getElem?_toArray, List.getElem?_cons_zero, List.getElem?_cons_succ] at o0 o3
          go_upto_block 2 with fail
          go_cut [] (fun wx => ∃ (M2 : Mt) (T2 : List Bool) (H2 : List ByteArray), Iv M2 T2 H2 ∧ Hd W S p mb vb hb tb o x y z s M2 T2 H2 wx)
          case first =>
            have hai : (a : Int) < 16 := by omega
            have hbi : (b : Int) < 16 := by omega
            have HSD := hid (show Hd W S p mb vb hb tb o x y z s M T H w4.drew from HS4.out.drewN 1)
            by_cases h0 : x = 0
            · have h0b : (x == 0) = true := by simpa using h0
              clear h0
              as_aux_lemma =>
                go_wp2_with fail
                refine (take_s HS4.out.sh).mono ?_
                rintro e w5 ⟨rfl, hs, ho⟩
                have HS5 := hid (HS4.out.turn hs ho)
                clear hs ho
                by_cases he : takeME M = 0
                · obtain ⟨X, eX, hX, hfr, hiv⟩ := HI.out.take he
                  have HV := hid hiv
                  rw [eX, he]
                  have c5 := HS5.out.tk.cell (i := X) (by rw [HI.out.tl]; exact hX)
                  rw [hfr] at c5
                  have hXi : (X : Int) < 16 := by omega
                  have hX15 : ¬ (15 : Int) < (X : Int) := by omega
                  have f1 := HS5.out.tk.frozen X
                  have HS6 := hid (HS5.out.setT X true)
                  have f2 := HS6.out.hs.frozen X
                  have g1 := HS6.out.hs.cell (i := X) (by rw [HI.out.hl]; exact hX)
                  have HS7 := hid (HS6.out.setH X ⟨#[]⟩)
                  clear eX he hfr hiv hX
                  go_wp2_with fail
                  go_meet
                  exact ⟨_, _, _, HV.out, HS7.out⟩
                · have hz : (takeME M == 0) = false := by simpa using he
                  have hE := hid (take_none he)
                  generalize takeME M = ze at *
                  generalize takeMX M = zx at *
                  go_wp2_with fail
                  go_meet
                  refine ⟨_, _, _, HI.out, ?_⟩
                  have := HS5.out
                  rw [hE.out] at this
                  exact this
            · have h0b : (x == 0) = false := by simpa using h0
              by_cases h1 : x = 1
              · have h1b : (x == 1) = true := by simpa using h1
                clear h0 h1
                as_aux_lemma =>
                  cases hta : tk T a with
                  | true =>
                    have HTA := hid hta
                    obtain ⟨eE, hiv⟩ := (HI.out.takeAt ha16).1 hta
                    have HV := hid hiv
                    have c4 := HS4.out.tk.cell (i := a) (by rw [HI.out.tl]; exact ha16)
                    rw [hta] at c4
                    clear hiv hta
                    go_wp2_with fail
                    go_region_held3 (fun w' => w'.cell? ⟨tb, a, none⟩ = some (.bool true))
                      (first | go_keep | assumption)
                      (first
                      | (go_at_call 9; (with_reducible refine (takeAt_s HSD.out.sh (a : Int)).mono ?_); rintro e w5 ⟨rfl, hs, ho⟩; rw [eE]; have HS5 := hid (HSD.out.turn hs ho); have c5 := HS5.out.tk.cell (i := a) (by rw [HI.out.tl]; exact ha16); rw [HTA.out] at c5; clear hs ho))
                    all_goals
                      have f1 := HS5.out.tk.frozen a
                      have HS6 := hid (HS5.out.setT a true)
                      go_wp2_with fail
                      go_meet
                      exact ⟨_, _, _, HV.out, HS6.out⟩
                  | false =>
                    have HTA := hid hta
                    obtain ⟨eE, hiv⟩ := (HI.out.takeAt ha16).2 hta
                    have HV := hid hiv
                    have c4 := HS4.out.tk.cell (i := a) (by rw [HI.out.tl]; exact ha16)
                    rw [hta] at c4
                    clear hiv hta
                    go_wp2_with fail
                    go_region_held3 (fun w' => w'.cell? ⟨tb, a, none⟩ = some (.bool false))
                      (first | go_keep | assumption)
                      (first
                      | (go_at_call 9; (with_reducible refine (takeAt_s HSD.out.sh (a : Int)).mono ?_); rintro e w5 ⟨rfl, hs, ho⟩; rw [eE]; have HS5 := hid (HSD.out.turn hs ho); have c5 := HS5.out.tk.cell (i := a) (by rw [HI.out.tl]; exact ha16); rw [HTA.out] at c5; clear hs ho))
                    all_goals
                      have f1 := HS5.out.hs.frozen a
                      have g1 := HS5.out.hs.cell (i := a) (by rw [HI.out.hl]; exact ha16)
                      have HS6 := hid (HS5.out.setH a ⟨#[]⟩)
                      have f2 := HS6.out.tk.frozen a
                      have g2 := HS6.out.tk.cell (i := a) (by rw [HI.out.tl]; exact ha16)
                      rw [HTA.out] at g2
                      have HS7 := hid (HS6.out.setT a true)
                      go_wp2_with fail
                      go_meet
                      exact ⟨_, _, _, HV.out, HS7.out⟩
              · have h1b : (x == 1) = false := by simpa using h1
                by_cases h2 : x = 2
                · have h2b : (x == 2) = true := by simpa using h2
                  clear h0 h1 h2
                  as_aux_lemma =>
                    obtain ⟨eE, hiv⟩ := HI.out.give ha16
                    have HV := hid hiv
                    clear hiv
                    cases hta : tk T a with
                    | true =>
                      have HTA := hid hta
                      rw [hta] at eE
                      have c4 := HS4.out.tk.cell (i := a) (by rw [HI.out.tl]; exact ha16)
                      rw [hta] at c4
                      have eE2 : giveE (tks M) (a : Int) = 0 := eE
                      clear hta eE
                      go_wp2_with fail
                      go_region_held3 (fun w' => w'.cell? ⟨tb, a, none⟩ = some (.bool true))
                        (first | go_keep | assumption)
                        (first
                        | (go_at_call 10; (with_reducible refine (give_s HSD.out.sh (a : Int)).mono ?_); rintro e w5 ⟨rfl, hs, ho⟩; rw [eE2]; have HS5 := hid (HSD.out.turn hs ho); have c5 := HS5.out.tk.cell (i := a) (by rw [HI.out.tl]; exact ha16); rw [HTA.out] at c5; clear hs ho))
                      all_goals
                        have f1 := HS5.out.tk.frozen a
                        have HS6 := hid (HS5.out.setT a false)
                        go_wp2_with fail
                        go_meet
                        exact ⟨_, _, _, HV.out, HS6.out⟩
                    | false =>
                      have HTA := hid hta
                      rw [hta] at eE
                      have c4 := HS4.out.tk.cell (i := a) (by rw [HI.out.tl]; exact ha16)
                      rw [hta] at c4
                      have eE2 : giveE (tks M) (a : Int) = 7 := eE
                      clear hta eE
                      go_wp2_with fail
                      go_region_held3 (fun w' => w'.cell? ⟨tb, a, none⟩ = some (.bool false))
                        (first | go_keep | assumption)
                        (first
                        | (go_at_call 10; (with_reducible refine (give_s HSD.out.sh (a : Int)).mono ?_); rintro e w5 ⟨rfl, hs, ho⟩; rw [eE2]; have HS5 := hid (HSD.out.turn hs ho); have c5 := HS5.out.tk.cell (i := a) (by rw [HI.out.tl]; exact ha16); rw [HTA.out] at c5; clear hs ho))
                      all_goals
                        have f1 := HS5.out.tk.frozen a
                        have HS6 := hid (HS5.out.setT a false)
                        go_wp2_with fail
                        go_meet
                        exact ⟨_, _, _, HV.out, HS6.out⟩
                · have h2b : (x == 2) = false := by simpa using h2
                  by_cases h3 : x = 3
                  · have h3b : (x == 3) = true := by simpa using h3
                    clear h0 h1 h2 h3
                    as_aux_lemma =>
                      obtain ⟨q, hqd⟩ : ∃ q : Nat, q = (if s.size ≤ 252 then s.size else 252) := ⟨_, rfl⟩
                      have hqs : (q : Int) ≤ (s.size : Int) := by rw [hqd]; split <;> omega
                      have hq0 : (0 : Int) ≤ (q : Int) := by omega
                      have hq2 : q ≤ 252 := by rw [hqd]; split <;> omega
                      have hmin2 : ∀ (ts : Array TypeId) (t : TypeId) (w : World), (Builtin.min_ ts t #[.int .i64 (s.size : Int), .int .i64 252]).run Try.prog w = .ok (.int .i64 (q : Int)) w := fun ts t w => by
                        rw [run_min_int2, hqd]
                        congr 2
                        split <;> split <;> omega
                      have hsz : (s.extract 0 q).size ≤ 252 := by rw [ByteArray.size_extract]; omega
                      obtain ⟨hw1, hw2⟩ := HI.out.write ha16 hsz
                      clear hqd hq2 hsz
                      cases hta : tk T a with
                      | true =>
                        have HTA := hid hta
                        obtain ⟨eE, hiv⟩ := hw1 hta
                        have HV := hid hiv
                        have c4 := HS4.out.tk.cell (i := a) (by rw [HI.out.tl]; exact ha16)
                        rw [hta] at c4
                        clear hiv hta hw1 hw2
                        go_upto_region 36 with fail
                        generalize s.extract 0 q = s2 at *
                        go_region_held3 (fun w' => w'.cell? ⟨tb, a, none⟩ = some (.bool true))
                          (first | go_keep | assumption)
                          (first
                          | (go_at_call 11; (with_reducible refine (write_s HSD.out.sh (a : Int) s2).mono ?_); rintro e w5 ⟨rfl, hs, ho⟩; rw [eE]; have HS5 := hid (HSD.out.turn hs ho); have c5 := HS5.out.tk.cell (i := a) (by rw [HI.out.tl]; exact ha16); rw [HTA.out] at c5; clear hs ho))
                        all_goals
                          have f1 := HS5.out.hs.frozen a
                          have g1 := HS5.out.hs.cell (i := a) (by rw [HI.out.hl]; exact ha16)
                          have HS6 := hid (HS5.out.setH a s2)
                          go_wp2_with fail
                          go_meet
                          exact ⟨_, _, _, HV.out, HS6.out⟩
                      | false =>
                        have HTA := hid hta
                        obtain ⟨eE, hiv⟩ := hw2 hta
                        have HV := hid hiv
                        have c4 := HS4.out.tk.cell (i := a) (by rw [HI.out.tl]; exact ha16)
                        rw [hta] at c4
                        clear hiv hta hw1 hw2
                        go_upto_region 36 with fail
                        generalize s.extract 0 q = s2 at *
                        go_region_held3 (fun w' => w'.cell? ⟨tb, a, none⟩ = some (.bool false))
                          (first | go_keep | assumption)
                          (first
                          | (go_at_call 11; (with_reducible refine (write_s HSD.out.sh (a : Int) s2).mono ?_); rintro e w5 ⟨rfl, hs, ho⟩; rw [eE]; have HS5 := hid (HSD.out.turn hs ho); have c5 := HS5.out.tk.cell (i := a) (by rw [HI.out.tl]; exact ha16); rw [HTA.out] at c5; clear hs ho))
                        all_goals
                          go_wp2_with fail
                          go_meet
                          refine ⟨_, _, _, HI.out, ?_⟩
                          have := HS5.out
                          rw [HV.out] at this
                          exact this
                  · have h3b : (x == 3) = false := by simpa using h3
                    as_aux_lemma =>
                      clear h0 h1 h2 h3
                      have hta16 : a < T.length := by rw [HI.out.tl]; exact ha16
                      have htb16 : b < T.length := by rw [HI.out.tl]; exact hb16
                      cases hta : tk T a with
                      | true =>
                        cases htb : tk T b with
                        | true =>
                          have HCS := hid (show ∀ (M' : Mt) (H' : List ByteArray) (w' : World), Hd W S p mb vb hb tb o x y z s M' T H' w' → w'.cell? ⟨tb, a, none⟩ = some (.bool true) ∧ w'.cell? ⟨tb, b, none⟩ = some (.bool true) ∧ w'.cell? ⟨o, 0, none⟩ = some (.int .i64 x) from fun M' H' w' h => by
                            have k1 := h.tk.cell hta16
                            have k2 := h.tk.cell htb16
                            have k3 := h.op.cell 0
                            simp only [List.getElem?_toArray, List.getElem?_cons_zero] at k3
                            rw [hta] at k1
                            rw [htb] at k2
                            exact ⟨k1, k2, k3⟩)
                          obtain ⟨k1, k2, k3⟩ := HCS.out _ _ w4 HS4.out
                          obtain ⟨e1, hiv, e3, e4⟩ := HI.out.swap_yes ha16 hb16 hta htb
                          have HV := hid hiv
                          clear hta htb hta16 htb16 hiv
                          by_cases h5 : x = 5
                          ·
                            as_aux_lemma =>
                              have h5b : (x == 5) = true := by simpa using h5
                              have h5n : (x != 5) = false := by simpa using h5
                              clear h5
                              go_upto_region 11 with fail
                              refine wp_region_noPanic ?_
                              refine wp_region_held_drew (S := fun w' => w'.cell? ⟨tb, a, none⟩ = some (.bool true) ∧ w'.cell? ⟨tb, b, none⟩ = some (.bool true) ∧ w'.cell? ⟨o, 0, none⟩ = some (.int .i64 x)) (by kernel_rfl) ?_ (fun hHeld0 => ?_)
                              · (try dsimp only)
                                first | go_keep | assumption
                              refine wpAnyH_take (i := 0) (oi := ?o1) (v := ?v1) ?hi1 (by kernel_rfl) (by kernel_rfl) (by kernel_rfl) (fun _ _ _ h => h) ?hy1 (by assumption) ?rest1
                              case hi1 => simp only [List.getElem?_toArray, List.getElem?_cons_zero]; rfl
                              case hy1 =>
                                refine Or.inl ⟨by rfl, ?_⟩
                                intro w hSw
                                (try dsimp only at hSw)
                                go_simp
                                all_goals with_reducible rfl
                              try simp only [Act.put, List.setIfInBounds_toArray, List.set_cons_zero, List.set_cons_succ]
                              refine wpAnyH_take (i := 1) (oi := ?o2) (v := ?v2) ?hi2 (by kernel_rfl) (by kernel_rfl) (by kernel_rfl) (fun _ _ _ h => h) ?hy2 (by assumption) ?rest2
                              case hi2 => simp only [List.getElem?_toArray, List.getElem?_cons_zero, List.getElem?_cons_succ]; rfl
                              case hy2 =>
                                refine Or.inl ⟨by rfl, ?_⟩
                                intro w hSw
                                (try dsimp only at hSw)
                                go_simp
                                all_goals with_reducible rfl
                              try simp only [Act.put, List.setIfInBounds_toArray, List.set_cons_zero, List.set_cons_succ]
                              refine wpAnyH_take (i := 2) (oi := ?o3) (v := ?v3) ?hi3 (by kernel_rfl) (by kernel_rfl) (by kernel_rfl) (fun _ _ _ h => h) ?hy3 (by assumption) ?rest3
                              case hi3 => simp only [List.getElem?_toArray, List.getElem?_cons_zero, List.getElem?_cons_succ]; rfl
                              case hy3 =>
                                refine Or.inl ⟨by rfl, ?_⟩
                                intro w hSw
                                (try dsimp only at hSw)
                                go_simp
                                all_goals with_reducible rfl
                              try simp only [Act.put, List.setIfInBounds_toArray, List.set_cons_zero, List.set_cons_succ]
                              refine wpAnyH_take (i := 5) (oi := ?o4) (v := ?v4) ?hi4 (by kernel_rfl) (by kernel_rfl) (by kernel_rfl) (fun _ _ _ h => h) ?hy4 (by assumption) ?rest4
                              case hi4 => simp only [List.getElem?_toArray, List.getElem?_cons_zero, List.getElem?_cons_succ]; rfl
                              case hy4 =>
                                refine Or.inl ⟨by rfl, ?_⟩
                                intro w hSw
                                (try dsimp only at hSw)
                                go_simp
                                all_goals with_reducible rfl
                              try simp only [Act.put, List.setIfInBounds_toArray, List.set_cons_zero, List.set_cons_succ]
                              refine wpAnyH_take (i := 6) (oi := ?o5) (v := ?v5) ?hi5 (by kernel_rfl) (by kernel_rfl) (by kernel_rfl) (fun _ _ _ h => h) ?hy5 (by assumption) ?rest5
                              case hi5 => simp only [List.getElem?_toArray, List.getElem?_cons_zero, List.getElem?_cons_succ]; rfl
                              case hy5 =>
                                refine Or.inl ⟨by rfl, ?_⟩
                                intro w hSw
                                (try dsimp only at hSw)
                                go_simp
                                all_goals with_reducible rfl
                              try simp only [Act.put, List.setIfInBounds_toArray, List.set_cons_zero, List.set_cons_succ]
                              refine wpAnyH_take (i := 7) (oi := ?o6) (v := ?v6) ?hi6 (by kernel_rfl) (by kernel_rfl) (by kernel_rfl) (fun _ _ _ h => h) ?hy6 (by assumption) ?rest6
                              case hi6 => simp only [List.getElem?_toArray, List.getElem?_cons_zero, List.getElem?_cons_succ]; rfl
                              case hy6 =>
                                refine Or.inl ⟨by rfl, ?_⟩
                                intro w hSw
                                (try dsimp only at hSw)
                                go_simp
                                all_goals with_reducible rfl
                              try simp only [Act.put, List.setIfInBounds_toArray, List.set_cons_zero, List.set_cons_succ]
                              refine wpAnyH_take (i := 8) (oi := ?o7) (v := ?v7) ?hi7 (by kernel_rfl) (by kernel_rfl) (by kernel_rfl) (fun _ _ _ h => h) ?hy7 (by assumption) ?rest7
                              case hi7 => simp only [List.getElem?_toArray, List.getElem?_cons_zero, List.getElem?_cons_succ]; rfl
                              case hy7 =>
                                refine Or.inl ⟨by rfl, ?_⟩
                                intro w hSw
                                (try dsimp only at hSw)
                                go_simp
                                all_goals with_reducible rfl
                              try simp only [Act.put, List.setIfInBounds_toArray, List.set_cons_zero, List.set_cons_succ]
                              refine wpAnyH_ready (rs := [3]) (by kernel_rfl) (by simp) ?_
                              refine AllReadyH.cons (o := ?o8) ?ho8 (fun K hK => ?step8) AllReadyH.nil
                              case ho8 => simp only [List.getElem?_toArray, List.getElem?_cons_zero, List.getElem?_cons_succ]; rfl
                              go_simp
                              go_at_call 12
                              (with_reducible refine (swap_s HSD.out.sh (a : Int) (b : Int)).mono ?_)
                              rintro e w5 ⟨rfl, hs, ho⟩
                              rw [e1]; have HS5 := hid (HSD.out.turn hs ho); have S5 := HCS.out _ _ w5 HS5.out; clear hs ho
                              try (go_wp2_with fail)
                              refine hK.out _ _ ?_ (fun hHeld1 => ?_)
                              · (try dsimp only)
                                first | go_keep | assumption
                              clear hK K
                              try simp only [Act.put, List.setIfInBounds_toArray, List.set_cons_zero, List.set_cons_succ]
                              refine wpAnyH_take (i := 4) (oi := ?o9) (v := ?v9) ?hi9 (by kernel_rfl) (by kernel_rfl) (by kernel_rfl) (fun _ _ _ h => h) ?hy9 (by assumption) ?rest9
                              case hi9 => simp only [List.getElem?_toArray, List.getElem?_cons_zero, List.getElem?_cons_succ]; rfl
                              case hy9 =>
                                refine Or.inl ⟨by rfl, ?_⟩
                                intro w hSw
                                (try dsimp only at hSw)
                                go_simp
                                all_goals with_reducible rfl
                              try simp only [Act.put, List.setIfInBounds_toArray, List.set_cons_zero, List.set_cons_succ]
                              refine wpAnyH_take (i := 9) (oi := ?o10) (v := ?v10) ?hi10 (by kernel_rfl) (by kernel_rfl) (by kernel_rfl) (fun _ _ _ h => h) ?hy10 (by assumption) ?rest10
                              case hi10 => simp only [List.getElem?_toArray, List.getElem?_cons_zero, List.getElem?_cons_succ]; rfl
                              case hy10 =>
                                refine Or.inl ⟨by rfl, ?_⟩
                                intro w hSw
                                (try dsimp only at hSw)
                                go_simp
                                all_goals with_reducible rfl
                              try simp only [Act.put, List.setIfInBounds_toArray, List.set_cons_zero, List.set_cons_succ]
                              refine wpAnyH_take (i := 10) (oi := ?o11) (v := ?v11) ?hi11 (by kernel_rfl) (by kernel_rfl) (by kernel_rfl) (fun _ _ _ h => h) ?hy11 (by assumption) ?rest11
                              case hi11 => simp only [List.getElem?_toArray, List.getElem?_cons_zero, List.getElem?_cons_succ]; rfl
                              case hy11 =>
                                refine Or.inl ⟨by rfl, ?_⟩
                                intro w hSw
                                (try dsimp only at hSw)
                                go_simp
                                all_goals with_reducible rfl
                              try simp only [Act.put, List.setIfInBounds_toArray, List.set_cons_zero, List.set_cons_succ]
                              refine wpAnyH_take (i := 11) (oi := ?o12) (v := ?v12) ?hi12 (by kernel_rfl) (by kernel_rfl) (by kernel_rfl) (fun _ _ _ h => h) ?hy12 (by assumption) ?rest12
                              case hi12 => simp only [List.getElem?_toArray, List.getElem?_cons_zero, List.getElem?_cons_succ]; rfl
                              case hy12 =>
                                refine Or.inl ⟨by rfl, ?_⟩
                                intro w hSw
                                (try dsimp only at hSw)
                                go_simp
                                all_goals with_reducible rfl
                              try simp only [Act.put, List.setIfInBounds_toArray, List.set_cons_zero, List.set_cons_succ]
                              refine wpAnyH_take (i := 12) (oi := ?o13) (v := ?v13) ?hi13 (by kernel_rfl) (by kernel_rfl) (by kernel_rfl) (fun _ _ _ h => h) ?hy13 (by assumption) ?rest13
                              case hi13 => simp only [List.getElem?_toArray, List.getElem?_cons_zero, List.getElem?_cons_succ]; rfl
                              case hy13 =>
                                refine Or.inl ⟨by rfl, ?_⟩
                                intro w hSw
                                (try dsimp only at hSw)
                                go_simp
                                all_goals with_reducible rfl
                              try simp only [Act.put, List.setIfInBounds_toArray, List.set_cons_zero, List.set_cons_succ]
                              refine wpAnyH_take (i := 13) (oi := ?o14) (v := ?v14) ?hi14 (by kernel_rfl) (by kernel_rfl) (by kernel_rfl) (fun _ _ _ h => h) ?hy14 (by assumption) ?rest14
                              case hi14 => simp only [List.getElem?_toArray, List.getElem?_cons_zero, List.getElem?_cons_succ]; rfl
                              case hy14 =>
                                refine Or.inl ⟨by rfl, ?_⟩
                                intro w hSw
                                (try dsimp only at hSw)
                                go_simp
                                all_goals with_reducible rfl
                              try simp only [Act.put, List.setIfInBounds_toArray, List.set_cons_zero, List.set_cons_succ]
                              refine wpAnyH_take (i := 14) (oi := ?o15) (v := ?v15) ?hi15 (by kernel_rfl) (by kernel_rfl) (by kernel_rfl) (fun _ _ _ h => h) ?hy15 (by assumption) ?rest15
                              case hi15 => simp only [List.getElem?_toArray, List.getElem?_cons_zero, List.getElem?_cons_succ]; rfl
                              case hy15 =>
                                refine Or.inl ⟨by rfl, ?_⟩
                                intro w hSw
                                (try dsimp only at hSw)
                                go_simp
                                all_goals with_reducible rfl
                              try simp only [Act.put, List.setIfInBounds_toArray, List.set_cons_zero, List.set_cons_succ]
                              refine wpAnyH_take (i := 15) (oi := ?o16) (v := ?v16) ?hi16 (by kernel_rfl) (by kernel_rfl) (by kernel_rfl) (fun _ _ _ h => h) ?hy16 (by assumption) ?rest16
                              case hi16 => simp only [List.getElem?_toArray, List.getElem?_cons_zero, List.getElem?_cons_succ]; rfl
                              case hy16 =>
                                refine Or.inl ⟨by rfl, ?_⟩
                                intro w hSw
                                (try dsimp only at hSw)
                                go_simp
                                all_goals with_reducible rfl
                              try simp only [Act.put, List.setIfInBounds_toArray, List.set_cons_zero, List.set_cons_succ]
                              refine wpAnyH_take (i := 16) (oi := ?o17) (v := ?v17) ?hi17 (by kernel_rfl) (by kernel_rfl) (by kernel_rfl) (fun _ _ _ h => h) ?hy17 (by assumption) ?rest17
                              case hi17 => simp only [List.getElem?_toArray, List.getElem?_cons_zero, List.getElem?_cons_succ]; rfl
                              case hy17 =>
                                refine Or.inl ⟨by rfl, ?_⟩
                                intro w hSw
                                (try dsimp only at hSw)
                                go_simp
                                all_goals with_reducible rfl
                              try simp only [Act.put, List.setIfInBounds_toArray, List.set_cons_zero, List.set_cons_succ]
                              refine wpAnyH_take (i := 17) (oi := ?o18) (v := ?v18) ?hi18 (by kernel_rfl) (by kernel_rfl) (by kernel_rfl) (fun _ _ _ h => h) ?hy18 (by assumption) ?rest18
                              case hi18 => simp only [List.getElem?_toArray, List.getElem?_cons_zero, List.getElem?_cons_succ]; rfl
                              case hy18 =>
                                refine Or.inl ⟨by rfl, ?_⟩
                                intro w hSw
                                (try dsimp only at hSw)
                                go_simp
                                all_goals with_reducible rfl
                              try simp only [Act.put, List.setIfInBounds_toArray, List.set_cons_zero, List.set_cons_succ]
                              refine wpAnyH_take (i := 18) (oi := ?o19) (v := ?v19) ?hi19 (by kernel_rfl) (by kernel_rfl) (by kernel_rfl) (fun _ _ _ h => h) ?hy19 (by assumption) ?rest19
                              case hi19 => simp only [List.getElem?_toArray, List.getElem?_cons_zero, List.getElem?_cons_succ]; rfl
                              case hy19 =>
                                refine Or.inl ⟨by rfl, ?_⟩
                                intro w hSw
                                (try dsimp only at hSw)
                                go_simp
                                all_goals with_reducible rfl
                              try simp only [Act.put, List.setIfInBounds_toArray, List.set_cons_zero, List.set_cons_succ]
                              refine wpAnyH_take (i := 19) (oi := ?o20) (v := ?v20) ?hi20 (by kernel_rfl) (by kernel_rfl) (by kernel_rfl) (fun _ _ _ h => h) ?hy20 (by assumption) ?rest20
                              case hi20 => simp only [List.getElem?_toArray, List.getElem?_cons_zero, List.getElem?_cons_succ]; rfl
                              case hy20 =>
                                refine Or.inl ⟨by rfl, ?_⟩
                                intro w hSw
                                (try dsimp only at hSw)
                                go_simp
                                all_goals with_reducible rfl
                              try simp only [Act.put, List.setIfInBounds_toArray, List.set_cons_zero, List.set_cons_succ]
                              refine wpAnyH_take (i := 20) (oi := ?o21) (v := ?v21) ?hi21 (by kernel_rfl) (by kernel_rfl) (by kernel_rfl) (fun _ _ _ h => h) ?hy21 (by assumption) ?rest21
                              case hi21 => simp only [List.getElem?_toArray, List.getElem?_cons_zero, List.getElem?_cons_succ]; rfl
                              case hy21 =>
                                refine Or.inl ⟨by rfl, ?_⟩
                                intro w hSw
                                (try dsimp only at hSw)
                                go_simp
                                all_goals with_reducible rfl
                              try simp only [Act.put, List.setIfInBounds_toArray, List.set_cons_zero, List.set_cons_succ]
                              refine wpAnyH_take (i := 21) (oi := ?o22) (v := ?v22) ?hi22 (by kernel_rfl) (by kernel_rfl) (by kernel_rfl) (fun _ _ _ h => h) ?hy22 (by assumption) ?rest22
                              case hi22 => simp only [List.getElem?_toArray, List.getElem?_cons_zero, List.getElem?_cons_succ]; rfl
                              case hy22 =>
                                refine Or.inl ⟨by rfl, ?_⟩
                                intro w hSw
                                (try dsimp only at hSw)
                                go_simp
                                all_goals with_reducible rfl
                              try simp only [Act.put, List.setIfInBounds_toArray, List.set_cons_zero, List.set_cons_succ]
                              refine wpAnyH_take (i := 22) (oi := ?o23) (v := ?v23) ?hi23 (by kernel_rfl) (by kernel_rfl) (by kernel_rfl) (fun _ _ _ h => h) ?hy23 (by assumption) ?rest23
                              case hi23 => simp only [List.getElem?_toArray, List.getElem?_cons_zero, List.getElem?_cons_succ]; rfl
                              case hy23 =>
                                refine Or.inl ⟨by rfl, ?_⟩
                                intro w hSw
                                (try dsimp only at hSw)
                                go_simp
                                all_goals with_reducible rfl
                              try simp only [Act.put, List.setIfInBounds_toArray, List.set_cons_zero, List.set_cons_succ]
                              refine wpAnyH_take (i := 23) (oi := ?o24) (v := ?v24) ?hi24 (by kernel_rfl) (by kernel_rfl) (by kernel_rfl) (fun _ _ _ h => h) ?hy24 (by assumption) ?rest24
                              case hi24 => simp only [List.getElem?_toArray, List.getElem?_cons_zero, List.getElem?_cons_succ]; rfl
                              case hy24 =>
                                refine Or.inl ⟨by rfl, ?_⟩
                                intro w hSw
                                (try dsimp only at hSw)
                                go_simp
                                all_goals with_reducible rfl
                              try simp only [Act.put, List.setIfInBounds_toArray, List.set_cons_zero, List.set_cons_succ]
                              refine wpAnyH_take (i := 26) (oi := ?o25) (v := ?v25) ?hi25 (by kernel_rfl) (by kernel_rfl) (by kernel_rfl) (fun _ _ _ h => h) ?hy25 (by assumption) ?rest25
                              case hi25 => simp only [List.getElem?_toArray, List.getElem?_cons_zero, List.getElem?_cons_succ]; rfl
                              case hy25 =>
                                refine Or.inl ⟨by rfl, ?_⟩
                                intro w hSw
                                (try dsimp only at hSw)
                                go_simp
                                all_goals with_reducible rfl
                              try simp only [Act.put, List.setIfInBounds_toArray, List.set_cons_zero, List.set_cons_succ]
                              refine wpAnyH_take (i := 27) (oi := ?o26) (v := ?v26) ?hi26 (by kernel_rfl) (by kernel_rfl) (by kernel_rfl) (fun _ _ _ h => h) ?hy26 (by assumption) ?rest26
                              case hi26 => simp only [List.getElem?_toArray, List.getElem?_cons_zero, List.getElem?_cons_succ]; rfl
                              case hy26 =>
                                refine Or.inl ⟨by rfl, ?_⟩
                                intro w hSw
                                (try dsimp only at hSw)
                                go_simp
                                all_goals with_reducible rfl
                              try simp only [Act.put, List.setIfInBounds_toArray, List.set_cons_zero, List.set_cons_succ]
                              refine wpAnyH_take (i := 28) (oi := ?o27) (v := ?v27) ?hi27 (by kernel_rfl) (by kernel_rfl) (by kernel_rfl) (fun _ _ _ h => h) ?hy27 (by assumption) ?rest27
                              case hi27 => simp only [List.getElem?_toArray, List.getElem?_cons_zero, List.getElem?_cons_succ]; rfl
                              case hy27 =>
                                refine Or.inl ⟨by rfl, ?_⟩
                                intro w hSw
                                (try dsimp only at hSw)
                                go_simp
                                all_goals with_reducible rfl
                              try simp only [Act.put, List.setIfInBounds_toArray, List.set_cons_zero, List.set_cons_succ]
                              refine wpAnyH_take (i := 29) (oi := ?o28) (v := ?v28) ?hi28 (by kernel_rfl) (by kernel_rfl) (by kernel_rfl) (fun _ _ _ h => h) ?hy28 (by assumption) ?rest28
                              case hi28 => simp only [List.getElem?_toArray, List.getElem?_cons_zero, List.getElem?_cons_succ]; rfl
                              case hy28 =>
                                refine Or.inl ⟨by rfl, ?_⟩
                                intro w hSw
                                (try dsimp only at hSw)
                                go_simp
                                all_goals with_reducible rfl
                              try simp only [Act.put, List.setIfInBounds_toArray, List.set_cons_zero, List.set_cons_succ]
                              refine wpAnyH_ready (rs := [24]) (by kernel_rfl) (by simp) ?_
                              refine AllReadyH.cons (o := ?o29) ?ho29 (fun K hK => ?step29) AllReadyH.nil
                              case ho29 => simp only [List.getElem?_toArray, List.getElem?_cons_zero, List.getElem?_cons_succ]; rfl
                              go_simp
                              go_at_call 12
                              (with_reducible refine (swap_s HS5.out.sh (a : Int) (b : Int)).mono ?_)
                              rintro e w6 ⟨rfl, hs, ho⟩
                              rw [e4]; rw [e3] at hs; have HS6 := hid (HS5.out.turn hs ho); have S6 := HCS.out _ _ w6 HS6.out; clear hs ho
                              try (go_wp2_with fail)
                              refine hK.out _ _ ?_ (fun hHeld2 => ?_)
                              · (try dsimp only)
                                first | go_keep | assumption
                              clear hK K
                              try simp only [Act.put, List.setIfInBounds_toArray, List.set_cons_zero, List.set_cons_succ]
                              refine wpAnyH_take (i := 25) (oi := ?o30) (v := ?v30) ?hi30 (by kernel_rfl) (by kernel_rfl) (by kernel_rfl) (fun _ _ _ h => h) ?hy30 (by assumption) ?rest30
                              case hi30 => simp only [List.getElem?_toArray, List.getElem?_cons_zero, List.getElem?_cons_succ]; rfl
                              case hy30 =>
                                refine Or.inl ⟨by rfl, ?_⟩
                                intro w hSw
                                (try dsimp only at hSw)
                                go_simp
                                all_goals with_reducible rfl
                              try simp only [Act.put, List.setIfInBounds_toArray, List.set_cons_zero, List.set_cons_succ]
                              refine wpAnyH_take (i := 30) (oi := ?o31) (v := ?v31) ?hi31 (by kernel_rfl) (by kernel_rfl) (by kernel_rfl) (fun _ _ _ h => h) ?hy31 (by assumption) ?rest31
                              case hi31 => simp only [List.getElem?_toArray, List.getElem?_cons_zero, List.getElem?_cons_succ]; rfl
                              case hy31 =>
                                refine Or.inl ⟨by rfl, ?_⟩
                                intro w hSw
                                (try dsimp only at hSw)
                                go_simp
                                all_goals with_reducible rfl
                              try simp only [Act.put, List.setIfInBounds_toArray, List.set_cons_zero, List.set_cons_succ]
                              refine wpAnyH_take (i := 31) (oi := ?o32) (v := ?v32) ?hi32 (by kernel_rfl) (by kernel_rfl) (by kernel_rfl) (fun _ _ _ h => h) ?hy32 (by assumption) ?rest32
                              case hi32 => simp only [List.getElem?_toArray, List.getElem?_cons_zero, List.getElem?_cons_succ]; rfl
                              case hy32 =>
                                refine Or.inl ⟨by rfl, ?_⟩
                                intro w hSw
                                (try dsimp only at hSw)
                                go_simp
                                all_goals with_reducible rfl
                              try simp only [Act.put, List.setIfInBounds_toArray, List.set_cons_zero, List.set_cons_succ]
                              refine wpAnyH_take (i := 32) (oi := ?o33) (v := ?v33) ?hi33 (by kernel_rfl) (by kernel_rfl) (by kernel_rfl) (fun _ _ _ h => h) ?hy33 (by assumption) ?rest33
                              case hi33 => simp only [List.getElem?_toArray, List.getElem?_cons_zero, List.getElem?_cons_succ]; rfl
                              case hy33 =>
                                refine Or.inl ⟨by rfl, ?_⟩
                                intro w hSw
                                (try dsimp only at hSw)
                                go_simp
                                all_goals with_reducible rfl
                              try simp only [Act.put, List.setIfInBounds_toArray, List.set_cons_zero, List.set_cons_succ]
                              refine wpAnyH_take (i := 33) (oi := ?o34) (v := ?v34) ?hi34 (by kernel_rfl) (by kernel_rfl) (by kernel_rfl) (fun _ _ _ h => h) ?hy34 (by assumption) ?rest34
                              case hi34 => simp only [List.getElem?_toArray, List.getElem?_cons_zero, List.getElem?_cons_succ]; rfl
                              case hy34 =>
                                refine Or.inl ⟨by rfl, ?_⟩
                                intro w hSw
                                (try dsimp only at hSw)
                                go_simp
                                all_goals with_reducible rfl
                              try simp only [Act.put, List.setIfInBounds_toArray, List.set_cons_zero, List.set_cons_succ]
                              refine wpAnyH_take (i := 34) (oi := ?o35) (v := ?v35) ?hi35 (by kernel_rfl) (by kernel_rfl) (by kernel_rfl) (fun _ _ _ h => h) ?hy35 (by assumption) ?rest35
                              case hi35 => simp only [List.getElem?_toArray, List.getElem?_cons_zero, List.getElem?_cons_succ]; rfl
                              case hy35 =>
                                refine Or.inl ⟨by rfl, ?_⟩
                                intro w hSw
                                (try dsimp only at hSw)
                                go_simp
                                all_goals with_reducible rfl
                              try simp only [Act.put, List.setIfInBounds_toArray, List.set_cons_zero, List.set_cons_succ]
                              refine wpAnyH_take (i := 35) (oi := ?o36) (v := ?v36) ?hi36 (by kernel_rfl) (by kernel_rfl) (by kernel_rfl) (fun _ _ _ h => h) ?hy36 (by assumption) ?rest36
                              case hi36 => simp only [List.getElem?_toArray, List.getElem?_cons_zero, List.getElem?_cons_succ]; rfl
                              case hy36 =>
                                refine Or.inl ⟨by rfl, ?_⟩
                                intro w hSw
                                (try dsimp only at hSw)
                                go_simp
                                all_goals with_reducible rfl
                              try simp only [Act.put, List.setIfInBounds_toArray, List.set_cons_zero, List.set_cons_succ]
                              refine wpAnyH_take (i := 36) (oi := ?o37) (v := ?v37) ?hi37 (by kernel_rfl) (by kernel_rfl) (by kernel_rfl) (fun _ _ _ h => h) ?hy37 (by assumption) ?rest37
                              case hi37 => simp only [List.getElem?_toArray, List.getElem?_cons_zero, List.getElem?_cons_succ]; rfl
                              case hy37 =>
                                refine Or.inl ⟨by rfl, ?_⟩
                                intro w hSw
                                (try dsimp only at hSw)
                                go_simp
                                all_goals with_reducible rfl
                              try simp only [Act.put, List.setIfInBounds_toArray, List.set_cons_zero, List.set_cons_succ]
                              refine wpAnyH_take (i := 37) (oi := ?o38) (v := ?v38) ?hi38 (by kernel_rfl) (by kernel_rfl) (by kernel_rfl) (fun _ _ _ h => h) ?hy38 (by assumption) ?rest38
                              case hi38 => simp only [List.getElem?_toArray, List.getElem?_cons_zero, List.getElem?_cons_succ]; rfl
                              case hy38 =>
                                refine Or.inl ⟨by rfl, ?_⟩
                                intro w hSw
                                (try dsimp only at hSw)
                                go_simp
                                all_goals with_reducible rfl
                              try simp only [Act.put, List.setIfInBounds_toArray, List.set_cons_zero, List.set_cons_succ]
                              refine wpAnyH_take (i := 38) (oi := ?o39) (v := ?v39) ?hi39 (by kernel_rfl) (by kernel_rfl) (by kernel_rfl) (fun _ _ _ h => h) ?hy39 (by assumption) ?rest39
                              case hi39 => simp only [List.getElem?_toArray, List.getElem?_cons_zero, List.getElem?_cons_succ]; rfl
                              case hy39 =>
                                refine Or.inl ⟨by rfl, ?_⟩
                                intro w hSw
                                (try dsimp only at hSw)
                                go_simp
                                all_goals with_reducible rfl
                              try simp only [Act.put, List.setIfInBounds_toArray, List.set_cons_zero, List.set_cons_succ]
                              refine wpAnyH_done (by kernel_rfl) ?_ _
                              refine NoPanic.normal ?_
                              go_wp2_with fail
                              go_meet
                              exact ⟨_, _, _, HI.out, HS6.out⟩
                          ·
                            as_aux_lemma =>
                              have h5b : (x == 5) = false := by simpa using h5
                              have h5n : (x != 5) = true := by simpa using h5
                              clear h5
                              go_upto_region 11 with fail
                              refine wp_region_noPanic ?_
                              refine wp_region_held_drew (S := fun w' => w'.cell? ⟨tb, a, none⟩ = some (.bool true) ∧ w'.cell? ⟨tb, b, none⟩ = some (.bool true) ∧ w'.cell? ⟨o, 0, none⟩ = some (.int .i64 x)) (by kernel_rfl) ?_ (fun hHeld0 => ?_)
                              · (try dsimp only)
                                first | go_keep | assumption
                              refine wpAnyH_take (i := 0) (oi := ?o40) (v := ?v40) ?hi40 (by kernel_rfl) (by kernel_rfl) (by kernel_rfl) (fun _ _ _ h => h) ?hy40 (by assumption) ?rest40
                              case hi40 => simp only [List.getElem?_toArray, List.getElem?_cons_zero]; rfl
                              case hy40 =>
                                refine Or.inl ⟨by rfl, ?_⟩
                                intro w hSw
                                (try dsimp only at hSw)
                                go_simp
                                all_goals with_reducible rfl
                              try simp only [Act.put, List.setIfInBounds_toArray, List.set_cons_zero, List.set_cons_succ]
                              refine wpAnyH_take (i := 1) (oi := ?o41) (v := ?v41) ?hi41 (by kernel_rfl) (by kernel_rfl) (by kernel_rfl) (fun _ _ _ h => h) ?hy41 (by assumption) ?rest41
                              case hi41 => simp only [List.getElem?_toArray, List.getElem?_cons_zero, List.getElem?_cons_succ]; rfl
                              case hy41 =>
                                refine Or.inl ⟨by rfl, ?_⟩
                                intro w hSw
                                (try dsimp only at hSw)
                                go_simp
                                all_goals with_reducible rfl
                              try simp only [Act.put, List.setIfInBounds_toArray, List.set_cons_zero, List.set_cons_succ]
                              refine wpAnyH_take (i := 2) (oi := ?o42) (v := ?v42) ?hi42 (by kernel_rfl) (by kernel_rfl) (by kernel_rfl) (fun _ _ _ h => h) ?hy42 (by assumption) ?rest42
                              case hi42 => simp only [List.getElem?_toArray, List.getElem?_cons_zero, List.getElem?_cons_succ]; rfl
                              case hy42 =>
                                refine Or.inl ⟨by rfl, ?_⟩
                                intro w hSw
                                (try dsimp only at hSw)
                                go_simp
                                all_goals with_reducible rfl
                              try simp only [Act.put, List.setIfInBounds_toArray, List.set_cons_zero, List.set_cons_succ]
                              refine wpAnyH_take (i := 5) (oi := ?o43) (v := ?v43) ?hi43 (by kernel_rfl) (by kernel_rfl) (by kernel_rfl) (fun _ _ _ h => h) ?hy43 (by assumption) ?rest43
                              case hi43 => simp only [List.getElem?_toArray, List.getElem?_cons_zero, List.getElem?_cons_succ]; rfl
                              case hy43 =>
                                refine Or.inl ⟨by rfl, ?_⟩
                                intro w hSw
                                (try dsimp only at hSw)
                                go_simp
                                all_goals with_reducible rfl
                              try simp only [Act.put, List.setIfInBounds_toArray, List.set_cons_zero, List.set_cons_succ]
                              refine wpAnyH_take (i := 6) (oi := ?o44) (v := ?v44) ?hi44 (by kernel_rfl) (by kernel_rfl) (by kernel_rfl) (fun _ _ _ h => h) ?hy44 (by assumption) ?rest44
                              case hi44 => simp only [List.getElem?_toArray, List.getElem?_cons_zero, List.getElem?_cons_succ]; rfl
                              case hy44 =>
                                refine Or.inl ⟨by rfl, ?_⟩
                                intro w hSw
                                (try dsimp only at hSw)
                                go_simp
                                all_goals with_reducible rfl
                              try simp only [Act.put, List.setIfInBounds_toArray, List.set_cons_zero, List.set_cons_succ]
                              refine wpAnyH_take (i := 7) (oi := ?o45) (v := ?v45) ?hi45 (by kernel_rfl) (by kernel_rfl) (by kernel_rfl) (fun _ _ _ h => h) ?hy45 (by assumption) ?rest45
                              case hi45 => simp only [List.getElem?_toArray, List.getElem?_cons_zero, List.getElem?_cons_succ]; rfl
                              case hy45 =>
                                refine Or.inl ⟨by rfl, ?_⟩
                                intro w hSw
                                (try dsimp only at hSw)
                                go_simp
                                all_goals with_reducible rfl
                              try simp only [Act.put, List.setIfInBounds_toArray, List.set_cons_zero, List.set_cons_succ]
                              refine wpAnyH_take (i := 8) (oi := ?o46) (v := ?v46) ?hi46 (by kernel_rfl) (by kernel_rfl) (by kernel_rfl) (fun _ _ _ h => h) ?hy46 (by assumption) ?rest46
                              case hi46 => simp only [List.getElem?_toArray, List.getElem?_cons_zero, List.getElem?_cons_succ]; rfl
                              case hy46 =>
                                refine Or.inl ⟨by rfl, ?_⟩
                                intro w hSw
                                (try dsimp only at hSw)
                                go_simp
                                all_goals with_reducible rfl
                              try simp only [Act.put, List.setIfInBounds_toArray, List.set_cons_zero, List.set_cons_succ]
                              refine wpAnyH_ready (rs := [3]) (by kernel_rfl) (by simp) ?_
                              refine AllReadyH.cons (o := ?o47) ?ho47 (fun K hK => ?step47) AllReadyH.nil
                              case ho47 => simp only [List.getElem?_toArray, List.getElem?_cons_zero, List.getElem?_cons_succ]; rfl
                              go_simp
                              go_at_call 12
                              (with_reducible refine (swap_s HSD.out.sh (a : Int) (b : Int)).mono ?_)
                              rintro e w5 ⟨rfl, hs, ho⟩
                              rw [e1]; have HS5 := hid (HSD.out.turn hs ho); have S5 := HCS.out _ _ w5 HS5.out; clear hs ho
                              try (go_wp2_with fail)
                              refine hK.out _ _ ?_ (fun hHeld1 => ?_)
                              · (try dsimp only)
                                first | go_keep | assumption
                              clear hK K
                              try simp only [Act.put, List.setIfInBounds_toArray, List.set_cons_zero, List.set_cons_succ]
                              refine wpAnyH_take (i := 4) (oi := ?o48) (v := ?v48) ?hi48 (by kernel_rfl) (by kernel_rfl) (by kernel_rfl) (fun _ _ _ h => h) ?hy48 (by assumption) ?rest48
                              case hi48 => simp only [List.getElem?_toArray, List.getElem?_cons_zero, List.getElem?_cons_succ]; rfl
                              case hy48 =>
                                refine Or.inl ⟨by rfl, ?_⟩
                                intro w hSw
                                (try dsimp only at hSw)
                                go_simp
                                all_goals with_reducible rfl
                              try simp only [Act.put, List.setIfInBounds_toArray, List.set_cons_zero, List.set_cons_succ]
                              refine wpAnyH_take (i := 9) (oi := ?o49) (v := ?v49) ?hi49 (by kernel_rfl) (by kernel_rfl) (by kernel_rfl) (fun _ _ _ h => h) ?hy49 (by assumption) ?rest49
                              case hi49 => simp only [List.getElem?_toArray, List.getElem?_cons_zero, List.getElem?_cons_succ]; rfl
                              case hy49 =>
                                refine Or.inl ⟨by rfl, ?_⟩
                                intro w hSw
                                (try dsimp only at hSw)
                                go_simp
                                all_goals with_reducible rfl
                              try simp only [Act.put, List.setIfInBounds_toArray, List.set_cons_zero, List.set_cons_succ]
                              refine wpAnyH_take (i := 10) (oi := ?o50) (v := ?v50) ?hi50 (by kernel_rfl) (by kernel_rfl) (by kernel_rfl) (fun _ _ _ h => h) ?hy50 (by assumption) ?rest50
                              case hi50 => simp only [List.getElem?_toArray, List.getElem?_cons_zero, List.getElem?_cons_succ]; rfl
                              case hy50 =>
                                refine Or.inl ⟨by rfl, ?_⟩
                                intro w hSw
                                (try dsimp only at hSw)
                                go_simp
                                all_goals with_reducible rfl
                              try simp only [Act.put, List.setIfInBounds_toArray, List.set_cons_zero, List.set_cons_succ]
                              refine wpAnyH_take (i := 11) (oi := ?o51) (v := ?v51) ?hi51 (by kernel_rfl) (by kernel_rfl) (by kernel_rfl) (fun _ _ _ h => h) ?hy51 (by assumption) ?rest51
                              case hi51 => simp only [List.getElem?_toArray, List.getElem?_cons_zero, List.getElem?_cons_succ]; rfl
                              case hy51 =>
                                refine Or.inl ⟨by rfl, ?_⟩
                                intro w hSw
                                (try dsimp only at hSw)
                                go_simp
                                all_goals with_reducible rfl
                              try simp only [Act.put, List.setIfInBounds_toArray, List.set_cons_zero, List.set_cons_succ]
                              refine wpAnyH_take (i := 12) (oi := ?o52) (v := ?v52) ?hi52 (by kernel_rfl) (by kernel_rfl) (by kernel_rfl) (fun _ _ _ h => h) ?hy52 (by assumption) ?rest52
                              case hi52 => simp only [List.getElem?_toArray, List.getElem?_cons_zero, List.getElem?_cons_succ]; rfl
                              case hy52 =>
                                refine Or.inl ⟨by rfl, ?_⟩
                                intro w hSw
                                (try dsimp only at hSw)
                                go_simp
                                all_goals with_reducible rfl
                              try simp only [Act.put, List.setIfInBounds_toArray, List.set_cons_zero, List.set_cons_succ]
                              refine wpAnyH_take (i := 13) (oi := ?o53) (v := ?v53) ?hi53 (by kernel_rfl) (by kernel_rfl) (by kernel_rfl) (fun _ _ _ h => h) ?hy53 (by assumption) ?rest53
                              case hi53 => simp only [List.getElem?_toArray, List.getElem?_cons_zero, List.getElem?_cons_succ]; rfl
                              case hy53 =>
                                refine Or.inl ⟨by rfl, ?_⟩
                                intro w hSw
                                (try dsimp only at hSw)
                                go_simp
                                all_goals with_reducible rfl
                              try simp only [Act.put, List.setIfInBounds_toArray, List.set_cons_zero, List.set_cons_succ]
                              refine wpAnyH_take (i := 14) (oi := ?o54) (v := ?v54) ?hi54 (by kernel_rfl) (by kernel_rfl) (by kernel_rfl) (fun _ _ _ h => h) ?hy54 (by assumption) ?rest54
                              case hi54 => simp only [List.getElem?_toArray, List.getElem?_cons_zero, List.getElem?_cons_succ]; rfl
                              case hy54 =>
                                refine Or.inl ⟨by rfl, ?_⟩
                                intro w hSw
                                (try dsimp only at hSw)
                                go_simp
                                all_goals with_reducible rfl
                              try simp only [Act.put, List.setIfInBounds_toArray, List.set_cons_zero, List.set_cons_succ]
                              refine wpAnyH_take (i := 15) (oi := ?o55) (v := ?v55) ?hi55 (by kernel_rfl) (by kernel_rfl) (by kernel_rfl) (fun _ _ _ h => h) ?hy55 (by assumption) ?rest55
                              case hi55 => simp only [List.getElem?_toArray, List.getElem?_cons_zero, List.getElem?_cons_succ]; rfl
                              case hy55 =>
                                refine Or.inl ⟨by rfl, ?_⟩
                                intro w hSw
                                (try dsimp only at hSw)
                                go_simp
                                all_goals with_reducible rfl
                              try simp only [Act.put, List.setIfInBounds_toArray, List.set_cons_zero, List.set_cons_succ]
                              refine wpAnyH_take (i := 16) (oi := ?o56) (v := ?v56) ?hi56 (by kernel_rfl) (by kernel_rfl) (by kernel_rfl) (fun _ _ _ h => h) ?hy56 (by assumption) ?rest56
                              case hi56 => simp only [List.getElem?_toArray, List.getElem?_cons_zero, List.getElem?_cons_succ]; rfl
                              case hy56 =>
                                refine Or.inl ⟨by rfl, ?_⟩
                                intro w hSw
                                (try dsimp only at hSw)
                                go_simp
                                all_goals with_reducible rfl
                              try simp only [Act.put, List.setIfInBounds_toArray, List.set_cons_zero, List.set_cons_succ]
                              refine wpAnyH_take (i := 17) (oi := ?o57) (v := ?v57) ?hi57 (by kernel_rfl) (by kernel_rfl) (by kernel_rfl) (fun _ _ _ h => h) ?hy57 (by assumption) ?rest57
                              case hi57 => simp only [List.getElem?_toArray, List.getElem?_cons_zero, List.getElem?_cons_succ]; rfl
                              case hy57 =>
                                refine Or.inl ⟨by rfl, ?_⟩
                                intro w hSw
                                (try dsimp only at hSw)
                                go_simp
                                all_goals with_reducible rfl
                              try simp only [Act.put, List.setIfInBounds_toArray, List.set_cons_zero, List.set_cons_succ]
                              refine wpAnyH_take (i := 18) (oi := ?o58) (v := ?v58) ?hi58 (by kernel_rfl) (by kernel_rfl) (by kernel_rfl) (fun _ _ _ h => h) ?hy58 (by assumption) ?rest58
                              case hi58 => simp only [List.getElem?_toArray, List.getElem?_cons_zero, List.getElem?_cons_succ]; rfl
                              case hy58 =>
                                refine Or.inl ⟨by rfl, ?_⟩
                                intro w hSw
                                (try dsimp only at hSw)
                                go_simp
                                all_goals with_reducible rfl
                              try simp only [Act.put, List.setIfInBounds_toArray, List.set_cons_zero, List.set_cons_succ]
                              refine wpAnyH_take (i := 19) (oi := ?o59) (v := ?v59) ?hi59 (by kernel_rfl) (by kernel_rfl) (by kernel_rfl) (fun _ _ _ h => h) ?hy59 (by assumption) ?rest59
                              case hi59 => simp only [List.getElem?_toArray, List.getElem?_cons_zero, List.getElem?_cons_succ]; rfl
                              case hy59 =>
                                refine Or.inl ⟨by rfl, ?_⟩
                                intro w hSw
                                (try dsimp only at hSw)
                                go_simp
                                all_goals with_reducible rfl
                              try simp only [Act.put, List.setIfInBounds_toArray, List.set_cons_zero, List.set_cons_succ]
                              refine wpAnyH_take (i := 20) (oi := ?o60) (v := ?v60) ?hi60 (by kernel_rfl) (by kernel_rfl) (by kernel_rfl) (fun _ _ _ h => h) ?hy60 (by assumption) ?rest60
                              case hi60 => simp only [List.getElem?_toArray, List.getElem?_cons_zero, List.getElem?_cons_succ]; rfl
                              case hy60 =>
                                refine Or.inl ⟨by rfl, ?_⟩
                                intro w hSw
                                (try dsimp only at hSw)
                                go_simp
                                all_goals with_reducible rfl
                              try simp only [Act.put, List.setIfInBounds_toArray, List.set_cons_zero, List.set_cons_succ]
                              refine wpAnyH_take (i := 21) (oi := ?o61) (v := ?v61) ?hi61 (by kernel_rfl) (by kernel_rfl) (by kernel_rfl) (fun _ _ _ h => h) ?hy61 (by assumption) ?rest61
                              case hi61 => simp only [List.getElem?_toArray, List.getElem?_cons_zero, List.getElem?_cons_succ]; rfl
                              case hy61 =>
                                refine Or.inr ⟨by rfl, ?_⟩
                                with_reducible rfl
                              try simp only [Act.put, List.setIfInBounds_toArray, List.set_cons_zero, List.set_cons_succ]
                              refine wpAnyH_take (i := 22) (oi := ?o62) (v := ?v62) ?hi62 (by kernel_rfl) (by kernel_rfl) (by kernel_rfl) (fun _ _ _ h => h) ?hy62 (by assumption) ?rest62
                              case hi62 => simp only [List.getElem?_toArray, List.getElem?_cons_zero, List.getElem?_cons_succ]; rfl
                              case hy62 =>
                                refine Or.inr ⟨by rfl, ?_⟩
                                with_reducible rfl
                              try simp only [Act.put, List.setIfInBounds_toArray, List.set_cons_zero, List.set_cons_succ]
                              refine wpAnyH_take (i := 23) (oi := ?o63) (v := ?v63) ?hi63 (by kernel_rfl) (by kernel_rfl) (by kernel_rfl) (fun _ _ _ h => h) ?hy63 (by assumption) ?rest63
                              case hi63 => simp only [List.getElem?_toArray, List.getElem?_cons_zero, List.getElem?_cons_succ]; rfl
                              case hy63 =>
                                refine Or.inr ⟨by rfl, ?_⟩
                                with_reducible rfl
                              try simp only [Act.put, List.setIfInBounds_toArray, List.set_cons_zero, List.set_cons_succ]
                              refine wpAnyH_take (i := 26) (oi := ?o64) (v := ?v64) ?hi64 (by kernel_rfl) (by kernel_rfl) (by kernel_rfl) (fun _ _ _ h => h) ?hy64 (by assumption) ?rest64
                              case hi64 => simp only [List.getElem?_toArray, List.getElem?_cons_zero, List.getElem?_cons_succ]; rfl
                              case hy64 =>
                                refine Or.inr ⟨by rfl, ?_⟩
                                with_reducible rfl
                              try simp only [Act.put, List.setIfInBounds_toArray, List.set_cons_zero, List.set_cons_succ]
                              refine wpAnyH_take (i := 27) (oi := ?o65) (v := ?v65) ?hi65 (by kernel_rfl) (by kernel_rfl) (by kernel_rfl) (fun _ _ _ h => h) ?hy65 (by assumption) ?rest65
                              case hi65 => simp only [List.getElem?_toArray, List.getElem?_cons_zero, List.getElem?_cons_succ]; rfl
                              case hy65 =>
                                refine Or.inr ⟨by rfl, ?_⟩
                                with_reducible rfl
                              try simp only [Act.put, List.setIfInBounds_toArray, List.set_cons_zero, List.set_cons_succ]
                              refine wpAnyH_take (i := 28) (oi := ?o66) (v := ?v66) ?hi66 (by kernel_rfl) (by kernel_rfl) (by kernel_rfl) (fun _ _ _ h => h) ?hy66 (by assumption) ?rest66
                              case hi66 => simp only [List.getElem?_toArray, List.getElem?_cons_zero, List.getElem?_cons_succ]; rfl
                              case hy66 =>
                                refine Or.inr ⟨by rfl, ?_⟩
                                with_reducible rfl
                              try simp only [Act.put, List.setIfInBounds_toArray, List.set_cons_zero, List.set_cons_succ]
                              refine wpAnyH_take (i := 29) (oi := ?o67) (v := ?v67) ?hi67 (by kernel_rfl) (by kernel_rfl) (by kernel_rfl) (fun _ _ _ h => h) ?hy67 (by assumption) ?rest67
                              case hi67 => simp only [List.getElem?_toArray, List.getElem?_cons_zero, List.getElem?_cons_succ]; rfl
                              case hy67 =>
                                refine Or.inr ⟨by rfl, ?_⟩
                                with_reducible rfl
                              try simp only [Act.put, List.setIfInBounds_toArray, List.set_cons_zero, List.set_cons_succ]
                              refine wpAnyH_ready (rs := [24]) (by kernel_rfl) (by simp) ?_
                              refine AllReadyH.cons (o := ?o68) ?ho68 (fun K hK => ?step68) AllReadyH.nil
                              case ho68 => simp only [List.getElem?_toArray, List.getElem?_cons_zero, List.getElem?_cons_succ]; rfl
                              go_simp
                              refine hK.out _ _ ?_ (fun hHeld2 => ?_)
                              · (try dsimp only)
                                first | go_keep | assumption
                              clear hK K
                              try simp only [Act.put, List.setIfInBounds_toArray, List.set_cons_zero, List.set_cons_succ]
                              refine wpAnyH_take (i := 25) (oi := ?o69) (v := ?v69) ?hi69 (by kernel_rfl) (by kernel_rfl) (by kernel_rfl) (fun _ _ _ h => h) ?hy69 (by assumption) ?rest69
                              case hi69 => simp only [List.getElem?_toArray, List.getElem?_cons_zero, List.getElem?_cons_succ]; rfl
                              case hy69 =>
                                refine Or.inr ⟨by rfl, ?_⟩
                                with_reducible rfl
                              try simp only [Act.put, List.setIfInBounds_toArray, List.set_cons_zero, List.set_cons_succ]
                              refine wpAnyH_take (i := 30) (oi := ?o70) (v := ?v70) ?hi70 (by kernel_rfl) (by kernel_rfl) (by kernel_rfl) (fun _ _ _ h => h) ?hy70 (by assumption) ?rest70
                              case hi70 => simp only [List.getElem?_toArray, List.getElem?_cons_zero, List.getElem?_cons_succ]; rfl
                              case hy70 =>
                                refine Or.inr ⟨by rfl, ?_⟩
                                with_reducible rfl
                              try simp only [Act.put, List.setIfInBounds_toArray, List.set_cons_zero, List.set_cons_succ]
                              refine wpAnyH_take (i := 31) (oi := ?o71) (v := ?v71) ?hi71 (by kernel_rfl) (by kernel_rfl) (by kernel_rfl) (fun _ _ _ h => h) ?hy71 (by assumption) ?rest71
                              case hi71 => simp only [List.getElem?_toArray, List.getElem?_cons_zero, List.getElem?_cons_succ]; rfl
                              case hy71 =>
                                refine Or.inr ⟨by rfl, ?_⟩
                                with_reducible rfl
                              try simp only [Act.put, List.setIfInBounds_toArray, List.set_cons_zero, List.set_cons_succ]
                              refine wpAnyH_take (i := 32) (oi := ?o72) (v := ?v72) ?hi72 (by kernel_rfl) (by kernel_rfl) (by kernel_rfl) (fun _ _ _ h => h) ?hy72 (by assumption) ?rest72
                              case hi72 => simp only [List.getElem?_toArray, List.getElem?_cons_zero, List.getElem?_cons_succ]; rfl
                              case hy72 =>
                                refine Or.inr ⟨by rfl, ?_⟩
                                with_reducible rfl
                              try simp only [Act.put, List.setIfInBounds_toArray, List.set_cons_zero, List.set_cons_succ]
                              refine wpAnyH_take (i := 33) (oi := ?o73) (v := ?v73) ?hi73 (by kernel_rfl) (by kernel_rfl) (by kernel_rfl) (fun _ _ _ h => h) ?hy73 (by assumption) ?rest73
                              case hi73 => simp only [List.getElem?_toArray, List.getElem?_cons_zero, List.getElem?_cons_succ]; rfl
                              case hy73 =>
                                refine Or.inr ⟨by rfl, ?_⟩
                                with_reducible rfl
                              try simp only [Act.put, List.setIfInBounds_toArray, List.set_cons_zero, List.set_cons_succ]
                              refine wpAnyH_take (i := 34) (oi := ?o74) (v := ?v74) ?hi74 (by kernel_rfl) (by kernel_rfl) (by kernel_rfl) (fun _ _ _ h => h) ?hy74 (by assumption) ?rest74
                              case hi74 => simp only [List.getElem?_toArray, List.getElem?_cons_zero, List.getElem?_cons_succ]; rfl
                              case hy74 =>
                                refine Or.inr ⟨by rfl, ?_⟩
                                with_reducible rfl
                              try simp only [Act.put, List.setIfInBounds_toArray, List.set_cons_zero, List.set_cons_succ]
                              refine wpAnyH_take (i := 35) (oi := ?o75) (v := ?v75) ?hi75 (by kernel_rfl) (by kernel_rfl) (by kernel_rfl) (fun _ _ _ h => h) ?hy75 (by assumption) ?rest75
                              case hi75 => simp only [List.getElem?_toArray, List.getElem?_cons_zero, List.getElem?_cons_succ]; rfl
                              case hy75 =>
                                refine Or.inr ⟨by rfl, ?_⟩
                                with_reducible rfl
                              try simp only [Act.put, List.setIfInBounds_toArray, List.set_cons_zero, List.set_cons_succ]
                              refine wpAnyH_take (i := 36) (oi := ?o76) (v := ?v76) ?hi76 (by kernel_rfl) (by kernel_rfl) (by kernel_rfl) (fun _ _ _ h => h) ?hy76 (by assumption) ?rest76
                              case hi76 => simp only [List.getElem?_toArray, List.getElem?_cons_zero, List.getElem?_cons_succ]; rfl
                              case hy76 =>
                                refine Or.inr ⟨by rfl, ?_⟩
                                with_reducible rfl
                              try simp only [Act.put, List.setIfInBounds_toArray, List.set_cons_zero, List.set_cons_succ]
                              refine wpAnyH_take (i := 37) (oi := ?o77) (v := ?v77) ?hi77 (by kernel_rfl) (by kernel_rfl) (by kernel_rfl) (fun _ _ _ h => h) ?hy77 (by assumption) ?rest77
                              case hi77 => simp only [List.getElem?_toArray, List.getElem?_cons_zero, List.getElem?_cons_succ]; rfl
                              case hy77 =>
                                refine Or.inl ⟨by rfl, ?_⟩
                                intro w hSw
                                (try dsimp only at hSw)
                                go_simp
                                all_goals with_reducible rfl
                              try simp only [Act.put, List.setIfInBounds_toArray, List.set_cons_zero, List.set_cons_succ]
                              refine wpAnyH_take (i := 38) (oi := ?o78) (v := ?v78) ?hi78 (by kernel_rfl) (by kernel_rfl) (by kernel_rfl) (fun _ _ _ h => h) ?hy78 (by assumption) ?rest78
                              case hi78 => simp only [List.getElem?_toArray, List.getElem?_cons_zero, List.getElem?_cons_succ]; rfl
                              case hy78 =>
                                refine Or.inl ⟨by rfl, ?_⟩
                                intro w hSw
                                (try dsimp only at hSw)
                                go_simp
                                all_goals with_reducible rfl
                              try simp only [Act.put, List.setIfInBounds_toArray, List.set_cons_zero, List.set_cons_succ]
                              refine wpAnyH_done (by kernel_rfl) ?_ _
                              refine NoPanic.normal ?_
                              have g1 := HS5.out.hs.cell (i := a) (by rw [HI.out.hl]; exact ha16)
                              have g2 := HS5.out.hs.cell (i := b) (by rw [HI.out.hl]; exact hb16)
                              have f1 := HS5.out.hs.frozen a
                              have HS6 := hid (HS5.out.setH a (hn H b))
                              have f2 := HS6.out.hs.frozen b
                              have g3 := HS6.out.hs.cell (i := b) (by rw [List.length_set, HI.out.hl]; exact hb16)
                              have HS7 := hid (HS6.out.setH b (hn H a))
                              generalize hn (H.set a (hn H b)) b = sc at *
                              generalize hn H a = sa at *
                              generalize hn H b = sb at *
                              go_wp2_with fail
                              go_meet
                              exact ⟨_, _, _, HV.out, HS7.out⟩
                        | false =>
                          have HCS := hid (show ∀ (M' : Mt) (H' : List ByteArray) (w' : World), Hd W S p mb vb hb tb o x y z s M' T H' w' → w'.cell? ⟨tb, a, none⟩ = some (.bool true) ∧ w'.cell? ⟨tb, b, none⟩ = some (.bool false) ∧ w'.cell? ⟨o, 0, none⟩ = some (.int .i64 x) from fun M' H' w' h => by
                            have k1 := h.tk.cell hta16
                            have k2 := h.tk.cell htb16
                            have k3 := h.op.cell 0
                            simp only [List.getElem?_toArray, List.getElem?_cons_zero] at k3
                            rw [hta] at k1
                            rw [htb] at k2
                            exact ⟨k1, k2, k3⟩)
                          obtain ⟨k1, k2, k3⟩ := HCS.out _ _ w4 HS4.out
                          obtain ⟨e1, e2⟩ := HI.out.swap_no ha16 hb16 (by rw [hta, htb]; rfl)
                          clear hta htb hta16 htb16
                          by_cases h5 : x = 5
                          ·
                            as_aux_lemma =>
                              have h5b : (x == 5) = true := by simpa using h5
                              have h5n : (x != 5) = false := by simpa using h5
                              clear h5
                              go_upto_region 11 with fail
                              refine wp_region_noPanic ?_
                              refine wp_region_held_drew (S := fun w' => w'.cell? ⟨tb, a, none⟩ = some (.bool true) ∧ w'.cell? ⟨tb, b, none⟩ = some (.bool false) ∧ w'.cell? ⟨o, 0, none⟩ = some (.int .i64 x)) (by kernel_rfl) ?_ (fun hHeld0 => ?_)
                              · (try dsimp only)
                                first | go_keep | assumption
                              refine wpAnyH_take (i := 0) (oi := ?o79) (v := ?v79) ?hi79 (by kernel_rfl) (by kernel_rfl) (by kernel_rfl) (fun _ _ _ h => h) ?hy79 (by assumption) ?rest79
                              case hi79 => simp only [List.getElem?_toArray, List.getElem?_cons_zero]; rfl
                              case hy79 =>
                                refine Or.inl ⟨by rfl, ?_⟩
                                intro w hSw
                                (try dsimp only at hSw)
                                go_simp
                                all_goals with_reducible rfl
                              try simp only [Act.put, List.setIfInBounds_toArray, List.set_cons_zero, List.set_cons_succ]
                              refine wpAnyH_take (i := 1) (oi := ?o80) (v := ?v80) ?hi80 (by kernel_rfl) (by kernel_rfl) (by kernel_rfl) (fun _ _ _ h => h) ?hy80 (by assumption) ?rest80
                              case hi80 => simp only [List.getElem?_toArray, List.getElem?_cons_zero, List.getElem?_cons_succ]; rfl
                              case hy80 =>
                                refine Or.inl ⟨by rfl, ?_⟩
                                intro w hSw
                                (try dsimp only at hSw)
                                go_simp
                                all_goals with_reducible rfl
                              try simp only [Act.put, List.setIfInBounds_toArray, List.set_cons_zero, List.set_cons_succ]
                              refine wpAnyH_take (i := 2) (oi := ?o81) (v := ?v81) ?hi81 (by kernel_rfl) (by kernel_rfl) (by kernel_rfl) (fun _ _ _ h => h) ?hy81 (by assumption) ?rest81
                              case hi81 => simp only [List.getElem?_toArray, List.getElem?_cons_zero, List.getElem?_cons_succ]; rfl
                              case hy81 =>
                                refine Or.inl ⟨by rfl, ?_⟩
                                intro w hSw
                                (try dsimp only at hSw)
                                go_simp
                                all_goals with_reducible rfl
                              try simp only [Act.put, List.setIfInBounds_toArray, List.set_cons_zero, List.set_cons_succ]
                              refine wpAnyH_take (i := 5) (oi := ?o82) (v := ?v82) ?hi82 (by kernel_rfl) (by kernel_rfl) (by kernel_rfl) (fun _ _ _ h => h) ?hy82 (by assumption) ?rest82
                              case hi82 => simp only [List.getElem?_toArray, List.getElem?_cons_zero, List.getElem?_cons_succ]; rfl
                              case hy82 =>
                                refine Or.inl ⟨by rfl, ?_⟩
                                intro w hSw
                                (try dsimp only at hSw)
                                go_simp
                                all_goals with_reducible rfl
                              try simp only [Act.put, List.setIfInBounds_toArray, List.set_cons_zero, List.set_cons_succ]
                              refine wpAnyH_take (i := 6) (oi := ?o83) (v := ?v83) ?hi83 (by kernel_rfl) (by kernel_rfl) (by kernel_rfl) (fun _ _ _ h => h) ?hy83 (by assumption) ?rest83
                              case hi83 => simp only [List.getElem?_toArray, List.getElem?_cons_zero, List.getElem?_cons_succ]; rfl
                              case hy83 =>
                                refine Or.inl ⟨by rfl, ?_⟩
                                intro w hSw
                                (try dsimp only at hSw)
                                go_simp
                                all_goals with_reducible rfl
                              try simp only [Act.put, List.setIfInBounds_toArray, List.set_cons_zero, List.set_cons_succ]
                              refine wpAnyH_take (i := 7) (oi := ?o84) (v := ?v84) ?hi84 (by kernel_rfl) (by kernel_rfl) (by kernel_rfl) (fun _ _ _ h => h) ?hy84 (by assumption) ?rest84
                              case hi84 => simp only [List.getElem?_toArray, List.getElem?_cons_zero, List.getElem?_cons_succ]; rfl
                              case hy84 =>
                                refine Or.inl ⟨by rfl, ?_⟩
                                intro w hSw
                                (try dsimp only at hSw)
                                go_simp
                                all_goals with_reducible rfl
                              try simp only [Act.put, List.setIfInBounds_toArray, List.set_cons_zero, List.set_cons_succ]
                              refine wpAnyH_take (i := 8) (oi := ?o85) (v := ?v85) ?hi85 (by kernel_rfl) (by kernel_rfl) (by kernel_rfl) (fun _ _ _ h => h) ?hy85 (by assumption) ?rest85
                              case hi85 => simp only [List.getElem?_toArray, List.getElem?_cons_zero, List.getElem?_cons_succ]; rfl
                              case hy85 =>
                                refine Or.inl ⟨by rfl, ?_⟩
                                intro w hSw
                                (try dsimp only at hSw)
                                go_simp
                                all_goals with_reducible rfl
                              try simp only [Act.put, List.setIfInBounds_toArray, List.set_cons_zero, List.set_cons_succ]
                              refine wpAnyH_ready (rs := [3]) (by kernel_rfl) (by simp) ?_
                              refine AllReadyH.cons (o := ?o86) ?ho86 (fun K hK => ?step86) AllReadyH.nil
                              case ho86 => simp only [List.getElem?_toArray, List.getElem?_cons_zero, List.getElem?_cons_succ]; rfl
                              go_simp
                              go_at_call 12
                              (with_reducible refine (swap_s HSD.out.sh (a : Int) (b : Int)).mono ?_)
                              rintro e w5 ⟨rfl, hs, ho⟩
                              rw [e1]; rw [e2] at hs; have HS5 := hid (HSD.out.turn hs ho); have S5 := HCS.out _ _ w5 HS5.out; clear hs ho
                              try (go_wp2_with fail)
                              refine hK.out _ _ ?_ (fun hHeld1 => ?_)
                              · (try dsimp only)
                                first | go_keep | assumption
                              clear hK K
                              try simp only [Act.put, List.setIfInBounds_toArray, List.set_cons_zero, List.set_cons_succ]
                              refine wpAnyH_take (i := 4) (oi := ?o87) (v := ?v87) ?hi87 (by kernel_rfl) (by kernel_rfl) (by kernel_rfl) (fun _ _ _ h => h) ?hy87 (by assumption) ?rest87
                              case hi87 => simp only [List.getElem?_toArray, List.getElem?_cons_zero, List.getElem?_cons_succ]; rfl
                              case hy87 =>
                                refine Or.inl ⟨by rfl, ?_⟩
                                intro w hSw
                                (try dsimp only at hSw)
                                go_simp
                                all_goals with_reducible rfl
                              try simp only [Act.put, List.setIfInBounds_toArray, List.set_cons_zero, List.set_cons_succ]
                              refine wpAnyH_take (i := 9) (oi := ?o88) (v := ?v88) ?hi88 (by kernel_rfl) (by kernel_rfl) (by kernel_rfl) (fun _ _ _ h => h) ?hy88 (by assumption) ?rest88
                              case hi88 => simp only [List.getElem?_toArray, List.getElem?_cons_zero, List.getElem?_cons_succ]; rfl
                              case hy88 =>
                                refine Or.inl ⟨by rfl, ?_⟩
                                intro w hSw
                                (try dsimp only at hSw)
                                go_simp
                                all_goals with_reducible rfl
                              try simp only [Act.put, List.setIfInBounds_toArray, List.set_cons_zero, List.set_cons_succ]
                              refine wpAnyH_take (i := 10) (oi := ?o89) (v := ?v89) ?hi89 (by kernel_rfl) (by kernel_rfl) (by kernel_rfl) (fun _ _ _ h => h) ?hy89 (by assumption) ?rest89
                              case hi89 => simp only [List.getElem?_toArray, List.getElem?_cons_zero, List.getElem?_cons_succ]; rfl
                              case hy89 =>
                                refine Or.inl ⟨by rfl, ?_⟩
                                intro w hSw
                                (try dsimp only at hSw)
                                go_simp
                                all_goals with_reducible rfl
                              try simp only [Act.put, List.setIfInBounds_toArray, List.set_cons_zero, List.set_cons_succ]
                              refine wpAnyH_take (i := 11) (oi := ?o90) (v := ?v90) ?hi90 (by kernel_rfl) (by kernel_rfl) (by kernel_rfl) (fun _ _ _ h => h) ?hy90 (by assumption) ?rest90
                              case hi90 => simp only [List.getElem?_toArray, List.getElem?_cons_zero, List.getElem?_cons_succ]; rfl
                              case hy90 =>
                                refine Or.inl ⟨by rfl, ?_⟩
                                intro w hSw
                                (try dsimp only at hSw)
                                go_simp
                                all_goals with_reducible rfl
                              try simp only [Act.put, List.setIfInBounds_toArray, List.set_cons_zero, List.set_cons_succ]
                              refine wpAnyH_take (i := 12) (oi := ?o91) (v := ?v91) ?hi91 (by kernel_rfl) (by kernel_rfl) (by kernel_rfl) (fun _ _ _ h => h) ?hy91 (by assumption) ?rest91
                              case hi91 => simp only [List.getElem?_toArray, List.getElem?_cons_zero, List.getElem?_cons_succ]; rfl
                              case hy91 =>
                                refine Or.inl ⟨by rfl, ?_⟩
                                intro w hSw
                                (try dsimp only at hSw)
                                go_simp
                                all_goals with_reducible rfl
                              try simp only [Act.put, List.setIfInBounds_toArray, List.set_cons_zero, List.set_cons_succ]
                              refine wpAnyH_take (i := 13) (oi := ?o92) (v := ?v92) ?hi92 (by kernel_rfl) (by kernel_rfl) (by kernel_rfl) (fun _ _ _ h => h) ?hy92 (by assumption) ?rest92
                              case hi92 => simp only [List.getElem?_toArray, List.getElem?_cons_zero, List.getElem?_cons_succ]; rfl
                              case hy92 =>
                                refine Or.inl ⟨by rfl, ?_⟩
                                intro w hSw
                                (try dsimp only at hSw)
                                go_simp
                                all_goals with_reducible rfl
                              try simp only [Act.put, List.setIfInBounds_toArray, List.set_cons_zero, List.set_cons_succ]
                              refine wpAnyH_take (i := 14) (oi := ?o93) (v := ?v93) ?hi93 (by kernel_rfl) (by kernel_rfl) (by kernel_rfl) (fun _ _ _ h => h) ?hy93 (by assumption) ?rest93
                              case hi93 => simp only [List.getElem?_toArray, List.getElem?_cons_zero, List.getElem?_cons_succ]; rfl
                              case hy93 =>
                                refine Or.inl ⟨by rfl, ?_⟩
                                intro w hSw
                                (try dsimp only at hSw)
                                go_simp
                                all_goals with_reducible rfl
                              try simp only [Act.put, List.setIfInBounds_toArray, List.set_cons_zero, List.set_cons_succ]
                              refine wpAnyH_take (i := 15) (oi := ?o94) (v := ?v94) ?hi94 (by kernel_rfl) (by kernel_rfl) (by kernel_rfl) (fun _ _ _ h => h) ?hy94 (by assumption) ?rest94
                              case hi94 => simp only [List.getElem?_toArray, List.getElem?_cons_zero, List.getElem?_cons_succ]; rfl
                              case hy94 =>
                                refine Or.inl ⟨by rfl, ?_⟩
                                intro w hSw
                                (try dsimp only at hSw)
                                go_simp
                                all_goals with_reducible rfl
                              try simp only [Act.put, List.setIfInBounds_toArray, List.set_cons_zero, List.set_cons_succ]
                              refine wpAnyH_take (i := 16) (oi := ?o95) (v := ?v95) ?hi95 (by kernel_rfl) (by kernel_rfl) (by kernel_rfl) (fun _ _ _ h => h) ?hy95 (by assumption) ?rest95
                              case hi95 => simp only [List.getElem?_toArray, List.getElem?_cons_zero, List.getElem?_cons_succ]; rfl
                              case hy95 =>
                                refine Or.inl ⟨by rfl, ?_⟩
                                intro w hSw
                                (try dsimp only at hSw)
                                go_simp
                                all_goals with_reducible rfl
                              try simp only [Act.put, List.setIfInBounds_toArray, List.set_cons_zero, List.set_cons_succ]
                              refine wpAnyH_take (i := 17) (oi := ?o96) (v := ?v96) ?hi96 (by kernel_rfl) (by kernel_rfl) (by kernel_rfl) (fun _ _ _ h => h) ?hy96 (by assumption) ?rest96
                              case hi96 => simp only [List.getElem?_toArray, List.getElem?_cons_zero, List.getElem?_cons_succ]; rfl
                              case hy96 =>
                                refine Or.inl ⟨by rfl, ?_⟩
                                intro w hSw
                                (try dsimp only at hSw)
                                go_simp
                                all_goals with_reducible rfl
                              try simp only [Act.put, List.setIfInBounds_toArray, List.set_cons_zero, List.set_cons_succ]
                              refine wpAnyH_take (i := 18) (oi := ?o97) (v := ?v97) ?hi97 (by kernel_rfl) (by kernel_rfl) (by kernel_rfl) (fun _ _ _ h => h) ?hy97 (by assumption) ?rest97
                              case hi97 => simp only [List.getElem?_toArray, List.getElem?_cons_zero, List.getElem?_cons_succ]; rfl
                              case hy97 =>
                                refine Or.inl ⟨by rfl, ?_⟩
                                intro w hSw
                                (try dsimp only at hSw)
                                go_simp
                                all_goals with_reducible rfl
                              try simp only [Act.put, List.setIfInBounds_toArray, List.set_cons_zero, List.set_cons_succ]
                              refine wpAnyH_take (i := 19) (oi := ?o98) (v := ?v98) ?hi98 (by kernel_rfl) (by kernel_rfl) (by kernel_rfl) (fun _ _ _ h => h) ?hy98 (by assumption) ?rest98
                              case hi98 => simp only [List.getElem?_toArray, List.getElem?_cons_zero, List.getElem?_cons_succ]; rfl
                              case hy98 =>
                                refine Or.inl ⟨by rfl, ?_⟩
                                intro w hSw
                                (try dsimp only at hSw)
                                go_simp
                                all_goals with_reducible rfl
                              try simp only [Act.put, List.setIfInBounds_toArray, List.set_cons_zero, List.set_cons_succ]
                              refine wpAnyH_take (i := 20) (oi := ?o99) (v := ?v99) ?hi99 (by kernel_rfl) (by kernel_rfl) (by kernel_rfl) (fun _ _ _ h => h) ?hy99 (by assumption) ?rest99
                              case hi99 => simp only [List.getElem?_toArray, List.getElem?_cons_zero, List.getElem?_cons_succ]; rfl
                              case hy99 =>
                                refine Or.inl ⟨by rfl, ?_⟩
                                intro w hSw
                                (try dsimp only at hSw)
                                go_simp
                                all_goals with_reducible rfl
                              try simp only [Act.put, List.setIfInBounds_toArray, List.set_cons_zero, List.set_cons_succ]
                              refine wpAnyH_take (i := 21) (oi := ?o100) (v := ?v100) ?hi100 (by kernel_rfl) (by kernel_rfl) (by kernel_rfl) (fun _ _ _ h => h) ?hy100 (by assumption) ?rest100
                              case hi100 => simp only [List.getElem?_toArray, List.getElem?_cons_zero, List.getElem?_cons_succ]; rfl
                              case hy100 =>
                                refine Or.inl ⟨by rfl, ?_⟩
                                intro w hSw
                                (try dsimp only at hSw)
                                go_simp
                                all_goals with_reducible rfl
                              try simp only [Act.put, List.setIfInBounds_toArray, List.set_cons_zero, List.set_cons_succ]
                              refine wpAnyH_take (i := 22) (oi := ?o101) (v := ?v101) ?hi101 (by kernel_rfl) (by kernel_rfl) (by kernel_rfl) (fun _ _ _ h => h) ?hy101 (by assumption) ?rest101
                              case hi101 => simp only [List.getElem?_toArray, List.getElem?_cons_zero, List.getElem?_cons_succ]; rfl
                              case hy101 =>
                                refine Or.inl ⟨by rfl, ?_⟩
                                intro w hSw
                                (try dsimp only at hSw)
                                go_simp
                                all_goals with_reducible rfl
                              try simp only [Act.put, List.setIfInBounds_toArray, List.set_cons_zero, List.set_cons_succ]
                              refine wpAnyH_take (i := 23) (oi := ?o102) (v := ?v102) ?hi102 (by kernel_rfl) (by kernel_rfl) (by kernel_rfl) (fun _ _ _ h => h) ?hy102 (by assumption) ?rest102
                              case hi102 => simp only [List.getElem?_toArray, List.getElem?_cons_zero, List.getElem?_cons_succ]; rfl
                              case hy102 =>
                                refine Or.inl ⟨by rfl, ?_⟩
                                intro w hSw
                                (try dsimp only at hSw)
                                go_simp
                                all_goals with_reducible rfl
                              try simp only [Act.put, List.setIfInBounds_toArray, List.set_cons_zero, List.set_cons_succ]
                              refine wpAnyH_take (i := 26) (oi := ?o103) (v := ?v103) ?hi103 (by kernel_rfl) (by kernel_rfl) (by kernel_rfl) (fun _ _ _ h => h) ?hy103 (by assumption) ?rest103
                              case hi103 => simp only [List.getElem?_toArray, List.getElem?_cons_zero, List.getElem?_cons_succ]; rfl
                              case hy103 =>
                                refine Or.inl ⟨by rfl, ?_⟩
                                intro w hSw
                                (try dsimp only at hSw)
                                go_simp
                                all_goals with_reducible rfl
                              try simp only [Act.put, List.setIfInBounds_toArray, List.set_cons_zero, List.set_cons_succ]
                              refine wpAnyH_take (i := 27) (oi := ?o104) (v := ?v104) ?hi104 (by kernel_rfl) (by kernel_rfl) (by kernel_rfl) (fun _ _ _ h => h) ?hy104 (by assumption) ?rest104
                              case hi104 => simp only [List.getElem?_toArray, List.getElem?_cons_zero, List.getElem?_cons_succ]; rfl
                              case hy104 =>
                                refine Or.inl ⟨by rfl, ?_⟩
                                intro w hSw
                                (try dsimp only at hSw)
                                go_simp
                                all_goals with_reducible rfl
                              try simp only [Act.put, List.setIfInBounds_toArray, List.set_cons_zero, List.set_cons_succ]
                              refine wpAnyH_take (i := 28) (oi := ?o105) (v := ?v105) ?hi105 (by kernel_rfl) (by kernel_rfl) (by kernel_rfl) (fun _ _ _ h => h) ?hy105 (by assumption) ?rest105
                              case hi105 => simp only [List.getElem?_toArray, List.getElem?_cons_zero, List.getElem?_cons_succ]; rfl
                              case hy105 =>
                                refine Or.inl ⟨by rfl, ?_⟩
                                intro w hSw
                                (try dsimp only at hSw)
                                go_simp
                                all_goals with_reducible rfl
                              try simp only [Act.put, List.setIfInBounds_toArray, List.set_cons_zero, List.set_cons_succ]
                              refine wpAnyH_take (i := 29) (oi := ?o106) (v := ?v106) ?hi106 (by kernel_rfl) (by kernel_rfl) (by kernel_rfl) (fun _ _ _ h => h) ?hy106 (by assumption) ?rest106
                              case hi106 => simp only [List.getElem?_toArray, List.getElem?_cons_zero, List.getElem?_cons_succ]; rfl
                              case hy106 =>
                                refine Or.inl ⟨by rfl, ?_⟩
                                intro w hSw
                                (try dsimp only at hSw)
                                go_simp
                                all_goals with_reducible rfl
                              try simp only [Act.put, List.setIfInBounds_toArray, List.set_cons_zero, List.set_cons_succ]
                              refine wpAnyH_ready (rs := [24]) (by kernel_rfl) (by simp) ?_
                              refine AllReadyH.cons (o := ?o107) ?ho107 (fun K hK => ?step107) AllReadyH.nil
                              case ho107 => simp only [List.getElem?_toArray, List.getElem?_cons_zero, List.getElem?_cons_succ]; rfl
                              go_simp
                              go_at_call 12
                              (with_reducible refine (swap_s HS5.out.sh (a : Int) (b : Int)).mono ?_)
                              rintro e w6 ⟨rfl, hs, ho⟩
                              rw [e1]; rw [e2] at hs; have HS6 := hid (HS5.out.turn hs ho); have S6 := HCS.out _ _ w6 HS6.out; clear hs ho
                              try (go_wp2_with fail)
                              refine hK.out _ _ ?_ (fun hHeld2 => ?_)
                              · (try dsimp only)
                                first | go_keep | assumption
                              clear hK K
                              try simp only [Act.put, List.setIfInBounds_toArray, List.set_cons_zero, List.set_cons_succ]
                              refine wpAnyH_take (i := 25) (oi := ?o108) (v := ?v108) ?hi108 (by kernel_rfl) (by kernel_rfl) (by kernel_rfl) (fun _ _ _ h => h) ?hy108 (by assumption) ?rest108
                              case hi108 => simp only [List.getElem?_toArray, List.getElem?_cons_zero, List.getElem?_cons_succ]; rfl
                              case hy108 =>
                                refine Or.inl ⟨by rfl, ?_⟩
                                intro w hSw
                                (try dsimp only at hSw)
                                go_simp
                                all_goals with_reducible rfl
                              try simp only [Act.put, List.setIfInBounds_toArray, List.set_cons_zero, List.set_cons_succ]
                              refine wpAnyH_take (i := 30) (oi := ?o109) (v := ?v109) ?hi109 (by kernel_rfl) (by kernel_rfl) (by kernel_rfl) (fun _ _ _ h => h) ?hy109 (by assumption) ?rest109
                              case hi109 => simp only [List.getElem?_toArray, List.getElem?_cons_zero, List.getElem?_cons_succ]; rfl
                              case hy109 =>
                                refine Or.inl ⟨by rfl, ?_⟩
                                intro w hSw
                                (try dsimp only at hSw)
                                go_simp
                                all_goals with_reducible rfl
                              try simp only [Act.put, List.setIfInBounds_toArray, List.set_cons_zero, List.set_cons_succ]
                              refine wpAnyH_take (i := 31) (oi := ?o110) (v := ?v110) ?hi110 (by kernel_rfl) (by kernel_rfl) (by kernel_rfl) (fun _ _ _ h => h) ?hy110 (by assumption) ?rest110
                              case hi110 => simp only [List.getElem?_toArray, List.getElem?_cons_zero, List.getElem?_cons_succ]; rfl
                              case hy110 =>
                                refine Or.inl ⟨by rfl, ?_⟩
                                intro w hSw
                                (try dsimp only at hSw)
                                go_simp
                                all_goals with_reducible rfl
                              try simp only [Act.put, List.setIfInBounds_toArray, List.set_cons_zero, List.set_cons_succ]
                              refine wpAnyH_take (i := 32) (oi := ?o111) (v := ?v111) ?hi111 (by kernel_rfl) (by kernel_rfl) (by kernel_rfl) (fun _ _ _ h => h) ?hy111 (by assumption) ?rest111
                              case hi111 => simp only [List.getElem?_toArray, List.getElem?_cons_zero, List.getElem?_cons_succ]; rfl
                              case hy111 =>
                                refine Or.inl ⟨by rfl, ?_⟩
                                intro w hSw
                                (try dsimp only at hSw)
                                go_simp
                                all_goals with_reducible rfl
                              try simp only [Act.put, List.setIfInBounds_toArray, List.set_cons_zero, List.set_cons_succ]
                              refine wpAnyH_take (i := 33) (oi := ?o112) (v := ?v112) ?hi112 (by kernel_rfl) (by kernel_rfl) (by kernel_rfl) (fun _ _ _ h => h) ?hy112 (by assumption) ?rest112
                              case hi112 => simp only [List.getElem?_toArray, List.getElem?_cons_zero, List.getElem?_cons_succ]; rfl
                              case hy112 =>
                                refine Or.inl ⟨by rfl, ?_⟩
                                intro w hSw
                                (try dsimp only at hSw)
                                go_simp
                                all_goals with_reducible rfl
                              try simp only [Act.put, List.setIfInBounds_toArray, List.set_cons_zero, List.set_cons_succ]
                              refine wpAnyH_take (i := 34) (oi := ?o113) (v := ?v113) ?hi113 (by kernel_rfl) (by kernel_rfl) (by kernel_rfl) (fun _ _ _ h => h) ?hy113 (by assumption) ?rest113
                              case hi113 => simp only [List.getElem?_toArray, List.getElem?_cons_zero, List.getElem?_cons_succ]; rfl
                              case hy113 =>
                                refine Or.inl ⟨by rfl, ?_⟩
                                intro w hSw
                                (try dsimp only at hSw)
                                go_simp
                                all_goals with_reducible rfl
                              try simp only [Act.put, List.setIfInBounds_toArray, List.set_cons_zero, List.set_cons_succ]
                              refine wpAnyH_take (i := 35) (oi := ?o114) (v := ?v114) ?hi114 (by kernel_rfl) (by kernel_rfl) (by kernel_rfl) (fun _ _ _ h => h) ?hy114 (by assumption) ?rest114
                              case hi114 => simp only [List.getElem?_toArray, List.getElem?_cons_zero, List.getElem?_cons_succ]; rfl
                              case hy114 =>
                                refine Or.inl ⟨by rfl, ?_⟩
                                intro w hSw
                                (try dsimp only at hSw)
                                go_simp
                                all_goals with_reducible rfl
                              try simp only [Act.put, List.setIfInBounds_toArray, List.set_cons_zero, List.set_cons_succ]
                              refine wpAnyH_take (i := 36) (oi := ?o115) (v := ?v115) ?hi115 (by kernel_rfl) (by kernel_rfl) (by kernel_rfl) (fun _ _ _ h => h) ?hy115 (by assumption) ?rest115
                              case hi115 => simp only [List.getElem?_toArray, List.getElem?_cons_zero, List.getElem?_cons_succ]; rfl
                              case hy115 =>
                                refine Or.inl ⟨by rfl, ?_⟩
                                intro w hSw
                                (try dsimp only at hSw)
                                go_simp
                                all_goals with_reducible rfl
                              try simp only [Act.put, List.setIfInBounds_toArray, List.set_cons_zero, List.set_cons_succ]
                              refine wpAnyH_take (i := 37) (oi := ?o116) (v := ?v116) ?hi116 (by kernel_rfl) (by kernel_rfl) (by kernel_rfl) (fun _ _ _ h => h) ?hy116 (by assumption) ?rest116
                              case hi116 => simp only [List.getElem?_toArray, List.getElem?_cons_zero, List.getElem?_cons_succ]; rfl
                              case hy116 =>
                                refine Or.inl ⟨by rfl, ?_⟩
                                intro w hSw
                                (try dsimp only at hSw)
                                go_simp
                                all_goals with_reducible rfl
                              try simp only [Act.put, List.setIfInBounds_toArray, List.set_cons_zero, List.set_cons_succ]
                              refine wpAnyH_take (i := 38) (oi := ?o117) (v := ?v117) ?hi117 (by kernel_rfl) (by kernel_rfl) (by kernel_rfl) (fun _ _ _ h => h) ?hy117 (by assumption) ?rest117
                              case hi117 => simp only [List.getElem?_toArray, List.getElem?_cons_zero, List.getElem?_cons_succ]; rfl
                              case hy117 =>
                                refine Or.inl ⟨by rfl, ?_⟩
                                intro w hSw
                                (try dsimp only at hSw)
                                go_simp
                                all_goals with_reducible rfl
                              try simp only [Act.put, List.setIfInBounds_toArray, List.set_cons_zero, List.set_cons_succ]
                              refine wpAnyH_done (by kernel_rfl) ?_ _
                              refine NoPanic.normal ?_
                              go_wp2_with fail
                              go_meet
                              exact ⟨_, _, _, HI.out, HS6.out⟩
                          ·
                            as_aux_lemma =>
                              have h5b : (x == 5) = false := by simpa using h5
                              have h5n : (x != 5) = true := by simpa using h5
                              clear h5
                              go_upto_region 11 with fail
                              refine wp_region_noPanic ?_
                              refine wp_region_held_drew (S := fun w' => w'.cell? ⟨tb, a, none⟩ = some (.bool true) ∧ w'.cell? ⟨tb, b, none⟩ = some (.bool false) ∧ w'.cell? ⟨o, 0, none⟩ = some (.int .i64 x)) (by kernel_rfl) ?_ (fun hHeld0 => ?_)
                              · (try dsimp only)
                                first | go_keep | assumption
                              refine wpAnyH_take (i := 0) (oi := ?o118) (v := ?v118) ?hi118 (by kernel_rfl) (by kernel_rfl) (by kernel_rfl) (fun _ _ _ h => h) ?hy118 (by assumption) ?rest118
                              case hi118 => simp only [List.getElem?_toArray, List.getElem?_cons_zero]; rfl
                              case hy118 =>
                                refine Or.inl ⟨by rfl, ?_⟩
                                intro w hSw
                                (try dsimp only at hSw)
                                go_simp
                                all_goals with_reducible rfl
                              try simp only [Act.put, List.setIfInBounds_toArray, List.set_cons_zero, List.set_cons_succ]
                              refine wpAnyH_take (i := 1) (oi := ?o119) (v := ?v119) ?hi119 (by kernel_rfl) (by kernel_rfl) (by kernel_rfl) (fun _ _ _ h => h) ?hy119 (by assumption) ?rest119
                              case hi119 => simp only [List.getElem?_toArray, List.getElem?_cons_zero, List.getElem?_cons_succ]; rfl
                              case hy119 =>
                                refine Or.inl ⟨by rfl, ?_⟩
                                intro w hSw
                                (try dsimp only at hSw)
                                go_simp
                                all_goals with_reducible rfl
                              try simp only [Act.put, List.setIfInBounds_toArray, List.set_cons_zero, List.set_cons_succ]
                              refine wpAnyH_take (i := 2) (oi := ?o120) (v := ?v120) ?hi120 (by kernel_rfl) (by kernel_rfl) (by kernel_rfl) (fun _ _ _ h => h) ?hy120 (by assumption) ?rest120
                              case hi120 => simp only [List.getElem?_toArray, List.getElem?_cons_zero, List.getElem?_cons_succ]; rfl
                              case hy120 =>
                                refine Or.inl ⟨by rfl, ?_⟩
                                intro w hSw
                                (try dsimp only at hSw)
                                go_simp
                                all_goals with_reducible rfl
                              try simp only [Act.put, List.setIfInBounds_toArray, List.set_cons_zero, List.set_cons_succ]
                              refine wpAnyH_take (i := 5) (oi := ?o121) (v := ?v121) ?hi121 (by kernel_rfl) (by kernel_rfl) (by kernel_rfl) (fun _ _ _ h => h) ?hy121 (by assumption) ?rest121
                              case hi121 => simp only [List.getElem?_toArray, List.getElem?_cons_zero, List.getElem?_cons_succ]; rfl
                              case hy121 =>
                                refine Or.inl ⟨by rfl, ?_⟩
                                intro w hSw
                                (try dsimp only at hSw)
                                go_simp
                                all_goals with_reducible rfl
                              try simp only [Act.put, List.setIfInBounds_toArray, List.set_cons_zero, List.set_cons_succ]
                              refine wpAnyH_take (i := 6) (oi := ?o122) (v := ?v122) ?hi122 (by kernel_rfl) (by kernel_rfl) (by kernel_rfl) (fun _ _ _ h => h) ?hy122 (by assumption) ?rest122
                              case hi122 => simp only [List.getElem?_toArray, List.getElem?_cons_zero, List.getElem?_cons_succ]; rfl
                              case hy122 =>
                                refine Or.inl ⟨by rfl, ?_⟩
                                intro w hSw
                                (try dsimp only at hSw)
                                go_simp
                                all_goals with_reducible rfl
                              try simp only [Act.put, List.setIfInBounds_toArray, List.set_cons_zero, List.set_cons_succ]
                              refine wpAnyH_take (i := 7) (oi := ?o123) (v := ?v123) ?hi123 (by kernel_rfl) (by kernel_rfl) (by kernel_rfl) (fun _ _ _ h => h) ?hy123 (by assumption) ?rest123
                              case hi123 => simp only [List.getElem?_toArray, List.getElem?_cons_zero, List.getElem?_cons_succ]; rfl
                              case hy123 =>
                                refine Or.inl ⟨by rfl, ?_⟩
                                intro w hSw
                                (try dsimp only at hSw)
                                go_simp
                                all_goals with_reducible rfl
                              try simp only [Act.put, List.setIfInBounds_toArray, List.set_cons_zero, List.set_cons_succ]
                              refine wpAnyH_take (i := 8) (oi := ?o124) (v := ?v124) ?hi124 (by kernel_rfl) (by kernel_rfl) (by kernel_rfl) (fun _ _ _ h => h) ?hy124 (by assumption) ?rest124
                              case hi124 => simp only [List.getElem?_toArray, List.getElem?_cons_zero, List.getElem?_cons_succ]; rfl
                              case hy124 =>
                                refine Or.inl ⟨by rfl, ?_⟩
                                intro w hSw
                                (try dsimp only at hSw)
                                go_simp
                                all_goals with_reducible rfl
                              try simp only [Act.put, List.setIfInBounds_toArray, List.set_cons_zero, List.set_cons_succ]
                              refine wpAnyH_ready (rs := [3]) (by kernel_rfl) (by simp) ?_
                              refine AllReadyH.cons (o := ?o125) ?ho125 (fun K hK => ?step125) AllReadyH.nil
                              case ho125 => simp only [List.getElem?_toArray, List.getElem?_cons_zero, List.getElem?_cons_succ]; rfl
                              go_simp
                              go_at_call 12
                              (with_reducible refine (swap_s HSD.out.sh (a : Int) (b : Int)).mono ?_)
                              rintro e w5 ⟨rfl, hs, ho⟩
                              rw [e1]; rw [e2] at hs; have HS5 := hid (HSD.out.turn hs ho); have S5 := HCS.out _ _ w5 HS5.out; clear hs ho
                              try (go_wp2_with fail)
                              refine hK.out _ _ ?_ (fun hHeld1 => ?_)
                              · (try dsimp only)
                                first | go_keep | assumption
                              clear hK K
                              try simp only [Act.put, List.setIfInBounds_toArray, List.set_cons_zero, List.set_cons_succ]
                              refine wpAnyH_take (i := 4) (oi := ?o126) (v := ?v126) ?hi126 (by kernel_rfl) (by kernel_rfl) (by kernel_rfl) (fun _ _ _ h => h) ?hy126 (by assumption) ?rest126
                              case hi126 => simp only [List.getElem?_toArray, List.getElem?_cons_zero, List.getElem?_cons_succ]; rfl
                              case hy126 =>
                                refine Or.inl ⟨by rfl, ?_⟩
                                intro w hSw
                                (try dsimp only at hSw)
                                go_simp
                                all_goals with_reducible rfl
                              try simp only [Act.put, List.setIfInBounds_toArray, List.set_cons_zero, List.set_cons_succ]
                              refine wpAnyH_take (i := 9) (oi := ?o127) (v := ?v127) ?hi127 (by kernel_rfl) (by kernel_rfl) (by kernel_rfl) (fun _ _ _ h => h) ?hy127 (by assumption) ?rest127
                              case hi127 => simp only [List.getElem?_toArray, List.getElem?_cons_zero, List.getElem?_cons_succ]; rfl
                              case hy127 =>
                                refine Or.inl ⟨by rfl, ?_⟩
                                intro w hSw
                                (try dsimp only at hSw)
                                go_simp
                                all_goals with_reducible rfl
                              try simp only [Act.put, List.setIfInBounds_toArray, List.set_cons_zero, List.set_cons_succ]
                              refine wpAnyH_take (i := 10) (oi := ?o128) (v := ?v128) ?hi128 (by kernel_rfl) (by kernel_rfl) (by kernel_rfl) (fun _ _ _ h => h) ?hy128 (by assumption) ?rest128
                              case hi128 => simp only [List.getElem?_toArray, List.getElem?_cons_zero, List.getElem?_cons_succ]; rfl
                              case hy128 =>
                                refine Or.inl ⟨by rfl, ?_⟩
                                intro w hSw
                                (try dsimp only at hSw)
                                go_simp
                                all_goals with_reducible rfl
                              try simp only [Act.put, List.setIfInBounds_toArray, List.set_cons_zero, List.set_cons_succ]
                              refine wpAnyH_take (i := 11) (oi := ?o129) (v := ?v129) ?hi129 (by kernel_rfl) (by kernel_rfl) (by kernel_rfl) (fun _ _ _ h => h) ?hy129 (by assumption) ?rest129
                              case hi129 => simp only [List.getElem?_toArray, List.getElem?_cons_zero, List.getElem?_cons_succ]; rfl
                              case hy129 =>
                                refine Or.inl ⟨by rfl, ?_⟩
                                intro w hSw
                                (try dsimp only at hSw)
                                go_simp
                                all_goals with_reducible rfl
                              try simp only [Act.put, List.setIfInBounds_toArray, List.set_cons_zero, List.set_cons_succ]
                              refine wpAnyH_take (i := 12) (oi := ?o130) (v := ?v130) ?hi130 (by kernel_rfl) (by kernel_rfl) (by kernel_rfl) (fun _ _ _ h => h) ?hy130 (by assumption) ?rest130
                              case hi130 => simp only [List.getElem?_toArray, List.getElem?_cons_zero, List.getElem?_cons_succ]; rfl
                              case hy130 =>
                                refine Or.inl ⟨by rfl, ?_⟩
                                intro w hSw
                                (try dsimp only at hSw)
                                go_simp
                                all_goals with_reducible rfl
                              try simp only [Act.put, List.setIfInBounds_toArray, List.set_cons_zero, List.set_cons_succ]
                              refine wpAnyH_take (i := 13) (oi := ?o131) (v := ?v131) ?hi131 (by kernel_rfl) (by kernel_rfl) (by kernel_rfl) (fun _ _ _ h => h) ?hy131 (by assumption) ?rest131
                              case hi131 => simp only [List.getElem?_toArray, List.getElem?_cons_zero, List.getElem?_cons_succ]; rfl
                              case hy131 =>
                                refine Or.inl ⟨by rfl, ?_⟩
                                intro w hSw
                                (try dsimp only at hSw)
                                go_simp
                                all_goals with_reducible rfl
                              try simp only [Act.put, List.setIfInBounds_toArray, List.set_cons_zero, List.set_cons_succ]
                              refine wpAnyH_take (i := 14) (oi := ?o132) (v := ?v132) ?hi132 (by kernel_rfl) (by kernel_rfl) (by kernel_rfl) (fun _ _ _ h => h) ?hy132 (by assumption) ?rest132
                              case hi132 => simp only [List.getElem?_toArray, List.getElem?_cons_zero, List.getElem?_cons_succ]; rfl
                              case hy132 =>
                                refine Or.inl ⟨by rfl, ?_⟩
                                intro w hSw
                                (try dsimp only at hSw)
                                go_simp
                                all_goals with_reducible rfl
                              try simp only [Act.put, List.setIfInBounds_toArray, List.set_cons_zero, List.set_cons_succ]
                              refine wpAnyH_take (i := 15) (oi := ?o133) (v := ?v133) ?hi133 (by kernel_rfl) (by kernel_rfl) (by kernel_rfl) (fun _ _ _ h => h) ?hy133 (by assumption) ?rest133
                              case hi133 => simp only [List.getElem?_toArray, List.getElem?_cons_zero, List.getElem?_cons_succ]; rfl
                              case hy133 =>
                                refine Or.inl ⟨by rfl, ?_⟩
                                intro w hSw
                                (try dsimp only at hSw)
                                go_simp
                                all_goals with_reducible rfl
                              try simp only [Act.put, List.setIfInBounds_toArray, List.set_cons_zero, List.set_cons_succ]
                              refine wpAnyH_take (i := 16) (oi := ?o134) (v := ?v134) ?hi134 (by kernel_rfl) (by kernel_rfl) (by kernel_rfl) (fun _ _ _ h => h) ?hy134 (by assumption) ?rest134
                              case hi134 => simp only [List.getElem?_toArray, List.getElem?_cons_zero, List.getElem?_cons_succ]; rfl
                              case hy134 =>
                                refine Or.inl ⟨by rfl, ?_⟩
                                intro w hSw
                                (try dsimp only at hSw)
                                go_simp
                                all_goals with_reducible rfl
                              try simp only [Act.put, List.setIfInBounds_toArray, List.set_cons_zero, List.set_cons_succ]
                              refine wpAnyH_take (i := 17) (oi := ?o135) (v := ?v135) ?hi135 (by kernel_rfl) (by kernel_rfl) (by kernel_rfl) (fun _ _ _ h => h) ?hy135 (by assumption) ?rest135
                              case hi135 => simp only [List.getElem?_toArray, List.getElem?_cons_zero, List.getElem?_cons_succ]; rfl
                              case hy135 =>
                                refine Or.inl ⟨by rfl, ?_⟩
                                intro w hSw
                                (try dsimp only at hSw)
                                go_simp
                                all_goals with_reducible rfl
                              try simp only [Act.put, List.setIfInBounds_toArray, List.set_cons_zero, List.set_cons_succ]
                              refine wpAnyH_take (i := 18) (oi := ?o136) (v := ?v136) ?hi136 (by kernel_rfl) (by kernel_rfl) (by kernel_rfl) (fun _ _ _ h => h) ?hy136 (by assumption) ?rest136
                              case hi136 => simp only [List.getElem?_toArray, List.getElem?_cons_zero, List.getElem?_cons_succ]; rfl
                              case hy136 =>
                                refine Or.inl ⟨by rfl, ?_⟩
                                intro w hSw
                                (try dsimp only at hSw)
                                go_simp
                                all_goals with_reducible rfl
                              try simp only [Act.put, List.setIfInBounds_toArray, List.set_cons_zero, List.set_cons_succ]
                              refine wpAnyH_take (i := 19) (oi := ?o137) (v := ?v137) ?hi137 (by kernel_rfl) (by kernel_rfl) (by kernel_rfl) (fun _ _ _ h => h) ?hy137 (by assumption) ?rest137
                              case hi137 => simp only [List.getElem?_toArray, List.getElem?_cons_zero, List.getElem?_cons_succ]; rfl
                              case hy137 =>
                                refine Or.inl ⟨by rfl, ?_⟩
                                intro w hSw
                                (try dsimp only at hSw)
                                go_simp
                                all_goals with_reducible rfl
                              try simp only [Act.put, List.setIfInBounds_toArray, List.set_cons_zero, List.set_cons_succ]
                              refine wpAnyH_take (i := 20) (oi := ?o138) (v := ?v138) ?hi138 (by kernel_rfl) (by kernel_rfl) (by kernel_rfl) (fun _ _ _ h => h) ?hy138 (by assumption) ?rest138
                              case hi138 => simp only [List.getElem?_toArray, List.getElem?_cons_zero, List.getElem?_cons_succ]; rfl
                              case hy138 =>
                                refine Or.inl ⟨by rfl, ?_⟩
                                intro w hSw
                                (try dsimp only at hSw)
                                go_simp
                                all_goals with_reducible rfl
                              try simp only [Act.put, List.setIfInBounds_toArray, List.set_cons_zero, List.set_cons_succ]
                              refine wpAnyH_take (i := 21) (oi := ?o139) (v := ?v139) ?hi139 (by kernel_rfl) (by kernel_rfl) (by kernel_rfl) (fun _ _ _ h => h) ?hy139 (by assumption) ?rest139
                              case hi139 => simp only [List.getElem?_toArray, List.getElem?_cons_zero, List.getElem?_cons_succ]; rfl
                              case hy139 =>
                                refine Or.inr ⟨by rfl, ?_⟩
                                with_reducible rfl
                              try simp only [Act.put, List.setIfInBounds_toArray, List.set_cons_zero, List.set_cons_succ]
                              refine wpAnyH_take (i := 22) (oi := ?o140) (v := ?v140) ?hi140 (by kernel_rfl) (by kernel_rfl) (by kernel_rfl) (fun _ _ _ h => h) ?hy140 (by assumption) ?rest140
                              case hi140 => simp only [List.getElem?_toArray, List.getElem?_cons_zero, List.getElem?_cons_succ]; rfl
                              case hy140 =>
                                refine Or.inr ⟨by rfl, ?_⟩
                                with_reducible rfl
                              try simp only [Act.put, List.setIfInBounds_toArray, List.set_cons_zero, List.set_cons_succ]
                              refine wpAnyH_take (i := 23) (oi := ?o141) (v := ?v141) ?hi141 (by kernel_rfl) (by kernel_rfl) (by kernel_rfl) (fun _ _ _ h => h) ?hy141 (by assumption) ?rest141
                              case hi141 => simp only [List.getElem?_toArray, List.getElem?_cons_zero, List.getElem?_cons_succ]; rfl
                              case hy141 =>
                                refine Or.inr ⟨by rfl, ?_⟩
                                with_reducible rfl
                              try simp only [Act.put, List.setIfInBounds_toArray, List.set_cons_zero, List.set_cons_succ]
                              refine wpAnyH_take (i := 26) (oi := ?o142) (v := ?v142) ?hi142 (by kernel_rfl) (by kernel_rfl) (by kernel_rfl) (fun _ _ _ h => h) ?hy142 (by assumption) ?rest142
                              case hi142 => simp only [List.getElem?_toArray, List.getElem?_cons_zero, List.getElem?_cons_succ]; rfl
                              case hy142 =>
                                refine Or.inr ⟨by rfl, ?_⟩
                                with_reducible rfl
                              try simp only [Act.put, List.setIfInBounds_toArray, List.set_cons_zero, List.set_cons_succ]
                              refine wpAnyH_take (i := 27) (oi := ?o143) (v := ?v143) ?hi143 (by kernel_rfl) (by kernel_rfl) (by kernel_rfl) (fun _ _ _ h => h) ?hy143 (by assumption) ?rest143
                              case hi143 => simp only [List.getElem?_toArray, List.getElem?_cons_zero, List.getElem?_cons_succ]; rfl
                              case hy143 =>
                                refine Or.inr ⟨by rfl, ?_⟩
                                with_reducible rfl
                              try simp only [Act.put, List.setIfInBounds_toArray, List.set_cons_zero, List.set_cons_succ]
                              refine wpAnyH_take (i := 28) (oi := ?o144) (v := ?v144) ?hi144 (by kernel_rfl) (by kernel_rfl) (by kernel_rfl) (fun _ _ _ h => h) ?hy144 (by assumption) ?rest144
                              case hi144 => simp only [List.getElem?_toArray, List.getElem?_cons_zero, List.getElem?_cons_succ]; rfl
                              case hy144 =>
                                refine Or.inr ⟨by rfl, ?_⟩
                                with_reducible rfl
                              try simp only [Act.put, List.setIfInBounds_toArray, List.set_cons_zero, List.set_cons_succ]
                              refine wpAnyH_take (i := 29) (oi := ?o145) (v := ?v145) ?hi145 (by kernel_rfl) (by kernel_rfl) (by kernel_rfl) (fun _ _ _ h => h) ?hy145 (by assumption) ?rest145
                              case hi145 => simp only [List.getElem?_toArray, List.getElem?_cons_zero, List.getElem?_cons_succ]; rfl
                              case hy145 =>
                                refine Or.inr ⟨by rfl, ?_⟩
                                with_reducible rfl
                              try simp only [Act.put, List.setIfInBounds_toArray, List.set_cons_zero, List.set_cons_succ]
                              refine wpAnyH_ready (rs := [24]) (by kernel_rfl) (by simp) ?_
                              refine AllReadyH.cons (o := ?o146) ?ho146 (fun K hK => ?step146) AllReadyH.nil
                              case ho146 => simp only [List.getElem?_toArray, List.getElem?_cons_zero, List.getElem?_cons_succ]; rfl
                              go_simp
                              refine hK.out _ _ ?_ (fun hHeld2 => ?_)
                              · (try dsimp only)
                                first | go_keep | assumption
                              clear hK K
                              try simp only [Act.put, List.setIfInBounds_toArray, List.set_cons_zero, List.set_cons_succ]
                              refine wpAnyH_take (i := 25) (oi := ?o147) (v := ?v147) ?hi147 (by kernel_rfl) (by kernel_rfl) (by kernel_rfl) (fun _ _ _ h => h) ?hy147 (by assumption) ?rest147
                              case hi147 => simp only [List.getElem?_toArray, List.getElem?_cons_zero, List.getElem?_cons_succ]; rfl
                              case hy147 =>
                                refine Or.inr ⟨by rfl, ?_⟩
                                with_reducible rfl
                              try simp only [Act.put, List.setIfInBounds_toArray, List.set_cons_zero, List.set_cons_succ]
                              refine wpAnyH_take (i := 30) (oi := ?o148) (v := ?v148) ?hi148 (by kernel_rfl) (by kernel_rfl) (by kernel_rfl) (fun _ _ _ h => h) ?hy148 (by assumption) ?rest148
                              case hi148 => simp only [List.getElem?_toArray, List.getElem?_cons_zero, List.getElem?_cons_succ]; rfl
                              case hy148 =>
                                refine Or.inr ⟨by rfl, ?_⟩
                                with_reducible rfl
                              try simp only [Act.put, List.setIfInBounds_toArray, List.set_cons_zero, List.set_cons_succ]
                              refine wpAnyH_take (i := 31) (oi := ?o149) (v := ?v149) ?hi149 (by kernel_rfl) (by kernel_rfl) (by kernel_rfl) (fun _ _ _ h => h) ?hy149 (by assumption) ?rest149
                              case hi149 => simp only [List.getElem?_toArray, List.getElem?_cons_zero, List.getElem?_cons_succ]; rfl
                              case hy149 =>
                                refine Or.inr ⟨by rfl, ?_⟩
                                with_reducible rfl
                              try simp only [Act.put, List.setIfInBounds_toArray, List.set_cons_zero, List.set_cons_succ]
                              refine wpAnyH_take (i := 32) (oi := ?o150) (v := ?v150) ?hi150 (by kernel_rfl) (by kernel_rfl) (by kernel_rfl) (fun _ _ _ h => h) ?hy150 (by assumption) ?rest150
                              case hi150 => simp only [List.getElem?_toArray, List.getElem?_cons_zero, List.getElem?_cons_succ]; rfl
                              case hy150 =>
                                refine Or.inr ⟨by rfl, ?_⟩
                                with_reducible rfl
                              try simp only [Act.put, List.setIfInBounds_toArray, List.set_cons_zero, List.set_cons_succ]
                              refine wpAnyH_take (i := 33) (oi := ?o151) (v := ?v151) ?hi151 (by kernel_rfl) (by kernel_rfl) (by kernel_rfl) (fun _ _ _ h => h) ?hy151 (by assumption) ?rest151
                              case hi151 => simp only [List.getElem?_toArray, List.getElem?_cons_zero, List.getElem?_cons_succ]; rfl
                              case hy151 =>
                                refine Or.inr ⟨by rfl, ?_⟩
                                with_reducible rfl
                              try simp only [Act.put, List.setIfInBounds_toArray, List.set_cons_zero, List.set_cons_succ]
                              refine wpAnyH_take (i := 34) (oi := ?o152) (v := ?v152) ?hi152 (by kernel_rfl) (by kernel_rfl) (by kernel_rfl) (fun _ _ _ h => h) ?hy152 (by assumption) ?rest152
                              case hi152 => simp only [List.getElem?_toArray, List.getElem?_cons_zero, List.getElem?_cons_succ]; rfl
                              case hy152 =>
                                refine Or.inr ⟨by rfl, ?_⟩
                                with_reducible rfl
                              try simp only [Act.put, List.setIfInBounds_toArray, List.set_cons_zero, List.set_cons_succ]
                              refine wpAnyH_take (i := 35) (oi := ?o153) (v := ?v153) ?hi153 (by kernel_rfl) (by kernel_rfl) (by kernel_rfl) (fun _ _ _ h => h) ?hy153 (by assumption) ?rest153
                              case hi153 => simp only [List.getElem?_toArray, List.getElem?_cons_zero, List.getElem?_cons_succ]; rfl
                              case hy153 =>
                                refine Or.inr ⟨by rfl, ?_⟩
                                with_reducible rfl
                              try simp only [Act.put, List.setIfInBounds_toArray, List.set_cons_zero, List.set_cons_succ]
                              refine wpAnyH_take (i := 36) (oi := ?o154) (v := ?v154) ?hi154 (by kernel_rfl) (by kernel_rfl) (by kernel_rfl) (fun _ _ _ h => h) ?hy154 (by assumption) ?rest154
                              case hi154 => simp only [List.getElem?_toArray, List.getElem?_cons_zero, List.getElem?_cons_succ]; rfl
                              case hy154 =>
                                refine Or.inr ⟨by rfl, ?_⟩
                                with_reducible rfl
                              try simp only [Act.put, List.setIfInBounds_toArray, List.set_cons_zero, List.set_cons_succ]
                              refine wpAnyH_take (i := 37) (oi := ?o155) (v := ?v155) ?hi155 (by kernel_rfl) (by kernel_rfl) (by kernel_rfl) (fun _ _ _ h => h) ?hy155 (by assumption) ?rest155
                              case hi155 => simp only [List.getElem?_toArray, List.getElem?_cons_zero, List.getElem?_cons_succ]; rfl
                              case hy155 =>
                                refine Or.inl ⟨by rfl, ?_⟩
                                intro w hSw
                                (try dsimp only at hSw)
                                go_simp
                                all_goals with_reducible rfl
                              try simp only [Act.put, List.setIfInBounds_toArray, List.set_cons_zero, List.set_cons_succ]
                              refine wpAnyH_take (i := 38) (oi := ?o156) (v := ?v156) ?hi156 (by kernel_rfl) (by kernel_rfl) (by kernel_rfl) (fun _ _ _ h => h) ?hy156 (by assumption) ?rest156
                              case hi156 => simp only [List.getElem?_toArray, List.getElem?_cons_zero, List.getElem?_cons_succ]; rfl
                              case hy156 =>
                                refine Or.inl ⟨by rfl, ?_⟩
                                intro w hSw
                                (try dsimp only at hSw)
                                go_simp
                                all_goals with_reducible rfl
                              try simp only [Act.put, List.setIfInBounds_toArray, List.set_cons_zero, List.set_cons_succ]
                              refine wpAnyH_done (by kernel_rfl) ?_ _
                              refine NoPanic.normal ?_
                              go_wp2_with fail
                              go_meet
                              exact ⟨_, _, _, HI.out, HS5.out⟩
                      | false =>
                        cases htb : tk T b with
                        | true =>
                          have HCS := hid (show ∀ (M' : Mt) (H' : List ByteArray) (w' : World), Hd W S p mb vb hb tb o x y z s M' T H' w' → w'.cell? ⟨tb, a, none⟩ = some (.bool false) ∧ w'.cell? ⟨tb, b, none⟩ = some (.bool true) ∧ w'.cell? ⟨o, 0, none⟩ = some (.int .i64 x) from fun M' H' w' h => by
                            have k1 := h.tk.cell hta16
                            have k2 := h.tk.cell htb16
                            have k3 := h.op.cell 0
                            simp only [List.getElem?_toArray, List.getElem?_cons_zero] at k3
                            rw [hta] at k1
                            rw [htb] at k2
                            exact ⟨k1, k2, k3⟩)
                          obtain ⟨k1, k2, k3⟩ := HCS.out _ _ w4 HS4.out
                          obtain ⟨e1, e2⟩ := HI.out.swap_no ha16 hb16 (by rw [hta, htb]; rfl)
                          clear hta htb hta16 htb16
                          by_cases h5 : x = 5
                          ·
                            as_aux_lemma =>
                              have h5b : (x == 5) = true := by simpa using h5
                              have h5n : (x != 5) = false := by simpa using h5
                              clear h5
                              go_upto_region 11 with fail
                              refine wp_region_noPanic ?_
                              refine wp_region_held_drew (S := fun w' => w'.cell? ⟨tb, a, none⟩ = some (.bool false) ∧ w'.cell? ⟨tb, b, none⟩ = some (.bool true) ∧ w'.cell? ⟨o, 0, none⟩ = some (.int .i64 x)) (by kernel_rfl) ?_ (fun hHeld0 => ?_)
                              · (try dsimp only)
                                first | go_keep | assumption
                              refine wpAnyH_take (i := 0) (oi := ?o157) (v := ?v157) ?hi157 (by kernel_rfl) (by kernel_rfl) (by kernel_rfl) (fun _ _ _ h => h) ?hy157 (by assumption) ?rest157
                              case hi157 => simp only [List.getElem?_toArray, List.getElem?_cons_zero]; rfl
                              case hy157 =>
                                refine Or.inl ⟨by rfl, ?_⟩
                                intro w hSw
                                (try dsimp only at hSw)
                                go_simp
                                all_goals with_reducible rfl
                              try simp only [Act.put, List.setIfInBounds_toArray, List.set_cons_zero, List.set_cons_succ]
                              refine wpAnyH_take (i := 1) (oi := ?o158) (v := ?v158) ?hi158 (by kernel_rfl) (by kernel_rfl) (by kernel_rfl) (fun _ _ _ h => h) ?hy158 (by assumption) ?rest158
                              case hi158 => simp only [List.getElem?_toArray, List.getElem?_cons_zero, List.getElem?_cons_succ]; rfl
                              case hy158 =>
                                refine Or.inl ⟨by rfl, ?_⟩
                                intro w hSw
                                (try dsimp only at hSw)
                                go_simp
                                all_goals with_reducible rfl
                              try simp only [Act.put, List.setIfInBounds_toArray, List.set_cons_zero, List.set_cons_succ]
                              refine wpAnyH_take (i := 2) (oi := ?o159) (v := ?v159) ?hi159 (by kernel_rfl) (by kernel_rfl) (by kernel_rfl) (fun _ _ _ h => h) ?hy159 (by assumption) ?rest159
                              case hi159 => simp only [List.getElem?_toArray, List.getElem?_cons_zero, List.getElem?_cons_succ]; rfl
                              case hy159 =>
                                refine Or.inl ⟨by rfl, ?_⟩
                                intro w hSw
                                (try dsimp only at hSw)
                                go_simp
                                all_goals with_reducible rfl
                              try simp only [Act.put, List.setIfInBounds_toArray, List.set_cons_zero, List.set_cons_succ]
                              refine wpAnyH_take (i := 5) (oi := ?o160) (v := ?v160) ?hi160 (by kernel_rfl) (by kernel_rfl) (by kernel_rfl) (fun _ _ _ h => h) ?hy160 (by assumption) ?rest160
                              case hi160 => simp only [List.getElem?_toArray, List.getElem?_cons_zero, List.getElem?_cons_succ]; rfl
                              case hy160 =>
                                refine Or.inl ⟨by rfl, ?_⟩
                                intro w hSw
                                (try dsimp only at hSw)
                                go_simp
                                all_goals with_reducible rfl
                              try simp only [Act.put, List.setIfInBounds_toArray, List.set_cons_zero, List.set_cons_succ]
                              refine wpAnyH_take (i := 6) (oi := ?o161) (v := ?v161) ?hi161 (by kernel_rfl) (by kernel_rfl) (by kernel_rfl) (fun _ _ _ h => h) ?hy161 (by assumption) ?rest161
                              case hi161 => simp only [List.getElem?_toArray, List.getElem?_cons_zero, List.getElem?_cons_succ]; rfl
                              case hy161 =>
                                refine Or.inl ⟨by rfl, ?_⟩
                                intro w hSw
                                (try dsimp only at hSw)
                                go_simp
                                all_goals with_reducible rfl
                              try simp only [Act.put, List.setIfInBounds_toArray, List.set_cons_zero, List.set_cons_succ]
                              refine wpAnyH_take (i := 7) (oi := ?o162) (v := ?v162) ?hi162 (by kernel_rfl) (by kernel_rfl) (by kernel_rfl) (fun _ _ _ h => h) ?hy162 (by assumption) ?rest162
                              case hi162 => simp only [List.getElem?_toArray, List.getElem?_cons_zero, List.getElem?_cons_succ]; rfl
                              case hy162 =>
                                refine Or.inl ⟨by rfl, ?_⟩
                                intro w hSw
                                (try dsimp only at hSw)
                                go_simp
                                all_goals with_reducible rfl
                              try simp only [Act.put, List.setIfInBounds_toArray, List.set_cons_zero, List.set_cons_succ]
                              refine wpAnyH_take (i := 8) (oi := ?o163) (v := ?v163) ?hi163 (by kernel_rfl) (by kernel_rfl) (by kernel_rfl) (fun _ _ _ h => h) ?hy163 (by assumption) ?rest163
                              case hi163 => simp only [List.getElem?_toArray, List.getElem?_cons_zero, List.getElem?_cons_succ]; rfl
                              case hy163 =>
                                refine Or.inl ⟨by rfl, ?_⟩
                                intro w hSw
                                (try dsimp only at hSw)
                                go_simp
                                all_goals with_reducible rfl
                              try simp only [Act.put, List.setIfInBounds_toArray, List.set_cons_zero, List.set_cons_succ]
                              refine wpAnyH_ready (rs := [3]) (by kernel_rfl) (by simp) ?_
                              refine AllReadyH.cons (o := ?o164) ?ho164 (fun K hK => ?step164) AllReadyH.nil
                              case ho164 => simp only [List.getElem?_toArray, List.getElem?_cons_zero, List.getElem?_cons_succ]; rfl
                              go_simp
                              go_at_call 12
                              (with_reducible refine (swap_s HSD.out.sh (a : Int) (b : Int)).mono ?_)
                              rintro e w5 ⟨rfl, hs, ho⟩
                              rw [e1]; rw [e2] at hs; have HS5 := hid (HSD.out.turn hs ho); have S5 := HCS.out _ _ w5 HS5.out; clear hs ho
                              try (go_wp2_with fail)
                              refine hK.out _ _ ?_ (fun hHeld1 => ?_)
                              · (try dsimp only)
                                first | go_keep | assumption
                              clear hK K
                              try simp only [Act.put, List.setIfInBounds_toArray, List.set_cons_zero, List.set_cons_succ]
                              refine wpAnyH_take (i := 4) (oi := ?o165) (v := ?v165) ?hi165 (by kernel_rfl) (by kernel_rfl) (by kernel_rfl) (fun _ _ _ h => h) ?hy165 (by assumption) ?rest165
                              case hi165 => simp only [List.getElem?_toArray, List.getElem?_cons_zero, List.getElem?_cons_succ]; rfl
                              case hy165 =>
                                refine Or.inl ⟨by rfl, ?_⟩
                                intro w hSw
                                (try dsimp only at hSw)
                                go_simp
                                all_goals with_reducible rfl
                              try simp only [Act.put, List.setIfInBounds_toArray, List.set_cons_zero, List.set_cons_succ]
                              refine wpAnyH_take (i := 9) (oi := ?o166) (v := ?v166) ?hi166 (by kernel_rfl) (by kernel_rfl) (by kernel_rfl) (fun _ _ _ h => h) ?hy166 (by assumption) ?rest166
                              case hi166 => simp only [List.getElem?_toArray, List.getElem?_cons_zero, List.getElem?_cons_succ]; rfl
                              case hy166 =>
                                refine Or.inl ⟨by rfl, ?_⟩
                                intro w hSw
                                (try dsimp only at hSw)
                                go_simp
                                all_goals with_reducible rfl
                              try simp only [Act.put, List.setIfInBounds_toArray, List.set_cons_zero, List.set_cons_succ]
                              refine wpAnyH_take (i := 10) (oi := ?o167) (v := ?v167) ?hi167 (by kernel_rfl) (by kernel_rfl) (by kernel_rfl) (fun _ _ _ h => h) ?hy167 (by assumption) ?rest167
                              case hi167 => simp only [List.getElem?_toArray, List.getElem?_cons_zero, List.getElem?_cons_succ]; rfl
                              case hy167 =>
                                refine Or.inr ⟨by rfl, ?_⟩
                                with_reducible rfl
                              try simp only [Act.put, List.setIfInBounds_toArray, List.set_cons_zero, List.set_cons_succ]
                              refine wpAnyH_take (i := 11) (oi := ?o168) (v := ?v168) ?hi168 (by kernel_rfl) (by kernel_rfl) (by kernel_rfl) (fun _ _ _ h => h) ?hy168 (by assumption) ?rest168
                              case hi168 => simp only [List.getElem?_toArray, List.getElem?_cons_zero, List.getElem?_cons_succ]; rfl
                              case hy168 =>
                                refine Or.inr ⟨by rfl, ?_⟩
                                with_reducible rfl
                              try simp only [Act.put, List.setIfInBounds_toArray, List.set_cons_zero, List.set_cons_succ]
                              refine wpAnyH_take (i := 12) (oi := ?o169) (v := ?v169) ?hi169 (by kernel_rfl) (by kernel_rfl) (by kernel_rfl) (fun _ _ _ h => h) ?hy169 (by assumption) ?rest169
                              case hi169 => simp only [List.getElem?_toArray, List.getElem?_cons_zero, List.getElem?_cons_succ]; rfl
                              case hy169 =>
                                refine Or.inr ⟨by rfl, ?_⟩
                                with_reducible rfl
                              try simp only [Act.put, List.setIfInBounds_toArray, List.set_cons_zero, List.set_cons_succ]
                              refine wpAnyH_take (i := 13) (oi := ?o170) (v := ?v170) ?hi170 (by kernel_rfl) (by kernel_rfl) (by kernel_rfl) (fun _ _ _ h => h) ?hy170 (by assumption) ?rest170
                              case hi170 => simp only [List.getElem?_toArray, List.getElem?_cons_zero, List.getElem?_cons_succ]; rfl
                              case hy170 =>
                                refine Or.inr ⟨by rfl, ?_⟩
                                with_reducible rfl
                              try simp only [Act.put, List.setIfInBounds_toArray, List.set_cons_zero, List.set_cons_succ]
                              refine wpAnyH_take (i := 14) (oi := ?o171) (v := ?v171) ?hi171 (by kernel_rfl) (by kernel_rfl) (by kernel_rfl) (fun _ _ _ h => h) ?hy171 (by assumption) ?rest171
                              case hi171 => simp only [List.getElem?_toArray, List.getElem?_cons_zero, List.getElem?_cons_succ]; rfl
                              case hy171 =>
                                refine Or.inl ⟨by rfl, ?_⟩
                                intro w hSw
                                (try dsimp only at hSw)
                                go_simp
                                all_goals with_reducible rfl
                              try simp only [Act.put, List.setIfInBounds_toArray, List.set_cons_zero, List.set_cons_succ]
                              refine wpAnyH_take (i := 15) (oi := ?o172) (v := ?v172) ?hi172 (by kernel_rfl) (by kernel_rfl) (by kernel_rfl) (fun _ _ _ h => h) ?hy172 (by assumption) ?rest172
                              case hi172 => simp only [List.getElem?_toArray, List.getElem?_cons_zero, List.getElem?_cons_succ]; rfl
                              case hy172 =>
                                refine Or.inl ⟨by rfl, ?_⟩
                                intro w hSw
                                (try dsimp only at hSw)
                                go_simp
                                all_goals with_reducible rfl
                              try simp only [Act.put, List.setIfInBounds_toArray, List.set_cons_zero, List.set_cons_succ]
                              refine wpAnyH_take (i := 16) (oi := ?o173) (v := ?v173) ?hi173 (by kernel_rfl) (by kernel_rfl) (by kernel_rfl) (fun _ _ _ h => h) ?hy173 (by assumption) ?rest173
                              case hi173 => simp only [List.getElem?_toArray, List.getElem?_cons_zero, List.getElem?_cons_succ]; rfl
                              case hy173 =>
                                refine Or.inl ⟨by rfl, ?_⟩
                                intro w hSw
                                (try dsimp only at hSw)
                                go_simp
                                all_goals with_reducible rfl
                              try simp only [Act.put, List.setIfInBounds_toArray, List.set_cons_zero, List.set_cons_succ]
                              refine wpAnyH_take (i := 17) (oi := ?o174) (v := ?v174) ?hi174 (by kernel_rfl) (by kernel_rfl) (by kernel_rfl) (fun _ _ _ h => h) ?hy174 (by assumption) ?rest174
                              case hi174 => simp only [List.getElem?_toArray, List.getElem?_cons_zero, List.getElem?_cons_succ]; rfl
                              case hy174 =>
                                refine Or.inl ⟨by rfl, ?_⟩
                                intro w hSw
                                (try dsimp only at hSw)
                                go_simp
                                all_goals with_reducible rfl
                              try simp only [Act.put, List.setIfInBounds_toArray, List.set_cons_zero, List.set_cons_succ]
                              refine wpAnyH_take (i := 18) (oi := ?o175) (v := ?v175) ?hi175 (by kernel_rfl) (by kernel_rfl) (by kernel_rfl) (fun _ _ _ h => h) ?hy175 (by assumption) ?rest175
                              case hi175 => simp only [List.getElem?_toArray, List.getElem?_cons_zero, List.getElem?_cons_succ]; rfl
                              case hy175 =>
                                refine Or.inl ⟨by rfl, ?_⟩
                                intro w hSw
                                (try dsimp only at hSw)
                                go_simp
                                all_goals with_reducible rfl
                              try simp only [Act.put, List.setIfInBounds_toArray, List.set_cons_zero, List.set_cons_succ]
                              refine wpAnyH_take (i := 19) (oi := ?o176) (v := ?v176) ?hi176 (by kernel_rfl) (by kernel_rfl) (by kernel_rfl) (fun _ _ _ h => h) ?hy176 (by assumption) ?rest176
                              case hi176 => simp only [List.getElem?_toArray, List.getElem?_cons_zero, List.getElem?_cons_succ]; rfl
                              case hy176 =>
                                refine Or.inl ⟨by rfl, ?_⟩
                                intro w hSw
                                (try dsimp only at hSw)
                                go_simp
                                all_goals with_reducible rfl
                              try simp only [Act.put, List.setIfInBounds_toArray, List.set_cons_zero, List.set_cons_succ]
                              refine wpAnyH_take (i := 20) (oi := ?o177) (v := ?v177) ?hi177 (by kernel_rfl) (by kernel_rfl) (by kernel_rfl) (fun _ _ _ h => h) ?hy177 (by assumption) ?rest177
                              case hi177 => simp only [List.getElem?_toArray, List.getElem?_cons_zero, List.getElem?_cons_succ]; rfl
                              case hy177 =>
                                refine Or.inl ⟨by rfl, ?_⟩
                                intro w hSw
                                (try dsimp only at hSw)
                                go_simp
                                all_goals with_reducible rfl
                              try simp only [Act.put, List.setIfInBounds_toArray, List.set_cons_zero, List.set_cons_succ]
                              refine wpAnyH_take (i := 21) (oi := ?o178) (v := ?v178) ?hi178 (by kernel_rfl) (by kernel_rfl) (by kernel_rfl) (fun _ _ _ h => h) ?hy178 (by assumption) ?rest178
                              case hi178 => simp only [List.getElem?_toArray, List.getElem?_cons_zero, List.getElem?_cons_succ]; rfl
                              case hy178 =>
                                refine Or.inl ⟨by rfl, ?_⟩
                                intro w hSw
                                (try dsimp only at hSw)
                                go_simp
                                all_goals with_reducible rfl
                              try simp only [Act.put, List.setIfInBounds_toArray, List.set_cons_zero, List.set_cons_succ]
                              refine wpAnyH_take (i := 22) (oi := ?o179) (v := ?v179) ?hi179 (by kernel_rfl) (by kernel_rfl) (by kernel_rfl) (fun _ _ _ h => h) ?hy179 (by assumption) ?rest179
                              case hi179 => simp only [List.getElem?_toArray, List.getElem?_cons_zero, List.getElem?_cons_succ]; rfl
                              case hy179 =>
                                refine Or.inl ⟨by rfl, ?_⟩
                                intro w hSw
                                (try dsimp only at hSw)
                                go_simp
                                all_goals with_reducible rfl
                              try simp only [Act.put, List.setIfInBounds_toArray, List.set_cons_zero, List.set_cons_succ]
                              refine wpAnyH_take (i := 23) (oi := ?o180) (v := ?v180) ?hi180 (by kernel_rfl) (by kernel_rfl) (by kernel_rfl) (fun _ _ _ h => h) ?hy180 (by assumption) ?rest180
                              case hi180 => simp only [List.getElem?_toArray, List.getElem?_cons_zero, List.getElem?_cons_succ]; rfl
                              case hy180 =>
                                refine Or.inl ⟨by rfl, ?_⟩
                                intro w hSw
                                (try dsimp only at hSw)
                                go_simp
                                all_goals with_reducible rfl
                              try simp only [Act.put, List.setIfInBounds_toArray, List.set_cons_zero, List.set_cons_succ]
                              refine wpAnyH_take (i := 26) (oi := ?o181) (v := ?v181) ?hi181 (by kernel_rfl) (by kernel_rfl) (by kernel_rfl) (fun _ _ _ h => h) ?hy181 (by assumption) ?rest181
                              case hi181 => simp only [List.getElem?_toArray, List.getElem?_cons_zero, List.getElem?_cons_succ]; rfl
                              case hy181 =>
                                refine Or.inl ⟨by rfl, ?_⟩
                                intro w hSw
                                (try dsimp only at hSw)
                                go_simp
                                all_goals with_reducible rfl
                              try simp only [Act.put, List.setIfInBounds_toArray, List.set_cons_zero, List.set_cons_succ]
                              refine wpAnyH_take (i := 27) (oi := ?o182) (v := ?v182) ?hi182 (by kernel_rfl) (by kernel_rfl) (by kernel_rfl) (fun _ _ _ h => h) ?hy182 (by assumption) ?rest182
                              case hi182 => simp only [List.getElem?_toArray, List.getElem?_cons_zero, List.getElem?_cons_succ]; rfl
                              case hy182 =>
                                refine Or.inl ⟨by rfl, ?_⟩
                                intro w hSw
                                (try dsimp only at hSw)
                                go_simp
                                all_goals with_reducible rfl
                              try simp only [Act.put, List.setIfInBounds_toArray, List.set_cons_zero, List.set_cons_succ]
                              refine wpAnyH_take (i := 28) (oi := ?o183) (v := ?v183) ?hi183 (by kernel_rfl) (by kernel_rfl) (by kernel_rfl) (fun _ _ _ h => h) ?hy183 (by assumption) ?rest183
                              case hi183 => simp only [List.getElem?_toArray, List.getElem?_cons_zero, List.getElem?_cons_succ]; rfl
                              case hy183 =>
                                refine Or.inl ⟨by rfl, ?_⟩
                                intro w hSw
                                (try dsimp only at hSw)
                                go_simp
                                all_goals with_reducible rfl
                              try simp only [Act.put, List.setIfInBounds_toArray, List.set_cons_zero, List.set_cons_succ]
                              refine wpAnyH_take (i := 29) (oi := ?o184) (v := ?v184) ?hi184 (by kernel_rfl) (by kernel_rfl) (by kernel_rfl) (fun _ _ _ h => h) ?hy184 (by assumption) ?rest184
                              case hi184 => simp only [List.getElem?_toArray, List.getElem?_cons_zero, List.getElem?_cons_succ]; rfl
                              case hy184 =>
                                refine Or.inl ⟨by rfl, ?_⟩
                                intro w hSw
                                (try dsimp only at hSw)
                                go_simp
                                all_goals with_reducible rfl
                              try simp only [Act.put, List.setIfInBounds_toArray, List.set_cons_zero, List.set_cons_succ]
                              refine wpAnyH_ready (rs := [24]) (by kernel_rfl) (by simp) ?_
                              refine AllReadyH.cons (o := ?o185) ?ho185 (fun K hK => ?step185) AllReadyH.nil
                              case ho185 => simp only [List.getElem?_toArray, List.getElem?_cons_zero, List.getElem?_cons_succ]; rfl
                              go_simp
                              go_at_call 12
                              (with_reducible refine (swap_s HS5.out.sh (a : Int) (b : Int)).mono ?_)
                              rintro e w6 ⟨rfl, hs, ho⟩
                              rw [e1]; rw [e2] at hs; have HS6 := hid (HS5.out.turn hs ho); have S6 := HCS.out _ _ w6 HS6.out; clear hs ho
                              try (go_wp2_with fail)
                              refine hK.out _ _ ?_ (fun hHeld2 => ?_)
                              · (try dsimp only)
                                first | go_keep | assumption
                              clear hK K
                              try simp only [Act.put, List.setIfInBounds_toArray, List.set_cons_zero, List.set_cons_succ]
                              refine wpAnyH_take (i := 25) (oi := ?o186) (v := ?v186) ?hi186 (by kernel_rfl) (by kernel_rfl) (by kernel_rfl) (fun _ _ _ h => h) ?hy186 (by assumption) ?rest186
                              case hi186 => simp only [List.getElem?_toArray, List.getElem?_cons_zero, List.getElem?_cons_succ]; rfl
                              case hy186 =>
                                refine Or.inl ⟨by rfl, ?_⟩
                                intro w hSw
                                (try dsimp only at hSw)
                                go_simp
                                all_goals with_reducible rfl
                              try simp only [Act.put, List.setIfInBounds_toArray, List.set_cons_zero, List.set_cons_succ]
                              refine wpAnyH_take (i := 30) (oi := ?o187) (v := ?v187) ?hi187 (by kernel_rfl) (by kernel_rfl) (by kernel_rfl) (fun _ _ _ h => h) ?hy187 (by assumption) ?rest187
                              case hi187 => simp only [List.getElem?_toArray, List.getElem?_cons_zero, List.getElem?_cons_succ]; rfl
                              case hy187 =>
                                refine Or.inl ⟨by rfl, ?_⟩
                                intro w hSw
                                (try dsimp only at hSw)
                                go_simp
                                all_goals with_reducible rfl
                              try simp only [Act.put, List.setIfInBounds_toArray, List.set_cons_zero, List.set_cons_succ]
                              refine wpAnyH_take (i := 31) (oi := ?o188) (v := ?v188) ?hi188 (by kernel_rfl) (by kernel_rfl) (by kernel_rfl) (fun _ _ _ h => h) ?hy188 (by assumption) ?rest188
                              case hi188 => simp only [List.getElem?_toArray, List.getElem?_cons_zero, List.getElem?_cons_succ]; rfl
                              case hy188 =>
                                refine Or.inr ⟨by rfl, ?_⟩
                                with_reducible rfl
                              try simp only [Act.put, List.setIfInBounds_toArray, List.set_cons_zero, List.set_cons_succ]
                              refine wpAnyH_take (i := 32) (oi := ?o189) (v := ?v189) ?hi189 (by kernel_rfl) (by kernel_rfl) (by kernel_rfl) (fun _ _ _ h => h) ?hy189 (by assumption) ?rest189
                              case hi189 => simp only [List.getElem?_toArray, List.getElem?_cons_zero, List.getElem?_cons_succ]; rfl
                              case hy189 =>
                                refine Or.inr ⟨by rfl, ?_⟩
                                with_reducible rfl
                              try simp only [Act.put, List.setIfInBounds_toArray, List.set_cons_zero, List.set_cons_succ]
                              refine wpAnyH_take (i := 33) (oi := ?o190) (v := ?v190) ?hi190 (by kernel_rfl) (by kernel_rfl) (by kernel_rfl) (fun _ _ _ h => h) ?hy190 (by assumption) ?rest190
                              case hi190 => simp only [List.getElem?_toArray, List.getElem?_cons_zero, List.getElem?_cons_succ]; rfl
                              case hy190 =>
                                refine Or.inr ⟨by rfl, ?_⟩
                                with_reducible rfl
                              try simp only [Act.put, List.setIfInBounds_toArray, List.set_cons_zero, List.set_cons_succ]
                              refine wpAnyH_take (i := 34) (oi := ?o191) (v := ?v191) ?hi191 (by kernel_rfl) (by kernel_rfl) (by kernel_rfl) (fun _ _ _ h => h) ?hy191 (by assumption) ?rest191
                              case hi191 => simp only [List.getElem?_toArray, List.getElem?_cons_zero, List.getElem?_cons_succ]; rfl
                              case hy191 =>
                                refine Or.inr ⟨by rfl, ?_⟩
                                with_reducible rfl
                              try simp only [Act.put, List.setIfInBounds_toArray, List.set_cons_zero, List.set_cons_succ]
                              refine wpAnyH_take (i := 35) (oi := ?o192) (v := ?v192) ?hi192 (by kernel_rfl) (by kernel_rfl) (by kernel_rfl) (fun _ _ _ h => h) ?hy192 (by assumption) ?rest192
                              case hi192 => simp only [List.getElem?_toArray, List.getElem?_cons_zero, List.getElem?_cons_succ]; rfl
                              case hy192 =>
                                refine Or.inl ⟨by rfl, ?_⟩
                                intro w hSw
                                (try dsimp only at hSw)
                                go_simp
                                all_goals with_reducible rfl
                              try simp only [Act.put, List.setIfInBounds_toArray, List.set_cons_zero, List.set_cons_succ]
                              refine wpAnyH_take (i := 36) (oi := ?o193) (v := ?v193) ?hi193 (by kernel_rfl) (by kernel_rfl) (by kernel_rfl) (fun _ _ _ h => h) ?hy193 (by assumption) ?rest193
                              case hi193 => simp only [List.getElem?_toArray, List.getElem?_cons_zero, List.getElem?_cons_succ]; rfl
                              case hy193 =>
                                refine Or.inl ⟨by rfl, ?_⟩
                                intro w hSw
                                (try dsimp only at hSw)
                                go_simp
                                all_goals with_reducible rfl
                              try simp only [Act.put, List.setIfInBounds_toArray, List.set_cons_zero, List.set_cons_succ]
                              refine wpAnyH_take (i := 37) (oi := ?o194) (v := ?v194) ?hi194 (by kernel_rfl) (by kernel_rfl) (by kernel_rfl) (fun _ _ _ h => h) ?hy194 (by assumption) ?rest194
                              case hi194 => simp only [List.getElem?_toArray, List.getElem?_cons_zero, List.getElem?_cons_succ]; rfl
                              case hy194 =>
                                refine Or.inl ⟨by rfl, ?_⟩
                                intro w hSw
                                (try dsimp only at hSw)
                                go_simp
                                all_goals with_reducible rfl
                              try simp only [Act.put, List.setIfInBounds_toArray, List.set_cons_zero, List.set_cons_succ]
                              refine wpAnyH_take (i := 38) (oi := ?o195) (v := ?v195) ?hi195 (by kernel_rfl) (by kernel_rfl) (by kernel_rfl) (fun _ _ _ h => h) ?hy195 (by assumption) ?rest195
                              case hi195 => simp only [List.getElem?_toArray, List.getElem?_cons_zero, List.getElem?_cons_succ]; rfl
                              case hy195 =>
                                refine Or.inl ⟨by rfl, ?_⟩
                                intro w hSw
                                (try dsimp only at hSw)
                                go_simp
                                all_goals with_reducible rfl
                              try simp only [Act.put, List.setIfInBounds_toArray, List.set_cons_zero, List.set_cons_succ]
                              refine wpAnyH_done (by kernel_rfl) ?_ _
                              refine NoPanic.normal ?_
                              go_wp2_with fail
                              go_meet
                              exact ⟨_, _, _, HI.out, HS6.out⟩
                          ·
                            as_aux_lemma =>
                              have h5b : (x == 5) = false := by simpa using h5
                              have h5n : (x != 5) = true := by simpa using h5
                              clear h5
                              go_upto_region 11 with fail
                              refine wp_region_noPanic ?_
                              refine wp_region_held_drew (S := fun w' => w'.cell? ⟨tb, a, none⟩ = some (.bool false) ∧ w'.cell? ⟨tb, b, none⟩ = some (.bool true) ∧ w'.cell? ⟨o, 0, none⟩ = some (.int .i64 x)) (by kernel_rfl) ?_ (fun hHeld0 => ?_)
                              · (try dsimp only)
                                first | go_keep | assumption
                              refine wpAnyH_take (i := 0) (oi := ?o196) (v := ?v196) ?hi196 (by kernel_rfl) (by kernel_rfl) (by kernel_rfl) (fun _ _ _ h => h) ?hy196 (by assumption) ?rest196
                              case hi196 => simp only [List.getElem?_toArray, List.getElem?_cons_zero]; rfl
                              case hy196 =>
                                refine Or.inl ⟨by rfl, ?_⟩
                                intro w hSw
                                (try dsimp only at hSw)
                                go_simp
                                all_goals with_reducible rfl
                              try simp only [Act.put, List.setIfInBounds_toArray, List.set_cons_zero, List.set_cons_succ]
                              refine wpAnyH_take (i := 1) (oi := ?o197) (v := ?v197) ?hi197 (by kernel_rfl) (by kernel_rfl) (by kernel_rfl) (fun _ _ _ h => h) ?hy197 (by assumption) ?rest197
                              case hi197 => simp only [List.getElem?_toArray, List.getElem?_cons_zero, List.getElem?_cons_succ]; rfl
                              case hy197 =>
                                refine Or.inl ⟨by rfl, ?_⟩
                                intro w hSw
                                (try dsimp only at hSw)
                                go_simp
                                all_goals with_reducible rfl
                              try simp only [Act.put, List.setIfInBounds_toArray, List.set_cons_zero, List.set_cons_succ]
                              refine wpAnyH_take (i := 2) (oi := ?o198) (v := ?v198) ?hi198 (by kernel_rfl) (by kernel_rfl) (by kernel_rfl) (fun _ _ _ h => h) ?hy198 (by assumption) ?rest198
                              case hi198 => simp only [List.getElem?_toArray, List.getElem?_cons_zero, List.getElem?_cons_succ]; rfl
                              case hy198 =>
                                refine Or.inl ⟨by rfl, ?_⟩
                                intro w hSw
                                (try dsimp only at hSw)
                                go_simp
                                all_goals with_reducible rfl
                              try simp only [Act.put, List.setIfInBounds_toArray, List.set_cons_zero, List.set_cons_succ]
                              refine wpAnyH_take (i := 5) (oi := ?o199) (v := ?v199) ?hi199 (by kernel_rfl) (by kernel_rfl) (by kernel_rfl) (fun _ _ _ h => h) ?hy199 (by assumption) ?rest199
                              case hi199 => simp only [List.getElem?_toArray, List.getElem?_cons_zero, List.getElem?_cons_succ]; rfl
                              case hy199 =>
                                refine Or.inl ⟨by rfl, ?_⟩
                                intro w hSw
                                (try dsimp only at hSw)
                                go_simp
                                all_goals with_reducible rfl
                              try simp only [Act.put, List.setIfInBounds_toArray, List.set_cons_zero, List.set_cons_succ]
                              refine wpAnyH_take (i := 6) (oi := ?o200) (v := ?v200) ?hi200 (by kernel_rfl) (by kernel_rfl) (by kernel_rfl) (fun _ _ _ h => h) ?hy200 (by assumption) ?rest200
                              case hi200 => simp only [List.getElem?_toArray, List.getElem?_cons_zero, List.getElem?_cons_succ]; rfl
                              case hy200 =>
                                refine Or.inl ⟨by rfl, ?_⟩
                                intro w hSw
                                (try dsimp only at hSw)
                                go_simp
                                all_goals with_reducible rfl
                              try simp only [Act.put, List.setIfInBounds_toArray, List.set_cons_zero, List.set_cons_succ]
                              refine wpAnyH_take (i := 7) (oi := ?o201) (v := ?v201) ?hi201 (by kernel_rfl) (by kernel_rfl) (by kernel_rfl) (fun _ _ _ h => h) ?hy201 (by assumption) ?rest201
                              case hi201 => simp only [List.getElem?_toArray, List.getElem?_cons_zero, List.getElem?_cons_succ]; rfl
                              case hy201 =>
                                refine Or.inl ⟨by rfl, ?_⟩
                                intro w hSw
                                (try dsimp only at hSw)
                                go_simp
                                all_goals with_reducible rfl
                              try simp only [Act.put, List.setIfInBounds_toArray, List.set_cons_zero, List.set_cons_succ]
                              refine wpAnyH_take (i := 8) (oi := ?o202) (v := ?v202) ?hi202 (by kernel_rfl) (by kernel_rfl) (by kernel_rfl) (fun _ _ _ h => h) ?hy202 (by assumption) ?rest202
                              case hi202 => simp only [List.getElem?_toArray, List.getElem?_cons_zero, List.getElem?_cons_succ]; rfl
                              case hy202 =>
                                refine Or.inl ⟨by rfl, ?_⟩
                                intro w hSw
                                (try dsimp only at hSw)
                                go_simp
                                all_goals with_reducible rfl
                              try simp only [Act.put, List.setIfInBounds_toArray, List.set_cons_zero, List.set_cons_succ]
                              refine wpAnyH_ready (rs := [3]) (by kernel_rfl) (by simp) ?_
                              refine AllReadyH.cons (o := ?o203) ?ho203 (fun K hK => ?step203) AllReadyH.nil
                              case ho203 => simp only [List.getElem?_toArray, List.getElem?_cons_zero, List.getElem?_cons_succ]; rfl
                              go_simp
                              go_at_call 12
                              (with_reducible refine (swap_s HSD.out.sh (a : Int) (b : Int)).mono ?_)
                              rintro e w5 ⟨rfl, hs, ho⟩
                              rw [e1]; rw [e2] at hs; have HS5 := hid (HSD.out.turn hs ho); have S5 := HCS.out _ _ w5 HS5.out; clear hs ho
                              try (go_wp2_with fail)
                              refine hK.out _ _ ?_ (fun hHeld1 => ?_)
                              · (try dsimp only)
                                first | go_keep | assumption
                              clear hK K
                              try simp only [Act.put, List.setIfInBounds_toArray, List.set_cons_zero, List.set_cons_succ]
                              refine wpAnyH_take (i := 4) (oi := ?o204) (v := ?v204) ?hi204 (by kernel_rfl) (by kernel_rfl) (by kernel_rfl) (fun _ _ _ h => h) ?hy204 (by assumption) ?rest204
                              case hi204 => simp only [List.getElem?_toArray, List.getElem?_cons_zero, List.getElem?_cons_succ]; rfl
                              case hy204 =>
                                refine Or.inl ⟨by rfl, ?_⟩
                                intro w hSw
                                (try dsimp only at hSw)
                                go_simp
                                all_goals with_reducible rfl
                              try simp only [Act.put, List.setIfInBounds_toArray, List.set_cons_zero, List.set_cons_succ]
                              refine wpAnyH_take (i := 9) (oi := ?o205) (v := ?v205) ?hi205 (by kernel_rfl) (by kernel_rfl) (by kernel_rfl) (fun _ _ _ h => h) ?hy205 (by assumption) ?rest205
                              case hi205 => simp only [List.getElem?_toArray, List.getElem?_cons_zero, List.getElem?_cons_succ]; rfl
                              case hy205 =>
                                refine Or.inl ⟨by rfl, ?_⟩
                                intro w hSw
                                (try dsimp only at hSw)
                                go_simp
                                all_goals with_reducible rfl
                              try simp only [Act.put, List.setIfInBounds_toArray, List.set_cons_zero, List.set_cons_succ]
                              refine wpAnyH_take (i := 10) (oi := ?o206) (v := ?v206) ?hi206 (by kernel_rfl) (by kernel_rfl) (by kernel_rfl) (fun _ _ _ h => h) ?hy206 (by assumption) ?rest206
                              case hi206 => simp only [List.getElem?_toArray, List.getElem?_cons_zero, List.getElem?_cons_succ]; rfl
                              case hy206 =>
                                refine Or.inr ⟨by rfl, ?_⟩
                                with_reducible rfl
                              try simp only [Act.put, List.setIfInBounds_toArray, List.set_cons_zero, List.set_cons_succ]
                              refine wpAnyH_take (i := 11) (oi := ?o207) (v := ?v207) ?hi207 (by kernel_rfl) (by kernel_rfl) (by kernel_rfl) (fun _ _ _ h => h) ?hy207 (by assumption) ?rest207
                              case hi207 => simp only [List.getElem?_toArray, List.getElem?_cons_zero, List.getElem?_cons_succ]; rfl
                              case hy207 =>
                                refine Or.inr ⟨by rfl, ?_⟩
                                with_reducible rfl
                              try simp only [Act.put, List.setIfInBounds_toArray, List.set_cons_zero, List.set_cons_succ]
                              refine wpAnyH_take (i := 12) (oi := ?o208) (v := ?v208) ?hi208 (by kernel_rfl) (by kernel_rfl) (by kernel_rfl) (fun _ _ _ h => h) ?hy208 (by assumption) ?rest208
                              case hi208 => simp only [List.getElem?_toArray, List.getElem?_cons_zero, List.getElem?_cons_succ]; rfl
                              case hy208 =>
                                refine Or.inr ⟨by rfl, ?_⟩
                                with_reducible rfl
                              try simp only [Act.put, List.setIfInBounds_toArray, List.set_cons_zero, List.set_cons_succ]
                              refine wpAnyH_take (i := 13) (oi := ?o209) (v := ?v209) ?hi209 (by kernel_rfl) (by kernel_rfl) (by kernel_rfl) (fun _ _ _ h => h) ?hy209 (by assumption) ?rest209
                              case hi209 => simp only [List.getElem?_toArray, List.getElem?_cons_zero, List.getElem?_cons_succ]; rfl
                              case hy209 =>
                                refine Or.inr ⟨by rfl, ?_⟩
                                with_reducible rfl
                              try simp only [Act.put, List.setIfInBounds_toArray, List.set_cons_zero, List.set_cons_succ]
                              refine wpAnyH_take (i := 14) (oi := ?o210) (v := ?v210) ?hi210 (by kernel_rfl) (by kernel_rfl) (by kernel_rfl) (fun _ _ _ h => h) ?hy210 (by assumption) ?rest210
                              case hi210 => simp only [List.getElem?_toArray, List.getElem?_cons_zero, List.getElem?_cons_succ]; rfl
                              case hy210 =>
                                refine Or.inl ⟨by rfl, ?_⟩
                                intro w hSw
                                (try dsimp only at hSw)
                                go_simp
                                all_goals with_reducible rfl
                              try simp only [Act.put, List.setIfInBounds_toArray, List.set_cons_zero, List.set_cons_succ]
                              refine wpAnyH_take (i := 15) (oi := ?o211) (v := ?v211) ?hi211 (by kernel_rfl) (by kernel_rfl) (by kernel_rfl) (fun _ _ _ h => h) ?hy211 (by assumption) ?rest211
                              case hi211 => simp only [List.getElem?_toArray, List.getElem?_cons_zero, List.getElem?_cons_succ]; rfl
                              case hy211 =>
                                refine Or.inl ⟨by rfl, ?_⟩
                                intro w hSw
                                (try dsimp only at hSw)
                                go_simp
                                all_goals with_reducible rfl
                              try simp only [Act.put, List.setIfInBounds_toArray, List.set_cons_zero, List.set_cons_succ]
                              refine wpAnyH_take (i := 16) (oi := ?o212) (v := ?v212) ?hi212 (by kernel_rfl) (by kernel_rfl) (by kernel_rfl) (fun _ _ _ h => h) ?hy212 (by assumption) ?rest212
                              case hi212 => simp only [List.getElem?_toArray, List.getElem?_cons_zero, List.getElem?_cons_succ]; rfl
                              case hy212 =>
                                refine Or.inl ⟨by rfl, ?_⟩
                                intro w hSw
                                (try dsimp only at hSw)
                                go_simp
                                all_goals with_reducible rfl
                              try simp only [Act.put, List.setIfInBounds_toArray, List.set_cons_zero, List.set_cons_succ]
                              refine wpAnyH_take (i := 17) (oi := ?o213) (v := ?v213) ?hi213 (by kernel_rfl) (by kernel_rfl) (by kernel_rfl) (fun _ _ _ h => h) ?hy213 (by assumption) ?rest213
                              case hi213 => simp only [List.getElem?_toArray, List.getElem?_cons_zero, List.getElem?_cons_succ]; rfl
                              case hy213 =>
                                refine Or.inl ⟨by rfl, ?_⟩
                                intro w hSw
                                (try dsimp only at hSw)
                                go_simp
                                all_goals with_reducible rfl
                              try simp only [Act.put, List.setIfInBounds_toArray, List.set_cons_zero, List.set_cons_succ]
                              refine wpAnyH_take (i := 18) (oi := ?o214) (v := ?v214) ?hi214 (by kernel_rfl) (by kernel_rfl) (by kernel_rfl) (fun _ _ _ h => h) ?hy214 (by assumption) ?rest214
                              case hi214 => simp only [List.getElem?_toArray, List.getElem?_cons_zero, List.getElem?_cons_succ]; rfl
                              case hy214 =>
                                refine Or.inl ⟨by rfl, ?_⟩
                                intro w hSw
                                (try dsimp only at hSw)
                                go_simp
                                all_goals with_reducible rfl
                              try simp only [Act.put, List.setIfInBounds_toArray, List.set_cons_zero, List.set_cons_succ]
                              refine wpAnyH_take (i := 19) (oi := ?o215) (v := ?v215) ?hi215 (by kernel_rfl) (by kernel_rfl) (by kernel_rfl) (fun _ _ _ h => h) ?hy215 (by assumption) ?rest215
                              case hi215 => simp only [List.getElem?_toArray, List.getElem?_cons_zero, List.getElem?_cons_succ]; rfl
                              case hy215 =>
                                refine Or.inl ⟨by rfl, ?_⟩
                                intro w hSw
                                (try dsimp only at hSw)
                                go_simp
                                all_goals with_reducible rfl
                              try simp only [Act.put, List.setIfInBounds_toArray, List.set_cons_zero, List.set_cons_succ]
                              refine wpAnyH_take (i := 20) (oi := ?o216) (v := ?v216) ?hi216 (by kernel_rfl) (by kernel_rfl) (by kernel_rfl) (fun _ _ _ h => h) ?hy216 (by assumption) ?rest216
                              case hi216 => simp only [List.getElem?_toArray, List.getElem?_cons_zero, List.getElem?_cons_succ]; rfl
                              case hy216 =>
                                refine Or.inl ⟨by rfl, ?_⟩
                                intro w hSw
                                (try dsimp only at hSw)
                                go_simp
                                all_goals with_reducible rfl
                              try simp only [Act.put, List.setIfInBounds_toArray, List.set_cons_zero, List.set_cons_succ]
                              refine wpAnyH_take (i := 21) (oi := ?o217) (v := ?v217) ?hi217 (by kernel_rfl) (by kernel_rfl) (by kernel_rfl) (fun _ _ _ h => h) ?hy217 (by assumption) ?rest217
                              case hi217 => simp only [List.getElem?_toArray, List.getElem?_cons_zero, List.getElem?_cons_succ]; rfl
                              case hy217 =>
                                refine Or.inr ⟨by rfl, ?_⟩
                                with_reducible rfl
                              try simp only [Act.put, List.setIfInBounds_toArray, List.set_cons_zero, List.set_cons_succ]
                              refine wpAnyH_take (i := 22) (oi := ?o218) (v := ?v218) ?hi218 (by kernel_rfl) (by kernel_rfl) (by kernel_rfl) (fun _ _ _ h => h) ?hy218 (by assumption) ?rest218
                              case hi218 => simp only [List.getElem?_toArray, List.getElem?_cons_zero, List.getElem?_cons_succ]; rfl
                              case hy218 =>
                                refine Or.inr ⟨by rfl, ?_⟩
                                with_reducible rfl
                              try simp only [Act.put, List.setIfInBounds_toArray, List.set_cons_zero, List.set_cons_succ]
                              refine wpAnyH_take (i := 23) (oi := ?o219) (v := ?v219) ?hi219 (by kernel_rfl) (by kernel_rfl) (by kernel_rfl) (fun _ _ _ h => h) ?hy219 (by assumption) ?rest219
                              case hi219 => simp only [List.getElem?_toArray, List.getElem?_cons_zero, List.getElem?_cons_succ]; rfl
                              case hy219 =>
                                refine Or.inr ⟨by rfl, ?_⟩
                                with_reducible rfl
                              try simp only [Act.put, List.setIfInBounds_toArray, List.set_cons_zero, List.set_cons_succ]
                              refine wpAnyH_take (i := 26) (oi := ?o220) (v := ?v220) ?hi220 (by kernel_rfl) (by kernel_rfl) (by kernel_rfl) (fun _ _ _ h => h) ?hy220 (by assumption) ?rest220
                              case hi220 => simp only [List.getElem?_toArray, List.getElem?_cons_zero, List.getElem?_cons_succ]; rfl
                              case hy220 =>
                                refine Or.inr ⟨by rfl, ?_⟩
                                with_reducible rfl
                              try simp only [Act.put, List.setIfInBounds_toArray, List.set_cons_zero, List.set_cons_succ]
                              refine wpAnyH_take (i := 27) (oi := ?o221) (v := ?v221) ?hi221 (by kernel_rfl) (by kernel_rfl) (by kernel_rfl) (fun _ _ _ h => h) ?hy221 (by assumption) ?rest221
                              case hi221 => simp only [List.getElem?_toArray, List.getElem?_cons_zero, List.getElem?_cons_succ]; rfl
                              case hy221 =>
                                refine Or.inr ⟨by rfl, ?_⟩
                                with_reducible rfl
                              try simp only [Act.put, List.setIfInBounds_toArray, List.set_cons_zero, List.set_cons_succ]
                              refine wpAnyH_take (i := 28) (oi := ?o222) (v := ?v222) ?hi222 (by kernel_rfl) (by kernel_rfl) (by kernel_rfl) (fun _ _ _ h => h) ?hy222 (by assumption) ?rest222
                              case hi222 => simp only [List.getElem?_toArray, List.getElem?_cons_zero, List.getElem?_cons_succ]; rfl
                              case hy222 =>
                                refine Or.inr ⟨by rfl, ?_⟩
                                with_reducible rfl
                              try simp only [Act.put, List.setIfInBounds_toArray, List.set_cons_zero, List.set_cons_succ]
                              refine wpAnyH_take (i := 29) (oi := ?o223) (v := ?v223) ?hi223 (by kernel_rfl) (by kernel_rfl) (by kernel_rfl) (fun _ _ _ h => h) ?hy223 (by assumption) ?rest223
                              case hi223 => simp only [List.getElem?_toArray, List.getElem?_cons_zero, List.getElem?_cons_succ]; rfl
                              case hy223 =>
                                refine Or.inr ⟨by rfl, ?_⟩
                                with_reducible rfl
                              try simp only [Act.put, List.setIfInBounds_toArray, List.set_cons_zero, List.set_cons_succ]
                              refine wpAnyH_ready (rs := [24]) (by kernel_rfl) (by simp) ?_
                              refine AllReadyH.cons (o := ?o224) ?ho224 (fun K hK => ?step224) AllReadyH.nil
                              case ho224 => simp only [List.getElem?_toArray, List.getElem?_cons_zero, List.getElem?_cons_succ]; rfl
                              go_simp
                              refine hK.out _ _ ?_ (fun hHeld2 => ?_)
                              · (try dsimp only)
                                first | go_keep | assumption
                              clear hK K
                              try simp only [Act.put, List.setIfInBounds_toArray, List.set_cons_zero, List.set_cons_succ]
                              refine wpAnyH_take (i := 25) (oi := ?o225) (v := ?v225) ?hi225 (by kernel_rfl) (by kernel_rfl) (by kernel_rfl) (fun _ _ _ h => h) ?hy225 (by assumption) ?rest225
                              case hi225 => simp only [List.getElem?_toArray, List.getElem?_cons_zero, List.getElem?_cons_succ]; rfl
                              case hy225 =>
                                refine Or.inr ⟨by rfl, ?_⟩
                                with_reducible rfl
                              try simp only [Act.put, List.setIfInBounds_toArray, List.set_cons_zero, List.set_cons_succ]
                              refine wpAnyH_take (i := 30) (oi := ?o226) (v := ?v226) ?hi226 (by kernel_rfl) (by kernel_rfl) (by kernel_rfl) (fun _ _ _ h => h) ?hy226 (by assumption) ?rest226
                              case hi226 => simp only [List.getElem?_toArray, List.getElem?_cons_zero, List.getElem?_cons_succ]; rfl
                              case hy226 =>
                                refine Or.inr ⟨by rfl, ?_⟩
                                with_reducible rfl
                              try simp only [Act.put, List.setIfInBounds_toArray, List.set_cons_zero, List.set_cons_succ]
                              refine wpAnyH_take (i := 31) (oi := ?o227) (v := ?v227) ?hi227 (by kernel_rfl) (by kernel_rfl) (by kernel_rfl) (fun _ _ _ h => h) ?hy227 (by assumption) ?rest227
                              case hi227 => simp only [List.getElem?_toArray, List.getElem?_cons_zero, List.getElem?_cons_succ]; rfl
                              case hy227 =>
                                refine Or.inr ⟨by rfl, ?_⟩
                                with_reducible rfl
                              try simp only [Act.put, List.setIfInBounds_toArray, List.set_cons_zero, List.set_cons_succ]
                              refine wpAnyH_take (i := 32) (oi := ?o228) (v := ?v228) ?hi228 (by kernel_rfl) (by kernel_rfl) (by kernel_rfl) (fun _ _ _ h => h) ?hy228 (by assumption) ?rest228
                              case hi228 => simp only [List.getElem?_toArray, List.getElem?_cons_zero, List.getElem?_cons_succ]; rfl
                              case hy228 =>
                                refine Or.inr ⟨by rfl, ?_⟩
                                with_reducible rfl
                              try simp only [Act.put, List.setIfInBounds_toArray, List.set_cons_zero, List.set_cons_succ]
                              refine wpAnyH_take (i := 33) (oi := ?o229) (v := ?v229) ?hi229 (by kernel_rfl) (by kernel_rfl) (by kernel_rfl) (fun _ _ _ h => h) ?hy229 (by assumption) ?rest229
                              case hi229 => simp only [List.getElem?_toArray, List.getElem?_cons_zero, List.getElem?_cons_succ]; rfl
                              case hy229 =>
                                refine Or.inr ⟨by rfl, ?_⟩
                                with_reducible rfl
                              try simp only [Act.put, List.setIfInBounds_toArray, List.set_cons_zero, List.set_cons_succ]
                              refine wpAnyH_take (i := 34) (oi := ?o230) (v := ?v230) ?hi230 (by kernel_rfl) (by kernel_rfl) (by kernel_rfl) (fun _ _ _ h => h) ?hy230 (by assumption) ?rest230
                              case hi230 => simp only [List.getElem?_toArray, List.getElem?_cons_zero, List.getElem?_cons_succ]; rfl
                              case hy230 =>
                                refine Or.inr ⟨by rfl, ?_⟩
                                with_reducible rfl
                              try simp only [Act.put, List.setIfInBounds_toArray, List.set_cons_zero, List.set_cons_succ]
                              refine wpAnyH_take (i := 35) (oi := ?o231) (v := ?v231) ?hi231 (by kernel_rfl) (by kernel_rfl) (by kernel_rfl) (fun _ _ _ h => h) ?hy231 (by assumption) ?rest231
                              case hi231 => simp only [List.getElem?_toArray, List.getElem?_cons_zero, List.getElem?_cons_succ]; rfl
                              case hy231 =>
                                refine Or.inr ⟨by rfl, ?_⟩
                                with_reducible rfl
                              try simp only [Act.put, List.setIfInBounds_toArray, List.set_cons_zero, List.set_cons_succ]
                              refine wpAnyH_take (i := 36) (oi := ?o232) (v := ?v232) ?hi232 (by kernel_rfl) (by kernel_rfl) (by kernel_rfl) (fun _ _ _ h => h) ?hy232 (by assumption) ?rest232
                              case hi232 => simp only [List.getElem?_toArray, List.getElem?_cons_zero, List.getElem?_cons_succ]; rfl
                              case hy232 =>
                                refine Or.inr ⟨by rfl, ?_⟩
                                with_reducible rfl
                              try simp only [Act.put, List.setIfInBounds_toArray, List.set_cons_zero, List.set_cons_succ]
                              refine wpAnyH_take (i := 37) (oi := ?o233) (v := ?v233) ?hi233 (by kernel_rfl) (by kernel_rfl) (by kernel_rfl) (fun _ _ _ h => h) ?hy233 (by assumption) ?rest233
                              case hi233 => simp only [List.getElem?_toArray, List.getElem?_cons_zero, List.getElem?_cons_succ]; rfl
                              case hy233 =>
                                refine Or.inl ⟨by rfl, ?_⟩
                                intro w hSw
                                (try dsimp only at hSw)
                                go_simp
                                all_goals with_reducible rfl
                              try simp only [Act.put, List.setIfInBounds_toArray, List.set_cons_zero, List.set_cons_succ]
                              refine wpAnyH_take (i := 38) (oi := ?o234) (v := ?v234) ?hi234 (by kernel_rfl) (by kernel_rfl) (by kernel_rfl) (fun _ _ _ h => h) ?hy234 (by assumption) ?rest234
                              case hi234 => simp only [List.getElem?_toArray, List.getElem?_cons_zero, List.getElem?_cons_succ]; rfl
                              case hy234 =>
                                refine Or.inl ⟨by rfl, ?_⟩
                                intro w hSw
                                (try dsimp only at hSw)
                                go_simp
                                all_goals with_reducible rfl
                              try simp only [Act.put, List.setIfInBounds_toArray, List.set_cons_zero, List.set_cons_succ]
                              refine wpAnyH_done (by kernel_rfl) ?_ _
                              refine NoPanic.normal ?_
                              go_wp2_with fail
                              go_meet
                              exact ⟨_, _, _, HI.out, HS5.out⟩
                        | false =>
                          have HCS := hid (show ∀ (M' : Mt) (H' : List ByteArray) (w' : World), Hd W S p mb vb hb tb o x y z s M' T H' w' → w'.cell? ⟨tb, a, none⟩ = some (.bool false) ∧ w'.cell? ⟨tb, b, none⟩ = some (.bool false) ∧ w'.cell? ⟨o, 0, none⟩ = some (.int .i64 x) from fun M' H' w' h => by
                            have k1 := h.tk.cell hta16
                            have k2 := h.tk.cell htb16
                            have k3 := h.op.cell 0
                            simp only [List.getElem?_toArray, List.getElem?_cons_zero] at k3
                            rw [hta] at k1
                            rw [htb] at k2
                            exact ⟨k1, k2, k3⟩)
                          obtain ⟨k1, k2, k3⟩ := HCS.out _ _ w4 HS4.out
                          obtain ⟨e1, e2⟩ := HI.out.swap_no ha16 hb16 (by rw [hta, htb]; rfl)
                          clear hta htb hta16 htb16
                          by_cases h5 : x = 5
                          ·
                            as_aux_lemma =>
                              have h5b : (x == 5) = true := by simpa using h5
                              have h5n : (x != 5) = false := by simpa using h5
                              clear h5
                              go_upto_region 11 with fail
                              refine wp_region_noPanic ?_
                              refine wp_region_held_drew (S := fun w' => w'.cell? ⟨tb, a, none⟩ = some (.bool false) ∧ w'.cell? ⟨tb, b, none⟩ = some (.bool false) ∧ w'.cell? ⟨o, 0, none⟩ = some (.int .i64 x)) (by kernel_rfl) ?_ (fun hHeld0 => ?_)
                              · (try dsimp only)
                                first | go_keep | assumption
                              refine wpAnyH_take (i := 0) (oi := ?o235) (v := ?v235) ?hi235 (by kernel_rfl) (by kernel_rfl) (by kernel_rfl) (fun _ _ _ h => h) ?hy235 (by assumption) ?rest235
                              case hi235 => simp only [List.getElem?_toArray, List.getElem?_cons_zero]; rfl
                              case hy235 =>
                                refine Or.inl ⟨by rfl, ?_⟩
                                intro w hSw
                                (try dsimp only at hSw)
                                go_simp
                                all_goals with_reducible rfl
                              try simp only [Act.put, List.setIfInBounds_toArray, List.set_cons_zero, List.set_cons_succ]
                              refine wpAnyH_take (i := 1) (oi := ?o236) (v := ?v236) ?hi236 (by kernel_rfl) (by kernel_rfl) (by kernel_rfl) (fun _ _ _ h => h) ?hy236 (by assumption) ?rest236
                              case hi236 => simp only [List.getElem?_toArray, List.getElem?_cons_zero, List.getElem?_cons_succ]; rfl
                              case hy236 =>
                                refine Or.inl ⟨by rfl, ?_⟩
                                intro w hSw
                                (try dsimp only at hSw)
                                go_simp
                                all_goals with_reducible rfl
                              try simp only [Act.put, List.setIfInBounds_toArray, List.set_cons_zero, List.set_cons_succ]
                              refine wpAnyH_take (i := 2) (oi := ?o237) (v := ?v237) ?hi237 (by kernel_rfl) (by kernel_rfl) (by kernel_rfl) (fun _ _ _ h => h) ?hy237 (by assumption) ?rest237
                              case hi237 => simp only [List.getElem?_toArray, List.getElem?_cons_zero, List.getElem?_cons_succ]; rfl
                              case hy237 =>
                                refine Or.inl ⟨by rfl, ?_⟩
                                intro w hSw
                                (try dsimp only at hSw)
                                go_simp
                                all_goals with_reducible rfl
                              try simp only [Act.put, List.setIfInBounds_toArray, List.set_cons_zero, List.set_cons_succ]
                              refine wpAnyH_take (i := 5) (oi := ?o238) (v := ?v238) ?hi238 (by kernel_rfl) (by kernel_rfl) (by kernel_rfl) (fun _ _ _ h => h) ?hy238 (by assumption) ?rest238
                              case hi238 => simp only [List.getElem?_toArray, List.getElem?_cons_zero, List.getElem?_cons_succ]; rfl
                              case hy238 =>
                                refine Or.inl ⟨by rfl, ?_⟩
                                intro w hSw
                                (try dsimp only at hSw)
                                go_simp
                                all_goals with_reducible rfl
                              try simp only [Act.put, List.setIfInBounds_toArray, List.set_cons_zero, List.set_cons_succ]
                              refine wpAnyH_take (i := 6) (oi := ?o239) (v := ?v239) ?hi239 (by kernel_rfl) (by kernel_rfl) (by kernel_rfl) (fun _ _ _ h => h) ?hy239 (by assumption) ?rest239
                              case hi239 => simp only [List.getElem?_toArray, List.getElem?_cons_zero, List.getElem?_cons_succ]; rfl
                              case hy239 =>
                                refine Or.inl ⟨by rfl, ?_⟩
                                intro w hSw
                                (try dsimp only at hSw)
                                go_simp
                                all_goals with_reducible rfl
                              try simp only [Act.put, List.setIfInBounds_toArray, List.set_cons_zero, List.set_cons_succ]
                              refine wpAnyH_take (i := 7) (oi := ?o240) (v := ?v240) ?hi240 (by kernel_rfl) (by kernel_rfl) (by kernel_rfl) (fun _ _ _ h => h) ?hy240 (by assumption) ?rest240
                              case hi240 => simp only [List.getElem?_toArray, List.getElem?_cons_zero, List.getElem?_cons_succ]; rfl
                              case hy240 =>
                                refine Or.inl ⟨by rfl, ?_⟩
                                intro w hSw
                                (try dsimp only at hSw)
                                go_simp
                                all_goals with_reducible rfl
                              try simp only [Act.put, List.setIfInBounds_toArray, List.set_cons_zero, List.set_cons_succ]
                              refine wpAnyH_take (i := 8) (oi := ?o241) (v := ?v241) ?hi241 (by kernel_rfl) (by kernel_rfl) (by kernel_rfl) (fun _ _ _ h => h) ?hy241 (by assumption) ?rest241
                              case hi241 => simp only [List.getElem?_toArray, List.getElem?_cons_zero, List.getElem?_cons_succ]; rfl
                              case hy241 =>
                                refine Or.inl ⟨by rfl, ?_⟩
                                intro w hSw
                                (try dsimp only at hSw)
                                go_simp
                                all_goals with_reducible rfl
                              try simp only [Act.put, List.setIfInBounds_toArray, List.set_cons_zero, List.set_cons_succ]
                              refine wpAnyH_ready (rs := [3]) (by kernel_rfl) (by simp) ?_
                              refine AllReadyH.cons (o := ?o242) ?ho242 (fun K hK => ?step242) AllReadyH.nil
                              case ho242 => simp only [List.getElem?_toArray, List.getElem?_cons_zero, List.getElem?_cons_succ]; rfl
                              go_simp
                              go_at_call 12
                              (with_reducible refine (swap_s HSD.out.sh (a : Int) (b : Int)).mono ?_)
                              rintro e w5 ⟨rfl, hs, ho⟩
                              rw [e1]; rw [e2] at hs; have HS5 := hid (HSD.out.turn hs ho); have S5 := HCS.out _ _ w5 HS5.out; clear hs ho
                              try (go_wp2_with fail)
                              refine hK.out _ _ ?_ (fun hHeld1 => ?_)
                              · (try dsimp only)
                                first | go_keep | assumption
                              clear hK K
                              try simp only [Act.put, List.setIfInBounds_toArray, List.set_cons_zero, List.set_cons_succ]
                              refine wpAnyH_take (i := 4) (oi := ?o243) (v := ?v243) ?hi243 (by kernel_rfl) (by kernel_rfl) (by kernel_rfl) (fun _ _ _ h => h) ?hy243 (by assumption) ?rest243
                              case hi243 => simp only [List.getElem?_toArray, List.getElem?_cons_zero, List.getElem?_cons_succ]; rfl
                              case hy243 =>
                                refine Or.inl ⟨by rfl, ?_⟩
                                intro w hSw
                                (try dsimp only at hSw)
                                go_simp
                                all_goals with_reducible rfl
                              try simp only [Act.put, List.setIfInBounds_toArray, List.set_cons_zero, List.set_cons_succ]
                              refine wpAnyH_take (i := 9) (oi := ?o244) (v := ?v244) ?hi244 (by kernel_rfl) (by kernel_rfl) (by kernel_rfl) (fun _ _ _ h => h) ?hy244 (by assumption) ?rest244
                              case hi244 => simp only [List.getElem?_toArray, List.getElem?_cons_zero, List.getElem?_cons_succ]; rfl
                              case hy244 =>
                                refine Or.inl ⟨by rfl, ?_⟩
                                intro w hSw
                                (try dsimp only at hSw)
                                go_simp
                                all_goals with_reducible rfl
                              try simp only [Act.put, List.setIfInBounds_toArray, List.set_cons_zero, List.set_cons_succ]
                              refine wpAnyH_take (i := 10) (oi := ?o245) (v := ?v245) ?hi245 (by kernel_rfl) (by kernel_rfl) (by kernel_rfl) (fun _ _ _ h => h) ?hy245 (by assumption) ?rest245
                              case hi245 => simp only [List.getElem?_toArray, List.getElem?_cons_zero, List.getElem?_cons_succ]; rfl
                              case hy245 =>
                                refine Or.inr ⟨by rfl, ?_⟩
                                with_reducible rfl
                              try simp only [Act.put, List.setIfInBounds_toArray, List.set_cons_zero, List.set_cons_succ]
                              refine wpAnyH_take (i := 11) (oi := ?o246) (v := ?v246) ?hi246 (by kernel_rfl) (by kernel_rfl) (by kernel_rfl) (fun _ _ _ h => h) ?hy246 (by assumption) ?rest246
                              case hi246 => simp only [List.getElem?_toArray, List.getElem?_cons_zero, List.getElem?_cons_succ]; rfl
                              case hy246 =>
                                refine Or.inr ⟨by rfl, ?_⟩
                                with_reducible rfl
                              try simp only [Act.put, List.setIfInBounds_toArray, List.set_cons_zero, List.set_cons_succ]
                              refine wpAnyH_take (i := 12) (oi := ?o247) (v := ?v247) ?hi247 (by kernel_rfl) (by kernel_rfl) (by kernel_rfl) (fun _ _ _ h => h) ?hy247 (by assumption) ?rest247
                              case hi247 => simp only [List.getElem?_toArray, List.getElem?_cons_zero, List.getElem?_cons_succ]; rfl
                              case hy247 =>
                                refine Or.inr ⟨by rfl, ?_⟩
                                with_reducible rfl
                              try simp only [Act.put, List.setIfInBounds_toArray, List.set_cons_zero, List.set_cons_succ]
                              refine wpAnyH_take (i := 13) (oi := ?o248) (v := ?v248) ?hi248 (by kernel_rfl) (by kernel_rfl) (by kernel_rfl) (fun _ _ _ h => h) ?hy248 (by assumption) ?rest248
                              case hi248 => simp only [List.getElem?_toArray, List.getElem?_cons_zero, List.getElem?_cons_succ]; rfl
                              case hy248 =>
                                refine Or.inr ⟨by rfl, ?_⟩
                                with_reducible rfl
                              try simp only [Act.put, List.setIfInBounds_toArray, List.set_cons_zero, List.set_cons_succ]
                              refine wpAnyH_take (i := 14) (oi := ?o249) (v := ?v249) ?hi249 (by kernel_rfl) (by kernel_rfl) (by kernel_rfl) (fun _ _ _ h => h) ?hy249 (by assumption) ?rest249
                              case hi249 => simp only [List.getElem?_toArray, List.getElem?_cons_zero, List.getElem?_cons_succ]; rfl
                              case hy249 =>
                                refine Or.inl ⟨by rfl, ?_⟩
                                intro w hSw
                                (try dsimp only at hSw)
                                go_simp
                                all_goals with_reducible rfl
                              try simp only [Act.put, List.setIfInBounds_toArray, List.set_cons_zero, List.set_cons_succ]
                              refine wpAnyH_take (i := 15) (oi := ?o250) (v := ?v250) ?hi250 (by kernel_rfl) (by kernel_rfl) (by kernel_rfl) (fun _ _ _ h => h) ?hy250 (by assumption) ?rest250
                              case hi250 => simp only [List.getElem?_toArray, List.getElem?_cons_zero, List.getElem?_cons_succ]; rfl
                              case hy250 =>
                                refine Or.inl ⟨by rfl, ?_⟩
                                intro w hSw
                                (try dsimp only at hSw)
                                go_simp
                                all_goals with_reducible rfl
                              try simp only [Act.put, List.setIfInBounds_toArray, List.set_cons_zero, List.set_cons_succ]
                              refine wpAnyH_take (i := 16) (oi := ?o251) (v := ?v251) ?hi251 (by kernel_rfl) (by kernel_rfl) (by kernel_rfl) (fun _ _ _ h => h) ?hy251 (by assumption) ?rest251
                              case hi251 => simp only [List.getElem?_toArray, List.getElem?_cons_zero, List.getElem?_cons_succ]; rfl
                              case hy251 =>
                                refine Or.inl ⟨by rfl, ?_⟩
                                intro w hSw
                                (try dsimp only at hSw)
                                go_simp
                                all_goals with_reducible rfl
                              try simp only [Act.put, List.setIfInBounds_toArray, List.set_cons_zero, List.set_cons_succ]
                              refine wpAnyH_take (i := 17) (oi := ?o252) (v := ?v252) ?hi252 (by kernel_rfl) (by kernel_rfl) (by kernel_rfl) (fun _ _ _ h => h) ?hy252 (by assumption) ?rest252
                              case hi252 => simp only [List.getElem?_toArray, List.getElem?_cons_zero, List.getElem?_cons_succ]; rfl
                              case hy252 =>
                                refine Or.inl ⟨by rfl, ?_⟩
                                intro w hSw
                                (try dsimp only at hSw)
                                go_simp
                                all_goals with_reducible rfl
                              try simp only [Act.put, List.setIfInBounds_toArray, List.set_cons_zero, List.set_cons_succ]
                              refine wpAnyH_take (i := 18) (oi := ?o253) (v := ?v253) ?hi253 (by kernel_rfl) (by kernel_rfl) (by kernel_rfl) (fun _ _ _ h => h) ?hy253 (by assumption) ?rest253
                              case hi253 => simp only [List.getElem?_toArray, List.getElem?_cons_zero, List.getElem?_cons_succ]; rfl
                              case hy253 =>
                                refine Or.inl ⟨by rfl, ?_⟩
                                intro w hSw
                                (try dsimp only at hSw)
                                go_simp
                                all_goals with_reducible rfl
                              try simp only [Act.put, List.setIfInBounds_toArray, List.set_cons_zero, List.set_cons_succ]
                              refine wpAnyH_take (i := 19) (oi := ?o254) (v := ?v254) ?hi254 (by kernel_rfl) (by kernel_rfl) (by kernel_rfl) (fun _ _ _ h => h) ?hy254 (by assumption) ?rest254
                              case hi254 => simp only [List.getElem?_toArray, List.getElem?_cons_zero, List.getElem?_cons_succ]; rfl
                              case hy254 =>
                                refine Or.inl ⟨by rfl, ?_⟩
                                intro w hSw
                                (try dsimp only at hSw)
                                go_simp
                                all_goals with_reducible rfl
                              try simp only [Act.put, List.setIfInBounds_toArray, List.set_cons_zero, List.set_cons_succ]
                              refine wpAnyH_take (i := 20) (oi := ?o255) (v := ?v255) ?hi255 (by kernel_rfl) (by kernel_rfl) (by kernel_rfl) (fun _ _ _ h => h) ?hy255 (by assumption) ?rest255
                              case hi255 => simp only [List.getElem?_toArray, List.getElem?_cons_zero, List.getElem?_cons_succ]; rfl
                              case hy255 =>
                                refine Or.inl ⟨by rfl, ?_⟩
                                intro w hSw
                                (try dsimp only at hSw)
                                go_simp
                                all_goals with_reducible rfl
                              try simp only [Act.put, List.setIfInBounds_toArray, List.set_cons_zero, List.set_cons_succ]
                              refine wpAnyH_take (i := 21) (oi := ?o256) (v := ?v256) ?hi256 (by kernel_rfl) (by kernel_rfl) (by kernel_rfl) (fun _ _ _ h => h) ?hy256 (by assumption) ?rest256
                              case hi256 => simp only [List.getElem?_toArray, List.getElem?_cons_zero, List.getElem?_cons_succ]; rfl
                              case hy256 =>
                                refine Or.inl ⟨by rfl, ?_⟩
                                intro w hSw
                                (try dsimp only at hSw)
                                go_simp
                                all_goals with_reducible rfl
                              try simp only [Act.put, List.setIfInBounds_toArray, List.set_cons_zero, List.set_cons_succ]
                              refine wpAnyH_take (i := 22) (oi := ?o257) (v := ?v257) ?hi257 (by kernel_rfl) (by kernel_rfl) (by kernel_rfl) (fun _ _ _ h => h) ?hy257 (by assumption) ?rest257
                              case hi257 => simp only [List.getElem?_toArray, List.getElem?_cons_zero, List.getElem?_cons_succ]; rfl
                              case hy257 =>
                                refine Or.inl ⟨by rfl, ?_⟩
                                intro w hSw
                                (try dsimp only at hSw)
                                go_simp
                                all_goals with_reducible rfl
                              try simp only [Act.put, List.setIfInBounds_toArray, List.set_cons_zero, List.set_cons_succ]
                              refine wpAnyH_take (i := 23) (oi := ?o258) (v := ?v258) ?hi258 (by kernel_rfl) (by kernel_rfl) (by kernel_rfl) (fun _ _ _ h => h) ?hy258 (by assumption) ?rest258
                              case hi258 => simp only [List.getElem?_toArray, List.getElem?_cons_zero, List.getElem?_cons_succ]; rfl
                              case hy258 =>
                                refine Or.inl ⟨by rfl, ?_⟩
                                intro w hSw
                                (try dsimp only at hSw)
                                go_simp
                                all_goals with_reducible rfl
                              try simp only [Act.put, List.setIfInBounds_toArray, List.set_cons_zero, List.set_cons_succ]
                              refine wpAnyH_take (i := 26) (oi := ?o259) (v := ?v259) ?hi259 (by kernel_rfl) (by kernel_rfl) (by kernel_rfl) (fun _ _ _ h => h) ?hy259 (by assumption) ?rest259
                              case hi259 => simp only [List.getElem?_toArray, List.getElem?_cons_zero, List.getElem?_cons_succ]; rfl
                              case hy259 =>
                                refine Or.inl ⟨by rfl, ?_⟩
                                intro w hSw
                                (try dsimp only at hSw)
                                go_simp
                                all_goals with_reducible rfl
                              try simp only [Act.put, List.setIfInBounds_toArray, List.set_cons_zero, List.set_cons_succ]
                              refine wpAnyH_take (i := 27) (oi := ?o260) (v := ?v260) ?hi260 (by kernel_rfl) (by kernel_rfl) (by kernel_rfl) (fun _ _ _ h => h) ?hy260 (by assumption) ?rest260
                              case hi260 => simp only [List.getElem?_toArray, List.getElem?_cons_zero, List.getElem?_cons_succ]; rfl
                              case hy260 =>
                                refine Or.inl ⟨by rfl, ?_⟩
                                intro w hSw
                                (try dsimp only at hSw)
                                go_simp
                                all_goals with_reducible rfl
                              try simp only [Act.put, List.setIfInBounds_toArray, List.set_cons_zero, List.set_cons_succ]
                              refine wpAnyH_take (i := 28) (oi := ?o261) (v := ?v261) ?hi261 (by kernel_rfl) (by kernel_rfl) (by kernel_rfl) (fun _ _ _ h => h) ?hy261 (by assumption) ?rest261
                              case hi261 => simp only [List.getElem?_toArray, List.getElem?_cons_zero, List.getElem?_cons_succ]; rfl
                              case hy261 =>
                                refine Or.inl ⟨by rfl, ?_⟩
                                intro w hSw
                                (try dsimp only at hSw)
                                go_simp
                                all_goals with_reducible rfl
                              try simp only [Act.put, List.setIfInBounds_toArray, List.set_cons_zero, List.set_cons_succ]
                              refine wpAnyH_take (i := 29) (oi := ?o262) (v := ?v262) ?hi262 (by kernel_rfl) (by kernel_rfl) (by kernel_rfl) (fun _ _ _ h => h) ?hy262 (by assumption) ?rest262
                              case hi262 => simp only [List.getElem?_toArray, List.getElem?_cons_zero, List.getElem?_cons_succ]; rfl
                              case hy262 =>
                                refine Or.inl ⟨by rfl, ?_⟩
                                intro w hSw
                                (try dsimp only at hSw)
                                go_simp
                                all_goals with_reducible rfl
                              try simp only [Act.put, List.setIfInBounds_toArray, List.set_cons_zero, List.set_cons_succ]
                              refine wpAnyH_ready (rs := [24]) (by kernel_rfl) (by simp) ?_
                              refine AllReadyH.cons (o := ?o263) ?ho263 (fun K hK => ?step263) AllReadyH.nil
                              case ho263 => simp only [List.getElem?_toArray, List.getElem?_cons_zero, List.getElem?_cons_succ]; rfl
                              go_simp
                              go_at_call 12
                              (with_reducible refine (swap_s HS5.out.sh (a : Int) (b : Int)).mono ?_)
                              rintro e w6 ⟨rfl, hs, ho⟩
                              rw [e1]; rw [e2] at hs; have HS6 := hid (HS5.out.turn hs ho); have S6 := HCS.out _ _ w6 HS6.out; clear hs ho
                              try (go_wp2_with fail)
                              refine hK.out _ _ ?_ (fun hHeld2 => ?_)
                              · (try dsimp only)
                                first | go_keep | assumption
                              clear hK K
                              try simp only [Act.put, List.setIfInBounds_toArray, List.set_cons_zero, List.set_cons_succ]
                              refine wpAnyH_take (i := 25) (oi := ?o264) (v := ?v264) ?hi264 (by kernel_rfl) (by kernel_rfl) (by kernel_rfl) (fun _ _ _ h => h) ?hy264 (by assumption) ?rest264
                              case hi264 => simp only [List.getElem?_toArray, List.getElem?_cons_zero, List.getElem?_cons_succ]; rfl
                              case hy264 =>
                                refine Or.inl ⟨by rfl, ?_⟩
                                intro w hSw
                                (try dsimp only at hSw)
                                go_simp
                                all_goals with_reducible rfl
                              try simp only [Act.put, List.setIfInBounds_toArray, List.set_cons_zero, List.set_cons_succ]
                              refine wpAnyH_take (i := 30) (oi := ?o265) (v := ?v265) ?hi265 (by kernel_rfl) (by kernel_rfl) (by kernel_rfl) (fun _ _ _ h => h) ?hy265 (by assumption) ?rest265
                              case hi265 => simp only [List.getElem?_toArray, List.getElem?_cons_zero, List.getElem?_cons_succ]; rfl
                              case hy265 =>
                                refine Or.inl ⟨by rfl, ?_⟩
                                intro w hSw
                                (try dsimp only at hSw)
                                go_simp
                                all_goals with_reducible rfl
                              try simp only [Act.put, List.setIfInBounds_toArray, List.set_cons_zero, List.set_cons_succ]
                              refine wpAnyH_take (i := 31) (oi := ?o266) (v := ?v266) ?hi266 (by kernel_rfl) (by kernel_rfl) (by kernel_rfl) (fun _ _ _ h => h) ?hy266 (by assumption) ?rest266
                              case hi266 => simp only [List.getElem?_toArray, List.getElem?_cons_zero, List.getElem?_cons_succ]; rfl
                              case hy266 =>
                                refine Or.inr ⟨by rfl, ?_⟩
                                with_reducible rfl
                              try simp only [Act.put, List.setIfInBounds_toArray, List.set_cons_zero, List.set_cons_succ]
                              refine wpAnyH_take (i := 32) (oi := ?o267) (v := ?v267) ?hi267 (by kernel_rfl) (by kernel_rfl) (by kernel_rfl) (fun _ _ _ h => h) ?hy267 (by assumption) ?rest267
                              case hi267 => simp only [List.getElem?_toArray, List.getElem?_cons_zero, List.getElem?_cons_succ]; rfl
                              case hy267 =>
                                refine Or.inr ⟨by rfl, ?_⟩
                                with_reducible rfl
                              try simp only [Act.put, List.setIfInBounds_toArray, List.set_cons_zero, List.set_cons_succ]
                              refine wpAnyH_take (i := 33) (oi := ?o268) (v := ?v268) ?hi268 (by kernel_rfl) (by kernel_rfl) (by kernel_rfl) (fun _ _ _ h => h) ?hy268 (by assumption) ?rest268
                              case hi268 => simp only [List.getElem?_toArray, List.getElem?_cons_zero, List.getElem?_cons_succ]; rfl
                              case hy268 =>
                                refine Or.inr ⟨by rfl, ?_⟩
                                with_reducible rfl
                              try simp only [Act.put, List.setIfInBounds_toArray, List.set_cons_zero, List.set_cons_succ]
                              refine wpAnyH_take (i := 34) (oi := ?o269) (v := ?v269) ?hi269 (by kernel_rfl) (by kernel_rfl) (by kernel_rfl) (fun _ _ _ h => h) ?hy269 (by assumption) ?rest269
                              case hi269 => simp only [List.getElem?_toArray, List.getElem?_cons_zero, List.getElem?_cons_succ]; rfl
                              case hy269 =>
                                refine Or.inr ⟨by rfl, ?_⟩
                                with_reducible rfl
                              try simp only [Act.put, List.setIfInBounds_toArray, List.set_cons_zero, List.set_cons_succ]
                              refine wpAnyH_take (i := 35) (oi := ?o270) (v := ?v270) ?hi270 (by kernel_rfl) (by kernel_rfl) (by kernel_rfl) (fun _ _ _ h => h) ?hy270 (by assumption) ?rest270
                              case hi270 => simp only [List.getElem?_toArray, List.getElem?_cons_zero, List.getElem?_cons_succ]; rfl
                              case hy270 =>
                                refine Or.inl ⟨by rfl, ?_⟩
                                intro w hSw
                                (try dsimp only at hSw)
                                go_simp
                                all_goals with_reducible rfl
                              try simp only [Act.put, List.setIfInBounds_toArray, List.set_cons_zero, List.set_cons_succ]
                              refine wpAnyH_take (i := 36) (oi := ?o271) (v := ?v271) ?hi271 (by kernel_rfl) (by kernel_rfl) (by kernel_rfl) (fun _ _ _ h => h) ?hy271 (by assumption) ?rest271
                              case hi271 => simp only [List.getElem?_toArray, List.getElem?_cons_zero, List.getElem?_cons_succ]; rfl
                              case hy271 =>
                                refine Or.inl ⟨by rfl, ?_⟩
                                intro w hSw
                                (try dsimp only at hSw)
                                go_simp
                                all_goals with_reducible rfl
                              try simp only [Act.put, List.setIfInBounds_toArray, List.set_cons_zero, List.set_cons_succ]
                              refine wpAnyH_take (i := 37) (oi := ?o272) (v := ?v272) ?hi272 (by kernel_rfl) (by kernel_rfl) (by kernel_rfl) (fun _ _ _ h => h) ?hy272 (by assumption) ?rest272
                              case hi272 => simp only [List.getElem?_toArray, List.getElem?_cons_zero, List.getElem?_cons_succ]; rfl
                              case hy272 =>
                                refine Or.inl ⟨by rfl, ?_⟩
                                intro w hSw
                                (try dsimp only at hSw)
                                go_simp
                                all_goals with_reducible rfl
                              try simp only [Act.put, List.setIfInBounds_toArray, List.set_cons_zero, List.set_cons_succ]
                              refine wpAnyH_take (i := 38) (oi := ?o273) (v := ?v273) ?hi273 (by kernel_rfl) (by kernel_rfl) (by kernel_rfl) (fun _ _ _ h => h) ?hy273 (by assumption) ?rest273
                              case hi273 => simp only [List.getElem?_toArray, List.getElem?_cons_zero, List.getElem?_cons_succ]; rfl
                              case hy273 =>
                                refine Or.inl ⟨by rfl, ?_⟩
                                intro w hSw
                                (try dsimp only at hSw)
                                go_simp
                                all_goals with_reducible rfl
                              try simp only [Act.put, List.setIfInBounds_toArray, List.set_cons_zero, List.set_cons_succ]
                              refine wpAnyH_done (by kernel_rfl) ?_ _
                              refine NoPanic.normal ?_
                              go_wp2_with fail
                              go_meet
                              exact ⟨_, _, _, HI.out, HS6.out⟩
                          ·
                            as_aux_lemma =>
                              have h5b : (x == 5) = false := by simpa using h5
                              have h5n : (x != 5) = true := by simpa using h5
                              clear h5
                              go_upto_region 11 with fail
                              refine wp_region_noPanic ?_
                              refine wp_region_held_drew (S := fun w' => w'.cell? ⟨tb, a, none⟩ = some (.bool false) ∧ w'.cell? ⟨tb, b, none⟩ = some (.bool false) ∧ w'.cell? ⟨o, 0, none⟩ = some (.int .i64 x)) (by kernel_rfl) ?_ (fun hHeld0 => ?_)
                              · (try dsimp only)
                                first | go_keep | assumption
                              refine wpAnyH_take (i := 0) (oi := ?o274) (v := ?v274) ?hi274 (by kernel_rfl) (by kernel_rfl) (by kernel_rfl) (fun _ _ _ h => h) ?hy274 (by assumption) ?rest274
                              case hi274 => simp only [List.getElem?_toArray, List.getElem?_cons_zero]; rfl
                              case hy274 =>
                                refine Or.inl ⟨by rfl, ?_⟩
                                intro w hSw
                                (try dsimp only at hSw)
                                go_simp
                                all_goals with_reducible rfl
                              try simp only [Act.put, List.setIfInBounds_toArray, List.set_cons_zero, List.set_cons_succ]
                              refine wpAnyH_take (i := 1) (oi := ?o275) (v := ?v275) ?hi275 (by kernel_rfl) (by kernel_rfl) (by kernel_rfl) (fun _ _ _ h => h) ?hy275 (by assumption) ?rest275
                              case hi275 => simp only [List.getElem?_toArray, List.getElem?_cons_zero, List.getElem?_cons_succ]; rfl
                              case hy275 =>
                                refine Or.inl ⟨by rfl, ?_⟩
                                intro w hSw
                                (try dsimp only at hSw)
                                go_simp
                                all_goals with_reducible rfl
                              try simp only [Act.put, List.setIfInBounds_toArray, List.set_cons_zero, List.set_cons_succ]
                              refine wpAnyH_take (i := 2) (oi := ?o276) (v := ?v276) ?hi276 (by kernel_rfl) (by kernel_rfl) (by kernel_rfl) (fun _ _ _ h => h) ?hy276 (by assumption) ?rest276
                              case hi276 => simp only [List.getElem?_toArray, List.getElem?_cons_zero, List.getElem?_cons_succ]; rfl
                              case hy276 =>
                                refine Or.inl ⟨by rfl, ?_⟩
                                intro w hSw
                                (try dsimp only at hSw)
                                go_simp
                                all_goals with_reducible rfl
                              try simp only [Act.put, List.setIfInBounds_toArray, List.set_cons_zero, List.set_cons_succ]
                              refine wpAnyH_take (i := 5) (oi := ?o277) (v := ?v277) ?hi277 (by kernel_rfl) (by kernel_rfl) (by kernel_rfl) (fun _ _ _ h => h) ?hy277 (by assumption) ?rest277
                              case hi277 => simp only [List.getElem?_toArray, List.getElem?_cons_zero, List.getElem?_cons_succ]; rfl
                              case hy277 =>
                                refine Or.inl ⟨by rfl, ?_⟩
                                intro w hSw
                                (try dsimp only at hSw)
                                go_simp
                                all_goals with_reducible rfl
                              try simp only [Act.put, List.setIfInBounds_toArray, List.set_cons_zero, List.set_cons_succ]
                              refine wpAnyH_take (i := 6) (oi := ?o278) (v := ?v278) ?hi278 (by kernel_rfl) (by kernel_rfl) (by kernel_rfl) (fun _ _ _ h => h) ?hy278 (by assumption) ?rest278
                              case hi278 => simp only [List.getElem?_toArray, List.getElem?_cons_zero, List.getElem?_cons_succ]; rfl
                              case hy278 =>
                                refine Or.inl ⟨by rfl, ?_⟩
                                intro w hSw
                                (try dsimp only at hSw)
                                go_simp
                                all_goals with_reducible rfl
                              try simp only [Act.put, List.setIfInBounds_toArray, List.set_cons_zero, List.set_cons_succ]
                              refine wpAnyH_take (i := 7) (oi := ?o279) (v := ?v279) ?hi279 (by kernel_rfl) (by kernel_rfl) (by kernel_rfl) (fun _ _ _ h => h) ?hy279 (by assumption) ?rest279
                              case hi279 => simp only [List.getElem?_toArray, List.getElem?_cons_zero, List.getElem?_cons_succ]; rfl
                              case hy279 =>
                                refine Or.inl ⟨by rfl, ?_⟩
                                intro w hSw
                                (try dsimp only at hSw)
                                go_simp
                                all_goals with_reducible rfl
                              try simp only [Act.put, List.setIfInBounds_toArray, List.set_cons_zero, List.set_cons_succ]
                              refine wpAnyH_take (i := 8) (oi := ?o280) (v := ?v280) ?hi280 (by kernel_rfl) (by kernel_rfl) (by kernel_rfl) (fun _ _ _ h => h) ?hy280 (by assumption) ?rest280
                              case hi280 => simp only [List.getElem?_toArray, List.getElem?_cons_zero, List.getElem?_cons_succ]; rfl
                              case hy280 =>
                                refine Or.inl ⟨by rfl, ?_⟩
                                intro w hSw
                                (try dsimp only at hSw)
                                go_simp
                                all_goals with_reducible rfl
                              try simp only [Act.put, List.setIfInBounds_toArray, List.set_cons_zero, List.set_cons_succ]
                              refine wpAnyH_ready (rs := [3]) (by kernel_rfl) (by simp) ?_
                              refine AllReadyH.cons (o := ?o281) ?ho281 (fun K hK => ?step281) AllReadyH.nil
                              case ho281 => simp only [List.getElem?_toArray, List.getElem?_cons_zero, List.getElem?_cons_succ]; rfl
                              go_simp
                              go_at_call 12
                              (with_reducible refine (swap_s HSD.out.sh (a : Int) (b : Int)).mono ?_)
                              rintro e w5 ⟨rfl, hs, ho⟩
                              rw [e1]; rw [e2] at hs; have HS5 := hid (HSD.out.turn hs ho); have S5 := HCS.out _ _ w5 HS5.out; clear hs ho
                              try (go_wp2_with fail)
                              refine hK.out _ _ ?_ (fun hHeld1 => ?_)
                              · (try dsimp only)
                                first | go_keep | assumption
                              clear hK K
                              try simp only [Act.put, List.setIfInBounds_toArray, List.set_cons_zero, List.set_cons_succ]
                              refine wpAnyH_take (i := 4) (oi := ?o282) (v := ?v282) ?hi282 (by kernel_rfl) (by kernel_rfl) (by kernel_rfl) (fun _ _ _ h => h) ?hy282 (by assumption) ?rest282
                              case hi282 => simp only [List.getElem?_toArray, List.getElem?_cons_zero, List.getElem?_cons_succ]; rfl
                              case hy282 =>
                                refine Or.inl ⟨by rfl, ?_⟩
                                intro w hSw
                                (try dsimp only at hSw)
                                go_simp
                                all_goals with_reducible rfl
                              try simp only [Act.put, List.setIfInBounds_toArray, List.set_cons_zero, List.set_cons_succ]
                              refine wpAnyH_take (i := 9) (oi := ?o283) (v := ?v283) ?hi283 (by kernel_rfl) (by kernel_rfl) (by kernel_rfl) (fun _ _ _ h => h) ?hy283 (by assumption) ?rest283
                              case hi283 => simp only [List.getElem?_toArray, List.getElem?_cons_zero, List.getElem?_cons_succ]; rfl
                              case hy283 =>
                                refine Or.inl ⟨by rfl, ?_⟩
                                intro w hSw
                                (try dsimp only at hSw)
                                go_simp
                                all_goals with_reducible rfl
                              try simp only [Act.put, List.setIfInBounds_toArray, List.set_cons_zero, List.set_cons_succ]
                              refine wpAnyH_take (i := 10) (oi := ?o284) (v := ?v284) ?hi284 (by kernel_rfl) (by kernel_rfl) (by kernel_rfl) (fun _ _ _ h => h) ?hy284 (by assumption) ?rest284
                              case hi284 => simp only [List.getElem?_toArray, List.getElem?_cons_zero, List.getElem?_cons_succ]; rfl
                              case hy284 =>
                                refine Or.inr ⟨by rfl, ?_⟩
                                with_reducible rfl
                              try simp only [Act.put, List.setIfInBounds_toArray, List.set_cons_zero, List.set_cons_succ]
                              refine wpAnyH_take (i := 11) (oi := ?o285) (v := ?v285) ?hi285 (by kernel_rfl) (by kernel_rfl) (by kernel_rfl) (fun _ _ _ h => h) ?hy285 (by assumption) ?rest285
                              case hi285 => simp only [List.getElem?_toArray, List.getElem?_cons_zero, List.getElem?_cons_succ]; rfl
                              case hy285 =>
                                refine Or.inr ⟨by rfl, ?_⟩
                                with_reducible rfl
                              try simp only [Act.put, List.setIfInBounds_toArray, List.set_cons_zero, List.set_cons_succ]
                              refine wpAnyH_take (i := 12) (oi := ?o286) (v := ?v286) ?hi286 (by kernel_rfl) (by kernel_rfl) (by kernel_rfl) (fun _ _ _ h => h) ?hy286 (by assumption) ?rest286
                              case hi286 => simp only [List.getElem?_toArray, List.getElem?_cons_zero, List.getElem?_cons_succ]; rfl
                              case hy286 =>
                                refine Or.inr ⟨by rfl, ?_⟩
                                with_reducible rfl
                              try simp only [Act.put, List.setIfInBounds_toArray, List.set_cons_zero, List.set_cons_succ]
                              refine wpAnyH_take (i := 13) (oi := ?o287) (v := ?v287) ?hi287 (by kernel_rfl) (by kernel_rfl) (by kernel_rfl) (fun _ _ _ h => h) ?hy287 (by assumption) ?rest287
                              case hi287 => simp only [List.getElem?_toArray, List.getElem?_cons_zero, List.getElem?_cons_succ]; rfl
                              case hy287 =>
                                refine Or.inr ⟨by rfl, ?_⟩
                                with_reducible rfl
                              try simp only [Act.put, List.setIfInBounds_toArray, List.set_cons_zero, List.set_cons_succ]
                              refine wpAnyH_take (i := 14) (oi := ?o288) (v := ?v288) ?hi288 (by kernel_rfl) (by kernel_rfl) (by kernel_rfl) (fun _ _ _ h => h) ?hy288 (by assumption) ?rest288
                              case hi288 => simp only [List.getElem?_toArray, List.getElem?_cons_zero, List.getElem?_cons_succ]; rfl
                              case hy288 =>
                                refine Or.inl ⟨by rfl, ?_⟩
                                intro w hSw
                                (try dsimp only at hSw)
                                go_simp
                                all_goals with_reducible rfl
                              try simp only [Act.put, List.setIfInBounds_toArray, List.set_cons_zero, List.set_cons_succ]
                              refine wpAnyH_take (i := 15) (oi := ?o289) (v := ?v289) ?hi289 (by kernel_rfl) (by kernel_rfl) (by kernel_rfl) (fun _ _ _ h => h) ?hy289 (by assumption) ?rest289
                              case hi289 => simp only [List.getElem?_toArray, List.getElem?_cons_zero, List.getElem?_cons_succ]; rfl
                              case hy289 =>
                                refine Or.inl ⟨by rfl, ?_⟩
                                intro w hSw
                                (try dsimp only at hSw)
                                go_simp
                                all_goals with_reducible rfl
                              try simp only [Act.put, List.setIfInBounds_toArray, List.set_cons_zero, List.set_cons_succ]
                              refine wpAnyH_take (i := 16) (oi := ?o290) (v := ?v290) ?hi290 (by kernel_rfl) (by kernel_rfl) (by kernel_rfl) (fun _ _ _ h => h) ?hy290 (by assumption) ?rest290
                              case hi290 => simp only [List.getElem?_toArray, List.getElem?_cons_zero, List.getElem?_cons_succ]; rfl
                              case hy290 =>
                                refine Or.inl ⟨by rfl, ?_⟩
                                intro w hSw
                                (try dsimp only at hSw)
                                go_simp
                                all_goals with_reducible rfl
                              try simp only [Act.put, List.setIfInBounds_toArray, List.set_cons_zero, List.set_cons_succ]
                              refine wpAnyH_take (i := 17) (oi := ?o291) (v := ?v291) ?hi291 (by kernel_rfl) (by kernel_rfl) (by kernel_rfl) (fun _ _ _ h => h) ?hy291 (by assumption) ?rest291
                              case hi291 => simp only [List.getElem?_toArray, List.getElem?_cons_zero, List.getElem?_cons_succ]; rfl
                              case hy291 =>
                                refine Or.inl ⟨by rfl, ?_⟩
                                intro w hSw
                                (try dsimp only at hSw)
                                go_simp
                                all_goals with_reducible rfl
                              try simp only [Act.put, List.setIfInBounds_toArray, List.set_cons_zero, List.set_cons_succ]
                              refine wpAnyH_take (i := 18) (oi := ?o292) (v := ?v292) ?hi292 (by kernel_rfl) (by kernel_rfl) (by kernel_rfl) (fun _ _ _ h => h) ?hy292 (by assumption) ?rest292
                              case hi292 => simp only [List.getElem?_toArray, List.getElem?_cons_zero, List.getElem?_cons_succ]; rfl
                              case hy292 =>
                                refine Or.inl ⟨by rfl, ?_⟩
                                intro w hSw
                                (try dsimp only at hSw)
                                go_simp
                                all_goals with_reducible rfl
                              try simp only [Act.put, List.setIfInBounds_toArray, List.set_cons_zero, List.set_cons_succ]
                              refine wpAnyH_take (i := 19) (oi := ?o293) (v := ?v293) ?hi293 (by kernel_rfl) (by kernel_rfl) (by kernel_rfl) (fun _ _ _ h => h) ?hy293 (by assumption) ?rest293
                              case hi293 => simp only [List.getElem?_toArray, List.getElem?_cons_zero, List.getElem?_cons_succ]; rfl
                              case hy293 =>
                                refine Or.inl ⟨by rfl, ?_⟩
                                intro w hSw
                                (try dsimp only at hSw)
                                go_simp
                                all_goals with_reducible rfl
                              try simp only [Act.put, List.setIfInBounds_toArray, List.set_cons_zero, List.set_cons_succ]
                              refine wpAnyH_take (i := 20) (oi := ?o294) (v := ?v294) ?hi294 (by kernel_rfl) (by kernel_rfl) (by kernel_rfl) (fun _ _ _ h => h) ?hy294 (by assumption) ?rest294
                              case hi294 => simp only [List.getElem?_toArray, List.getElem?_cons_zero, List.getElem?_cons_succ]; rfl
                              case hy294 =>
                                refine Or.inl ⟨by rfl, ?_⟩
                                intro w hSw
                                (try dsimp only at hSw)
                                go_simp
                                all_goals with_reducible rfl
                              try simp only [Act.put, List.setIfInBounds_toArray, List.set_cons_zero, List.set_cons_succ]
                              refine wpAnyH_take (i := 21) (oi := ?o295) (v := ?v295) ?hi295 (by kernel_rfl) (by kernel_rfl) (by kernel_rfl) (fun _ _ _ h => h) ?hy295 (by assumption) ?rest295
                              case hi295 => simp only [List.getElem?_toArray, List.getElem?_cons_zero, List.getElem?_cons_succ]; rfl
                              case hy295 =>
                                refine Or.inr ⟨by rfl, ?_⟩
                                with_reducible rfl
                              try simp only [Act.put, List.setIfInBounds_toArray, List.set_cons_zero, List.set_cons_succ]
                              refine wpAnyH_take (i := 22) (oi := ?o296) (v := ?v296) ?hi296 (by kernel_rfl) (by kernel_rfl) (by kernel_rfl) (fun _ _ _ h => h) ?hy296 (by assumption) ?rest296
                              case hi296 => simp only [List.getElem?_toArray, List.getElem?_cons_zero, List.getElem?_cons_succ]; rfl
                              case hy296 =>
                                refine Or.inr ⟨by rfl, ?_⟩
                                with_reducible rfl
                              try simp only [Act.put, List.setIfInBounds_toArray, List.set_cons_zero, List.set_cons_succ]
                              refine wpAnyH_take (i := 23) (oi := ?o297) (v := ?v297) ?hi297 (by kernel_rfl) (by kernel_rfl) (by kernel_rfl) (fun _ _ _ h => h) ?hy297 (by assumption) ?rest297
                              case hi297 => simp only [List.getElem?_toArray, List.getElem?_cons_zero, List.getElem?_cons_succ]; rfl
                              case hy297 =>
                                refine Or.inr ⟨by rfl, ?_⟩
                                with_reducible rfl
                              try simp only [Act.put, List.setIfInBounds_toArray, List.set_cons_zero, List.set_cons_succ]
                              refine wpAnyH_take (i := 26) (oi := ?o298) (v := ?v298) ?hi298 (by kernel_rfl) (by kernel_rfl) (by kernel_rfl) (fun _ _ _ h => h) ?hy298 (by assumption) ?rest298
                              case hi298 => simp only [List.getElem?_toArray, List.getElem?_cons_zero, List.getElem?_cons_succ]; rfl
                              case hy298 =>
                                refine Or.inr ⟨by rfl, ?_⟩
                                with_reducible rfl
                              try simp only [Act.put, List.setIfInBounds_toArray, List.set_cons_zero, List.set_cons_succ]
                              refine wpAnyH_take (i := 27) (oi := ?o299) (v := ?v299) ?hi299 (by kernel_rfl) (by kernel_rfl) (by kernel_rfl) (fun _ _ _ h => h) ?hy299 (by assumption) ?rest299
                              case hi299 => simp only [List.getElem?_toArray, List.getElem?_cons_zero, List.getElem?_cons_succ]; rfl
                              case hy299 =>
                                refine Or.inr ⟨by rfl, ?_⟩
                                with_reducible rfl
                              try simp only [Act.put, List.setIfInBounds_toArray, List.set_cons_zero, List.set_cons_succ]
                              refine wpAnyH_take (i := 28) (oi := ?o300) (v := ?v300) ?hi300 (by kernel_rfl) (by kernel_rfl) (by kernel_rfl) (fun _ _ _ h => h) ?hy300 (by assumption) ?rest300
                              case hi300 => simp only [List.getElem?_toArray, List.getElem?_cons_zero, List.getElem?_cons_succ]; rfl
                              case hy300 =>
                                refine Or.inr ⟨by rfl, ?_⟩
                                with_reducible rfl
                              try simp only [Act.put, List.setIfInBounds_toArray, List.set_cons_zero, List.set_cons_succ]
                              refine wpAnyH_take (i := 29) (oi := ?o301) (v := ?v301) ?hi301 (by kernel_rfl) (by kernel_rfl) (by kernel_rfl) (fun _ _ _ h => h) ?hy301 (by assumption) ?rest301
                              case hi301 => simp only [List.getElem?_toArray, List.getElem?_cons_zero, List.getElem?_cons_succ]; rfl
                              case hy301 =>
                                refine Or.inr ⟨by rfl, ?_⟩
                                with_reducible rfl
                              try simp only [Act.put, List.setIfInBounds_toArray, List.set_cons_zero, List.set_cons_succ]
                              refine wpAnyH_ready (rs := [24]) (by kernel_rfl) (by simp) ?_
                              refine AllReadyH.cons (o := ?o302) ?ho302 (fun K hK => ?step302) AllReadyH.nil
                              case ho302 => simp only [List.getElem?_toArray, List.getElem?_cons_zero, List.getElem?_cons_succ]; rfl
                              go_simp
                              refine hK.out _ _ ?_ (fun hHeld2 => ?_)
                              · (try dsimp only)
                                first | go_keep | assumption
                              clear hK K
                              try simp only [Act.put, List.setIfInBounds_toArray, List.set_cons_zero, List.set_cons_succ]
                              refine wpAnyH_take (i := 25) (oi := ?o303) (v := ?v303) ?hi303 (by kernel_rfl) (by kernel_rfl) (by kernel_rfl) (fun _ _ _ h => h) ?hy303 (by assumption) ?rest303
                              case hi303 => simp only [List.getElem?_toArray, List.getElem?_cons_zero, List.getElem?_cons_succ]; rfl
                              case hy303 =>
                                refine Or.inr ⟨by rfl, ?_⟩
                                with_reducible rfl
                              try simp only [Act.put, List.setIfInBounds_toArray, List.set_cons_zero, List.set_cons_succ]
                              refine wpAnyH_take (i := 30) (oi := ?o304) (v := ?v304) ?hi304 (by kernel_rfl) (by kernel_rfl) (by kernel_rfl) (fun _ _ _ h => h) ?hy304 (by assumption) ?rest304
                              case hi304 => simp only [List.getElem?_toArray, List.getElem?_cons_zero, List.getElem?_cons_succ]; rfl
                              case hy304 =>
                                refine Or.inr ⟨by rfl, ?_⟩
                                with_reducible rfl
                              try simp only [Act.put, List.setIfInBounds_toArray, List.set_cons_zero, List.set_cons_succ]
                              refine wpAnyH_take (i := 31) (oi := ?o305) (v := ?v305) ?hi305 (by kernel_rfl) (by kernel_rfl) (by kernel_rfl) (fun _ _ _ h => h) ?hy305 (by assumption) ?rest305
                              case hi305 => simp only [List.getElem?_toArray, List.getElem?_cons_zero, List.getElem?_cons_succ]; rfl
                              case hy305 =>
                                refine Or.inr ⟨by rfl, ?_⟩
                                with_reducible rfl
                              try simp only [Act.put, List.setIfInBounds_toArray, List.set_cons_zero, List.set_cons_succ]
                              refine wpAnyH_take (i := 32) (oi := ?o306) (v := ?v306) ?hi306 (by kernel_rfl) (by kernel_rfl) (by kernel_rfl) (fun _ _ _ h => h) ?hy306 (by assumption) ?rest306
                              case hi306 => simp only [List.getElem?_toArray, List.getElem?_cons_zero, List.getElem?_cons_succ]; rfl
                              case hy306 =>
                                refine Or.inr ⟨by rfl, ?_⟩
                                with_reducible rfl
                              try simp only [Act.put, List.setIfInBounds_toArray, List.set_cons_zero, List.set_cons_succ]
                              refine wpAnyH_take (i := 33) (oi := ?o307) (v := ?v307) ?hi307 (by kernel_rfl) (by kernel_rfl) (by kernel_rfl) (fun _ _ _ h => h) ?hy307 (by assumption) ?rest307
                              case hi307 => simp only [List.getElem?_toArray, List.getElem?_cons_zero, List.getElem?_cons_succ]; rfl
                              case hy307 =>
                                refine Or.inr ⟨by rfl, ?_⟩
                                with_reducible rfl
                              try simp only [Act.put, List.setIfInBounds_toArray, List.set_cons_zero, List.set_cons_succ]
                              refine wpAnyH_take (i := 34) (oi := ?o308) (v := ?v308) ?hi308 (by kernel_rfl) (by kernel_rfl) (by kernel_rfl) (fun _ _ _ h => h) ?hy308 (by assumption) ?rest308
                              case hi308 => simp only [List.getElem?_toArray, List.getElem?_cons_zero, List.getElem?_cons_succ]; rfl
                              case hy308 =>
                                refine Or.inr ⟨by rfl, ?_⟩
                                with_reducible rfl
                              try simp only [Act.put, List.setIfInBounds_toArray, List.set_cons_zero, List.set_cons_succ]
                              refine wpAnyH_take (i := 35) (oi := ?o309) (v := ?v309) ?hi309 (by kernel_rfl) (by kernel_rfl) (by kernel_rfl) (fun _ _ _ h => h) ?hy309 (by assumption) ?rest309
                              case hi309 => simp only [List.getElem?_toArray, List.getElem?_cons_zero, List.getElem?_cons_succ]; rfl
                              case hy309 =>
                                refine Or.inr ⟨by rfl, ?_⟩
                                with_reducible rfl
                              try simp only [Act.put, List.setIfInBounds_toArray, List.set_cons_zero, List.set_cons_succ]
                              refine wpAnyH_take (i := 36) (oi := ?o310) (v := ?v310) ?hi310 (by kernel_rfl) (by kernel_rfl) (by kernel_rfl) (fun _ _ _ h => h) ?hy310 (by assumption) ?rest310
                              case hi310 => simp only [List.getElem?_toArray, List.getElem?_cons_zero, List.getElem?_cons_succ]; rfl
                              case hy310 =>
                                refine Or.inr ⟨by rfl, ?_⟩
                                with_reducible rfl
                              try simp only [Act.put, List.setIfInBounds_toArray, List.set_cons_zero, List.set_cons_succ]
                              refine wpAnyH_take (i := 37) (oi := ?o311) (v := ?v311) ?hi311 (by kernel_rfl) (by kernel_rfl) (by kernel_rfl) (fun _ _ _ h => h) ?hy311 (by assumption) ?rest311
                              case hi311 => simp only [List.getElem?_toArray, List.getElem?_cons_zero, List.getElem?_cons_succ]; rfl
                              case hy311 =>
                                refine Or.inl ⟨by rfl, ?_⟩
                                intro w hSw
                                (try dsimp only at hSw)
                                go_simp
                                all_goals with_reducible rfl
                              try simp only [Act.put, List.setIfInBounds_toArray, List.set_cons_zero, List.set_cons_succ]
                              refine wpAnyH_take (i := 38) (oi := ?o312) (v := ?v312) ?hi312 (by kernel_rfl) (by kernel_rfl) (by kernel_rfl) (fun _ _ _ h => h) ?hy312 (by assumption) ?rest312
                              case hi312 => simp only [List.getElem?_toArray, List.getElem?_cons_zero, List.getElem?_cons_succ]; rfl
                              case hy312 =>
                                refine Or.inl ⟨by rfl, ?_⟩
                                intro w hSw
                                (try dsimp only at hSw)
                                go_simp
                                all_goals with_reducible rfl
                              try simp only [Act.put, List.setIfInBounds_toArray, List.set_cons_zero, List.set_cons_succ]
                              refine wpAnyH_done (by kernel_rfl) ?_ _
                              refine NoPanic.normal ?_
                              go_wp2_with fail
                              go_meet
                              exact ⟨_, _, _, HI.out, HS5.out⟩
          case rest =>
            as_aux_lemma =>
              obtain ⟨M2, T2, H2, hiv, hs⟩ := hcut
              have HV := hid hiv
              have HS8 := hid hs
              clear hiv hs HS4 HI
              go_wp2_with fail
              go_loopg [15] 16 (fun g i wx => ∃ r : Nat, i = .int .i64 r ∧ g + r = 16 ∧ Hd W S p mb vb hb tb o x y z s M2 T2 H2 wx)
              case atStart => exact ⟨0, rfl, rfl, HS8.out⟩
              case round =>
                obtain ⟨r, rfl, hgr, hs⟩ := hrel
                have HGR := hid hgr
                have HS9 := hid hs
                have hr16 : r ≤ 16 := by omega
                clear hgr hs HS8
                by_cases hr : r < 16
                · have hri : (r : Int) < 16 := by omega
                  obtain ⟨hE, hR⟩ := HV.out.read hr
                  have c5 := HS9.out.tk.cell (i := r) (by rw [HV.out.tl]; exact hr)
                  have g1 := HS9.out.hs.cell (i := r) (by rw [HV.out.hl]; exact hr)
                  cases htr : tk T2 r with
                  | true =>
                    have hR2 := hR htr
                    rw [htr] at hE c5
                    have hE2 : readE M2 (r : Int) = 0 := hE
                    generalize hn H2 r = rs at *
                    have hss : (rs.toList == rs.toList) = true := by simp
                    clear hE hR htr
                    go_wp2_with fail
                    refine (read_s HS9.out.sh (r : Int)).mono ?_
                    rintro e wa ⟨rfl, hwa⟩
                    rw [hwa, hE2, hR2]
                    clear hwa hE2 hR2
                    go_wp2_with fail
                    have hg4 := HGR.out
                    go_roundg (gk - 1)
                    case measure => omega
                    case rel => exact ⟨r + 1, by go_num, by omega, HS9.out⟩
                  | false =>
                    rw [htr] at hE c5
                    have hE2 : readE M2 (r : Int) = 7 := hE
                    clear hE hR htr
                    go_wp2_with fail
                    refine (read_s HS9.out.sh (r : Int)).mono ?_
                    rintro e wa ⟨rfl, hwa⟩
                    rw [hwa, hE2]
                    generalize readS M2 (r : Int) = rs at *
                    clear hwa hE2
                    go_wp2_with fail
                    have hg4 := HGR.out
                    go_roundg (gk - 1)
                    case measure => omega
                    case rel => exact ⟨r + 1, by go_num, by omega, HS9.out⟩
                · have hri : ¬ (r : Int) < 16 := by omega
                  clear hr
                  go_wp2_with fail
                  have hg := HG.out
                  have hgo := HGO.out
                  go_roundg (go - 1)
                  case measure => omega
                  case rel => exact ⟨t + 1, M2, T2, H2, by go_num, by omega, HV.out, HS9.out.sh, HS9.out.hs, HS9.out.tk, HS9.out.below⟩
        ·
          as_aux_lemma =>
            have ht60i : ¬ (t : Int) < 60 := by omega
            clear HS HH HT HD
            go_wp2_with fail
            refine (fixed_any _).mono ?_
            rintro e w6 ⟨rfl, hb6⟩
            have HB6 := hid (HB.out.trans (hb6.mono HB.out.size))
            clear hb6
            go_wp2_with fail
            go_ret
            exact ⟨rfl, HB6.out⟩
      ·
        as_aux_lemma =>
          have htli : ¬ (t : Int) < (U.length : Int) := by omega
          clear HS HH HT HD
          go_wp2_with fail
          refine (fixed_any _).mono ?_
          rintro e w6 ⟨rfl, hb6⟩
          have HB6 := hid (HB.out.trans (hb6.mono HB.out.size))
          clear hb6
          go_wp2_with fail
          go_ret
          exact ⟨rfl, HB6.out⟩
end shelfHolds
end Go.Proofs.Ytcblkdocbmpkeaa
