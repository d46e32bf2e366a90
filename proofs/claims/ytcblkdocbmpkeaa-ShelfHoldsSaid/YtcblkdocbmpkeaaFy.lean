/-
  The fixed calls of the shelf's statements: the walk.
-/
import Derived.Test.YtcblkdocbmpkeaaFx
open Go Go.RowKit
namespace Go.Proofs.Ytcblkdocbmpkeaa

theorem conv253 (w1 : World) (g : Nat) (h : Byts w1 g (.slice (some ⟨g, 0, none⟩) 253 253) (List.replicate 253 0)) :
    (convert 70 9 (.slice (some ⟨g, 0, none⟩) 253 253)).run Try.prog w1 = .ok (.string zeroB) w1 := by
  have := run_convert_bytes_back (P := Try.prog) w1 70 9 5 ⟨g, 0, none⟩ 253 (List.replicate 253 (0 : UInt8)) (by kernel_rfl) (by kernel_rfl) (by kernel_rfl) (fun j hj => by
    have hj2 : j < 253 := by rw [List.length_replicate] at hj; exact hj
    have hc := Byts.cell h (i := j) (d := 0) (by rw [List.getElem?_replicate, if_pos hj2])
    have ha : (Addr.add ⟨g, 0, none⟩ j) = ⟨g, j, none⟩ := by
      unfold Addr.add
      split
      · subst_vars; rfl
      · simp
    rw [ha, hc, List.getElem_replicate]
    rfl)
  rw [List.length_replicate] at this
  exact this

set_option maxHeartbeats 6400000 in
set_option maxRecDepth 100000 in
theorem fixed_any (W : World) : Calls Try.prog 14 #[] W fun e W' => e = .returned (.bool true) ∧ Below W.heap.size W W' := by
  obtain ⟨i0, hi, hz0, hz1, hz2⟩ := info_parts u8_info
  have HMK := hid (fun w : World => run_makeSlice w 70 5 i0 (.int .u8 0) (by kernel_rfl) hi hz0 .i64 .i64 253 253 (by omega) (Int.le_refl _) (by rw [hz1]; simp) (by rw [hz2]; decide) (by omega))
  clear hz0 hz2
  go_enter Try.func14, Try.ntmps14
  go_wp2_with fail
  refine (new_s (2 : Int)).mono ?_
  rintro e w1 hq
  obtain ⟨S, p, mb, v, rfl, hs, hb⟩ := hq.get (n := 2) (by omega) (by omega)
  have HS0 := hid hs
  have HB0 := hid hb
  clear hq hs hb
  go_wp2_with fail
  refine (new_s (0 : Int)).mono ?_
  rintro e w2 hq
  obtain ⟨rfl, hb⟩ := hq.no (by omega)
  have HS1 := hid (show Sh w2 W.heap.size S p mb v [none, none] from HS0.out.below hb)
  have HB1 := hid (HB0.out.trans (hb.mono HB0.out.size))
  clear hq hb HS0 HB0
  go_wp2_with fail
  refine (fx0 HS1.out).mono ?_
  rintro e w3 ⟨rfl, hs, ho⟩
  have HS2 := hid hs
  have HB2 := hid (HB1.out.trans (HS1.out.only_below ho HB1.out.size))
  clear hs ho HS1 HB1
  go_wp2_with fail
  refine (fx1 HS2.out).mono ?_
  rintro e w4 ⟨rfl, hs, ho⟩
  have HS3 := hid hs
  have HB3 := hid (HB2.out.trans (HS2.out.only_below ho HB2.out.size))
  clear hs ho HS2 HB2
  go_wp2_with fail
  refine (fx2 HS3.out).mono ?_
  rintro e w5 ⟨rfl, hs, ho⟩
  have HS4 := hid hs
  have HB4 := hid (HB3.out.trans (HS3.out.only_below ho HB3.out.size))
  clear hs ho HS3 HB3
  go_wp2_with fail
  refine (fx3 HS4.out).mono ?_
  rintro e w6 ⟨rfl, hs, ho⟩
  have HS5 := hid hs
  have HB5 := hid (HB4.out.trans (HS4.out.only_below ho HB4.out.size))
  clear hs ho HS4 HB4
  go_wp2_with fail
  refine (fx4 HS5.out).mono ?_
  rintro e w7 ⟨rfl, hs, ho⟩
  have HS6 := hid hs
  have HB6 := hid (HB5.out.trans (HS5.out.only_below ho HB5.out.size))
  clear hs ho HS5 HB5
  go_wp2_with fail
  refine (fx5 HS6.out).mono ?_
  rintro e w8 ⟨rfl, hs, ho⟩
  have HS7 := hid hs
  have HB7 := hid (HB6.out.trans (HS6.out.only_below ho HB6.out.size))
  clear hs ho HS6 HB6
  go_wp2_with fail
  refine (fx6 HS7.out).mono ?_
  rintro e w9 ⟨rfl, rfl⟩
  go_wp2_with fail
  refine (copy_s HS7.out).mono ?_
  rintro e w10 ⟨S2, p2, mb2, v2, rfl, hc, hb⟩
  have HS8 := hid (HS7.out.below hb)
  have HB8 := hid (HB7.out.trans (hb.mono HB7.out.size))
  have HC8 := hid hc
  have HN := hid HS7.out.small
  clear hb hc HS7 HB7
  go_wp2_with fail
  refine (fx8 HS8.out).mono ?_
  rintro e w11 ⟨rfl, hs, ho⟩
  have HS9 := hid hs
  have HB9 := hid (HB8.out.trans (HS8.out.only_below ho HB8.out.size))
  have HC9 := hid (HC8.out.beside ho HN.out)
  clear hs ho HS8 HB8 HC8
  go_wp2_with fail
  refine (fx9 HS9.out).mono ?_
  rintro e w12 ⟨rfl, hs, ho⟩
  have HS10 := hid hs
  have HB10 := hid (HB9.out.trans (HS9.out.only_below ho HB9.out.size))
  have HC10 := hid (HC9.out.beside ho HN.out)
  clear hs ho HS9 HB9 HC9
  go_wp2_with fail
  refine (fx10 HS10.out).mono ?_
  rintro e w13 ⟨rfl, rfl⟩
  go_wp2_with fail
  refine (fx11 HS10.out).mono ?_
  rintro e w14 ⟨rfl, rfl⟩
  have hmk := HMK.out w14
  rw [hz1] at hmk
  simp only [Nat.mul_one, Value.cells, Int.reduceToNat] at hmk
  have hrow := World.ownsRow_lit (base := w14.heap.size) (e := 5) (size := 1) w14 (madeCells #[.int .u8 0] 253) 253 (Nat.le_refl _) (by decide) (by rw [size_madeCells])
  have hby : Byts (w14.alloc (.cells (madeCells #[.int .u8 0] 253) 5)) w14.heap.size (.slice (some ⟨w14.heap.size, 0, none⟩) 253 253) (List.replicate 253 0) := by
    unfold Byts
    rw [toList_madeCells_one] at hrow
    simpa using hrow
  have hcv := conv253 _ _ hby
  have hbz := (Below.refl w14.heap.size w14).alloc (Nat.le_refl _) (.cells (madeCells #[.int .u8 0] 253) 5)
  generalize hwz : w14.alloc (.cells (madeCells #[.int .u8 0] 253) 5) = w15 at *
  have HS11 := hid (HS10.out.below hbz)
  have HB11 := hid (HB10.out.trans (hbz.mono HB10.out.size))
  have HC11 := hid (HC10.out.below hbz)
  clear hrow hby hbz hwz HS10 HB10 HC10
  go_wp2_with fail
  refine (fx13 HS11.out).mono ?_
  rintro e w16 ⟨rfl, hs, ho⟩
  have HS12 := hid hs
  have HB12 := hid (HB11.out.trans (HS11.out.only_below ho HB11.out.size))
  have HC12 := hid (HC11.out.beside ho HN.out)
  clear hs ho HS11 HB11 HC11
  go_wp2_with fail
  refine (fx14 HS12.out).mono ?_
  rintro e w17 ⟨rfl, hs, ho⟩
  have HS13 := hid hs
  have HB13 := hid (HB12.out.trans (HS12.out.only_below ho HB12.out.size))
  have HC13 := hid (HC12.out.beside ho HN.out)
  clear hs ho HS12 HB12 HC12
  go_wp2_with fail
  refine (fx15 HS13.out).mono ?_
  rintro e w18 ⟨rfl, hs, ho⟩
  have HS14 := hid hs
  have HB14 := hid (HB13.out.trans (HS13.out.only_below ho HB13.out.size))
  have HC14 := hid (HC13.out.beside ho HN.out)
  clear hs ho HS13 HB13 HC13
  go_wp2_with fail
  refine (fx16 HS14.out).mono ?_
  rintro e w19 ⟨rfl, hs, ho⟩
  have HS15 := hid hs
  have HB15 := hid (HB14.out.trans (HS14.out.only_below ho HB14.out.size))
  have HC15 := hid (HC14.out.beside ho HN.out)
  clear hs ho HS14 HB14 HC14
  go_wp2_with fail
  refine (fx17 HS15.out).mono ?_
  rintro e w20 ⟨rfl, rfl⟩
  go_wp2_with fail
  refine (fx18 HC15.out).mono ?_
  rintro e w21 ⟨rfl, rfl⟩
  go_wp2_with fail
  refine (free_s HS15.out).mono ?_
  rintro e w31 ⟨rfl, hb⟩
  rw [show freeN (tks [some (⟨#[]⟩ : ByteArray), some (⟨#[120]⟩ : ByteArray)]) = 0 by decide +kernel]
  have HS31 := hid (HS15.out.below hb)
  have HB31 := hid (HB15.out.trans (hb.mono HB15.out.size))
  clear hb HS15 HB15 HC15
  go_wp2_with fail
  refine (len_s HS31.out).mono ?_
  rintro e w32 ⟨rfl, rfl⟩
  rw [show (([some (⟨#[]⟩ : ByteArray), some (⟨#[120]⟩ : ByteArray)] : Mt).length : Int) = 2 from rfl]
  go_wp2_with fail
  refine (taken_s HS31.out).mono ?_
  rintro e w33 ⟨vo, rfl, hi, hb⟩
  rw [show takenL (tks [some (⟨#[]⟩ : ByteArray), some (⟨#[120]⟩ : ByteArray)]) = [0, 1] by decide +kernel] at hi
  have HI := hid hi
  have HB33 := hid (HB31.out.trans (hb.mono HB31.out.size))
  have HL := hid (show Ints (w33.alloc (.cells #[.int .i64 0, .int .i64 1] 3)) w33.heap.size (.slice (some ⟨w33.heap.size, 0, none⟩) 2 2) [0, 1] from Ints.lit (Nat.le_refl _) [0, 1] (by decide))
  have HB34 := hid (HB33.out.alloc HB33.out.size (.cells #[.int .i64 0, .int .i64 1] 3))
  clear hi hb HS31 HB31
  go_wp2_with fail
  refine (ints_any (RdI.of_own (HI.out.alloc _)) (RdI.of_own HL.out)).mono ?_
  rintro e w35 ⟨rfl, q, rfl⟩
  rw [decide_eq_true rfl]
  go_wp2
  go_ret
  exact ⟨rfl, below_dN HB34.out q⟩
end Go.Proofs.Ytcblkdocbmpkeaa
