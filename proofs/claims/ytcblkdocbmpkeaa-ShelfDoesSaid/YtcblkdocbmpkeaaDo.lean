/-
  ShelfDoes: the walk.
-/
import Derived.Test.YtcblkdocbmpkeaaPl
import Derived.Test.YtcblkdocbmpkeaaOq
import Derived.Test.YtcblkdocbmpkeaaMask
open Go Go.RowKit
namespace Go.Proofs.Ytcblkdocbmpkeaa

section
variable {w : World} {B B' S p mb : Nat} {vb bv lv : Value} {M : Mt}
theorem Bt.base_ {v : Value} {T : List Bool} (h : Bt w B p v T) (hB : B' ≤ B) : Bt w B' p v T := by
  refine ⟨h.blk, ?_, h.len1, h.len2, Nat.le_trans hB h.base⟩
  obtain ⟨h1, h2⟩ := h.row
  refine ⟨h1, ?_⟩
  rcases h2 with h2 | ⟨g, cap, cur, a1, a2, a3⟩
  · exact .inl h2
  · exact .inr ⟨g, cap, cur, a1, by omega, a3⟩
theorem Sh.base_ (h : Sh w B S p mb vb M) (hB : B' ≤ B) : Sh w B' S p mb vb M := ⟨h.blk, h.bt.base_ hB, h.mp, Nat.le_trans hB h.b1, Nat.le_trans hB h.b2⟩
theorem Sls.base_ {v : Value} {D : List ByteArray} (h : Sls w B v D) (hB : B' ≤ B) : Sls w B' v D := by
  obtain ⟨h1, h2⟩ := h
  refine ⟨h1, ?_⟩
  rcases h2 with h2 | ⟨g, cap, cur, a1, a2, a3⟩
  · exact .inl h2
  · exact .inr ⟨g, cap, cur, a1, by omega, a3⟩
theorem Rs.base_ (h : Rs w B S p bv lv M) (hB : B' ≤ B) : Rs w B' S p bv lv M := by
  obtain ⟨L, r1, r2, r3⟩ := h.row
  exact ⟨h.blk, h.rb.base_ hB, ⟨L, r1.base_ hB, r2, r3⟩, Nat.le_trans hB h.b1⟩
end
namespace shelfDoes
set_option maxRecDepth 100000 in
set_option maxHeartbeats 6400000 in
theorem walk {W : World} {v : Value} {U : List Oq} (h : RdOq W W.heap.size v U) (n : Int) :
    Calls Try.prog 6 #[.int .i64 n, v] W fun e w' => e = .returned (.bool true) ∧ Below W.heap.size W w' := by
  obtain ⟨ad, cap, rfl, hl, hm⟩ := h.shape
  have HD := hid h
  unfold maxLen at hm
  clear h
  obtain ⟨k, hk⟩ : ∃ k : Nat, 1 + n % 16 = (k : Int) := ⟨(1 + n % 16).toNat, by omega⟩
  have hk1 : 1 ≤ k := by omega
  have hk2 : k ≤ 16 := by omega
  have e1 := and15 n
  have e3 : wrap64 (1 + n % 16) = (k : Int) := by unfold wrap64; omega
  go_enter Try.func6, Try.ntmps6
  go_wp2_with fail
  refine (new_s (k : Int)).mono ?_
  rintro e w1 hp
  obtain ⟨S, p, mb, vb, rfl, hs, hb⟩ := hp.get (by omega) (by omega)
  have HS1 := hid hs
  have HB1 := hid hb
  clear hp hs hb
  go_wp2_with fail
  refine (rnew12 k hk1 (by omega)).mono ?_
  rintro e w2 hp
  obtain ⟨S', p', bv, lv, rfl, hr, hb⟩ := hp
  have HS2 := hid (HS1.out.below hb)
  have HR2 := hid (hr.base_ HB1.out.size)
  have HB2 := hid (HB1.out.trans (hb.mono HB1.out.size))
  clear hr hb HS1 HB1
  go_wp2_with fail
  go_loopg [6, 8, 10] (min U.length 60) (fun g a b i wr => ∃ (t S p mb : Nat) (vb : Value) (S' p' : Nat) (bv lv : Value) (M : Mt), a = .pointer (some ⟨S, 0, none⟩) ∧ b = .pointer (some ⟨S', 0, none⟩) ∧ i = .int .i64 t ∧ g + t = min U.length 60 ∧ M.length = k ∧ Sh wr W.heap.size S p mb vb M ∧ Rs wr W.heap.size S' p' bv lv M ∧ Below W.heap.size W wr)
  case atStart => exact ⟨0, _, _, _, _, _, _, _, _, _, rfl, rfl, rfl, rfl, by simp, HS2.out, HR2.out, HB2.out⟩
  case round =>
    clear HS2 HR2 HB2
    obtain ⟨t, S, p, mb, vb, S', p', bv, lv, M, rfl, rfl, rfl, hgt, hmk, hs, hr, hb⟩ := hrel
    obtain ⟨go, hgo⟩ : ∃ go, gk = go := ⟨_, rfl⟩
    rw [hgo] at hgt
    have HGO := hid hgo
    have HG := hid hgt
    have HM := hid hmk
    have HS := hid hs
    have HR := hid hr
    have HB := hid hb
    have htD : t ≤ U.length := by omega
    have ht60 : t ≤ 60 := by omega
    clear hgt hmk hs hr hb hgo
    by_cases htl : t < U.length
    · have htli : (t : Int) < (U.length : Int) := by omega
      by_cases ht2 : t < 60
      · obtain ⟨q, hq⟩ : ∃ q, U[t]? = some q := ⟨_, List.getElem?_eq_getElem htl⟩
        obtain ⟨gd, off, rfl, hgd, c0, c1, c2, c3, _, hwz⟩ := HD.out.at_ hq
        obtain ⟨x, y, z, s⟩ := q
        have d0 := (HB.out.cell (p := ⟨gd, off + t * 4, none⟩) hgd).trans c0
        have d1 := (HB.out.cell (p := ⟨gd, off + t * 4 + 1, none⟩) hgd).trans c1
        have d2 := (HB.out.cell (p := ⟨gd, off + t * 4 + 2, none⟩) hgd).trans c2
        have d3 := (HB.out.cell (p := ⟨gd, off + t * 4 + 3, none⟩) hgd).trans c3
        simp only at d0 d1 d2 d3
        have HZ := hid (show z ≤ 9223372036854775807 from hwz.2)
        have ht60i : (t : Int) < 60 := by omega
        have HS4 := hid (HS.out.alloc (.cells #[.int .i64 x, .int .i64 y, .int .i64 z, .string s] 30))
        have HR4 := hid (HR.out.alloc (.cells #[.int .i64 x, .int .i64 y, .int .i64 z, .string s] 30))
        have HB4 := hid (HB.out.alloc HB.out.size (.cells #[.int .i64 x, .int .i64 y, .int .i64 z, .string s] 30))
        have HO4 := hid (Blk.new wr 30 #[.int .i64 x, .int .i64 y, .int .i64 z, .string s])
        clear c0 c1 c2 c3 hq HS HR HB hwz
        go_upto_region 10 with fail
        clear d0 d1 d2 d3
        generalize wr.alloc (.cells #[.int .i64 x, .int .i64 y, .int .i64 z, .string s] 30) = w4 at *
        generalize wr.heap.size = o at *
        have o0 := HO4.out.cell 0
        have o1 := HO4.out.cell 1
        have o2 := HO4.out.cell 2
        have o3 := HO4.out.cell 3
        simp only [List.getElem?_toArray, List.getElem?_cons_zero, List.getElem?_cons_succ] at o0 o1 o2 o3
        go_upto_if 65 with fail
        go_cut [6, 8] (fun a b wx => ∃ (S p mb : Nat) (vb : Value) (S' p' : Nat) (bv lv : Value) (M : Mt), a = .pointer (some ⟨S, 0, none⟩) ∧ b = .pointer (some ⟨S', 0, none⟩) ∧ M.length = k ∧ Sh wx W.heap.size S p mb vb M ∧ Rs wx W.heap.size S' p' bv lv M ∧ Blk wx o 30 #[.int .i64 x, .int .i64 y, .int .i64 z, .string s] ∧ Below W.heap.size W wx)
        case first =>
          by_cases h5 : x = 5
          · have h5b : (x == 5) = true := by simpa using h5
            clear h5
            as_aux_lemma =>
              go_wp2_with fail
              refine (copy_s HS4.out).mono ?_
              rintro e w5 ⟨S2, p2, mb2, v2, rfl, hc, hb⟩
              have HBS := hid HB4.out.size
              have HN := hid HS4.out.small
              have HCB := hid hc
              have HS5 := hid (HS4.out.below hb)
              have HR5 := hid (HR4.out.below hb)
              have HO5 := hid (HO4.out.below hb HO4.out.lt)
              have HB5 := hid (HB4.out.trans (hb.mono HB4.out.size))
              clear hc hb HR4 HO4 HB4
              go_wp2_with fail
              refine (rcopy12 HR5.out).mono ?_
              rintro e w6 ⟨S3, p3, bv3, lv3, rfl, hc, hb⟩
              have HT6 := hid (hc.base_ HB5.out.size)
              have HC6 := hid (HCB.out.below hb)
              have HS6 := hid (HS5.out.below hb)
              have HO6 := hid (HO5.out.below hb HO5.out.lt)
              have HB6 := hid (HB5.out.trans (hb.mono HB5.out.size))
              clear hc hb HCB HS5 HR5 HO5 HB5
              go_wp2_with fail
              refine (take_s HS6.out).mono ?_
              rintro e w7 ⟨rfl, hs, ho⟩
              have HC7 := hid (HC6.out.beside ho HN.out)
              have HT7 := hid (HT6.out.side HS6.out ho)
              have HO7 := hid (ho.blk HO6.out (HS6.out.off HO6.out (by decide)))
              have HB7 := hid (HB6.out.trans (HS6.out.only_below ho HB6.out.size))
              have HS7 := hid hs
              have o1 := HO7.out.cell 1
              simp only [List.getElem?_toArray, List.getElem?_cons_zero, List.getElem?_cons_succ] at o1
              clear hs ho HC6 HT6 HO6 HB6
              generalize takeMX M = zx at *
              generalize takeME M = ze at *
              go_wp2_with fail
              refine (write_s HS7.out y _).mono ?_
              rintro e w8 ⟨rfl, hs, ho⟩
              have HC8 := hid (HC7.out.beside ho HN.out)
              have HT8 := hid (HT7.out.side HS7.out ho)
              have HO8 := hid (ho.blk HO7.out (HS7.out.off HO7.out (by decide)))
              have HB8 := hid (HB7.out.trans (HS7.out.only_below ho HB7.out.size))
              have HS8 := hid hs
              have o2 := HO8.out.cell 2
              simp only [List.getElem?_toArray, List.getElem?_cons_zero, List.getElem?_cons_succ] at o2
              clear hs ho HC7 HT7 HO7 HB7 o1
              go_wp2_with fail
              refine (give_s HS8.out z).mono ?_
              rintro e w9 ⟨rfl, hs, ho⟩
              have HC9 := hid ((HC8.out.beside ho HN.out).base_ HBS.out)
              have HT9 := hid (HT8.out.side HS8.out ho)
              have HO9 := hid (ho.blk HO8.out (HS8.out.off HO8.out (by decide)))
              have HB9 := hid (HB8.out.trans (HS8.out.only_below ho HB8.out.size))
              clear hs ho HC8 HT8 HO8 HB8 o2
              go_wp2_with fail
              go_meet
              exact ⟨_, _, _, _, _, _, _, _, _, rfl, rfl, HM.out, HC9.out, HT9.out, HO9.out, HB9.out⟩
          · have h5b : (x == 5) = false := by simpa using h5
            clear h5
            as_aux_lemma =>
              go_wp2_with fail
              refine (play_any HS4.out HR4.out x y z s).mono ?_
              rintro e w5 ⟨rfl, M5, hm5, hs, hr, ho⟩
              have HM5 := hid (show M5.length = k by rw [hm5]; exact HM.out)
              have HS5 := hid hs
              have HR5 := hid hr
              have HO5 := hid (ho.blk HO4.out (fun e => by
                rcases e with e | e
                · exact HS4.out.off HO4.out (by decide) e
                · exact HR4.out.off HO4.out (by decide) (by decide) e))
              have HB5 := hid (HB4.out.trans (ho.below HB4.out.size (fun j hj e => by
                rcases e with e | e
                · rcases e with rfl | e
                  · have := HS4.out.b2; omega
                  · have := (HS4.out.bt.row.block e).1; omega
                · obtain ⟨L, r1, _⟩ := HR4.out.row
                  rcases e with e | e
                  · have := (HR4.out.rb.row.block e).1; omega
                  · have := (r1.block e).1; omega)))
              clear hs hr ho hm5
              go_wp2_with fail
              go_meet
              exact ⟨_, _, _, _, _, _, _, _, _, rfl, rfl, HM5.out, HS5.out, HR5.out, HO5.out, HB5.out⟩
        case rest =>
          clear HS4 HR4 HB4 HO4 HM o0 o1 o2 o3
          as_aux_lemma =>
            obtain ⟨S, p, mb, vb, S', p', bv, lv, M, rfl, rfl, hm, hs, hr, hop, hb⟩ := hcut
            have HM := hid hm
            have HS9 := hid hs
            have HR9 := hid hr
            have HO9 := hid hop
            have HB9 := hid hb
            have HSD := hid (show Sh wc.drew W.heap.size S p mb vb M from hs.drewN 1)
            have HRD := hid (show Rs wc.drew W.heap.size S' p' bv lv M from hr.drewN 1)
            have HOD := hid (show Blk wc.drew o 30 _ from hop.drew)
            have HBD := hid hb.drew
            have r0 := hr.blk.cell 0
            simp only [List.getElem?_toArray, List.getElem?_cons_zero] at r0
            have hne1 : ∀ q : Int, (q != q) = false := fun q => by simp
            have hne2 : ∀ q : Bool, (q != q) = false := fun q => by simp
            have HM2 := hid (show ((M.length : Nat) : Int) = (k : Int) by rw [hm])
            clear hm hs hr hop hb
            go_wp2_with fail
            go_region_held3 (fun w' => w'.cell? ⟨S', 0, none⟩ = some (.pointer (some ⟨p', 0, none⟩)))
              (first | go_keep | assumption)
              (first
              | (go_at_call 21; (with_reducible refine (taken_s HSD.out).mono ?_); rintro e w10 ⟨vo1, rfl, hi, hb⟩; have HS10 := hid (HSD.out.below hb); have HR10 := hid (HRD.out.below hb); have HO10 := hid (HOD.out.below hb HOD.out.lt); have HB10 := hid (HBD.out.trans (hb.mono HBD.out.size)); have S10 := (show w10.cell? ⟨S', 0, none⟩ = some (.pointer (some ⟨p', 0, none⟩)) from by have q := HR10.out.blk.cell 0; simpa using q); have HV1 := hid hi; clear hi hb)
              | (go_at_call 22; (with_reducible refine (rtaken_any HR10.out.rb).mono ?_); rintro e w11 ⟨vo2, rfl, hi, hb⟩; have HS11 := hid (HS10.out.below hb); have HR11 := hid (HR10.out.below hb); have HO11 := hid (HO10.out.below hb HO10.out.lt); have HB11 := hid (HB10.out.trans (hb.mono HB10.out.size)); have S11 := (show w11.cell? ⟨S', 0, none⟩ = some (.pointer (some ⟨p', 0, none⟩)) from by have q := HR11.out.blk.cell 0; simpa using q); have HV2 := hid hi; have HV3 := hid (HV1.out.keep (S := fun _ => False) (Only.of_below hb) (fun _ _ e => e)); clear hi hb)
              | (go_at_call 20; (with_reducible refine (ints_any (RdI.of_own HV3.out) (RdI.of_own HV2.out)).mono ?_); rintro e w12 ⟨rfl, q, hw⟩; rw [decide_eq_true rfl]; have hb : Below w11.heap.size w11 w12 := (by rw [hw]; exact below_dN (Below.refl _ _) q); have HS12 := hid (HS11.out.below hb); have HR12 := hid (HR11.out.below hb); have HO12 := hid (HO11.out.below hb HO11.out.lt); have HB12 := hid (HB11.out.trans (hb.mono HB11.out.size)); have S12 := (show w12.cell? ⟨S', 0, none⟩ = some (.pointer (some ⟨p', 0, none⟩)) from by have q := HR12.out.blk.cell 0; simpa using q); clear hb hw)
              | (go_at_call 15; (with_reducible refine (free_s HS12.out).mono ?_); rintro e w13 ⟨rfl, hb⟩; have HS13 := hid (HS12.out.below hb); have HR13 := hid (HR12.out.below hb); have HO13 := hid (HO12.out.below hb HO12.out.lt); have HB13 := hid (HB12.out.trans (hb.mono HB12.out.size)); have S13 := (show w13.cell? ⟨S', 0, none⟩ = some (.pointer (some ⟨p', 0, none⟩)) from by have q := HR13.out.blk.cell 0; simpa using q); clear hb)
              | (go_at_call 23; (with_reducible refine (rfree12 HR13.out).mono ?_); rintro e w14 ⟨rfl, hb⟩; have HS14 := hid (HS13.out.below hb); have HR14 := hid (HR13.out.below hb); have HO14 := hid (HO13.out.below hb HO13.out.lt); have HB14 := hid (HB13.out.trans (hb.mono HB13.out.size)); have S14 := (show w14.cell? ⟨S', 0, none⟩ = some (.pointer (some ⟨p', 0, none⟩)) from by have q := HR14.out.blk.cell 0; simpa using q); clear hb)
              | (go_at_call 24; (with_reducible refine (len_s HS14.out).mono ?_); rintro e w15 ⟨rfl, hw⟩; rw [HM2.out]; have hb : Below w14.heap.size w14 w15 := (by rw [hw]; exact Below.refl _ _); have HS15 := hid (HS14.out.below hb); have HR15 := hid (HR14.out.below hb); have HO15 := hid (HO14.out.below hb HO14.out.lt); have HB15 := hid (HB14.out.trans (hb.mono HB14.out.size)); have S15 := (show w15.cell? ⟨S', 0, none⟩ = some (.pointer (some ⟨p', 0, none⟩)) from by have q := HR15.out.blk.cell 0; simpa using q); clear hb hw)
              | fail)
            all_goals
              clear HSD HRD HOD HBD
              have o2 := HO15.out.cell 2
              simp only [List.getElem?_toArray, List.getElem?_cons_zero, List.getElem?_cons_succ] at o2
              go_wp2_with fail
              refine (run_s HS15.out z).mono ?_
              rintro e w16 ⟨rfl, hb⟩
              have HS16 := hid (HS15.out.below hb); have HR16 := hid (HR15.out.below hb); have HO16 := hid (HO15.out.below hb HO15.out.lt); have HB16 := hid (HB15.out.trans (hb.mono HB15.out.size))
              clear hb
              have o2b := HO16.out.cell 2
              have r0b := HR16.out.blk.cell 0
              simp only [List.getElem?_toArray, List.getElem?_cons_zero, List.getElem?_cons_succ] at o2b r0b
              have HRQ := hid (rrun_any (W := w16.drew) (HR16.out.drewN 1).rb z HZ.out)
              generalize runX (tks M) z = rx at *
              generalize runOk (tks M) z = rk at *
              go_wp2_with fail
              go_region_held3 (fun w' => w'.cell? ⟨S', 0, none⟩ = some (.pointer (some ⟨p', 0, none⟩)) ∧ w'.cell? ⟨o, 2, none⟩ = some (.int .i64 z))
                (first | go_keep | assumption)
                (first
                | (go_at_call 26; (with_reducible refine HRQ.out.mono ?_); rintro e w17 ⟨rfl, hw⟩; have HS17 := hid (show Sh w17 W.heap.size S p mb vb M from by rw [hw]; exact HS16.out.drewN 1); have HR17 := hid (show Rs w17 W.heap.size S' p' bv lv M from by rw [hw]; exact HR16.out.drewN 1); have HB17 := hid (show Below W.heap.size W w17 from by rw [hw]; exact HB16.out.drew); have HO17 := hid (show Blk w17 o 30 #[.int .i64 x, .int .i64 y, .int .i64 z, .string s] from by rw [hw]; exact HO16.out.drew); have S17 := (show (w17.cell? ⟨S', 0, none⟩ = some (.pointer (some ⟨p', 0, none⟩))) ∧ w17.cell? ⟨o, 2, none⟩ = some (.int .i64 z) from ⟨by have q := HR17.out.blk.cell 0; simpa using q, by have q := HO17.out.cell 2; simpa using q⟩); clear hw)
                | fail)
              all_goals
                go_wp2_with fail
                obtain ⟨wo, hwo⟩ : ∃ wo, wo = wr := ⟨_, rfl⟩
                subst hwo
                go_loopg [17] (k + 2) (fun g i wx => ∃ r : Nat, i = .int .i64 ((r : Int) - 1) ∧ g + r = k + 2 ∧ Sh wx W.heap.size S p mb vb M ∧ Rs wx W.heap.size S' p' bv lv M ∧ Below W.heap.size W wx)
                case atStart => exact ⟨0, rfl, by omega, by first | exact HS17.out | exact HS17.out.drewN 1, by first | exact HR17.out | exact HR17.out.drewN 1, by first | exact HB17.out | exact HB17.out.drew⟩
                case round =>
                  obtain ⟨r, rfl, hgr, hs, hr, hb⟩ := hrel
                  have HGR := hid hgr
                  have HS18 := hid hs
                  have HR18 := hid hr
                  have HB18 := hid hb
                  have hr16 : r ≤ k + 2 := by omega
                  clear hgr hs hr hb
                  by_cases hrk : r < k + 2
                  · have hri : (r : Int) - 1 ≤ (k : Int) := by omega
                    have hrw : IntKind.i64.wrap ((r : Int) - 1 + 1) = (r : Int) := by rw [IntKind.wrap_i64]; omega
                    go_wp2_with fail
                    refine (read_s HS18.out ((r : Int) - 1)).mono ?_
                    rintro e wa ⟨rfl, hwa⟩
                    rw [hwa]
                    go_wp2_with fail
                    refine (rread_any HR18.out ((r : Int) - 1)).mono ?_
                    rintro e wb ⟨rfl, hwb⟩
                    rw [hwb]
                    generalize readS M ((r : Int) - 1) = rs at *
                    generalize readE M ((r : Int) - 1) = re at *
                    have hss : (rs.toList == rs.toList) = true := by simp
                    clear hwa hwb
                    go_wp2_with fail
                    have hg4 := HGR.out
                    go_roundg (gk - 1)
                    case measure => omega
                    case rel => exact ⟨r + 1, by go_num, by omega, HS18.out, HR18.out, HB18.out⟩
                  · have hri : ¬ (r : Int) - 1 ≤ (k : Int) := by omega
                    clear hrk
                    go_wp2_with fail
                    have hg := HG.out
                    have hgo := HGO.out
                    go_roundg (go - 1)
                    case measure => omega
                    case rel => exact ⟨t + 1, _, _, _, _, _, _, _, _, M, rfl, rfl, by go_num, by omega, HM.out, HS18.out, HR18.out, HB18.out⟩
      ·
        as_aux_lemma =>
          have ht60i : ¬ (t : Int) < 60 := by omega
          clear HS HR HD HM
          go_wp2_with fail
          refine (fixed_any _).mono ?_
          rintro e w6 ⟨rfl, hb6⟩
          have HB6 := hid (HB.out.trans (hb6.mono HB.out.size))
          clear hb6
          go_wp2_with fail
          go_ret
          exact ⟨rfl, HB6.out⟩
    ·
      as_aux_lemma =>
        have htli : ¬ (t : Int) < (U.length : Int) := by omega
        clear HS HR HD HM
        go_wp2_with fail
        refine (fixed_any _).mono ?_
        rintro e w6 ⟨rfl, hb6⟩
        have HB6 := hid (HB.out.trans (hb6.mono HB.out.size))
        clear hb6
        go_wp2_with fail
        go_ret
        exact ⟨rfl, HB6.out⟩
end shelfDoes
end Go.Proofs.Ytcblkdocbmpkeaa
