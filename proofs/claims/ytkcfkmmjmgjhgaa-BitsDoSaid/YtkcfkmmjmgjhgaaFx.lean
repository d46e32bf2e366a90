/-
  What 'fixed' of the laws answers: true.
-/
import Derived.Test.YtkcfkmmjmgjhgaaLo
import Derived.Test.YtkcfkmmjmgjhgaaRi
namespace Go.Proofs.Ytkcfkmmjmgjhgaa
open Go Go.RowKit

theorem Bt.below_keep {w w' : World} {B p : Nat} {v : Value} {T : List Bool} (h : Bt w B p v T) (hb : Below w.heap.size w w') : Bt w' B p v T := h.keep (Only.of_below (S := fun _ => False) hb) id (fun _ _ h => h)
theorem Bt.only_below {w w' : World} {B p : Nat} {v : Value} {T : List Bool} (h : Bt w B p v T) (ho : Only (fun k => v.ownBlock = some k) w w') (hB : B ≤ w.heap.size) : Below B w w' := ho.below hB (fun k hk e => by have := (h.row.block e).1; omega)
/-- Two sets of pages that have nothing in common. -/
theorem Bt.beside {w w' : World} {B B' p p' : Nat} {v v' : Value} {T T' : List Bool} (h : Bt w B p v T) (h' : Bt w B' p' v' T') (hv : ∀ k, v.ownBlock = some k → v'.ownBlock ≠ some k) (ho : Only (fun k => v'.ownBlock = some k) w w') : Bt w' B p v T :=
  h.keep ho (fun e => by
    obtain ⟨_, cur, hc⟩ := h'.row.block e
    exact hc.ne_ h.blk (by decide) rfl) (fun k e e' => hv k e e')
theorem below_new (w : World) (o : Obj) : Below w.heap.size w (w.alloc o) := (Below.refl _ w).alloc (Nat.le_refl _) o
theorem LoadPost.get {W w : World} {s : ByteArray} {n : Nat} {T : List Bool} {e : Ending} (h : LoadPost W s (n : Int) e w) (h1 : 1 ≤ n) (h2 : n ≤ 1024) (hT : loadT (strB s) n = some T) : ∃ p v, e = .returned (.tuple #[.pointer (some ⟨p, 0, none⟩), .int .i64 0]) ∧ Bt w W.heap.size p v T ∧ Below W.heap.size W w := by
  unfold LoadPost at h
  rw [if_pos (by omega), Int.toNat_natCast, hT] at h
  obtain ⟨hb, p, v, he, hbt⟩ := h
  exact ⟨p, v, he, hbt, hb⟩
theorem LoadPost.no {W w : World} {s : ByteArray} {n : Nat} {e : Ending} (h : LoadPost W s (n : Int) e w) (h1 : 1 ≤ n) (h2 : n ≤ 1024) (hT : loadT (strB s) n = none) : e = .returned (.tuple #[.pointer none, .int .i64 4]) ∧ Below W.heap.size W w := by
  unfold LoadPost at h
  rw [if_pos (by omega), Int.toNat_natCast, hT] at h
  exact ⟨h.2, h.1⟩
theorem Ints.lit2 (w : World) (D : List Int) (hl : D.length ≤ 1024) : Ints (w.alloc (.cells (D.map (Value.int .i64)).toArray 3)) w.heap.size (.slice (some ⟨w.heap.size, 0, none⟩) D.length D.length) D := Ints.lit (Nat.le_refl _) D hl

set_option maxRecDepth 100000 in
set_option maxHeartbeats 3200000 in
theorem fixed_any (W : World) : Calls Try.prog 16 #[] W fun e W' => e = .returned (.bool true) ∧ Below W.heap.size W W' := by
  have N1 := hid (new_any (W := W) ((10 : Nat) : Int))
  have L1 := hid (fun w : World => (Ints.lit2 w [9] (by decide) : Ints (w.alloc (.cells #[.int .i64 9] 3)) w.heap.size (.slice (some ⟨w.heap.size, 0, none⟩) 1 1) [9]))
  have L2 := hid (fun w : World => (Ints.lit2 w [0, 9] (by decide) : Ints (w.alloc (.cells #[.int .i64 0, .int .i64 9] 3)) w.heap.size (.slice (some ⟨w.heap.size, 0, none⟩) 2 2) [0, 9]))
  go_enter Try.func16, Try.ntmps16
  go_wp2_with fail
  refine N1.out.mono ?_
  rintro e w1 hp
  obtain ⟨p, v, rfl, hbt, hb⟩ := hp.get (by omega) (by omega)
  have HT1 := hid hbt
  have HB1 := hid hb
  clear hp hbt hb N1
  go_wp2_with fail
  refine (new_any 1025).mono ?_
  rintro e w2 hp
  obtain ⟨rfl, hb⟩ := hp.no (by omega)
  have HT2 := hid (HT1.out.below_keep hb)
  have HB2 := hid (HB1.out.trans (hb.mono HB1.out.size))
  clear hp hb HT1 HB1
  go_wp2_with fail
  refine (take_any HT2.out 9).mono ?_
  rintro e w3 ⟨rfl, hbt, ho⟩
  rw [show takeRX (List.replicate 10 false) 9 = 9 by decide +kernel, show takeRE (List.replicate 10 false) 9 = 0 by decide +kernel]
  rw [show takeRT (List.replicate 10 false) 9 = [false, false, false, false, false, false, false, false, false, true] by decide +kernel] at hbt
  have HT3 := hid hbt
  have HB3 := hid (HB2.out.trans (HT2.out.only_below ho HB2.out.size))
  clear hbt ho HT2 HB2
  go_wp2_with fail
  refine (take_any HT3.out 9).mono ?_
  rintro e w4 ⟨rfl, hbt, ho⟩
  rw [show takeRX [false, false, false, false, false, false, false, false, false, true] 9 = 0 by decide +kernel, show takeRE [false, false, false, false, false, false, false, false, false, true] 9 = 0 by decide +kernel]
  rw [show takeRT [false, false, false, false, false, false, false, false, false, true] 9 = [true, false, false, false, false, false, false, false, false, true] by decide +kernel] at hbt
  have HT4 := hid hbt
  have HB4 := hid (HB3.out.trans (HT3.out.only_below ho HB3.out.size))
  clear hbt ho HT3 HB3
  go_wp2_with fail
  refine (run_any HT4.out 8).mono ?_
  rintro e w5 ⟨rfl, hb⟩
  rw [show runX [true, false, false, false, false, false, false, false, false, true] 8 = 1 by decide +kernel, show runOk [true, false, false, false, false, false, false, false, false, true] 8 = true by decide +kernel]
  have HT5 := hid (HT4.out.below_keep hb)
  have HB5 := hid (HB4.out.trans (hb.mono HB4.out.size))
  clear hb HT4 HB4
  go_wp2_with fail
  refine (run_any HT5.out 9).mono ?_
  rintro e w6 ⟨rfl, hb⟩
  rw [show runX [true, false, false, false, false, false, false, false, false, true] 9 = 0 by decide +kernel, show runOk [true, false, false, false, false, false, false, false, false, true] 9 = false by decide +kernel]
  have HT6 := hid (HT5.out.below_keep hb)
  have HB6 := hid (HB5.out.trans (hb.mono HB5.out.size))
  clear hb HT5 HB5
  go_wp2_with fail
  refine (save_any HT6.out).mono ?_
  rintro e w7 ⟨rfl, rfl⟩
  rw [show ((bytesOf [true, false, false, false, false, false, false, false, false, true]).map UInt8.ofNat).toArray = #[1, 2] by decide +kernel]
  go_wp2_with fail
  refine (load_any ⟨#[1, 2]⟩ (by decide) ((10 : Nat) : Int)).mono ?_
  rintro e w7 hp
  obtain ⟨pc, vc, rfl, hbc, hb⟩ := hp.get (T := [true, false, false, false, false, false, false, false, false, true]) (by omega) (by omega) (by decide +kernel)
  have hlt := hid (fun k (e : v.ownBlock = some k) => HT6.out.lt e)
  have hdis := hid (show ∀ k, vc.ownBlock = some k → v.ownBlock ≠ some k from fun k e e' => by have h1 := (hbc.row.block e).1; have h2 := hlt.out k e'; omega)
  have HC7 := hid hbc
  have HT7 := hid (HT6.out.below_keep hb)
  have HB7 := hid (HB6.out.trans (hb.mono HB6.out.size))
  clear hp hb hbc hlt HT6 HB6
  go_wp2_with fail
  refine (load_any ⟨#[0, 4]⟩ (by decide) ((10 : Nat) : Int)).mono ?_
  rintro e w8 hp
  obtain ⟨rfl, hb⟩ := hp.no (by omega) (by omega) (by decide +kernel)
  have HC8 := hid (HC7.out.below_keep hb)
  have HT8 := hid (HT7.out.below_keep hb)
  have HB8 := hid (HB7.out.trans (hb.mono HB7.out.size))
  clear hp hb HC7 HT7 HB7
  go_wp2_with fail
  refine (load_any ⟨#[1, 2]⟩ (by decide) ((17 : Nat) : Int)).mono ?_
  rintro e w9 hp
  obtain ⟨rfl, hb⟩ := hp.no (by omega) (by omega) (by decide +kernel)
  have HC9 := hid (HC8.out.below_keep hb)
  have HT9 := hid (HT8.out.below_keep hb)
  have HB9 := hid (HB8.out.trans (hb.mono HB8.out.size))
  clear hp hb HC8 HT8 HB8
  go_wp2_with fail
  refine (takeAt_any HT9.out 9).mono ?_
  rintro e w10 ⟨rfl, hbt, ho⟩
  rw [show takeE [true, false, false, false, false, false, false, false, false, true] 9 = 8 by decide +kernel]
  rw [show takeT [true, false, false, false, false, false, false, false, false, true] 9 = [true, false, false, false, false, false, false, false, false, true] by decide +kernel] at hbt
  have HC10 := hid (HC9.out.beside HT9.out hdis.out ho)
  have HT10 := hid hbt
  have HB10 := hid (HB9.out.trans (HT9.out.only_below ho HB9.out.size))
  clear hbt ho HC9 HT9 HB9
  go_wp2_with fail
  refine (give_any HT10.out 5).mono ?_
  rintro e w11 ⟨rfl, hbt, ho⟩
  rw [show giveE [true, false, false, false, false, false, false, false, false, true] 5 = 7 by decide +kernel]
  rw [show giveT [true, false, false, false, false, false, false, false, false, true] 5 = [true, false, false, false, false, false, false, false, false, true] by decide +kernel] at hbt
  have HC11 := hid (HC10.out.beside HT10.out hdis.out ho)
  have HT11 := hid hbt
  have HB11 := hid (HB10.out.trans (HT10.out.only_below ho HB10.out.size))
  clear hbt ho HC10 HT10 HB10
  go_wp2_with fail
  refine (give_any HT11.out 0).mono ?_
  rintro e w12 ⟨rfl, hbt, ho⟩
  rw [show giveE [true, false, false, false, false, false, false, false, false, true] 0 = 0 by decide +kernel]
  rw [show giveT [true, false, false, false, false, false, false, false, false, true] 0 = [false, false, false, false, false, false, false, false, false, true] by decide +kernel] at hbt
  have HC12 := hid (HC11.out.beside HT11.out hdis.out ho)
  have HT12 := hid hbt
  have HB12 := hid (HB11.out.trans (HT11.out.only_below ho HB11.out.size))
  clear hbt ho HC11 HT11 HB11
  go_wp2_with fail
  refine (take_any HT12.out 10).mono ?_
  rintro e w13 ⟨rfl, hbt, ho⟩
  rw [show takeRX [false, false, false, false, false, false, false, false, false, true] 10 = 0 by decide +kernel, show takeRE [false, false, false, false, false, false, false, false, false, true] 10 = 1 by decide +kernel]
  rw [show takeRT [false, false, false, false, false, false, false, false, false, true] 10 = [false, false, false, false, false, false, false, false, false, true] by decide +kernel] at hbt
  have HC13 := hid (HC12.out.beside HT12.out hdis.out ho)
  have HT13 := hid hbt
  have HB13 := hid (HB12.out.trans (HT12.out.only_below ho HB12.out.size))
  clear hbt ho HC12 HT12 HB12
  go_wp2_with fail
  refine (free_any HT13.out).mono ?_
  rintro e w14 ⟨rfl, hb⟩
  rw [show freeN [false, false, false, false, false, false, false, false, false, true] = 9 by decide +kernel]
  have HC14 := hid (HC13.out.below_keep hb)
  have HT14 := hid (HT13.out.below_keep hb)
  have HB14 := hid (HB13.out.trans (hb.mono HB13.out.size))
  clear hb HC13 HT13 HB13
  go_wp2_with fail
  refine (taken_any HT14.out).mono ?_
  rintro e w15 ⟨vo, rfl, hvo, hb⟩
  rw [show takenL [false, false, false, false, false, false, false, false, false, true] = [9] by decide +kernel] at hvo
  have HV := hid (RdI.of_own hvo)
  have HC15 := hid (HC14.out.below_keep hb)
  have HT15 := hid (HT14.out.below_keep hb)
  have HB15 := hid (HB14.out.trans (hb.mono HB14.out.size))
  clear hb hvo HC14 HT14 HB14
  go_wp2_with fail
  refine (ints_any (HV.out.below (below_new w15 _)) (RdI.of_own (L1.out w15))).mono ?_
  rintro e w16 ⟨rfl, m, hw⟩
  have hb : Below w15.heap.size w15 w16 := by rw [hw]; exact below_dN (below_new w15 _) m
  clear hw HV
  rw [decide_eq_true rfl]
  have HC16 := hid (HC15.out.below_keep hb)
  have HT16 := hid (HT15.out.below_keep hb)
  have HB16 := hid (HB15.out.trans (hb.mono HB15.out.size))
  clear hb HC15 HT15 HB15
  go_wp2_with fail
  refine (taken_any HC16.out).mono ?_
  rintro e w17 ⟨vo, rfl, hvo, hb⟩
  rw [show takenL [true, false, false, false, false, false, false, false, false, true] = [0, 9] by decide +kernel] at hvo
  have HV := hid (RdI.of_own hvo)
  have HC17 := hid (HC16.out.below_keep hb)
  have HT17 := hid (HT16.out.below_keep hb)
  have HB17 := hid (HB16.out.trans (hb.mono HB16.out.size))
  clear hb hvo HC16 HT16 HB16
  go_wp2_with fail
  refine (ints_any (HV.out.below (below_new w17 _)) (RdI.of_own (L2.out w17))).mono ?_
  rintro e w18 ⟨rfl, m, hw⟩
  have hb : Below w17.heap.size w17 w18 := by rw [hw]; exact below_dN (below_new w17 _) m
  clear hw HV
  rw [decide_eq_true rfl]
  have HC18 := hid (HC17.out.below_keep hb)
  have HT18 := hid (HT17.out.below_keep hb)
  have HB18 := hid (HB17.out.trans (hb.mono HB17.out.size))
  clear hb HC17 HT17 HB17
  go_wp2_with fail
  refine (is_any HT18.out 9).mono ?_
  rintro e w19 ⟨rfl, m, hw⟩
  rw [show isB [false, false, false, false, false, false, false, false, false, true] 9 = true by decide +kernel]
  have hb : Below w18.heap.size w18 w19 := by rw [hw]; exact below_dN (Below.refl _ _) m
  clear hw
  have HT19 := hid (HT18.out.below_keep hb)
  have HB19 := hid (HB18.out.trans (hb.mono HB18.out.size))
  clear hb HT18 HB18
  go_wp2_with fail
  refine (is_any HT19.out 10).mono ?_
  rintro e w20 ⟨rfl, m, hw⟩
  rw [show isB [false, false, false, false, false, false, false, false, false, true] 10 = false by decide +kernel]
  have hb : Below w19.heap.size w19 w20 := by rw [hw]; exact below_dN (Below.refl _ _) m
  clear hw
  have HT20 := hid (HT19.out.below_keep hb)
  have HB20 := hid (HB19.out.trans (hb.mono HB19.out.size))
  clear hb HT19 HB19
  go_wp2_with fail
  refine (len_any HT20.out).mono ?_
  rintro e w99 ⟨rfl, rfl⟩
  go_wp2
  go_ret
  exact ⟨rfl, HB20.out⟩
end Go.Proofs.Ytkcfkmmjmgjhgaa
