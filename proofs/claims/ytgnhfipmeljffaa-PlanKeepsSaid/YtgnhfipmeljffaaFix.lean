/-
  What 'fixed' of the laws answers: true.
-/
import Derived.Test.YtgnhfipmeljffaaRin
open Go Go.RowKit
namespace Go.Proofs.Ytgnhfipmeljffaa

theorem RdU.more {w : World} {B B' : Nat} {v : Value} {U : List (Int × Int)} (h : RdU w B v U) (hB : B ≤ B') : RdU w B' v U := by
  obtain ⟨a, cap, h1, h2, h3, h4⟩ := h
  refine ⟨a, cap, h1, h2, h3, fun hn => ?_⟩
  obtain ⟨g, off, e, hg, hc⟩ := h4 hn
  exact ⟨g, off, e, by omega, hc⟩
theorem UnitsPost.none_get {t : TypeId} {W w : World} {D : List Int} {most many : Int} {e : Ending} (h : UnitsPost t W D most many e w) (hr : unitsB D most many = none) :
    e = .returned (.tuple #[.slice none 0 0, .int .i64 1]) ∧ Below W.heap.size W w := by
  unfold UnitsPost at h; rw [hr] at h; exact h
theorem AftPost.none_get {W w : World} {D : List Int} {U : List (Int × Int)} {e : Ending} (h : AftPost W D U e w) (hr : aftB D U = none) :
    e = .returned (.tuple #[.slice none 0 0, .int .i64 1]) ∧ Below W.heap.size W w := by
  unfold AftPost at h; rw [hr] at h; exact h
theorem below_alloc (w : World) (o : Obj) : Below w.heap.size w (w.alloc o) := (Below.refl _ w).alloc (Nat.le_refl _) o

theorem below_drewN {B : Nat} {a w : World} (h : Below B a w) (n : Nat) : Below B a (w.drewN n) := ⟨h.os, h.tape, h.output, h.size, h.block⟩

theorem Uns.lit1 {t : TypeId} (w : World) (a b : Int) : Uns t (w.alloc (.cells #[.int .i64 a, .int .i64 b] t)) w.heap.size (.slice (some ⟨w.heap.size, 0, none⟩) 1 1) [(a, b)] :=
  World.ownsRow_lit w #[.int .i64 a, .int .i64 b] 1 (Nat.le_refl _) (by unfold maxLen; omega) (by simp)

set_option maxRecDepth 100000 in
set_option maxHeartbeats 1600000 in
theorem fixed_any (W : World) : Calls Try.prog 11 #[] W fun e W' => e = .returned (.bool true) ∧ Below W.heap.size W W' := by
  have L4 : ∀ w : World, Ints (w.alloc (.cells #[.int .i64 1, .int .i64 2, .int .i64 3, .int .i64 9] 3)) w.heap.size (.slice (some ⟨w.heap.size, 0, none⟩) 4 4) [1, 2, 3, 9] := fun w => Ints.lit (Nat.le_refl _) [1, 2, 3, 9] (by decide)
  have L1 : ∀ (w : World) (x : Int), Ints (w.alloc (.cells #[.int .i64 x] 3)) w.heap.size (.slice (some ⟨w.heap.size, 0, none⟩) 1 1) [x] := fun w x => Ints.lit (Nat.le_refl _) [x] (by simp)
  have L2 : ∀ (w : World) (x y : Int), Ints (w.alloc (.cells #[.int .i64 x, .int .i64 y] 3)) w.heap.size (.slice (some ⟨w.heap.size, 0, none⟩) 2 2) [x, y] := fun w x y => Ints.lit (Nat.le_refl _) [x, y] (by simp)
  have L5 : ∀ w : World, Ints (w.alloc (.cells #[.int .i64 1, .int .i64 1, .int .i64 1, .int .i64 1, .int .i64 1] 3)) w.heap.size (.slice (some ⟨w.heap.size, 0, none⟩) 5 5) [1, 1, 1, 1, 1] := fun w => Ints.lit (Nat.le_refl _) [1, 1, 1, 1, 1] (by decide)
  have hl4 := hid L4
  have hl1 := hid L1
  have hl2 := hid L2
  have hl5 := hid L5
  clear L4 L1 L2 L5
  go_enter Try.func11, Try.ntmps11
  go_wp2_with fail
  refine (units_any (RdI.of_own (hl4.out _)) (by decide) 9 3).mono ?_
  rintro e w1 hp
  obtain ⟨v1, rfl, ho1, hb1⟩ := hp.get (R := [(0, 3)]) (by decide +kernel)
  have HB1 := hid ((below_alloc W _).trans (hb1.mono (by simp)))
  have HO1 := hid (RdU.of_own ho1)
  clear hp ho1 hb1
  go_wp2_with fail
  refine (units_any (RdI.of_own (hl4.out _)) (by decide) 9 2).mono ?_
  rintro e w2 hp
  obtain ⟨v2, rfl, ho2, hb2⟩ := hp.get (R := [(0, 2)]) (by decide +kernel)
  have hb2' := (below_alloc w1 _).trans (hb2.mono (by simp))
  have HB2 := hid (HB1.out.trans (hb2'.mono HB1.out.size))
  have HO2 := hid ((HO1.out.below hb2').more hb2'.size)
  have HP2 := hid (RdU.of_own ho2)
  clear hp ho2 hb2 hb2' HO1
  go_wp2_with fail
  refine (units_any (RdI.of_own (hl1.out _ 10)) (by decide) 9 2).mono ?_
  rintro e w3 hp
  obtain ⟨rfl, hb3⟩ := hp.none_get (by decide +kernel)
  have hb3' := (below_alloc w2 _).trans (hb3.mono (by simp))
  have HB3 := hid (HB2.out.trans (hb3'.mono HB2.out.size))
  have HO3 := hid ((HO2.out.below hb3').more hb3'.size)
  have HP3 := hid ((HP2.out.below hb3').more hb3'.size)
  clear hp hb3 hb3' HO2 HP2
  go_wp2_with fail
  refine (units_any (RdI.nil_ w3 _) (by decide) 9 1).mono ?_
  rintro e w4 hp
  obtain ⟨rfl, hb4⟩ := hp.none_get (by decide +kernel)
  have HB4 := hid (HB3.out.trans (hb4.mono HB3.out.size))
  have HO4 := hid ((HO3.out.below hb4).more hb4.size)
  have HP4 := hid ((HP3.out.below hb4).more hb4.size)
  clear hp hb4 HO3 HP3
  go_wp2_with fail
  refine (after_any (RdI.of_own (hl4.out _)) ((HO4.out.below (below_alloc w4 _)).more (below_alloc w4 _).size) (by decide)).mono ?_
  rintro e w5 hp
  obtain ⟨va, rfl, ha5, hb5⟩ := hp.get (R := [6, 9]) (by decide +kernel)
  have hb5' := (below_alloc w4 _).trans (hb5.mono (by simp))
  have HB5 := hid (HB4.out.trans (hb5'.mono HB4.out.size))
  have HO5 := hid ((HO4.out.below hb5').more hb5'.size)
  have HP5 := hid ((HP4.out.below hb5').more hb5'.size)
  have HA5 := hid (RdI.of_own ha5)
  clear hp hb5 hb5' HO4 HP4 ha5
  go_wp2_with fail
  have hu6 := RdU.of_own (Uns.lit1 (t := 38) (w5.alloc (.cells #[.int .i64 1, .int .i64 2] 3)) 1 2)
  rw [show (w5.alloc (.cells #[.int .i64 1, .int .i64 2] 3)).heap.size = w5.heap.size + 1 by simp] at hu6
  have ha6 := after_any (RdI.of_own ((hl2.out w5 1 2).alloc (.cells #[.int .i64 1, .int .i64 2] 38))) hu6 (by decide)
  clear hu6
  refine ha6.mono ?_
  clear ha6
  rintro e w6 hp
  obtain ⟨rfl, hb6⟩ := hp.none_get (by decide +kernel)
  have hb6' := ((below_alloc w5 (.cells #[.int .i64 1, .int .i64 2] 3)).trans ((below_alloc _ (.cells #[.int .i64 1, .int .i64 2] 38)).mono (by simp))).trans (hb6.mono (by simp; omega))
  have HB6 := hid (HB5.out.trans (hb6'.mono HB5.out.size))
  have HO6 := hid ((HO5.out.below hb6').more hb6'.size)
  have HP6 := hid ((HP5.out.below hb6').more hb6'.size)
  have HA6 := hid ((HA5.out.below hb6').more hb6'.size)
  clear hp hb6 hb6' HO5 HP5 HA5
  go_wp2_with fail
  refine (rounds_any (RdI.of_own (hl5.out _)) ((right_iff [1, 1, 1, 1, 1] 5 2).1 (by decide +kernel))).mono ?_
  rintro e w7 hp
  rw [show roundsE [1, 1, 1, 1, 1] 5 2 0 = (3, [5]) by decide +kernel] at hp
  obtain ⟨vr, rfl, hr7, hb7⟩ := hp
  have hb7' := (below_alloc w6 _).trans (hb7.mono (by simp))
  have HB7 := hid (HB6.out.trans (hb7'.mono HB6.out.size))
  have HO7 := (HO6.out.below hb7').more hb7'.size
  have HP7 := (HP6.out.below hb7').more hb7'.size
  have HA7 := hid ((HA6.out.below hb7').more hb7'.size)
  have HR7 := hid (RdI.of_own hr7)
  obtain ⟨a1, c1, rfl, _, _⟩ := HO7.shape
  obtain ⟨a2, c2, rfl, _, _⟩ := HP7.shape
  obtain ⟨g1, o1, rfl, _, d1, d2⟩ := HO7.at_ (i := 0) (u := (0, 3)) rfl
  obtain ⟨g2, o2, rfl, _, d3, d4⟩ := HP7.at_ (i := 0) (u := (0, 2)) rfl
  simp only [Nat.zero_mul, Nat.add_zero] at d1 d2 d3 d4
  clear hr7 hb7 hb7' HO6 HP6 HA6 HO7 HP7
  go_wp2_with fail
  refine (ints_any (HA7.out.below (below_alloc w7 _)) (RdI.of_own (hl2.out w7 6 9))).mono ?_
  rintro e w8 ⟨rfl, m8, hw8⟩
  have hb8 : Below w7.heap.size w7 w8 := by rw [hw8]; exact below_drewN (below_alloc w7 _) m8
  clear hw8
  rw [decide_eq_true rfl]
  have HB8 := hid (HB7.out.trans (hb8.mono HB7.out.size))
  have HR8 := hid ((HR7.out.below hb8).more hb8.size)
  clear hb8 HR7 HA7
  go_wp2_with fail
  refine (ints_any (HR8.out.below (below_alloc w8 _)) (RdI.of_own (hl1.out w8 5))).mono ?_
  rintro e w9 ⟨rfl, m9, hw9⟩
  have hb9 : Below w8.heap.size w8 w9 := by rw [hw9]; exact below_drewN (below_alloc w8 _) m9
  clear hw9
  rw [decide_eq_true rfl]
  have HB9 := hid (HB8.out.trans (hb9.mono HB8.out.size))
  clear hb9 HR8
  go_wp2_with fail
  refine (tight_any (RdI.of_own (hl2.out w9 5 5)) 9).mono ?_
  rintro e w10 ⟨rfl, m10, hw10⟩
  rw [show tightB 9 [5, 5] = true by decide +kernel]
  have hb10 : Below w9.heap.size w9 w10 := by rw [hw10]; exact below_drewN (below_alloc w9 _) m10
  clear hw10
  have HB10 := hid (HB9.out.trans (hb10.mono HB9.out.size))
  clear hb10
  go_wp2_with fail
  refine (tight_any (RdI.of_own (hl2.out w10 5 4)) 9).mono ?_
  rintro e w11 ⟨rfl, m11, hw11⟩
  rw [show tightB 9 [5, 4] = false by decide +kernel]
  have hb11 : Below w10.heap.size w10 w11 := by rw [hw11]; exact below_drewN (below_alloc w10 _) m11
  clear hw11
  have HB11 := hid (HB10.out.trans (hb11.mono HB10.out.size))
  clear hb11
  go_wp2_with fail
  refine (Sum_any (RdI.of_own (hl2.out w11 1 2))).mono ?_
  rintro e w12 ⟨rfl, hw12⟩
  rw [show sumW [1, 2] = 3 by decide +kernel]
  have hb12 : Below w11.heap.size w11 w12 := by rw [← hw12]; exact below_alloc w11 _
  clear hw12
  have HB12 := hid (HB11.out.trans (hb12.mono HB11.out.size))
  clear hb12
  go_wp2
  go_ret
  exact ⟨rfl, HB12.out⟩
end Go.Proofs.Ytgnhfipmeljffaa
