/-
  PlanAfter returns true for every input: the walk.
-/
import Derived.Test.YtgnhfipmeljffaaRaf
import Derived.Test.YtgnhfipmeljffaaFix
open Go Go.RowKit
namespace Go.Proofs.Ytgnhfipmeljffaa

theorem AftPost.both {W w : World} {D : List Int} {U : List (Int × Int)} {e : Ending} (h : AftPost W D U e w) :
    ∃ (v : Value) (c : Int) (R : List Int), e = .returned (.tuple #[v, .int .i64 c]) ∧ RdI w w.heap.size v R ∧ Below W.heap.size W w ∧ R = (aftB D U).getD [] ∧ c = (if aftB D U = none then 1 else 0) := by
  unfold AftPost at h
  split at h
  · rename_i hn
    obtain ⟨rfl, hb⟩ := h
    exact ⟨_, _, [], rfl, RdI.nil_ _ _, hb, by rw [hn]; rfl, by rw [hn]; rfl⟩
  · rename_i R hn
    obtain ⟨v, rfl, ho, hb⟩ := h
    exact ⟨_, _, R, rfl, RdI.of_own ho, hb, by rw [hn]; rfl, by rw [hn]; rfl⟩

theorem RdI.head {w : World} {B : Nat} {a : Option Addr} {n cap k : Nat} {D : List Int} (h : RdI w B (.slice a n cap) D) (hk : k ≤ D.length) : RdI w B (.slice a k cap) (D.take k) := by
  obtain ⟨a', cap', e, h2, h3, h4⟩ := h
  simp only [Value.slice.injEq] at e
  obtain ⟨rfl, rfl, rfl⟩ := e
  have hl : (D.take k).length = k := by simp; omega
  refine ⟨a, cap, by rw [hl], by omega, h3, fun hp => ?_⟩
  rw [hl] at hp
  obtain ⟨g, off, rfl, hg, hc⟩ := h4 (by omega)
  refine ⟨g, off, rfl, hg, fun i d hd => ?_⟩
  rw [List.getElem?_take] at hd
  split at hd
  · exact hc i d hd
  · cases hd
theorem RdU.head {w : World} {B : Nat} {a : Option Addr} {n cap k : Nat} {U : List (Int × Int)} (h : RdU w B (.slice a n cap) U) (hk : k ≤ U.length) : RdU w B (.slice a k cap) (U.take k) := by
  obtain ⟨a', cap', e, h2, h3, h4⟩ := h
  simp only [Value.slice.injEq] at e
  obtain ⟨rfl, rfl, rfl⟩ := e
  have hl : (U.take k).length = k := by simp; omega
  refine ⟨a, cap, by rw [hl], by omega, h3, fun hp => ?_⟩
  rw [hl] at hp
  obtain ⟨g, off, rfl, hg, hc⟩ := h4 (by omega)
  refine ⟨g, off, rfl, hg, fun i d hd => ?_⟩
  rw [List.getElem?_take] at hd
  split at hd
  · exact hc i d hd
  · cases hd
theorem take_cap {U : List (Int × Int)} {k : Nat} (hk : k ≤ 60) : (U.take k).take 60 = U.take k := by rw [List.take_take]; congr 1; omega

namespace planAfter
set_option maxHeartbeats 1600000 in
set_option maxRecDepth 100000 in
theorem walk {W : World} {v u : Value} {D : List Int} {U : List (Int × Int)} (h : RdI W W.heap.size v D) (hu : RdU W W.heap.size u U) :
    Calls Try.prog 3 #[v, u] W fun e w' => e = .returned (.bool true) ∧ Below W.heap.size W w' := by
  obtain ⟨a, cap, rfl, hl, hm⟩ := h.shape
  obtain ⟨a2, cap2, rfl, hl2, hm2⟩ := hu.shape
  unfold maxLen at hm hm2
  have HD := hid h
  have HU := hid hu
  clear h hu
  go_enter Try.func3, Try.ntmps3
  go_wp2_with fail
  all_goals
    refine (after_any (RdI.head HD.out (by omega)) (RdU.head HU.out (by omega)) (by simp; omega)).mono ?_
    rintro e w1 hp
    obtain ⟨va, ca, Ra, rfl, ha, hb1, hRa, hca⟩ := hp.both
    have HA := hid ha
    have HRA := hid hRa
    have HCA := hid hca
    have HB1 := hid hb1
    have HD1 := hid ((HD.out.below hb1).more hb1.size)
    have HU1 := hid ((HU.out.below hb1).more hb1.size)
    clear hp ha hRa hca hb1
    go_wp2_with fail
    refine (lawUnits_any (RdU.head HU1.out (by omega))).mono ?_
    rintro e w2 ⟨vu, rfl, hou, hb2⟩
    rw [take_cap (by omega)] at hou
    have HOU := hid (RdU.of_own hou)
    have HB2 := hid (HB1.out.trans (hb2.mono HB1.out.size))
    have HD2 := hid ((HD1.out.below hb2).more hb2.size)
    have HA2 := hid ((HA.out.below hb2).more hb2.size)
    clear hou hb2 HD1 HU1 HA HB1
    go_wp2_with fail
    refine (refAfter_any (RdI.head HD2.out (by omega)) HOU.out (by simp; omega)).mono ?_
    rintro e w3 hp
    obtain ⟨vb, cb, Rb, rfl, hb, hb3, hRb, hcb⟩ := hp.both
    have hRR : Ra = Rb := by rw [HRA.out, hRb]
    have hcc : ca = cb := by rw [HCA.out, hcb]
    subst hRR hcc
    have HB := hid hb
    have HB3 := hid (HB2.out.trans (hb3.mono HB2.out.size))
    have HA3 := hid ((HA2.out.below hb3).more hb3.size)
    clear hp hb hb3 hRb hcb HRA HCA HA2 HD2
    go_wp2_with fail
    refine (ints_any HA3.out HB.out).mono ?_
    rintro e w4 ⟨rfl, m4, hw4⟩
    have hb4 : Below w3.heap.size w3 w4 := by rw [hw4]; exact below_drewN (Below.refl _ w3) m4
    clear hw4
    rw [decide_eq_true rfl]
    have HB4 := hid (HB3.out.trans (hb4.mono HB3.out.size))
    clear hb4
    go_wp2_with fail
    refine (fixed_any w4).mono ?_
    rintro e w5 ⟨rfl, hb5⟩
    have HB5 := hid (HB4.out.trans (hb5.mono HB4.out.size))
    clear hb5
    go_wp2
    go_ret
    exact ⟨rfl, HB5.out⟩
end planAfter
end Go.Proofs.Ytgnhfipmeljffaa
