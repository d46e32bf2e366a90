/-
  What Rounds of package plan does, by a contract (arguments that may be; a source that is not nil).
-/
import Derived.Test.YtgnhfipmeljffaaMrg
open Go Go.RowKit
namespace Go.Proofs.Ytgnhfipmeljffaa

theorem UnitsPost.get {t : TypeId} {W w : World} {D : List Int} {R : List (Int × Int)} {most many : Int} {e : Ending} (h : UnitsPost t W D most many e w) (hr : unitsB D most many = some R) :
    ∃ v, e = .returned (.tuple #[v, .int .i64 0]) ∧ Uns t w W.heap.size v R ∧ Below W.heap.size W w := by
  unfold UnitsPost at h; rw [hr] at h; exact h
theorem AftPost.get {W w : World} {D R : List Int} {U : List (Int × Int)} {e : Ending} (h : AftPost W D U e w) (hr : aftB D U = some R) :
    ∃ v, e = .returned (.tuple #[v, .int .i64 0]) ∧ Ints w W.heap.size v R ∧ Below W.heap.size W w := by
  unfold AftPost at h; rw [hr] at h; exact h
theorem unitsB_right {D : List Int} {most many : Int} (h : Right D most many) : unitsB D most many = some (unitsE D most many 0) := by
  unfold unitsB; rw [(right_iff D most many).2 h]; rfl
theorem Ints.base {w : World} {B B' : Nat} {v : Value} {D : List Int} (h : Ints w B v D) (hB : B' ≤ B) : Ints w B' v D := by
  obtain ⟨h1, h2⟩ := h
  refine ⟨h1, ?_⟩
  rcases h2 with h2 | ⟨g, cap, cur, a1, a2, a3⟩
  · exact .inl h2
  · exact .inr ⟨g, cap, cur, a1, by omega, a3⟩
theorem Ints.below {w w' : World} {B : Nat} {v : Value} {D : List Int} (h : Ints w B v D) (hb : Below w.heap.size w w') : Ints w' B v D := h.keep (Only.of_below (S := fun _ => False) hb) (fun _ _ h => h)

def RoundsPost (W : World) (R : Nat × List Int) (e : Ending) (w : World) : Prop :=
  ∃ v, e = .returned (.tuple #[.int .i64 R.1, v, .int .i64 0]) ∧ Ints w W.heap.size v R.2 ∧ Below W.heap.size W w

set_option maxHeartbeats 1600000 in
theorem rounds_any {W : World} {ad : Addr} {n cap : Nat} {D : List Int} {most many : Int} (h : RdI W W.heap.size (.slice (some ad) n cap) D) (hr : Right D most many) :
    Calls Try.prog 15 #[.slice (some ad) n cap, .int .i64 most, .int .i64 many] W (RoundsPost W (roundsE D most many 0)) := by
  have HC := hid (clone_any h (Nat.le_refl _) hr.len)
  clear h
  go_enter Try.func15, Try.ntmps15
  go_wp2_with fail
  refine HC.out.mono ?_
  rintro e wc ⟨vc, rfl, hoc, hbc⟩
  have HOC := hid hoc
  have HBC := hid hbc
  clear hoc hbc
  go_wp2_with fail
  go_loopg [9, 10] D.length (fun g l i wr => ∃ (E : List Int) (k : Nat), i = .int .i64 k ∧ g = E.length ∧ k + E.length ≤ 1024 ∧ Right E most many ∧ roundsE E most many k = roundsE D most many 0 ∧ Ints wr W.heap.size l E ∧ Below W.heap.size W wr)
  case atStart => exact ⟨D, 0, rfl, rfl, by have := hr.len; omega, hr, rfl, HOC.out, HBC.out⟩
  case round =>
    obtain ⟨E, k, rfl, hgk, hk, hR, hrd, ho, hb⟩ := hrel
    have HG := hid hgk
    have HR := hid hR
    have HD := hid hrd
    have HO := hid ho
    have HB := hid hb
    have hE := hR.len
    clear hgk hR hrd ho hb
    have HUP := hid (units_any (RdI.of_own HO.out) hE most many)
    rcases hU : unitsE E most many 0 with _ | ⟨x, r⟩
    · have HU := hid hU
      clear hU
      go_wp2_with fail
      refine HUP.out.mono ?_
      rintro e w1 hp
      obtain ⟨vu, rfl, hu1, hb1⟩ := hp.get (unitsB_right HR.out)
      rw [HU.out] at hu1
      obtain ⟨ua, uc, rfl⟩ := hu1.shape
      have HO1 := hid (HO.out.below hb1)
      have HB1 := hid (HB.out.trans (hb1.mono HB.out.size))
      clear hp hu1 hb1
      go_wp2
      go_ret3
      have hrd := HD.out
      rw [roundsE_no HU.out] at hrd
      rw [← hrd]
      exact ⟨_, rfl, HO1.out, HB1.out⟩
    · have HU := hid hU
      clear hU
      go_wp2_with fail
      refine HUP.out.mono ?_
      rintro e w1 hp
      obtain ⟨vu, rfl, hu1, hb1⟩ := hp.get (unitsB_right HR.out)
      have HA := hid (after_any (RdI.of_own (HO.out.below hb1)) (RdU.of_own hu1) hE)
      rw [HU.out] at hu1
      obtain ⟨ua, uc, rfl⟩ := hu1.shape
      rw [HU.out] at HA
      have HO1 := hid (HO.out.below hb1)
      have HB1 := hid (HB.out.trans (hb1.mono HB.out.size))
      clear hp hu1 hb1
      go_wp2_with fail
      refine HA.out.mono ?_
      rintro e w2 hp
      have hau := after_units HR.out
      rw [HU.out] at hau
      obtain ⟨va, rfl, ha1, hb2⟩ := hp.get hau
      have HA2 := hid (ha1.base HB1.out.size)
      have HB2 := hid (HB1.out.trans (hb2.mono HB1.out.size))
      have hne : unitsE E most many 0 ≠ [] := by rw [HU.out]; simp
      have HNE := hid hne
      clear hp hau ha1 hb2 hne
      go_wp2
      have hg := HG.out
      have hlt := (merge_keeps HR.out E.length 0 (by omega) (Nat.zero_le _)).2.2.2.1 HNE.out
      go_roundg (mergeE E most many 0).length
      case measure => omega
      case rel => exact ⟨mergeE E most many 0, k + 1, by go_num, rfl, by omega, merge_right HR.out, by rw [← roundsE_yes HR.out HNE.out]; exact HD.out, HA2.out, HB2.out⟩
end Go.Proofs.Ytgnhfipmeljffaa
