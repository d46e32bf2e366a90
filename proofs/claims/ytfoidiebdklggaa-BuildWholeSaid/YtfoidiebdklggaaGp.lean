/-
  What grouped of package build does, by a contract.
-/
import Derived.Test.YtfoidiebdklggaaNd
open Go Go.RowKit
namespace Go.Proofs.Ytfoidiebdklggaa

theorem odd_any {W : World} (n : Int) : Calls Try.prog 40 #[.int .i64 n] W fun e W' => e = .returned (.bool (!pageB n)) ∧ W' = W := by
  have HP := fun w => hid (page_any (W := w) n)
  go_enter Try.func40, Try.ntmps40
  go_wp2_with (go_at_call 34; ((with_reducible refine (HP _).out.mono ?_)); rintro e w' ⟨rfl, rfl⟩)
  go_ret
  exact ⟨rfl, rfl⟩

def oddV : Value := .func (.func 40) #[] #[]
def anyOdd (P : List Int) : Bool := P.any fun x => !pageB x
set_option maxHeartbeats 800000 in
theorem index_any {W : World} {v : Value} {P : List Int} (h : RdI W W.heap.size v P) :
    Calls Try.prog 42 #[v, oddV] W fun e W' => ∃ r : Int, e = .returned (.int .i64 r) ∧ decide (0 ≤ r) = anyOdd P ∧ W' = W := by
  obtain ⟨ad, cap, rfl, hl, hm⟩ := h.shape
  have HD := hid h
  unfold maxLen at hm
  clear h
  unfold oddV
  go_enter Try.func42, Try.ntmps42
  go_wp2
  go_loopg [8] P.length (fun g i wr => ∃ j : Nat, i = .int .i64 j ∧ g + j = P.length ∧ (∀ x ∈ P.take j, pageB x = true) ∧ W = wr)
  case atStart => exact ⟨0, rfl, rfl, fun x h => by simp at h, rfl⟩
  case round =>
    obtain ⟨j, rfl, hgj, hok, rfl⟩ := hrel
    have HG := hid hgj
    have HO := hid hok
    have hjl : j ≤ P.length := by omega
    clear hgj hok
    by_cases hj : j < P.length
    · have hji : (j : Int) < (P.length : Int) := by omega
      obtain ⟨g, off, rfl, hg, hc⟩ := HD.out.at_ (List.getElem?_eq_getElem hj)
      have HT := hid (show P.take (j + 1) = P.take j ++ [P[j]] from List.take_succ_eq_append_getElem hj)
      have HM := hid (show P[j] ∈ P from List.getElem_mem hj)
      generalize P[j] = y at *
      have HOD := hid (odd_any (W := W) y)
      cases hp : pageB y with
      | true =>
        rw [hp] at HOD
        have HP := hid hp
        clear hp
        go_wp2_with (go_at_call 40; ((with_reducible refine HOD.out.mono ?_)); rintro e w' ⟨rfl, hw⟩; obtain rfl : W = w' := hw.symm)
        have hg := HG.out
        go_roundg (gk - 1)
        case measure => omega
        case rel => exact ⟨j + 1, by go_num, by omega, fun x hx => by
          rw [HT.out, List.mem_append] at hx
          rcases hx with hx | hx
          · exact HO.out x hx
          · simp at hx; rw [hx]; exact HP.out, rfl⟩
      | false =>
        rw [hp] at HOD
        have HA := hid (show anyOdd P = true by
          unfold anyOdd
          rw [List.any_eq_true]
          exact ⟨y, HM.out, by rw [hp]; rfl⟩)
        clear hp
        go_wp2_with (go_at_call 40; ((with_reducible refine HOD.out.mono ?_)); rintro e w' ⟨rfl, hw⟩; obtain rfl : W = w' := hw.symm)
        go_ret
        exact ⟨_, rfl, by rw [HA.out]; simp, rfl⟩
    · have hji : ¬ (j : Int) < (P.length : Int) := by omega
      have HA := hid (show anyOdd P = false by
        unfold anyOdd
        rw [List.any_eq_false]
        intro x hx
        rw [List.take_of_length_le (by omega)] at HO
        rw [HO.out x hx]
        simp)
      go_wp2
      go_ret
      exact ⟨_, rfl, by rw [HA.out]; rfl, rfl⟩
theorem contains_any {W : World} {v : Value} {P : List Int} (h : RdI W W.heap.size v P) :
    Calls Try.prog 41 #[v, oddV] W fun e W' => e = .returned (.bool (anyOdd P)) ∧ W' = W := by
  have HI := hid (index_any h)
  unfold oddV at HI ⊢
  go_enter Try.func41, Try.ntmps41
  go_wp2_with (go_at_call 42; ((with_reducible refine HI.out.mono ?_)); rintro e w' ⟨r, rfl, hr, rfl⟩)
  go_ret
  rw [← hr]
  exact ⟨rfl, rfl⟩

theorem Ints.below {w w' : World} {B : Nat} {v : Value} {D : List Int} (h : Ints w B v D) (hb : Below w.heap.size w w') : Ints w' B v D := h.keep (S := fun _ => False) (Only.of_below hb) (fun _ _ h => h)
/-- Can kids be grouped so? -/
def canB (K : List Kid) (m : Int) (P : List Int) : Bool :=
  decide (1 ≤ K.length ∧ K.length ≤ 1024 ∧ 2 ≤ m ∧ m ≤ 13) && (rightB K && (decide (P.length = manyL K.length m.toNat) && !anyOdd P))
/-- What grouped leaves. -/
def GpPost (W : World) (K : List Kid) (m : Int) (P : List Int) (e : Ending) (w : World) : Prop :=
  Below W.heap.size W w ∧ if canB K m P = true then ∃ v, e = .returned (.tuple #[v, .int .i64 0]) ∧ Ints w W.heap.size v (groupsL K.length m.toNat) else e = .returned (.tuple #[.slice none 0 0, .int .i64 1])
theorem GpPost.yes {W w : World} {K : List Kid} {m : Int} {P : List Int} {e : Ending} (h : GpPost W K m P e w) (hc : canB K m P = true) : ∃ v, e = .returned (.tuple #[v, .int .i64 0]) ∧ Ints w W.heap.size v (groupsL K.length m.toNat) ∧ Below W.heap.size W w := by
  unfold GpPost at h
  rw [if_pos hc] at h
  obtain ⟨h1, v, h2, h3⟩ := h
  exact ⟨v, h2, h3, h1⟩
theorem GpPost.no {W w : World} {K : List Kid} {m : Int} {P : List Int} {e : Ending} (h : GpPost W K m P e w) (hc : canB K m P = false) : e = .returned (.tuple #[.slice none 0 0, .int .i64 1]) ∧ Below W.heap.size W w := by
  unfold GpPost at h
  rw [if_neg (by rw [hc]; simp)] at h
  exact ⟨h.2, h.1⟩

set_option maxHeartbeats 2000000 in
set_option maxRecDepth 100000 in
theorem grouped_any {W : World} {v pv : Value} {K : List Kid} {P : List Int} (h : RdK W W.heap.size v K) (hp : RdI W W.heap.size pv P) (m : Int) :
    Calls Try.prog 29 #[v, .int .i64 m, pv] W (GpPost W K m P) := by
  obtain ⟨ad, cap, rfl, hl, hm⟩ := h.shape
  obtain ⟨ad', cap', rfl, hl', hm'⟩ := hp.shape
  have HK := hid h
  have HP := hid hp
  unfold maxLen at hm hm'
  clear h hp
  have HQ := hid (show ∀ e w, GpPost W K m P e w = (Below W.heap.size W w ∧ if canB K m P = true then ∃ v, e = .returned (.tuple #[v, .int .i64 0]) ∧ Ints w W.heap.size v (groupsL K.length m.toNat) else e = .returned (.tuple #[.slice none 0 0, .int .i64 1])) from fun e w => rfl)
  have HC := hid (show canB K m P = (decide (1 ≤ K.length ∧ K.length ≤ 1024 ∧ 2 ≤ m ∧ m ≤ 13) && (rightB K && (decide (P.length = manyL K.length m.toNat) && !anyOdd P))) from rfl)
  go_enter Try.func29, Try.ntmps29
  go_wp2_with fail
  refine (groups_any (K.length : Int) m).mono ?_
  rintro e w1 hgp
  by_cases hin : 1 ≤ K.length ∧ K.length ≤ 1024 ∧ 2 ≤ m ∧ m ≤ 13
  · rw [decide_eq_true hin, Bool.true_and] at HC
    obtain ⟨b, rfl⟩ : ∃ b : Nat, m = b := ⟨m.toNat, by omega⟩
    obtain ⟨gv, rfl, hgv, hb⟩ := hgp.get ⟨hin.1, hin.2.1⟩ (by omega)
    obtain ⟨ga, gc, rfl⟩ := hgv.shape
    have HG := hid hgv
    have HB := hid hb
    rw [groupsL_len]
    rw [Int.toNat_natCast] at HC HQ
    clear hgp hgv hb hin
    have HK1 := hid ((HK.out.below HB.out).more HB.out.size)
    have HP1 := hid ((HP.out.below HB.out).more HB.out.size)
    cases hr : rightB K with
    | false =>
      rw [hr, Bool.false_and] at HC
      go_wp2_with fail
      refine (right_any HK1.out).mono ?_
      rintro e w2 ⟨rfl, hb⟩
      rw [hr]
      have HB2 := hid (HB.out.trans (hb.mono HB.out.size))
      clear hb hr
      go_wp2_with fail
      go_ret2
      rw [HQ.out, HC.out]
      exact ⟨HB2.out, rfl⟩
    | true =>
      rw [hr, Bool.true_and] at HC
      go_wp2_with fail
      refine (right_any HK1.out).mono ?_
      rintro e w2 ⟨rfl, hb⟩
      rw [hr]
      have HB2 := hid (HB.out.trans (hb.mono HB.out.size))
      have HG2 := hid (HG.out.below hb)
      have HP2 := hid ((HP1.out.below hb).more hb.size)
      clear hb hr
      by_cases hpl : P.length = manyL K.length b
      · rw [decide_eq_true hpl, Bool.true_and] at HC
        have hpi : (P.length : Int) = (manyL K.length b : Int) := by omega
        go_wp2_with fail
        refine (contains_any (show RdI w2 w2.heap.size (.slice ad' (manyL K.length b) cap') P by rw [← hpl]; exact HP2.out)).mono ?_
        rintro e w3 ⟨rfl, rfl⟩
        cases ha : anyOdd P with
        | true =>
          rw [ha] at HC
          go_wp2_with fail
          go_ret2
          rw [HQ.out, HC.out]
          exact ⟨HB2.out, rfl⟩
        | false =>
          rw [ha] at HC
          go_wp2_with fail
          go_ret2
          rw [HQ.out, HC.out, if_pos (by rfl)]
          refine ⟨HB2.out, _, rfl, ?_⟩
          have := HG2.out
          rw [groupsL_len] at this
          exact this
      · rw [decide_eq_false hpl, Bool.false_and] at HC
        have hpi : ¬ (P.length : Int) = (manyL K.length b : Int) := by omega
        go_wp2_with fail
        go_ret2
        rw [HQ.out, HC.out]
        exact ⟨HB2.out, rfl⟩
  · rw [decide_eq_false hin, Bool.false_and] at HC
    obtain ⟨rfl, rfl⟩ := hgp.no (by omega)
    clear hgp hin
    go_wp2_with fail
    go_ret2
    rw [HQ.out, HC.out]
    exact ⟨Below.refl _ _, rfl⟩
end Go.Proofs.Ytfoidiebdklggaa
