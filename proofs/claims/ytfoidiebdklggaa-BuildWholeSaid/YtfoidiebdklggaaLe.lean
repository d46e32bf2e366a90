/-
  What Level and Up of package build do, by contracts.
-/
import Derived.Test.YtfoidiebdklggaaEu
open Go Go.RowKit
namespace Go.Proofs.Ytfoidiebdklggaa

def groupsN (n m : Nat) : List Nat := (List.range (manyL n m)).map fun i => n / manyL n m + (if i < n % manyL n m then 1 else 0)
theorem groups_cast (n m : Nat) : groupsL n m = (groupsN n m).map fun (x : Nat) => (x : Int) := by
  unfold groupsL groupsN
  rw [List.map_map]
  rfl
theorem groupsN_len (n m : Nat) : (groupsN n m).length = manyL n m := by simp [groupsN]
theorem sum_even (q r : Nat) : ∀ k, ((List.range k).map fun i => q + (if i < r then 1 else 0)).sum = k * q + min k r := by
  intro k
  induction k with
  | zero => simp
  | succ k ih =>
    rw [List.range_succ, List.map_append, List.sum_append, ih, Nat.add_mul]
    simp only [List.map_cons, List.map_nil, List.sum_cons, List.sum_nil]
    split <;> omega
theorem groupsN_sum {n m : Nat} (hn : 1 ≤ n) (hm : 1 ≤ m) : (groupsN n m).sum = n := by
  have hk := manyL_pos hn hm
  unfold groupsN
  rw [sum_even]
  have h1 := Nat.div_add_mod n (manyL n m)
  have h2 := Nat.mod_lt n (show manyL n m > 0 by omega)
  rw [Nat.min_eq_right (by omega)]
  exact h1
theorem groupsN_pos {n m : Nat} (hn : 1 ≤ n) (hm : 1 ≤ m) : ∀ g ∈ groupsN n m, 1 ≤ g := by
  intro g hg
  unfold groupsN at hg
  obtain ⟨i, _, rfl⟩ := List.mem_map.1 hg
  have := Nat.div_pos (manyL_le (n := n) (m := m) hm) (manyL_pos hn hm)
  omega
theorem can_parts {K : List Kid} {m : Int} {P : List Int} (h : canB K m P = true) : 1 ≤ K.length ∧ K.length ≤ 1024 ∧ 2 ≤ m ∧ m ≤ 13 ∧ rightB K = true ∧ P.length = manyL K.length m.toNat ∧ anyOdd P = false := by
  unfold canB at h
  simp only [Bool.and_eq_true, decide_eq_true_eq, Bool.not_eq_true'] at h
  obtain ⟨⟨h1, h2, h3, h4⟩, h5, h6, h7⟩ := h
  exact ⟨h1, h2, h3, h4, h5, h6, h7⟩

/-- What Level leaves; what Up leaves. -/
def LePost (W : World) (K : List Kid) (m : Int) (P : List Int) (e : Ending) (w : World) : Prop :=
  Below W.heap.size W w ∧ if canB K m P = true then ∃ v, e = .returned (.tuple #[v, .int .i64 0]) ∧ OwN w W.heap.size v (lvL P 0 (groupsN K.length m.toNat) K) else e = .returned (.tuple #[.slice none 0 0, .int .i64 1])
def UpPost (W : World) (K : List Kid) (m : Int) (P : List Int) (e : Ending) (w : World) : Prop :=
  Below W.heap.size W w ∧ if canB K m P = true then ∃ v, e = .returned (.tuple #[v, .int .i64 0]) ∧ OwV 57 2 w W.heap.size v ((upL P 0 (groupsN K.length m.toNat) K).map kcells) else e = .returned (.tuple #[.slice none 0 0, .int .i64 1])

set_option maxHeartbeats 2000000 in
set_option maxRecDepth 100000 in
theorem level_any {W : World} {v pv : Value} {K : List Kid} {P : List Int} (h : RdK W W.heap.size v K) (hp : RdI W W.heap.size pv P) (m : Int) :
    Calls Try.prog 10 #[v, .int .i64 m, pv] W (LePost W K m P) := by
  obtain ⟨a, l, c, rfl⟩ : ∃ a l c, v = .slice a l c := by
    obtain ⟨a, c, e, _⟩ := h.shape
    exact ⟨a, _, c, e⟩
  obtain ⟨a', l', c', rfl⟩ : ∃ a l c, pv = .slice a l c := by
    obtain ⟨a, c, e, _⟩ := hp.shape
    exact ⟨a, _, c, e⟩
  have HQ := hid (show ∀ e w, LePost W K m P e w = (Below W.heap.size W w ∧ if canB K m P = true then ∃ v, e = .returned (.tuple #[v, .int .i64 0]) ∧ OwN w W.heap.size v (lvL P 0 (groupsN K.length m.toNat) K) else e = .returned (.tuple #[.slice none 0 0, .int .i64 1])) from fun e w => rfl)
  have hb1 := (Below.refl W.heap.size W).alloc (Nat.le_refl _) (.cells #[.slice a' l' c'] 23)
  have HK1 := hid (RdK.more (RdK.below h hb1) hb1.size)
  have HP1 := hid (RdI.more (RdI.below hp hb1) hb1.size)
  have HK0 := hid (RdK.below h hb1)
  have HP0 := hid (RdI.below hp hb1)
  have HB1 := hid hb1
  have HPP := hid (Blk.new W 23 #[.slice a' l' c'])
  have hcp := HPP.out.cell 0
  simp only [List.getElem?_toArray, List.getElem?_cons_zero] at hcp
  have hsz : (W.alloc (.cells #[.slice a' l' c'] 23)).heap.size = W.heap.size + 1 := by simp
  clear hb1 h hp
  go_enter Try.func10, Try.ntmps10
  go_wp2_with fail
  generalize W.alloc (.cells #[.slice a' l' c'] 23) = w1 at *
  refine (grouped_any HK1.out HP1.out m).mono ?_
  rintro e w2 hg
  cases hc : canB K m P with
  | false =>
    obtain ⟨rfl, hb⟩ := hg.no hc
    have HB2 := hid (HB1.out.trans (hb.mono HB1.out.size))
    have HC := hid hc
    clear hg hb hc
    go_wp2_with fail
    go_ret2
    rw [HQ.out, HC.out]
    exact ⟨HB2.out, rfl⟩
  | true =>
    obtain ⟨gv, rfl, hgv, hb⟩ := hg.yes hc
    obtain ⟨k1, k2, k3, k4, k5, k6, k7⟩ := can_parts hc
    obtain ⟨b, rfl⟩ : ∃ b : Nat, m = b := ⟨m.toNat, by omega⟩
    rw [Int.toNat_natCast] at hgv k6 HQ
    rw [groups_cast] at hgv
    have HB2 := hid (HB1.out.trans (hb.mono HB1.out.size))
    have hS2 : W.heap.size < w2.heap.size := by have := hb.size; omega
    have hEa : EaI W.heap.size w2 W.heap.size w2.heap.size (.slice a' l' c') gv P (groupsN K.length b) K 0 (.slice a l c) (w2.alloc (.cells #[.slice none 0 0] 25)) := by
      have hbw : Below w2.heap.size w2 (w2.alloc (.cells #[.slice none 0 0] 25)) := (Below.refl _ w2).alloc (Nat.le_refl _) _
      refine ⟨(hgv.base_ (by omega)).below hbw, (HP0.out.below (hb.mono (by omega))).below (hbw.mono (by omega)), Blk.alloc ((hb.block W.heap.size (by omega)).trans HPP.out) _, hbw.mono (by omega), K, (HK0.out.below (hb.mono (by omega))).below (hbw.mono (by omega)), by rw [List.drop_zero, groupsN_sum k1 (by omega)], .slice none 0 0, [], by simp, rfl, Blk.new w2 _ _, OwN.nil _ _⟩
    have HEA := hid hEa
    have hsum := groupsN_sum (n := K.length) (m := b) k1 (by omega)
    have hcall : Calls Try.prog 30 #[.slice a l c, gv, lvV W.heap.size w2.heap.size] (w2.alloc (.cells #[.slice none 0 0] 25)) _ :=
      eachLv_any (W := w2.alloc (.cells #[.slice none 0 0] 25)) (S := W.heap.size) (pp := W.heap.size) (po := w2.heap.size) (pv := .slice a' l' c') (P := P) (K := K) (gs := groupsN K.length b)
        ⟨hEa.grp, hEa.pag, hEa.bpp, Below.refl _ _, hEa.kids⟩ (by omega) (by simp; omega) (by rw [groupsN_len]; exact k6.symm) k7 (groupsN_pos k1 (by omega)) (by rw [hsum]; omega)
    have HCALL := hid hcall
    have HC := hid hc
    obtain ⟨ga, gn, gc, rfl⟩ : ∃ a n c, gv = .slice a n c := by
      obtain ⟨a, c, e⟩ := hgv.shape
      exact ⟨a, _, c, e⟩
    unfold lvV at HCALL
    clear hg hb hc hgv hEa hcall hsum
    go_wp2_with (go_at_call 30; ((with_reducible refine HCALL.out.mono ?_)); rintro e w4 ⟨rfl, hb4, ov, hbo, hon⟩; obtain ⟨oa, ol, oc, rfl⟩ : ∃ a n c, ov = .slice a n c := (by obtain ⟨X, hX, _⟩ := hon; exact owV_slice hX); have HB4 := hid hb4; have HON := hid hon; have c4 := hbo.cell 0; clear hb4 hbo hon)
    go_ret2
    rw [HQ.out, HC.out, if_pos (by rfl)]
    exact ⟨(HB2.out.alloc (by omega) _).trans HB4.out, _, rfl, HON.out⟩
set_option maxHeartbeats 2000000 in
set_option maxRecDepth 100000 in
theorem up_any {W : World} {v pv : Value} {K : List Kid} {P : List Int} (h : RdK W W.heap.size v K) (hp : RdI W W.heap.size pv P) (m : Int) :
    Calls Try.prog 13 #[v, .int .i64 m, pv] W (UpPost W K m P) := by
  obtain ⟨a, l, c, rfl⟩ : ∃ a l c, v = .slice a l c := by
    obtain ⟨a, c, e, _⟩ := h.shape
    exact ⟨a, _, c, e⟩
  obtain ⟨a', l', c', rfl⟩ : ∃ a l c, pv = .slice a l c := by
    obtain ⟨a, c, e, _⟩ := hp.shape
    exact ⟨a, _, c, e⟩
  have HQ := hid (show ∀ e w, UpPost W K m P e w = (Below W.heap.size W w ∧ if canB K m P = true then ∃ v, e = .returned (.tuple #[v, .int .i64 0]) ∧ OwV 57 2 w W.heap.size v ((upL P 0 (groupsN K.length m.toNat) K).map kcells) else e = .returned (.tuple #[.slice none 0 0, .int .i64 1])) from fun e w => rfl)
  have hb1 := (Below.refl W.heap.size W).alloc (Nat.le_refl _) (.cells #[.slice a' l' c'] 23)
  have HK1 := hid (RdK.more (RdK.below h hb1) hb1.size)
  have HP1 := hid (RdI.more (RdI.below hp hb1) hb1.size)
  have HK0 := hid (RdK.below h hb1)
  have HP0 := hid (RdI.below hp hb1)
  have HB1 := hid hb1
  have HPP := hid (Blk.new W 23 #[.slice a' l' c'])
  have hcp := HPP.out.cell 0
  simp only [List.getElem?_toArray, List.getElem?_cons_zero] at hcp
  have hsz : (W.alloc (.cells #[.slice a' l' c'] 23)).heap.size = W.heap.size + 1 := by simp
  clear hb1 h hp
  go_enter Try.func13, Try.ntmps13
  go_wp2_with fail
  generalize W.alloc (.cells #[.slice a' l' c'] 23) = w1 at *
  refine (grouped_any HK1.out HP1.out m).mono ?_
  rintro e w2 hg
  cases hc : canB K m P with
  | false =>
    obtain ⟨rfl, hb⟩ := hg.no hc
    have HB2 := hid (HB1.out.trans (hb.mono HB1.out.size))
    have HC := hid hc
    clear hg hb hc
    go_wp2_with fail
    go_ret2
    rw [HQ.out, HC.out]
    exact ⟨HB2.out, rfl⟩
  | true =>
    obtain ⟨gv, rfl, hgv, hb⟩ := hg.yes hc
    obtain ⟨k1, k2, k3, k4, k5, k6, _⟩ := can_parts hc
    obtain ⟨b, rfl⟩ : ∃ b : Nat, m = b := ⟨m.toNat, by omega⟩
    rw [Int.toNat_natCast] at hgv k6 HQ
    rw [groups_cast] at hgv
    have HB2 := hid (HB1.out.trans (hb.mono HB1.out.size))
    have hS2 : W.heap.size < w2.heap.size := by have := hb.size; omega
    have hEa : EuI W.heap.size w2 W.heap.size w2.heap.size (.slice a' l' c') gv P (groupsN K.length b) K 0 (.slice a l c) (w2.alloc (.cells #[.slice none 0 0] 22)) := by
      have hbw : Below w2.heap.size w2 (w2.alloc (.cells #[.slice none 0 0] 22)) := (Below.refl _ w2).alloc (Nat.le_refl _) _
      refine ⟨(hgv.base_ (by omega)).below hbw, (HP0.out.below (hb.mono (by omega))).below (hbw.mono (by omega)), Blk.alloc ((hb.block W.heap.size (by omega)).trans HPP.out) _, hbw.mono (by omega), K, (HK0.out.below (hb.mono (by omega))).below (hbw.mono (by omega)), by rw [List.drop_zero, groupsN_sum k1 (by omega)], .slice none 0 0, [], by simp, rfl, Blk.new w2 _ _, OwV.nil _ _⟩
    have HEA := hid hEa
    have hsum := groupsN_sum (n := K.length) (m := b) k1 (by omega)
    have hcall : Calls Try.prog 30 #[.slice a l c, gv, upV W.heap.size w2.heap.size] (w2.alloc (.cells #[.slice none 0 0] 22)) _ :=
      eachUp_any (W := w2.alloc (.cells #[.slice none 0 0] 22)) (S := W.heap.size) (pp := W.heap.size) (po := w2.heap.size) (pv := .slice a' l' c') (P := P) (K := K) (gs := groupsN K.length b)
        ⟨hEa.grp, hEa.pag, hEa.bpp, Below.refl _ _, hEa.kids⟩ (by omega) (by simp; omega) (by rw [groupsN_len]; exact k6.symm) (groupsN_pos k1 (by omega)) (by rw [hsum]; omega)
    have HCALL := hid hcall
    have HC := hid hc
    obtain ⟨ga, gn, gc, rfl⟩ : ∃ a n c, gv = .slice a n c := by
      obtain ⟨a, c, e⟩ := hgv.shape
      exact ⟨a, _, c, e⟩
    unfold upV at HCALL
    clear hg hb hc hgv hEa hcall hsum
    go_wp2_with (go_at_call 30; ((with_reducible refine HCALL.out.mono ?_)); rintro e w4 ⟨rfl, hb4, ov, hbo, hon⟩; obtain ⟨oa, ol, oc, rfl⟩ : ∃ a n c, ov = .slice a n c := (by exact owV_slice hon); have HB4 := hid hb4; have HON := hid hon; have c4 := hbo.cell 0; clear hb4 hbo hon)
    go_ret2
    rw [HQ.out, HC.out, if_pos (by rfl)]
    exact ⟨(HB2.out.alloc (by omega) _).trans HB4.out, _, rfl, HON.out⟩
theorem LePost.yes {W w : World} {K : List Kid} {m : Int} {P : List Int} {e : Ending} (h : LePost W K m P e w) (hc : canB K m P = true) : ∃ v, e = .returned (.tuple #[v, .int .i64 0]) ∧ OwN w W.heap.size v (lvL P 0 (groupsN K.length m.toNat) K) ∧ Below W.heap.size W w := by
  unfold LePost at h
  rw [if_pos hc] at h
  obtain ⟨h1, v, h2, h3⟩ := h
  exact ⟨v, h2, h3, h1⟩
theorem LePost.no {W w : World} {K : List Kid} {m : Int} {P : List Int} {e : Ending} (h : LePost W K m P e w) (hc : canB K m P = false) : e = .returned (.tuple #[.slice none 0 0, .int .i64 1]) ∧ Below W.heap.size W w := by
  unfold LePost at h
  rw [if_neg (by rw [hc]; simp)] at h
  exact ⟨h.2, h.1⟩
theorem UpPost.yes {W w : World} {K : List Kid} {m : Int} {P : List Int} {e : Ending} (h : UpPost W K m P e w) (hc : canB K m P = true) : ∃ v, e = .returned (.tuple #[v, .int .i64 0]) ∧ OwV 57 2 w W.heap.size v ((upL P 0 (groupsN K.length m.toNat) K).map kcells) ∧ Below W.heap.size W w := by
  unfold UpPost at h
  rw [if_pos hc] at h
  obtain ⟨h1, v, h2, h3⟩ := h
  exact ⟨v, h2, h3, h1⟩
theorem UpPost.no {W w : World} {K : List Kid} {m : Int} {P : List Int} {e : Ending} (h : UpPost W K m P e w) (hc : canB K m P = false) : e = .returned (.tuple #[.slice none 0 0, .int .i64 1]) ∧ Below W.heap.size W w := by
  unfold UpPost at h
  rw [if_neg (by rw [hc]; simp)] at h
  exact ⟨h.2, h.1⟩
end Go.Proofs.Ytfoidiebdklggaa
