/-
  Plain laws: how many are free; pages that are taken one by one, round the end. No program in sight.
-/
import Derived.Test.YtcblkdocbmpkeaaBh
namespace Go.Proofs.Ytcblkdocbmpkeaa
open Go Go.RowKit

theorem upto_range (N : Nat) : upto (rnd 0 N) N = (List.range N).map (fun i => ((i : Nat) : Int)) := by
  unfold upto
  apply List.map_congr_left
  intro i hi
  rw [rnd_mod, Nat.zero_add, Nat.mod_eq_of_lt (List.mem_range.1 hi)]
theorem tk_range (T : List Bool) : (List.range T.length).map (tk T) = T := by
  apply List.ext_getElem
  · simp
  · intro i h1 h2
    simp only [List.getElem_map, List.getElem_range]
    unfold tk
    rw [List.getElem?_eq_getElem h2]
    rfl
theorem takenL_count (T : List Bool) : (takenL T).length = T.countP id := by
  unfold takenL
  rw [upto_range, ← List.countP_eq_length_filter, List.countP_map]
  conv => rhs; rw [← tk_range T, List.countP_map]
  apply List.countP_congr
  intro i hi
  have hi' := List.mem_range.1 hi
  simp only [Function.comp, id]
  rw [isB_nat hi']
theorem count_both (T : List Bool) : T.countP id + T.countP (fun b => !b) = T.length := by
  induction T with
  | nil => rfl
  | cons b r ih =>
    rw [List.countP_cons, List.countP_cons, List.length_cons]
    cases b <;> simp <;> omega
theorem freeN_count (T : List Bool) : freeN T = ((T.countP (fun b => !b) : Nat) : Int) := by
  unfold freeN
  rw [takenL_count]
  have := count_both T
  omega
theorem tk_get {T : List Bool} {i : Nat} (h : i < T.length) : tk T i = T[i] := by unfold tk; rw [List.getElem?_eq_getElem h]; rfl
theorem freeN_take {T : List Bool} {i : Nat} (h : i < T.length) (hf : tk T i = false) : freeN (T.set i true) = freeN T - 1 := by
  rw [freeN_count, freeN_count, List.countP_set h]
  rw [tk_get h] at hf
  have hp : 0 < T.countP (fun b => !b) := by
    rw [List.countP_pos_iff]
    exact ⟨T[i], List.getElem_mem h, by simp [hf]⟩
  simp [hf]
  omega
theorem freeN_give {T : List Bool} {i : Nat} (h : i < T.length) (hf : tk T i = true) : freeN (T.set i false) = freeN T + 1 := by
  rw [freeN_count, freeN_count, List.countP_set h]
  rw [tk_get h] at hf
  simp [hf]
theorem freeN_none (k : Nat) : freeN (List.replicate k false) = k := by
  rw [freeN_count, List.countP_replicate]
  rfl

theorem mod_two {a j k : Nat} (ha : a < k) (hj : j < k) : (a + j) % k = if a + j < k then a + j else a + j - k := by
  split
  · rename_i h; exact Nat.mod_eq_of_lt h
  · rename_i h
    rw [Nat.mod_eq_sub_mod (by omega)]
    exact Nat.mod_eq_of_lt (by omega)

/-- i pages are taken, from a on, round the end. -/
structure Cyc (T : List Bool) (k a i : Nat) : Prop where
  len : T.length = k
  all : ∀ j, j < k → tk T ((a + j) % k) = decide (j < i)
  free : freeN T = (k : Int) - i
theorem cyc_start (k a : Nat) : Cyc (List.replicate k false) k a 0 := by
  refine ⟨by simp, fun j _ => ?_, by rw [freeN_none]; omega⟩
  unfold tk
  rw [List.getElem?_replicate]
  split <;> simp
theorem cyc_take {T : List Bool} {k a i : Nat} (h : Cyc T k a i) (ha : a < k) (hi : i < k) :
    takeRX T (a : Int) = (((a + i) % k : Nat) : Int) ∧ takeRE T (a : Int) = 0 ∧ Cyc (takeRT T (a : Int)) k a (i + 1) ∧ isB (takeRT T (a : Int)) (((a + i) % k : Nat) : Int) = true := by
  have hlen := h.len
  have hm : ∀ j, (a + j) % k < T.length := fun j => by rw [hlen]; exact Nat.mod_lt _ (by omega)
  have hb : hasB T (a : Int) = true := hasB_nat (by omega)
  have hr : ∀ j, isB T (rnd a T.length j) = tk T ((a + j) % k) := fun j => by rw [rnd_mod, hlen]; exact isB_nat (hm j)
  have h3 : isB T (rnd a T.length i) = false := by rw [hr, h.all i hi]; simp
  obtain ⟨e1, e2, e3, _⟩ := take_hit (T := T) (b := a) (by omega) hb (q := upto (rnd a T.length) i) (x := rnd a T.length i) (k := i + 1) (upto_succ _ _) (by omega) (fun y hy => by
    unfold upto at hy
    obtain ⟨j, hj, rfl⟩ := List.mem_map.1 hy
    have hj' := List.mem_range.1 hj
    rw [hr, h.all j (by omega)]
    simpa using hj') h3
  have hx : rnd a T.length i = (((a + i) % k : Nat) : Int) := by rw [rnd_mod, hlen]
  have hT : takeT T (rnd a T.length i) = T.set ((a + i) % k) true := by
    rw [hx] at h3 ⊢
    unfold takeT
    rw [hasB_nat (hm i), h3]
    simp only [Bool.not_false, Bool.and_true, if_true, Int.toNat_natCast]
  have htk : tk T ((a + i) % k) = false := by rw [h.all i hi]; simp
  rw [e3, hT, e1, hx]
  refine ⟨rfl, e2, ⟨by rw [List.length_set]; exact hlen, fun j hj => ?_, ?_⟩, ?_⟩
  · rw [tk_set (hm i), h.all j hj]
    by_cases hji : j = i
    · subst hji; simp
    · have : ¬ (a + j) % k = (a + i) % k := by
        rw [mod_two ha hj, mod_two ha hi]
        split <;> split <;> omega
      rw [if_neg this]
      by_cases h1 : j < i
      · have : j < i + 1 := by omega
        simp [h1, this]
      · have : ¬ j < i + 1 := by omega
        simp [h1, this]
  · rw [freeN_take (hm i) htk, h.free]; omega
  · rw [isB_nat (by rw [List.length_set]; exact hm i), tk_set (hm i)]
    simp

/-- All pages are taken. -/
structure Full (T : List Bool) (k : Nat) : Prop where
  len : T.length = k
  all : ∀ j, j < k → tk T j = true
  free : freeN T = 0
theorem cyc_full {T : List Bool} {k a : Nat} (h : Cyc T k a k) (ha : a < k) : Full T k := by
  refine ⟨h.len, fun j hj => ?_, by rw [h.free]; omega⟩
  by_cases hja : a ≤ j
  · have := h.all (j - a) (by omega)
    rw [mod_two ha (by omega), if_pos (by omega), show a + (j - a) = j by omega] at this
    rw [this]; simp; omega
  · have := h.all (j + k - a) (by omega)
    rw [mod_two ha (by omega), if_neg (by omega), show a + (j + k - a) - k = j by omega] at this
    rw [this]; simp; omega
theorem full_take {T : List Bool} {k : Nat} (h : Full T k) {a : Nat} (ha : a < k) : takeRE T (a : Int) = 6 ∧ takeRT T (a : Int) = T := by
  have hlen := h.len
  have hb : hasB T (a : Int) = true := hasB_nat (by omega)
  have hf : freeX T a = none := find_all fun y hy => by
    obtain ⟨i, hi, rfl⟩ := mem_upto (b := a) (N := T.length) (by omega) hy
    rw [isB_nat hi]
    exact h.all i (by omega)
  simp [takeRE, takeRT, hb, hf]
theorem full_give {T : List Bool} {k : Nat} (h : Full T k) {g : Nat} (hg : g < k) :
    giveE T (g : Int) = 0 ∧ giveT T (g : Int) = T.set g false ∧ isB (T.set g false) (g : Int) = false ∧ freeN (T.set g false) = 1 ∧ giveE (T.set g false) (g : Int) = 7 ∧ giveT (T.set g false) (g : Int) = T.set g false := by
  have hlen := h.len
  have hgl : g < T.length := by omega
  have h1 : isB T (g : Int) = true := by rw [isB_nat hgl]; exact h.all g hg
  have hgs : g < (T.set g false).length := by rw [List.length_set]; exact hgl
  have h2 : isB (T.set g false) (g : Int) = false := by rw [isB_nat hgs, tk_set hgl]; simp
  have hh := hasB_nat hgl
  have hh2 := hasB_nat hgs
  refine ⟨by simp [giveE, hh, h1], by simp [giveT, h1], h2, ?_, by simp [giveE, hh2, h2], by simp [giveT, h2]⟩
  rw [freeN_give hgl (h.all g hg), h.free]
  rfl
theorem full_back {T : List Bool} {k : Nat} (h : Full T k) {g a : Nat} (hg : g < k) (ha : a < k) :
    takeRX (T.set g false) (a : Int) = (g : Int) ∧ takeRE (T.set g false) (a : Int) = 0 ∧ takeRT (T.set g false) (a : Int) = T := by
  have hlen := h.len
  have hgl : g < T.length := by omega
  have hl2 : (T.set g false).length = k := by rw [List.length_set]; exact hlen
  obtain ⟨j, hj, hjg⟩ : ∃ j, j < k ∧ (a + j) % k = g := by
    by_cases hag : a ≤ g
    · exact ⟨g - a, by omega, by rw [mod_two ha (by omega), if_pos (by omega)]; omega⟩
    · exact ⟨g + k - a, by omega, by rw [mod_two ha (by omega), if_neg (by omega)]; omega⟩
  have hr : ∀ i, isB (T.set g false) (rnd a (T.set g false).length i) = tk (T.set g false) ((a + i) % k) := fun i => by
    rw [rnd_mod, hl2]
    exact isB_nat (by rw [hl2]; exact Nat.mod_lt _ (by omega))
  have h3 : isB (T.set g false) (rnd a (T.set g false).length j) = false := by rw [hr, hjg, tk_set hgl]; simp
  obtain ⟨e1, e2, e3, _⟩ := take_hit (T := T.set g false) (b := a) (by omega) (hasB_nat (by omega)) (q := upto (rnd a (T.set g false).length) j) (x := rnd a (T.set g false).length j) (k := j + 1) (upto_succ _ _) (by omega) (fun y hy => by
    unfold upto at hy
    obtain ⟨i, hi, rfl⟩ := List.mem_map.1 hy
    have hi' := List.mem_range.1 hi
    rw [hr, tk_set hgl]
    have hne : ¬ (a + i) % k = g := by
      rw [← hjg, mod_two ha (by omega), mod_two ha hj]
      split <;> split <;> omega
    rw [if_neg hne]
    exact h.all _ (Nat.mod_lt _ (by omega))) h3
  have hx : rnd a (T.set g false).length j = (g : Int) := by rw [rnd_mod, hl2, hjg]
  rw [e1, e3, hx]
  rw [hx] at h3
  refine ⟨rfl, e2, ?_⟩
  unfold takeT
  rw [hasB_nat (by omega), h3]
  simp only [Bool.not_false, Bool.and_true, if_true, Int.toNat_natCast, List.set_set]
  have := h.all g hg
  rw [tk_get hgl] at this
  rw [← this]
  exact List.set_getElem_self hgl
end Go.Proofs.Ytcblkdocbmpkeaa
