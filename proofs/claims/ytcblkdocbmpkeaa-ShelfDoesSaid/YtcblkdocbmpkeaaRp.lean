/-
  Plain laws of runs of free pages. No program in sight.
-/
import Derived.Test.YtcblkdocbmpkeaaCy
namespace Go.Proofs.Ytcblkdocbmpkeaa
open Go Go.RowKit

theorem fold_none {T : List Bool} {m : Int} : ∀ l : List Int, l.foldl (runStep T m) none = none := by
  intro l
  induction l with
  | nil => rfl
  | cons x l ih => exact ih
theorem runTo_pre {T : List Bool} {m : Int} {l r : List Int} {s : Nat} (h : runTo T m (l ++ r) = some s) : ∃ s1, runTo T m l = some s1 := by
  unfold runTo at h ⊢
  rw [List.foldl_append] at h
  cases hl : l.foldl (runStep T m) (some 0) with
  | none => rw [hl, fold_none] at h; cases h
  | some s1 => exact ⟨s1, rfl⟩
theorem runStep_some (T : List Bool) (m : Int) (s : Nat) (x : Int) : runStep T m (some s) x = if isB T x then some 0 else if ((s + 1 : Nat) : Int) = m then none else some (s + 1) := rfl
theorem fold_lt {T : List Bool} {m : Int} (hm : 1 ≤ m) : ∀ (l : List Int) (s0 s : Nat), (s0 : Int) < m → l.foldl (runStep T m) (some s0) = some s → (s : Int) < m := by
  intro l
  induction l with
  | nil => intro s0 s h0 h; simp at h; subst h; exact h0
  | cons x l ih =>
    intro s0 s h0 h
    rw [List.foldl_cons, runStep_some] at h
    split at h
    · exact ih 0 s (by omega) h
    · split at h
      · rw [fold_none] at h; cases h
      · exact ih (s0 + 1) s (by omega) h
theorem runTo_lt {T : List Bool} {m : Int} (hm : 1 ≤ m) {l : List Int} {s : Nat} (h : runTo T m l = some s) : (s : Int) < m := fold_lt hm l 0 s (by omega) h
theorem rnd_zero {N i : Nat} (h : i < N) : rnd 0 N i = (i : Int) := by rw [rnd_mod, Nat.zero_add, Nat.mod_eq_of_lt h]
theorem upto_pre (f : Nat → Int) {i j : Nat} (h : i ≤ j) : ∃ r, upto f j = upto f i ++ r := ⟨_, by rw [show j = i + (j - i) by omega, upto_add]⟩
theorem runTo_upto {T : List Bool} {m : Int} {N i j s : Nat} (h : i ≤ j) (hr : runTo T m (upto (rnd 0 N) j) = some s) : ∃ s1, runTo T m (upto (rnd 0 N) i) = some s1 := by
  obtain ⟨r, e⟩ := upto_pre (rnd 0 N) h
  rw [e] at hr
  exact runTo_pre hr
theorem runTo_next {T : List Bool} {m : Int} {N i s s1 : Nat} (hi : i < N) (h1 : runTo T m (upto (rnd 0 N) i) = some s) (h2 : runTo T m (upto (rnd 0 N) (i + 1)) = some s1) :
    s1 = if isB T (i : Int) then 0 else s + 1 := by
  rw [upto_succ, runTo_snoc, h1, runStep_some, rnd_zero hi] at h2
  split at h2
  · rename_i hb
    rw [if_pos hb]; simp at h2; exact h2.symm
  · rename_i hb
    rw [if_neg hb]
    split at h2
    · cases h2
    · simp at h2; exact h2.symm
theorem runTo_free {T : List Bool} {m : Int} {N : Nat} : ∀ i s, i ≤ N → runTo T m (upto (rnd 0 N) i) = some s → s ≤ i ∧ ∀ j, i - s ≤ j → j < i → isB T (j : Int) = false := by
  intro i
  induction i with
  | zero => intro s _ h; simp [upto, runTo] at h; subst h; exact ⟨Nat.le_refl _, fun j h1 h2 => by omega⟩
  | succ i ih =>
    intro s hi h
    obtain ⟨s0, h0⟩ := runTo_upto (Nat.le_succ i) h
    have hs := runTo_next (by omega) h0 h
    obtain ⟨i1, i2⟩ := ih s0 (by omega) h0
    cases hb : isB T (i : Int) with
    | true =>
      rw [hb, if_pos rfl] at hs
      subst hs
      exact ⟨by omega, fun j h1 h2 => by omega⟩
    | false =>
      rw [hb, if_neg (by simp)] at hs
      subst hs
      refine ⟨by omega, fun j h1 h2 => ?_⟩
      by_cases hj : j = i
      · rw [hj]; exact hb
      · exact i2 j (by omega) (by omega)
theorem takeT_len (T : List Bool) (i : Int) : (takeT T i).length = T.length := by
  unfold takeT
  split
  · rw [List.length_set]
  · rfl
theorem take_free {T : List Bool} {i : Nat} (hi : i < T.length) (hf : isB T (i : Int) = false) : takeE T (i : Int) = 0 ∧ ∀ j, j ≠ i → isB (takeT T (i : Int)) (j : Int) = isB T (j : Int) := by
  have hh := hasB_nat hi
  refine ⟨by simp [takeE, hh, hf], fun j hj => ?_⟩
  have ht : takeT T (i : Int) = T.set i true := by
    unfold takeT
    rw [hh, hf]
    simp only [Bool.not_false, Bool.and_true, if_true, Int.toNat_natCast]
  rw [ht]
  unfold isB
  rw [List.length_set, Int.toNat_natCast, tk_set hi, if_neg hj]
end Go.Proofs.Ytcblkdocbmpkeaa
