/-
  The plain law of RateHolds: a list of how many things were done at each tick, held against the times that are held.
-/
import Derived.Test.YtokccncaclphhaaPlain
namespace Go.Proofs.Ytokccncaclphhaa.Pl

/-- How many of some times are i. -/
def ceq (i : Int) (T : List Int) : Nat := (T.filter fun t => decide (t = i)).length
theorem ceq_snoc (i x : Int) (T : List Int) : ceq i (T ++ [x]) = ceq i T + if x = i then 1 else 0 := by
  by_cases h : x = i <;> simp [ceq, List.filter_append, h]
theorem ceq_none {i : Int} {T : List Int} (h : ∀ t ∈ T, t ≠ i) : ceq i T = 0 := by
  simp only [ceq, List.length_eq_zero_iff, List.filter_eq_nil_iff, decide_eq_true_eq]
  exact h
theorem ceq_alive {i l : Int} (h : l < i) (T : List Int) : ceq i (alive l T) = ceq i T := by
  simp only [ceq, alive, List.filter_filter]
  congr 2
  funext t
  by_cases h1 : t = i
  · subst h1; simp [h]
  · simp [h1]
theorem count_step (l : Int) (T : List Int) : count l T = count (l + 1) T + ceq (l + 1) T := by
  induction T with
  | nil => rfl
  | cons a r ih =>
    rw [count_cons, count_cons, ih]
    by_cases h1 : a = l + 1
    · subst h1
      simp [ceq, show l < l + 1 by omega]; omega
    · have e : ceq (l + 1) (a :: r) = ceq (l + 1) r := by simp [ceq, h1]
      rw [e]
      by_cases h2 : l < a
      · have h3 : l + 1 < a := by omega
        simp [h2, h3]; omega
      · have h3 : ¬ l + 1 < a := by omega
        simp [h2, h3]
theorem count_all {l : Int} {T : List Int} (h : ∀ t ∈ T, l < t) : count l T = T.length := by
  have e : alive l T = T := by
    simp only [alive, List.filter_eq_self, decide_eq_true_eq]
    exact h
  simp [count, e]
theorem count_zero {l : Int} {T : List Int} (h : ∀ t ∈ T, t ≤ l) : count l T = 0 := by simp [count, alive_none h]
theorem count_le (l : Int) (T : List Int) : count l T ≤ T.length := List.length_filter_le _ _

/-- A list that has, at each tick of the window, how many things were done at it; the last entry is this tick's. -/
def Tally (wd : Int) (D : List Int) (P : List Int) : Prop := ∀ i : Nat, i < D.length → (D.length : Int) - 1 - wd < i → D[i]? = some (ceq i P : Int)

theorem tally_new (wd : Int) : Tally wd [0] [] := fun i hi _ => by
  simp at hi; subst hi; rfl
theorem tally_tick {wd : Int} {D P : List Int} (h : Tally wd D P) (hP : Good wd ((D.length : Int) - 1) P) (hle : ∀ t ∈ P, t ≤ (D.length : Int) - 1) :
    Tally wd (D ++ [0]) (drops ((D.length : Int) - wd) P) := by
  rw [drops_eq _ hP.1]
  intro i hi hw
  simp at hi hw
  rw [ceq_alive (by omega)]
  by_cases hlt : i < D.length
  · rw [List.getElem?_append_left hlt]
    exact h i hlt (by omega)
  · obtain rfl : i = D.length := by omega
    rw [List.getElem?_append_right (Nat.le_refl _)]
    have : ceq (D.length : Int) P = 0 := ceq_none fun t ht => by have := hle t ht; omega
    simp [this]
theorem tally_take {wd d : Int} {D P : List Int} (h : Tally wd (D ++ [d]) P) : Tally wd (D ++ [d + 1]) (P ++ [(D.length : Int)]) := by
  intro i hi hw
  simp at hi hw
  rw [ceq_snoc]
  by_cases hlt : i < D.length
  · have h1 := h i (by simp; omega) (by simp; omega)
    rw [List.getElem?_append_left hlt] at h1 ⊢
    rw [h1, if_neg (by omega)]
    simp
  · obtain rfl : i = D.length := by omega
    have h1 := h D.length (by simp) (by simp; omega)
    rw [List.getElem?_append_right (Nat.le_refl _)] at h1 ⊢
    simp at h1 ⊢
    omega
theorem tally_last {wd : Int} {D P : List Int} {d : Int} (h : Tally wd (D ++ [d]) P) (hw1 : 1 ≤ wd) : d = ceq (D.length : Int) P := by
  have h1 := h D.length (by simp) (by simp; omega)
  rw [List.getElem?_append_right (Nat.le_refl _)] at h1
  simpa using h1
end Go.Proofs.Ytokccncaclphhaa.Pl
