/-
  The plain law of the rate: what is left of the times when things were done, behind ticks and takes. No Go in sight.
-/
namespace Go.Proofs.Ytokccncaclphhaa.Pl

/-- Times, the first one first. -/
def Sorted : List Int → Prop
  | [] => True
  | [_] => True
  | a :: b :: r => a ≤ b ∧ Sorted (b :: r)

/-- What is left of times at the tick 'now' of a window w: those behind now - w. -/
def alive (lim : Int) (T : List Int) : List Int := T.filter fun t => decide (lim < t)

/-- The oldest ones, as long as they are not behind lim, dropped. -/
def drops (lim : Int) : List Int → List Int
  | [] => []
  | t :: r => if t ≤ lim then drops lim r else t :: r

theorem sorted_tail {a : Int} {r : List Int} (h : Sorted (a :: r)) : Sorted r := by
  cases r with
  | nil => trivial
  | cons b r => exact h.2
theorem sorted_le {a : Int} {r : List Int} (h : Sorted (a :: r)) : ∀ t ∈ r, a ≤ t := by
  induction r generalizing a with
  | nil => intro t ht; cases ht
  | cons b r ih =>
    intro t ht
    cases ht with
    | head => exact h.1
    | tail _ ht => exact Int.le_trans h.1 (ih h.2 t ht)
theorem sorted_snoc {x : Int} : ∀ {T : List Int}, Sorted T → (∀ t ∈ T, t ≤ x) → Sorted (T ++ [x]) := by
  intro T
  induction T with
  | nil => intro _ _; trivial
  | cons a r ih =>
    intro h hx
    cases r with
    | nil => exact ⟨hx a (by simp), trivial⟩
    | cons b r => exact ⟨h.1, ih h.2 fun t ht => hx t (by simp at ht ⊢; exact .inr ht)⟩

theorem drops_eq (lim : Int) : ∀ {T : List Int}, Sorted T → drops lim T = alive lim T := by
  intro T
  induction T with
  | nil => intro _; rfl
  | cons a r ih =>
    intro h
    by_cases ha : a ≤ lim
    · have h0 : ¬ lim < a := by omega
      simp only [drops, alive, if_pos ha, List.filter_cons, h0, decide_false, Bool.false_eq_true, if_false]
      exact ih (sorted_tail h)
    · have h0 : lim < a := by omega
      simp only [drops, if_neg ha, alive]
      symm
      rw [List.filter_eq_self]
      intro t ht
      cases ht with
      | head => simpa using h0
      | tail _ ht => have := sorted_le h t ht; simp; omega

theorem drops_suffix (lim : Int) : ∀ T : List Int, ∃ L, T = L ++ drops lim T := by
  intro T
  induction T with
  | nil => exact ⟨[], rfl⟩
  | cons a r ih =>
    by_cases ha : a ≤ lim
    · obtain ⟨L, hL⟩ := ih
      exact ⟨a :: L, by simp only [drops, if_pos ha, List.cons_append]; rw [← hL]⟩
    · exact ⟨[], by simp [drops, ha]⟩
theorem drops_mem {lim : Int} {T : List Int} {t : Int} (h : t ∈ drops lim T) : t ∈ T := by
  obtain ⟨L, hL⟩ := drops_suffix lim T
  rw [hL]; simp [h]
theorem drops_len (lim : Int) (T : List Int) : (drops lim T).length ≤ T.length := by
  obtain ⟨L, hL⟩ := drops_suffix lim T
  have := congrArg List.length hL
  simp at this; omega

theorem alive_alive {l l' : Int} (h : l ≤ l') (T : List Int) : alive l' (alive l T) = alive l' T := by
  simp only [alive, List.filter_filter]
  congr 1
  funext t
  by_cases h1 : l' < t
  · have : l < t := by omega
    simp [h1, this]
  · simp [h1]
theorem sorted_alive (l : Int) {T : List Int} (h : Sorted T) : Sorted (alive l T) := by
  rw [← drops_eq l h]
  revert h
  induction T with
  | nil => intro _; trivial
  | cons a r ih =>
    intro h
    by_cases ha : a ≤ l
    · simp only [drops, if_pos ha]; exact ih (sorted_tail h)
    · simp only [drops, if_neg ha]; exact h
theorem alive_snoc {l x : Int} (h : l < x) (T : List Int) : alive l (T ++ [x]) = alive l T ++ [x] := by
  simp [alive, List.filter_append, h]
theorem alive_none {l : Int} {T : List Int} (h : ∀ t ∈ T, t ≤ l) : alive l T = [] := by
  simp only [alive, List.filter_eq_nil_iff, decide_eq_true_eq]
  intro t ht
  have := h t ht
  omega
theorem alive_mem {l t : Int} {T : List Int} (h : t ∈ alive l T) : t ∈ T ∧ l < t := by
  simpa [alive] using h

/-- Times in a window: in order, none too old. -/
def Good (wd now : Int) (P : List Int) : Prop := Sorted P ∧ ∀ t ∈ P, now - wd < t
theorem good_nil (wd now : Int) : Good wd now [] := ⟨trivial, fun t ht => by simp at ht⟩
theorem good_tick {wd now : Int} {P : List Int} (h : Good wd now P) : Good wd (now + 1) (drops (now + 1 - wd) P) := by
  rw [drops_eq _ h.1]
  exact ⟨sorted_alive _ h.1, fun t ht => (alive_mem ht).2⟩
theorem good_take {wd now : Int} {P : List Int} (h : Good wd now P) (hw : 1 ≤ wd) (hn : ∀ t ∈ P, t ≤ now) : Good wd now (P ++ [now]) := by
  refine ⟨sorted_snoc h.1 hn, fun t ht => ?_⟩
  simp at ht
  rcases ht with ht | rfl
  · exact h.2 t ht
  · omega
theorem drops_same {lim t : Int} {r : List Int} (h : lim < t) : drops lim (t :: r) = t :: r := by rw [drops, if_neg (by omega)]
theorem drops_less {lim t : Int} {r : List Int} (h : t ≤ lim) : (drops lim (t :: r)).length < (t :: r).length := by
  rw [drops, if_pos h]
  have := drops_len lim r
  simp; omega

/-- So many of some times lie behind lim: how the document counts. -/
def count (lim : Int) (T : List Int) : Nat := (alive lim T).length
theorem count_nil (l : Int) : count l [] = 0 := rfl
theorem count_cons (l a : Int) (r : List Int) : count l (a :: r) = (if l < a then 1 else 0) + count l r := by
  by_cases h : l < a <;> simp [count, alive, h]; omega
end Go.Proofs.Ytokccncaclphhaa.Pl
