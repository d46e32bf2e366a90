/-
  Plain laws: what After makes of what Units says; no program in sight.
-/
import Derived.Test.YtgnhfipmeljffaaUni
open Go Go.RowKit
namespace Go.Proofs.Ytgnhfipmeljffaa

/-- Weights that may be. -/
def Tame (D : List Int) (most : Int) : Prop := ∀ d ∈ D, 0 ≤ d ∧ d ≤ most
theorem tame_iff (D : List Int) (most : Int) : anyBad most D = false ↔ Tame D most := by
  unfold anyBad Tame
  rw [List.any_eq_false]
  constructor
  · intro h d hd
    have := h d hd
    simp [badB] at this
    omega
  · intro h d hd
    have := h d hd
    simp [badB]
    omega
structure Right (D : List Int) (most many : Int) : Prop where
  len : D.length ≤ 1024
  most1 : 1 ≤ most
  most2 : most ≤ 1000
  many1 : 2 ≤ many
  many2 : many ≤ 16
  tame : Tame D most
theorem right_iff (D : List Int) (most many : Int) : rightB D most many = true ↔ Right D most many := by
  constructor
  · intro h
    simp only [rightB, Bool.and_eq_true, decide_eq_true_eq, Bool.not_eq_true'] at h
    obtain ⟨⟨⟨⟨⟨h1, h2⟩, h3⟩, h4⟩, h5⟩, h6⟩ := h
    exact ⟨h1, h2, h3, h4, h5, (tame_iff D most).1 h6⟩
  · intro ⟨h1, h2, h3, h4, h5, h6⟩
    simp [rightB, h1, h2, h3, h4, h5, (tame_iff D most).2 h6]

theorem sum_fold : ∀ (D : List Int) (acc : Int), Tame D 1000 → 0 ≤ acc → acc + 1000 * D.length < 1000000000 → D.foldl (fun a d => wrap64 (a + d)) acc = acc + D.sum := by
  intro D
  induction D with
  | nil => intro acc _ _ _; simp
  | cons d r ih =>
    intro acc h h0 hb
    have hd := h d (by simp)
    simp only [List.length_cons] at hb
    have hw : wrap64 (acc + d) = acc + d := by unfold wrap64; omega
    rw [List.foldl_cons, hw, ih (acc + d) (fun x hx => h x (by simp [hx])) (by omega) (by omega), List.sum_cons]
    omega
theorem Tame.mono {D : List Int} {m n : Int} (h : Tame D m) (hm : m ≤ n) : Tame D n := fun d hd => ⟨(h d hd).1, Int.le_trans (h d hd).2 hm⟩
theorem Tame.sub {D E : List Int} {m : Int} (h : Tame D m) (hs : ∀ x ∈ E, x ∈ D) : Tame E m := fun d hd => h d (hs d hd)
theorem sumW_eq {D : List Int} (h : Tame D 1000) (hl : D.length ≤ 1024) : sumW D = D.sum := by
  unfold sumW
  rw [sum_fold D 0 h (Int.le_refl _) (by omega)]
  omega
theorem sum_nonneg : ∀ {D : List Int} {m : Int}, Tame D m → 0 ≤ D.sum := by
  intro D
  induction D with
  | nil => intro m _; simp
  | cons d r ih =>
    intro m h
    have := (h d (by simp)).1
    have := ih (m := m) (fun x hx => h x (by simp [hx]))
    rw [List.sum_cons]
    omega

/-- The leaves from b to e. -/
def cutL (D : List Int) (b e : Nat) : List Int := (D.take e).drop b
theorem cutL_len {D : List Int} {b e : Nat} (he : e ≤ D.length) : (cutL D b e).length = e - b := by simp [cutL]; omega
theorem cutL_sub {D : List Int} {b e : Nat} : ∀ x ∈ cutL D b e, x ∈ D := fun _ hx => List.mem_of_mem_take (List.mem_of_mem_drop hx)
theorem cutL_one {D : List Int} {b : Nat} (h : b < D.length) : cutL D b (b + 1) = [D[b]] := by
  unfold cutL
  rw [take_snoc' h, List.drop_append_of_le_length (by simp; omega), List.drop_of_length_le (by simp; omega)]
  rfl
theorem cutL_self (D : List Int) (b : Nat) : cutL D b b = [] := by unfold cutL; exact List.drop_of_length_le (by simp; omega)
theorem cutL_append {D : List Int} {a b c : Nat} (h1 : a ≤ b) (h2 : b ≤ c) (h3 : c ≤ D.length) : cutL D a b ++ cutL D b c = cutL D a c := by
  unfold cutL
  have e : D.take b = (D.take c).take b := by rw [List.take_take]; congr 1; omega
  have e2 : ((D.take c).take b ++ (D.take c).drop b) = D.take c := List.take_append_drop b _
  have e3 : (D.take c).drop a = (((D.take c).take b) ++ (D.take c).drop b).drop a := by rw [e2]
  rw [e, e3, List.drop_append_of_le_length (by simp; omega)]
theorem cutL_drop {D : List Int} {b : Nat} : cutL D b D.length = D.drop b := by unfold cutL; rw [List.take_length]

theorem growF_le {D : List Int} {most many : Int} {b : Nat} : ∀ k e, e ≤ D.length → growF D most many b k e ≤ D.length := by
  intro k
  induction k with
  | zero => intro e h; exact h
  | succ k ih =>
    intro e h
    rw [growF]
    split
    · rename_i hg; simp [mayGrow] at hg; exact ih _ (by omega)
    · exact h
theorem growE_le {D : List Int} {most many : Int} {b e : Nat} (h : e ≤ D.length) : growE D most many b e ≤ D.length := growF_le _ _ h
theorem growF_many {D : List Int} {most many : Int} {b : Nat} : ∀ (k e : Nat), (e : Int) - b ≤ many → ((growF D most many b k e : Nat) : Int) - b ≤ many := by
  intro k
  induction k with
  | zero => intro e h; exact h
  | succ k ih =>
    intro e h
    rw [growF]
    split
    · rename_i hg; simp [mayGrow] at hg; exact ih _ (by omega)
    · exact h
theorem growF_sum {D : List Int} {most many : Int} {b : Nat} : ∀ k e, sumW (cutL D b e) ≤ most → sumW (cutL D b (growF D most many b k e)) ≤ most := by
  intro k
  induction k with
  | zero => intro e h; exact h
  | succ k ih =>
    intro e h
    rw [growF]
    split
    · rename_i hg; simp [mayGrow] at hg; exact ih _ hg.2
    · exact h
theorem growF_stop {D : List Int} {most many : Int} {b : Nat} : ∀ k e, D.length - e ≤ k → mayGrow D most many b (growF D most many b k e) = false := by
  intro k
  induction k with
  | zero =>
    intro e h
    have : ¬ e < D.length := by omega
    simp [growF, mayGrow, this]
  | succ k ih =>
    intro e h
    rw [growF]
    split
    · exact ih _ (by omega)
    · rename_i hg; simpa using hg
theorem growE_stop (D : List Int) (most many : Int) (b e : Nat) : mayGrow D most many b (growE D most many b e) = false := growF_stop _ _ (Nat.le_refl _)

/-- The weights behind one round, from leaf b on. -/
def mergeF (D : List Int) (most many : Int) : Nat → Nat → List Int
  | 0, _ => []
  | k + 1, b => if D.length ≤ b then [] else sumW (cutL D b (growE D most many b (b + 1))) :: mergeF D most many k (growE D most many b (b + 1))
theorem mergeF_fuel {D : List Int} {most many : Int} : ∀ (k m b : Nat), D.length - b ≤ k → D.length - b ≤ m → mergeF D most many k b = mergeF D most many m b := by
  intro k
  induction k with
  | zero =>
    intro m b h1 h2
    cases m with
    | zero => rfl
    | succ m => rw [mergeF, mergeF, if_pos (by omega)]
  | succ k ih =>
    intro m b h1 h2
    cases m with
    | zero => rw [mergeF, mergeF, if_pos (by omega)]
    | succ m =>
      rw [mergeF, mergeF]
      split
      · rfl
      · have := growE_ge D most many b (b + 1)
        rw [ih m _ (by omega) (by omega)]
def mergeE (D : List Int) (most many : Int) (b : Nat) : List Int := mergeF D most many (D.length - b) b
theorem mergeE_end {D : List Int} {most many : Int} {b : Nat} (h : D.length ≤ b) : mergeE D most many b = [] := by
  unfold mergeE
  rw [show D.length - b = 0 by omega]
  rfl
theorem mergeE_step {D : List Int} {most many : Int} {b : Nat} (h : b < D.length) : mergeE D most many b = sumW (cutL D b (growE D most many b (b + 1))) :: mergeE D most many (growE D most many b (b + 1)) := by
  obtain ⟨k, hk⟩ : ∃ k, D.length - b = k + 1 := ⟨D.length - b - 1, by omega⟩
  have := growE_ge D most many b (b + 1)
  unfold mergeE
  rw [hk, mergeF, if_neg (by omega), mergeF_fuel k (D.length - growE D most many b (b + 1)) _ (by omega) (Nat.le_refl _)]

theorem sumW_one {d : Int} (h0 : 0 ≤ d) (h1 : d ≤ 1000) : sumW [d] = d := by
  unfold sumW wrap64
  simp
  omega

/-- From leaf b on: After's fold over what Units says leaves what mergeE says. -/
theorem aft_merge {D : List Int} {most many : Int} (ht : Tame D 1000) : ∀ (n b at_ : Nat) (out : List Int), D.length - b ≤ n → at_ ≤ b → b ≤ D.length →
    ∃ out' e, (unitsE D most many b).foldl (aftStep D) (some (out, at_)) = some (out', e) ∧ out' ++ D.drop e = out ++ cutL D at_ b ++ mergeE D most many b := by
  intro n
  induction n with
  | zero =>
    intro b at_ out hn ha hb
    have hb' : b = D.length := by omega
    rw [unitsE_end (by omega), mergeE_end (by omega)]
    subst hb'
    exact ⟨out, at_, rfl, by rw [cutL_drop, List.append_nil]⟩
  | succ n ih =>
    intro b at_ out hn ha hb
    rcases Nat.lt_or_ge b D.length with hlt | hge
    · have g1 := growE_ge D most many b (b + 1)
      have g2 : growE D most many b (b + 1) ≤ D.length := growE_le (by omega)
      rw [unitsE_step hlt, mergeE_step hlt]
      generalize growE D most many b (b + 1) = e at *
      by_cases h2 : 2 ≤ e - b
      · have hbd : badU D.length at_ ((b : Int), (e : Int) - b) = false := by simp [badU]; omega
        have e1 : b + (e - b) = e := by omega
        have e2 : ((e : Int) - b).toNat = e - b := by omega
        obtain ⟨out', e', h3, h4⟩ := ih e e (out ++ cutL D at_ b ++ [sumW (cutL D b e)]) (by omega) (Nat.le_refl _) g2
        refine ⟨out', e', ?_, ?_⟩
        · rw [oneUnit, if_pos h2, List.foldl_append, List.foldl_cons, List.foldl_nil]
          rw [show aftStep D (some (out, at_)) ((b : Int), (e : Int) - b) = some (out ++ cutL D at_ b ++ [sumW (cutL D b e)], e) by
            simp only [aftStep, hbd, Bool.false_eq_true, if_false, Int.toNat_natCast, e2, e1, cutL]]
          exact h3
        · rw [h4, cutL_self]
          simp
      · have hb1 : e = b + 1 := by omega
        subst hb1
        obtain ⟨out', e', h3, h4⟩ := ih (b + 1) at_ out (by omega) (by omega) g2
        refine ⟨out', e', ?_, ?_⟩
        · rw [oneUnit, if_neg h2, List.nil_append]
          exact h3
        · have hd := ht D[b] (List.getElem_mem hlt)
          rw [h4, ← cutL_append (c := b + 1) ha (Nat.le_succ b) g2, cutL_one hlt, sumW_one hd.1 hd.2]
          simp
    · have hb' : b = D.length := by omega
      rw [unitsE_end (by omega), mergeE_end (by omega)]
      subst hb'
      exact ⟨out, at_, rfl, by rw [cutL_drop, List.append_nil]⟩

theorem after_units {D : List Int} {most many : Int} (h : Right D most many) : aftB D (unitsE D most many 0) = some (mergeE D most many 0) := by
  obtain ⟨out', e, h1, h2⟩ := aft_merge (many := many) (most := most) (h.tame.mono h.most2) D.length 0 0 [] (by omega) (Nat.le_refl _) (Nat.zero_le _)
  have hb : anyBad 1000000 D = false := (tame_iff D 1000000).2 (h.tame.mono (by have := h.most2; omega))
  unfold aftB aftTo
  rw [h1]
  simp only [hb, Bool.false_eq_true, if_false]
  rw [h2, cutL_self]
  simp

/-- What one round keeps. -/
theorem merge_keeps {D : List Int} {most many : Int} (h : Right D most many) : ∀ (n b : Nat), D.length - b ≤ n → b ≤ D.length →
    Tame (mergeE D most many b) most ∧ (mergeE D most many b).sum = (D.drop b).sum ∧ (mergeE D most many b).length ≤ D.length - b ∧ (unitsE D most many b ≠ [] → (mergeE D most many b).length < D.length - b) ∧ (b < D.length → mergeE D most many b ≠ []) := by
  intro n
  induction n with
  | zero =>
    intro b hn hb
    rw [unitsE_end (by omega), mergeE_end (by omega), List.drop_of_length_le (by omega)]
    exact ⟨fun d hd => by simp at hd, rfl, Nat.zero_le _, fun h => absurd rfl h, fun h => by omega⟩
  | succ n ih =>
    intro b hn hb
    rcases Nat.lt_or_ge b D.length with hlt | hge
    · have g1 := growE_ge D most many b (b + 1)
      have g2 : growE D most many b (b + 1) ≤ D.length := growE_le (by omega)
      have hd := h.tame D[b] (List.getElem_mem hlt)
      have hm := h.most2
      have g3 : sumW (cutL D b (growE D most many b (b + 1))) ≤ most := growF_sum _ _ (by rw [cutL_one hlt, sumW_one hd.1 (by omega)]; exact hd.2)
      rw [unitsE_step hlt, mergeE_step hlt]
      generalize growE D most many b (b + 1) = e at *
      obtain ⟨i1, i2, i3, i4, i5⟩ := ih e (by omega) g2
      have hc : Tame (cutL D b e) 1000 := (h.tame.sub cutL_sub).mono hm
      have hs : sumW (cutL D b e) = (cutL D b e).sum := sumW_eq hc (by rw [cutL_len g2]; have := h.len; omega)
      have h0 := sum_nonneg hc
      refine ⟨fun d hd => ?_, ?_, ?_, fun hne => ?_, fun _ => by simp⟩
      · rcases List.mem_cons.1 hd with rfl | hd
        · exact ⟨by omega, g3⟩
        · exact i1 d hd
      · rw [List.sum_cons, hs, i2]
        have : D.drop b = cutL D b e ++ D.drop e := by rw [← cutL_drop, ← cutL_drop, cutL_append (by omega) g2 (Nat.le_refl _)]
        rw [this, List.sum_append]
      · simp only [List.length_cons]; omega
      · simp only [List.length_cons]
        by_cases h2 : 2 ≤ e - b
        · omega
        · rw [oneUnit, if_neg h2, List.nil_append] at hne
          have := i4 hne
          omega
    · rw [unitsE_end (by omega), mergeE_end (by omega), List.drop_of_length_le (by omega)]
      exact ⟨fun d hd => by simp at hd, rfl, Nat.zero_le _, fun h => absurd rfl h, fun h => by omega⟩

theorem merge_right {D : List Int} {most many : Int} (h : Right D most many) : Right (mergeE D most many 0) most many := by
  obtain ⟨i1, _, i3, _, _⟩ := merge_keeps h D.length 0 (by omega) (Nat.zero_le _)
  have hl := h.len
  exact ⟨by omega, h.most1, h.most2, h.many1, h.many2, i1⟩

/-- How often, and the weights at last. -/
def roundsF (most many : Int) : Nat → Nat → List Int → Nat × List Int
  | 0, n, D => (n, D)
  | k + 1, n, D => if unitsE D most many 0 = [] then (n, D) else roundsF most many k (n + 1) (mergeE D most many 0)
theorem roundsF_fuel {most many : Int} : ∀ (k m n : Nat) (D : List Int), Right D most many → D.length ≤ k → D.length ≤ m → roundsF most many k n D = roundsF most many m n D := by
  intro k
  induction k with
  | zero =>
    intro m n D h h1 h2
    cases m with
    | zero => rfl
    | succ m => rw [roundsF, roundsF, if_pos (unitsE_end (by omega))]
  | succ k ih =>
    intro m n D h h1 h2
    cases m with
    | zero => rw [roundsF, roundsF, if_pos (unitsE_end (by omega))]
    | succ m =>
      rw [roundsF, roundsF]
      split
      · rfl
      · rename_i hu
        have := (merge_keeps h D.length 0 (by omega) (Nat.zero_le _)).2.2.2.1 hu
        exact ih m _ _ (merge_right h) (by omega) (by omega)
def roundsE (D : List Int) (most many : Int) (n : Nat) : Nat × List Int := roundsF most many D.length n D
theorem roundsE_no {D : List Int} {most many : Int} {n : Nat} (hu : unitsE D most many 0 = []) : roundsE D most many n = (n, D) := by
  unfold roundsE
  cases D.length with
  | zero => rfl
  | succ k => rw [roundsF, if_pos hu]
theorem roundsE_yes {D : List Int} {most many : Int} {n : Nat} (h : Right D most many) (hu : unitsE D most many 0 ≠ []) : roundsE D most many n = roundsE (mergeE D most many 0) most many (n + 1) := by
  have hm := (merge_keeps h D.length 0 (by omega) (Nat.zero_le _)).2.2.2.1 hu
  unfold roundsE
  cases hk : D.length with
  | zero => omega
  | succ k =>
    rw [roundsF, if_neg hu]
    exact roundsF_fuel _ _ _ _ (merge_right h) (by omega) (Nat.le_refl _)
end Go.Proofs.Ytgnhfipmeljffaa
