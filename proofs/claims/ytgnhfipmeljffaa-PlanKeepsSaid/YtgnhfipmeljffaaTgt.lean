/-
  Plain laws: what stands at last; units that Units says; one round of all. No program in sight.
-/
import Derived.Test.YtgnhfipmeljffaaMrg
open Go Go.RowKit
namespace Go.Proofs.Ytgnhfipmeljffaa

theorem sumW_two {a b : Int} (ha : 0 ≤ a) (ha2 : a ≤ 1000) (hb : 0 ≤ b) (hb2 : b ≤ 1000) : sumW [a, b] = a + b := by
  unfold sumW wrap64
  simp
  omega
theorem cutL_two {D : List Int} {b : Nat} (h : b + 1 < D.length) : cutL D b (b + 2) = [D[b]'(by omega), D[b + 1]] := by
  rw [← cutL_append (b := b + 1) (by omega) (by omega) (by omega), cutL_one (by omega), cutL_one h]
  rfl
theorem one_of_nil {D : List Int} {most many : Int} {b : Nat} (hb : b < D.length) (hu : unitsE D most many b = []) : growE D most many b (b + 1) = b + 1 ∧ unitsE D most many (b + 1) = [] := by
  have g1 := growE_ge D most many b (b + 1)
  rw [unitsE_step hb] at hu
  obtain ⟨h1, h2⟩ := List.append_eq_nil_iff.1 hu
  have he : growE D most many b (b + 1) = b + 1 := by
    unfold oneUnit at h1
    split at h1
    · cases h1
    · omega
  rw [he] at h2
  exact ⟨he, h2⟩

/-- Where no unit is, no two neighbours fit together. -/
theorem tight_of_none {D : List Int} {most many : Int} (h : Right D most many) : ∀ n b, D.length - b ≤ n → unitsE D most many b = [] → tightB most (D.drop b) = true := by
  intro n
  induction n with
  | zero => intro b hn _; rw [List.drop_of_length_le (by omega)]; rfl
  | succ n ih =>
    intro b hn hu
    rcases Nat.lt_or_ge b D.length with hb | hb
    · obtain ⟨h1, h2⟩ := one_of_nil hb hu
      rcases Nat.lt_or_ge (b + 1) D.length with hc | hc
      · have hs := growE_stop D most many b (b + 1)
        rw [h1] at hs
        have x := h.tame D[b] (List.getElem_mem hb)
        have y := h.tame D[b + 1] (List.getElem_mem hc)
        have hm := h.most2
        have hk := h.many1
        have e : sumW ((D.take (b + 1 + 1)).drop b) = D[b] + D[b + 1] := by
          have := cutL_two hc
          unfold cutL at this
          rw [this, sumW_two x.1 (by omega) y.1 (by omega)]
        have hi := ih (b + 1) (by omega) h2
        rw [List.drop_eq_getElem_cons hc] at hi
        rw [List.drop_eq_getElem_cons hb, List.drop_eq_getElem_cons hc]
        simp only [mayGrow, e, hc] at hs
        have hw : wrap64 (D[b] + D[b + 1]) = D[b] + D[b + 1] := by unfold wrap64; omega
        rw [tightB, hw, if_neg, hi]
        intro hle
        simp [hle] at hs
        omega
      · rw [List.drop_eq_getElem_cons hb, List.drop_of_length_le hc]; rfl
    · rw [List.drop_of_length_le hb]; rfl

/-- Of leaves of which no two neighbours fit together, all but one weigh, two by two, more than most. -/
theorem half_sum {m : Int} (hm : m ≤ 1000) : ∀ n (D : List Int), D.length ≤ n → Tame D m → tightB m D = true → ((D.length / 2 : Nat) : Int) * (m + 1) ≤ D.sum := by
  intro n
  induction n using Nat.strongRecOn with
  | _ n ih =>
    intro D hn ht hti
    match D, hn, ht, hti with
    | [], _, _, _ => simp
    | [a], _, ht, _ =>
      have := (ht a (by simp)).1
      simp
      omega
    | a :: b :: r, hn, ht, hti =>
      simp only [List.length_cons] at hn
      have x := ht a (by simp)
      have y := ht b (by simp)
      have hw : wrap64 (a + b) = a + b := by unfold wrap64; omega
      rw [tightB, hw] at hti
      split at hti
      · cases hti
      · rename_i hab
        have hr : tightB m r = true := by
          cases r with
          | nil => rfl
          | cons c s =>
            rw [tightB] at hti
            split at hti
            · cases hti
            · exact hti
        have := ih (n - 2) (by omega) r (by omega) (fun d hd => ht d (by simp [hd])) hr
        have e : ((a :: b :: r).length / 2 : Nat) = r.length / 2 + 1 := by simp only [List.length_cons]; omega
        rw [e, Int.natCast_add, Int.add_mul, List.sum_cons, List.sum_cons]
        simp only [Int.natCast_one, Int.one_mul]
        omega

/-- What stands at last. -/
theorem rounds_spec {most many : Int} : ∀ (k n : Nat) (D : List Int), Right D most many → D.length ≤ k →
    (roundsF most many k n D).1 + (roundsF most many k n D).2.length ≤ n + D.length ∧ Right (roundsF most many k n D).2 most many ∧ (roundsF most many k n D).2.sum = D.sum ∧ unitsE (roundsF most many k n D).2 most many 0 = [] ∧ (roundsF most many k n D).2.length ≤ D.length ∧ (D ≠ [] → (roundsF most many k n D).2 ≠ []) := by
  intro k
  induction k with
  | zero =>
    intro n D h hk
    exact ⟨Nat.le_refl _, h, rfl, unitsE_end (show D.length ≤ 0 by omega), Nat.le_refl _, fun h => h⟩
  | succ k ih =>
    intro n D h hk
    rw [roundsF]
    split
    · rename_i hu
      exact ⟨Nat.le_refl _, h, rfl, hu, Nat.le_refl _, fun h => h⟩
    · rename_i hu
      obtain ⟨i1, i2, i3, i4, i5⟩ := merge_keeps h D.length 0 (by omega) (Nat.zero_le _)
      have i4 := i4 hu
      obtain ⟨j1, j2, j3, j4, j5, j6⟩ := ih (n + 1) (mergeE D most many 0) (merge_right h) (by omega)
      refine ⟨by omega, j2, by rw [j3, i2]; rfl, j4, by omega, fun hne => j6 (i5 ?_)⟩
      have := List.length_pos_iff.2 hne
      omega
theorem roundsE_spec {D : List Int} {most many : Int} (h : Right D most many) :
    (roundsE D most many 0).1 + (roundsE D most many 0).2.length ≤ D.length ∧ Right (roundsE D most many 0).2 most many ∧ (roundsE D most many 0).2.sum = D.sum ∧ unitsE (roundsE D most many 0).2 most many 0 = [] ∧ (roundsE D most many 0).2.length ≤ D.length ∧ (D ≠ [] → (roundsE D most many 0).2 ≠ []) := by
  have := rounds_spec (most := most) (many := many) D.length 0 D h (Nat.le_refl _)
  simpa [roundsE] using this

/-- Units that stand side by side, or apart, each as large as can be. -/
def okU (D : List Int) (most many : Int) : Nat → List (Int × Int) → Prop
  | _, [] => True
  | at_, u :: r => ∃ f e : Nat, u = ((f : Int), (e : Int) - f) ∧ at_ ≤ f ∧ f + 2 ≤ e ∧ (e : Int) - f ≤ many ∧ e ≤ D.length ∧ sumW (cutL D f e) ≤ most ∧ ((e : Int) - f < many → e < D.length → ¬ sumW (cutL D f (e + 1)) ≤ most) ∧ okU D most many e r
theorem okU_mono {D : List Int} {most many : Int} {a b : Nat} (h : a ≤ b) : ∀ U, okU D most many b U → okU D most many a U := by
  intro U hU
  cases U with
  | nil => trivial
  | cons u r =>
    obtain ⟨f, e, h1, h2, h3⟩ := hU
    exact ⟨f, e, h1, by omega, h3⟩
theorem units_ok {D : List Int} {most many : Int} (h : Right D most many) : ∀ n b, D.length - b ≤ n → okU D most many b (unitsE D most many b) := by
  intro n
  induction n with
  | zero => intro b hn; rw [unitsE_end (by omega)]; trivial
  | succ n ih =>
    intro b hn
    rcases Nat.lt_or_ge b D.length with hb | hb
    · have g1 := growE_ge D most many b (b + 1)
      have g2 : growE D most many b (b + 1) ≤ D.length := growE_le (by omega)
      have hd := h.tame D[b] (List.getElem_mem hb)
      have hm := h.most2
      have hk := h.many1
      have g3 : sumW (cutL D b (growE D most many b (b + 1))) ≤ most := growF_sum _ _ (by rw [cutL_one hb, sumW_one hd.1 (by omega)]; exact hd.2)
      have g4 : ((growE D most many b (b + 1) : Nat) : Int) - b ≤ many := growF_many _ _ (by omega)
      have g5 := growE_stop D most many b (b + 1)
      rw [unitsE_step hb]
      have hi := ih (growE D most many b (b + 1)) (by omega)
      generalize growE D most many b (b + 1) = e at *
      unfold oneUnit
      split
      · refine ⟨b, e, rfl, Nat.le_refl _, by omega, g4, g2, g3, fun h1 h2 h3 => ?_, hi⟩
        unfold cutL at h3
        simp [mayGrow, h1, h2] at g5
        omega
      · exact okU_mono (by omega) _ hi
    · rw [unitsE_end (by omega)]; trivial

/-- With room for all, all are one unit. -/
theorem grow_all {D : List Int} {most many : Int} {b : Nat} : ∀ k e, D.length - e ≤ k → e ≤ D.length → (∀ e', e ≤ e' → e' < D.length → mayGrow D most many b e' = true) → growE D most many b e = D.length := by
  intro k
  induction k with
  | zero =>
    intro e hk he _
    have : e = D.length := by omega
    subst this
    exact growE_no (by simp [mayGrow])
  | succ k ih =>
    intro e hk he h
    rcases Nat.lt_or_ge e D.length with hlt | hge
    · rw [growE_yes (h e (Nat.le_refl _) hlt)]
      exact ih (e + 1) (by omega) (by omega) (fun e' h1 h2 => h e' (by omega) h2)
    · have : e = D.length := by omega
      subst this
      exact growE_no (by simp [mayGrow])
theorem sum_le {m : Int} : ∀ {D : List Int}, Tame D m → D.sum ≤ m * D.length := by
  intro D
  induction D with
  | nil => intro _; simp
  | cons d r ih =>
    intro h
    have h1 := (h d (by simp)).2
    have h2 := ih (fun x hx => h x (by simp [hx]))
    rw [List.sum_cons, List.length_cons, Int.natCast_add, Int.mul_add]
    simp only [Int.natCast_one, Int.mul_one]
    omega
theorem may_all {D : List Int} (h : Tame D 50) (hl : D.length ≤ 16) {e : Nat} (he : e < D.length) : mayGrow D 1000 16 0 e = true := by
  have hs : Tame ((D.take (e + 1)).drop 0) 50 := h.sub fun x hx => List.mem_of_mem_take (List.mem_of_mem_drop hx)
  have hlen : ((D.take (e + 1)).drop 0).length = e + 1 := by simp; omega
  have h1 := sum_le hs
  rw [hlen] at h1
  have h2 : sumW ((D.take (e + 1)).drop 0) = ((D.take (e + 1)).drop 0).sum := sumW_eq (hs.mono (by omega)) (by omega)
  unfold mayGrow
  rw [h2]
  simp only [Bool.and_eq_true, decide_eq_true_eq]
  omega
theorem once_units {D : List Int} (h : Tame D 50) (hl : D.length ≤ 16) : unitsE D 1000 16 0 = if 2 ≤ D.length then [(0, (D.length : Int))] else [] := by
  rcases Nat.eq_zero_or_pos D.length with h0 | h0
  · rw [unitsE_end (by omega), if_neg (by omega)]
  · have hg : growE D 1000 16 0 (0 + 1) = D.length := grow_all D.length 1 (by omega) (by omega) (fun e' _ h2 => may_all h hl h2)
    rw [unitsE_step h0, hg, unitsE_end (Nat.le_refl _)]
    unfold oneUnit
    simp
theorem once_right {D : List Int} (h : Tame D 50) (hl : D.length ≤ 16) : Right D 1000 16 := ⟨by omega, by omega, by omega, by omega, by omega, h.mono (by omega)⟩
theorem once_rounds {D : List Int} (h : Tame D 50) (hl : D.length ≤ 16) : roundsE D 1000 16 0 = if 2 ≤ D.length then (1, [D.sum]) else (0, D) := by
  split
  · rename_i h2
    have hu := once_units h hl
    rw [if_pos h2] at hu
    have hg : growE D 1000 16 0 (0 + 1) = D.length := grow_all D.length 1 (by omega) (by omega) (fun e' _ h2 => may_all h hl h2)
    have hm : mergeE D 1000 16 0 = [D.sum] := by
      rw [mergeE_step (by omega), hg, mergeE_end (Nat.le_refl _)]
      have e : cutL D 0 D.length = D := by unfold cutL; simp
      rw [e, sumW_eq (h.mono (by omega)) (by omega)]
    rw [roundsE_yes (once_right h hl) (by rw [hu]; simp), hm]
    have h1 : growE [D.sum] 1000 16 0 (0 + 1) = 1 := growE_no (by simp [mayGrow])
    exact roundsE_no (by rw [unitsE_step (by simp), h1, unitsE_end (by simp)]; rfl)
  · rename_i h2
    refine roundsE_no ?_
    rw [once_units h hl, if_neg h2]

/-- With no room for two none is made. -/
theorem big_units (n : Nat) : ∀ k b, (List.replicate n (60 : Int)).length - b ≤ k → unitsE (List.replicate n (60 : Int)) 100 16 b = [] := by
  intro k
  induction k with
  | zero => intro b hk; exact unitsE_end (by omega)
  | succ k ih =>
    intro b hk
    rcases Nat.lt_or_ge b (List.replicate n (60 : Int)).length with hb | hb
    · have hg : growE (List.replicate n (60 : Int)) 100 16 b (b + 1) = b + 1 := by
        refine growE_no ?_
        rcases Nat.lt_or_ge (b + 1) (List.replicate n (60 : Int)).length with hc | hc
        · have e := cutL_two hc
          unfold cutL at e
          unfold mayGrow
          rw [e]
          simp [sumW, wrap64]
        · unfold mayGrow
          rw [decide_eq_false (by omega)]
          rfl
      rw [unitsE_step hb, hg, ih (b + 1) (by omega)]
      unfold oneUnit
      rw [if_neg (by omega)]
      rfl
    · exact unitsE_end hb
theorem big_right {n : Nat} (hn : n ≤ 16) : Right (List.replicate n (60 : Int)) 100 16 := ⟨by simp; omega, by omega, by omega, by omega, by omega, fun d hd => by rw [List.mem_replicate] at hd; omega⟩
end Go.Proofs.Ytgnhfipmeljffaa
