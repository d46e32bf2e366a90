/-
  BuildWhole: plain laws of the pages and of the kids above kids that may be.
-/
import Derived.Test.YtfoidiebdklggaaPo
import Derived.Test.YtfoidiebdklggaaRr
import Derived.Test.YtfoidiebdklggaaEv
open Go Go.RowKit
namespace Go.Proofs.Ytfoidiebdklggaa

theorem bl_trans : ∀ (a b c : List UInt8), Op.bytesLess a b = true → Op.bytesLess b c = true → Op.bytesLess a c = true := by
  intro a
  induction a with
  | nil =>
    intro b c h1 h2
    cases b with
    | nil => simp [Op.bytesLess] at h1
    | cons y b => cases c with
      | nil => simp [Op.bytesLess] at h2
      | cons z c => simp [Op.bytesLess]
  | cons x a ih =>
    intro b c h1 h2
    cases b with
    | nil => simp [Op.bytesLess] at h1
    | cons y b => cases c with
      | nil => simp [Op.bytesLess] at h2
      | cons z c =>
        simp only [Op.bytesLess, Bool.or_eq_true, Bool.and_eq_true, decide_eq_true_eq, beq_iff_eq] at h1 h2 ⊢
        rcases h1 with h1 | ⟨rfl, h1⟩
        · rcases h2 with h2 | ⟨rfl, h2⟩
          · left
            rw [UInt8.lt_iff_toNat_lt] at *
            omega
          · exact .inl h1
        · rcases h2 with h2 | ⟨rfl, h2⟩
          · exact .inl h2
          · exact .inr ⟨rfl, ih _ _ h1 h2⟩
theorem ltS_trans {a b c : ByteArray} (h1 : ltS a b = true) (h2 : ltS b c = true) : ltS a c = true := bl_trans _ _ _ h1 h2
/-- What rightB tells. -/
theorem right_parts {L : List Kid} (h : rightB L = true) : 1 ≤ L.length ∧ L.length ≤ 1024 ∧ (lowAt L 0).size = 0 ∧ (∀ i, i < L.length → pageB (pageAt L i) = true) ∧
    ∀ i, 1 ≤ i → i < L.length → keyB (lowAt L i) = true ∧ ltS (lowAt L (i - 1)) (lowAt L i) = true := by
  rw [right_eq] at h
  simp only [Bool.and_eq_true, decide_eq_true_eq, List.all_eq_true, List.mem_range] at h
  obtain ⟨⟨h1, h2⟩, h3⟩ := h
  have h0 := h3 0 (by omega)
  unfold rokAt at h0
  simp only [Bool.and_eq_true, decide_eq_true_eq, if_pos] at h0
  refine ⟨h1, h2, h0.2, fun i hi => ?_, fun i hi hl => ?_⟩
  · have := h3 i hi
    unfold rokAt at this
    simp only [Bool.and_eq_true] at this
    exact this.1
  · have := h3 i hl
    unfold rokAt at this
    rw [if_neg (by omega)] at this
    simp only [Bool.and_eq_true] at this
    exact this.2
theorem lt_far {L : List Kid} (h : rightB L = true) : ∀ (d i : Nat), i + 1 + d < L.length → ltS (lowAt L i) (lowAt L (i + 1 + d)) = true := by
  have hp := (right_parts h).2.2.2.2
  intro d
  induction d with
  | zero =>
    intro i hi
    exact (hp (i + 1) (by omega) (by omega)).2
  | succ d ih =>
    intro i hi
    exact ltS_trans (ih i (by omega)) (hp (i + 1 + (d + 1)) (by omega) (by omega)).2
theorem lt_of {L : List Kid} (h : rightB L = true) {i j : Nat} (hij : i < j) (hj : j < L.length) : ltS (lowAt L i) (lowAt L j) = true := by
  have := lt_far h (j - i - 1) i (by omega)
  rwa [show i + 1 + (j - i - 1) = j by omega] at this
theorem key_size {s : ByteArray} (h : keyB s = true) : 1 ≤ s.size ∧ s.size ≤ 16 := by
  unfold keyB at h
  simpa using h
theorem low_size {L : List Kid} (h : rightB L = true) (i : Nat) : (lowAt L i).size ≤ 16 := by
  obtain ⟨h1, _, h0, _, hk⟩ := right_parts h
  by_cases hi : i < L.length
  · by_cases hz : i = 0
    · subst hz; omega
    · exact (key_size (hk i (by omega) hi).1).2
  · unfold lowAt
    rw [List.getElem?_eq_none (by omega)]
    show (0 : Nat) ≤ 16
    omega
theorem low_out {L : List Kid} {i : Nat} (h : L.length ≤ i) : lowAt L i = ⟨#[]⟩ := by
  unfold lowAt
  rw [List.getElem?_eq_none h]
  rfl
section
variable {L : List Kid} {P : List Int} {j a g : Nat}
theorem pg_seps (ha : a + g ≤ L.length) (hg : 1 ≤ g) : (pgOf P j ((L.drop a).take g) (L.drop (a + g))).seps.length = g - 1 := by
  simp [pgOf]; omega
theorem pg_kids (ha : a + g ≤ L.length) : (pgOf P j ((L.drop a).take g) (L.drop (a + g))).kids.length = g := by
  simp [pgOf]; omega
theorem pg_high : (pgOf P j ((L.drop a).take g) (L.drop (a + g))).high = lowAt L (a + g) := by
  show lowAt (L.drop (a + g)) 0 = _
  rw [lowAt_drop, Nat.add_zero]
theorem pg_sep (ha : a + g ≤ L.length) {i : Nat} (hi : i + 1 < g) : (pgOf P j ((L.drop a).take g) (L.drop (a + g))).seps[i]? = some (lowAt L (a + 1 + i)) := by
  show ((((L.drop a).take g).drop 1).map (·.1))[i]? = _
  rw [List.getElem?_map, List.getElem?_drop, List.getElem?_take, if_pos (by omega), List.getElem?_drop, show a + (1 + i) = a + 1 + i by omega, kid_at (by omega)]
  rfl
theorem pg_kid (ha : a + g ≤ L.length) {i : Nat} (hi : i < g) : (pgOf P j ((L.drop a).take g) (L.drop (a + g))).kids[i]? = some (pageAt L (a + i)) := by
  show (((L.drop a).take g).map (·.2))[i]? = _
  rw [List.getElem?_map, List.getElem?_take, if_pos hi, List.getElem?_drop, kid_at (by omega)]
  rfl
theorem pg_next : (pgOf P j ((L.drop a).take g) (L.drop (a + g))).next = if L.length ≤ a + g then 0 else nextOf P j := by
  show (if (L.drop (a + g)).length = 0 then 0 else nextOf P j) = _
  rw [List.length_drop]
  by_cases h : L.length ≤ a + g
  · rw [if_pos h, if_pos (by omega)]
  · rw [if_neg h, if_neg (by omega)]
theorem pg_low (ha : a + g ≤ L.length) {i : Nat} (hi : i + 1 < g) : lowS (pgOf P j ((L.drop a).take g) (L.drop (a + g))) i = lowAt L (a + 1 + i) := by
  unfold lowS
  rw [pg_sep ha hi]
  rfl
theorem sum_small : ∀ (l : List ByteArray), (∀ s ∈ l, s.size ≤ 16) → (l.map fun s => 3 + s.size).sum ≤ 19 * l.length := by
  intro l
  induction l with
  | nil => intro _; simp
  | cons s r ih =>
    intro h
    have h1 := h s (by simp)
    have h2 := ih (fun x hx => h x (by simp [hx]))
    simp only [List.map_cons, List.sum_cons, List.length_cons]
    omega
theorem pg_small (h : rightB L = true) (ha : a + g ≤ L.length) (hg : 1 ≤ g) : ∀ s ∈ (pgOf P j ((L.drop a).take g) (L.drop (a + g))).seps, s.size ≤ 16 := by
  intro s hs
  obtain ⟨i, hi⟩ := List.getElem?_of_mem hs
  have hl : i < (pgOf P j ((L.drop a).take g) (L.drop (a + g))).seps.length := (List.getElem?_eq_some_iff.1 hi).1
  rw [pg_seps ha hg] at hl
  rw [pg_sep ha (by omega)] at hi
  cases hi
  exact low_size h _
theorem pg_fair (h : rightB L = true) (ha : a + g ≤ L.length) (hg : 1 ≤ g) (hg2 : g ≤ 13) : (pgOf P j ((L.drop a).take g) (L.drop (a + g))).fair where
  s1 := fun s hs => by have := pg_small h ha hg s hs; omega
  s2 := by rw [pg_seps ha hg]; omega
  s3 := by rw [pg_high]; have := low_size h (a + g); omega
  s4 := by rw [pg_kids ha]; omega
theorem pg_right (h : rightB L = true) (ha : a + g ≤ L.length) (hg : 1 ≤ g) (hg2 : g ≤ 13) (hn : 0 ≤ nextOf P j ∧ nextOf P j ≤ 1024) : pgRight (pgOf P j ((L.drop a).take g) (L.drop (a + g))) = true := by
  obtain ⟨h1, h2, h0, hp, hk⟩ := right_parts h
  unfold pgRight
  have ho : anyOdd (pgOf P j ((L.drop a).take g) (L.drop (a + g))).kids = false := by
    unfold anyOdd
    rw [List.any_eq_false]
    intro x hx
    obtain ⟨i, hi⟩ := List.getElem?_of_mem hx
    have hl := (List.getElem?_eq_some_iff.1 hi).1
    rw [pg_kids ha] at hl
    rw [pg_kid ha hl] at hi
    cases hi
    rw [hp (a + i) (by omega)]
    simp
  have hs : (List.range (pgOf P j ((L.drop a).take g) (L.drop (a + g))).seps.length).all (sepOk (pgOf P j ((L.drop a).take g) (L.drop (a + g)))) = true := by
    rw [List.all_eq_true]
    intro i hi
    rw [List.mem_range, pg_seps ha hg] at hi
    unfold sepOk
    rw [pg_low ha (by omega), pg_high, (hk (a + 1 + i) (by omega) (by omega)).1, Bool.true_and, Bool.and_eq_true, Bool.or_eq_true, Bool.or_eq_true, decide_eq_true_eq, decide_eq_true_eq]
    constructor
    · by_cases hz : i = 0
      · exact .inl hz
      · right
        rw [pg_low ha (by omega)]
        exact lt_of h (by omega) (by omega)
    · by_cases hl : a + g < L.length
      · exact .inr (lt_of h (by omega) hl)
      · left
        rw [low_out (by omega)]
        rfl
  have he : endOk (pgOf P j ((L.drop a).take g) (L.drop (a + g))) = true := by
    unfold endOk
    have hz := sum_small _ (pg_small (P := P) (j := j) h ha hg)
    have hsz : sizeP (pgOf P j ((L.drop a).take g) (L.drop (a + g))) = 7 + (pgOf P j ((L.drop a).take g) (L.drop (a + g))).high.size + ((pgOf P j ((L.drop a).take g) (L.drop (a + g))).seps.map fun s => 3 + s.size).sum := by
      unfold sizeP sizeTo
      rw [List.take_length]
    rw [pg_seps ha hg] at hz
    rw [hsz, pg_kids ha, pg_seps ha hg, pg_next]
    have h3 : (pgOf P j ((L.drop a).take g) (L.drop (a + g))).high.size ≤ 16 := by rw [pg_high]; exact low_size h _
    have h4 : (0 : Int) ≤ (if L.length ≤ a + g then 0 else nextOf P j) ∧ (if L.length ≤ a + g then 0 else nextOf P j) ≤ 1024 := by split <;> omega
    simp only [Bool.and_eq_true, decide_eq_true_eq]
    refine ⟨⟨⟨⟨by omega, h3⟩, h4.1⟩, h4.2⟩, by omega⟩
  rw [ho, hs, he]
  rfl
end

/-- The pages' numbers. -/
def pgs (b q : Nat) : List Int := (List.range q).map fun i => ((b + 3 * i : Nat) : Int)
theorem pgs_len (b q : Nat) : (pgs b q).length = q := by simp [pgs]
theorem pgs_at {b q i : Nat} (h : i < q) : (pgs b q)[i]? = some ((b + 3 * i : Nat) : Int) := by
  unfold pgs
  rw [List.getElem?_map, List.getElem?_range h]
  rfl
theorem pgs_succ (b q : Nat) : pgs b (q + 1) = pgs b q ++ [((b + 3 * q : Nat) : Int)] := by simp [pgs, List.range_succ]
theorem pgs_even {b q : Nat} (hb : b ≤ 255) (hq : q ≤ 60) : anyOdd (pgs b q) = false := by
  unfold anyOdd
  rw [List.any_eq_false]
  intro x hx
  unfold pgs at hx
  rw [List.mem_map] at hx
  obtain ⟨i, hi, rfl⟩ := hx
  rw [List.mem_range] at hi
  unfold pageB
  rw [decide_eq_true (show (0 : Int) ≤ ((b + 3 * i : Nat) : Int) by omega), decide_eq_true (show ((b + 3 * i : Nat) : Int) < 1024 by omega)]
  simp
theorem pgs_next {b q j : Nat} (hb : b ≤ 255) (hq : q ≤ 60) : 0 ≤ nextOf (pgs b q) j ∧ nextOf (pgs b q) j ≤ 1024 := by
  unfold nextOf
  by_cases h : j + 1 < q
  · rw [pgs_at h]
    simp only [Option.getD_some]
    omega
  · rw [List.getElem?_eq_none (by rw [pgs_len]; omega)]
    simp
theorem pgs_nx {b q j : Nat} (h : j + 1 < q) : nextOf (pgs b q) j = ((b + 3 * (j + 1) : Nat) : Int) + 1 := by
  unfold nextOf
  rw [pgs_at h]
  rfl
theorem can_whole {L : List Kid} {m b : Nat} (h : rightB L = true) (hm : 2 ≤ m ∧ m ≤ 13) (h60 : L.length ≤ 60) (hb : b ≤ 255) : canB L (m : Int) (pgs b (manyL L.length m)) = true := by
  have hp := right_parts h
  have hq := manyL_le (n := L.length) (m := m) (by omega)
  unfold canB
  rw [h, pgs_even hb (by omega), pgs_len]
  simp
  omega
/-- Where group j begins. -/
def atG (n m j : Nat) : Nat := ((groupsN n m).take j).sum
section
variable {n m j : Nat}
theorem atG_zero : atG n m 0 = 0 := by simp [atG]
theorem atG_succ (h : j < manyL n m) : atG n m (j + 1) = atG n m j + gN n m j := sum_next (groupsN_at h)
theorem atG_all (hn : 1 ≤ n) (hm : 1 ≤ m) : atG n m (manyL n m) = n := by
  unfold atG
  rw [List.take_of_length_le (by rw [groupsN_len]; omega)]
  exact groupsN_sum hn hm
theorem atG_le (hn : 1 ≤ n) (hm : 1 ≤ m) (h : j < manyL n m) : atG n m j + gN n m j ≤ n ∧ 1 ≤ gN n m j := by
  have h1 := at_before (groupsN_at h) (groupsN_pos hn hm)
  rw [groupsN_sum hn hm] at h1
  exact h1
theorem atG_lt (hn : 1 ≤ n) (hm : 1 ≤ m) {d : Nat} : ∀ i, i + 1 + d ≤ manyL n m → atG n m i < atG n m (i + 1 + d) := by
  induction d with
  | zero =>
    intro i hi
    have := atG_le hn hm (j := i) (by omega)
    rw [Nat.add_zero, atG_succ (by omega)]
    omega
  | succ d ih =>
    intro i hi
    have h1 := ih i (by omega)
    have h2 := atG_le hn hm (j := i + 1 + d) (by omega)
    rw [show i + 1 + (d + 1) = i + 1 + d + 1 by omega, atG_succ (by omega)]
    omega
end
section
variable {L : List Kid} {m b j : Nat}
theorem whole_pg (hj : j < manyL L.length m) (P : List Int) : (lvL P 0 (groupsN L.length m) L)[j]? = some (pgOf P j ((L.drop (atG L.length m j)).take (gN L.length m j)) (L.drop (atG L.length m j + gN L.length m j))) := by
  have := lvL_at P (groupsN L.length m) 0 L j _ (groupsN_at hj)
  rwa [Nat.zero_add] at this
theorem whole_up (hj : j < manyL L.length m) (P : List Int) : (upL P 0 (groupsN L.length m) L)[j]? = some (lowAt L (atG L.length m j), P[j]?.getD 0) := by
  have := upL_at P (groupsN L.length m) 0 L j (by rw [groupsN_len]; exact hj)
  rwa [Nat.zero_add] at this
theorem up_low (hj : j < manyL L.length m) (P : List Int) : lowAt (upL P 0 (groupsN L.length m) L) j = lowAt L (atG L.length m j) := by
  unfold lowAt
  rw [whole_up hj]
  rfl
theorem up_page (hj : j < manyL L.length m) (P : List Int) : pageAt (upL P 0 (groupsN L.length m) L) j = P[j]?.getD 0 := by
  unfold pageAt
  rw [whole_up hj]
  rfl
theorem up_right (h : rightB L = true) (hm : 2 ≤ m ∧ m ≤ 13) (h60 : L.length ≤ 60) (hb : b ≤ 255) : rightB (upL (pgs b (manyL L.length m)) 0 (groupsN L.length m) L) = true := by
  obtain ⟨h1, h2, h0, hp, hk⟩ := right_parts h
  have hq := manyL_le (n := L.length) (m := m) (by omega)
  have hq1 := manyL_pos (n := L.length) (m := m) h1 (by omega)
  rw [right_eq, upL_len, groupsN_len]
  simp only [Bool.and_eq_true, decide_eq_true_eq, List.all_eq_true, List.mem_range]
  refine ⟨⟨hq1, by omega⟩, fun i hi => ?_⟩
  unfold rokAt
  rw [up_page hi, pgs_at hi]
  have hpg : pageB ((b + 3 * i : Nat) : Int) = true := by
    unfold pageB
    rw [decide_eq_true (show (0 : Int) ≤ ((b + 3 * i : Nat) : Int) by omega), decide_eq_true (show ((b + 3 * i : Nat) : Int) < 1024 by omega)]
    rfl
  rw [Option.getD_some, hpg, Bool.true_and, up_low hi]
  by_cases hz : i = 0
  · subst hz
    rw [if_pos rfl, up_low hi, atG_zero, h0]
    rfl
  · have hb1 := atG_le h1 (by omega) hi
    have hlt := atG_lt h1 (show 1 ≤ m by omega) (d := 0) (i - 1) (by omega)
    rw [show i - 1 + 1 + 0 = i by omega] at hlt
    rw [if_neg hz, up_low (by omega), (hk _ (by omega) (by omega)).1, lt_of h hlt (by omega)]
    rfl
end
end Go.Proofs.Ytfoidiebdklggaa
