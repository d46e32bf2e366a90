/-
  What page, Groups, Least of package build do, by contracts.
-/
import Derived.Test.YtfoidiebdklggaaRi
import Derived.Test.YtfoidiebdklggaaInts
open Go Go.RowKit
namespace Go.Proofs.Ytfoidiebdklggaa

/-- Is a number one of a page? -/
def pageB (n : Int) : Bool := decide (0 ≤ n) && decide (n < 1024)
theorem page_any {W : World} (n : Int) : Calls Try.prog 34 #[.int .i64 n] W fun e W' => e = .returned (.bool (pageB n)) ∧ W' = W := by
  unfold pageB
  by_cases h : 0 ≤ n
  · rw [decide_eq_true h, Bool.true_and]
    go_enter Try.func34, Try.ntmps34
    go_wp2
    go_ret
    exact ⟨rfl, rfl⟩
  · rw [decide_eq_false h, Bool.false_and]
    go_enter Try.func34, Try.ntmps34
    go_wp2
    go_ret
    exact ⟨rfl, rfl⟩

/-- How many groups, and how many each has. -/
def manyL (n m : Nat) : Nat := (n + m - 1) / m
def groupAt (n k i : Nat) : Int := ((n / k + (if i < n % k then 1 else 0) : Nat) : Int)
def groupsL (n m : Nat) : List Int := (List.range (manyL n m)).map (groupAt n (manyL n m))
theorem groupsL_len (n m : Nat) : (groupsL n m).length = manyL n m := by simp [groupsL]
theorem manyL_le {n m : Nat} (hm : 1 ≤ m) : manyL n m ≤ n := by
  unfold manyL
  rcases Nat.eq_zero_or_pos n with h | h
  · subst h
    rw [Nat.div_eq_of_lt (by omega)]
    exact Nat.le_refl _
  · refine Nat.div_le_of_le_mul ?_
    have : n + m ≤ m * n + 1 := by
      obtain ⟨a, rfl⟩ : ∃ a, n = a + 1 := ⟨n - 1, by omega⟩
      obtain ⟨b, rfl⟩ : ∃ b, m = b + 1 := ⟨m - 1, by omega⟩
      rw [Nat.add_mul, Nat.mul_add]
      have := Nat.zero_le (b * a)
      omega
    omega
theorem manyL_pos {n m : Nat} (hn : 1 ≤ n) (hm : 1 ≤ m) : 1 ≤ manyL n m := by
  unfold manyL
  exact Nat.div_pos (by omega) (by omega)

/-- What Groups leaves. -/
def GrPost (W : World) (n m : Int) (e : Ending) (w : World) : Prop :=
  if 1 ≤ n ∧ n ≤ 1024 ∧ 2 ≤ m ∧ m ≤ 13 then ∃ v, e = .returned (.tuple #[v, .int .i64 0]) ∧ Ints w W.heap.size v (groupsL n.toNat m.toNat) ∧ Below W.heap.size W w
  else e = .returned (.tuple #[.slice none 0 0, .int .i64 1]) ∧ w = W
theorem GrPost.get {W w : World} {n m : Nat} {e : Ending} (h : GrPost W (n : Int) (m : Int) e w) (hn : 1 ≤ n ∧ n ≤ 1024) (hm : 2 ≤ m ∧ m ≤ 13) : ∃ v, e = .returned (.tuple #[v, .int .i64 0]) ∧ Ints w W.heap.size v (groupsL n m) ∧ Below W.heap.size W w := by
  unfold GrPost at h
  rw [if_pos (by omega), Int.toNat_natCast, Int.toNat_natCast] at h
  exact h
theorem GrPost.no {W w : World} {n m : Int} {e : Ending} (h : GrPost W n m e w) (hn : ¬ (1 ≤ n ∧ n ≤ 1024 ∧ 2 ≤ m ∧ m ≤ 13)) : e = .returned (.tuple #[.slice none 0 0, .int .i64 1]) ∧ w = W := by
  unfold GrPost at h
  rw [if_neg hn] at h
  exact h

set_option maxHeartbeats 2000000 in
set_option maxRecDepth 100000 in
theorem groups_any {W : World} (n m : Int) : Calls Try.prog 21 #[.int .i64 n, .int .i64 m] W (GrPost W n m) := by
  by_cases h : 1 ≤ n ∧ n ≤ 1024 ∧ 2 ≤ m ∧ m ≤ 13
  · obtain ⟨h1, h2, h3, h4⟩ := h
    obtain ⟨a, rfl⟩ : ∃ a : Nat, n = a := ⟨n.toNat, by omega⟩
    obtain ⟨b, rfl⟩ : ∃ b : Nat, m = b := ⟨m.toNat, by omega⟩
    have hP : GrPost W (a : Int) (b : Int) = fun e w => ∃ v, e = .returned (.tuple #[v, .int .i64 0]) ∧ Ints w W.heap.size v (groupsL a b) ∧ Below W.heap.size W w := by
      funext e w
      unfold GrPost
      rw [if_pos ⟨h1, h2, h3, h4⟩, Int.toNat_natCast, Int.toNat_natCast]
    rw [hP]
    have hk1 : 1 ≤ manyL a b := manyL_pos (by omega) (by omega)
    have hk2 : manyL a b ≤ a := manyL_le (by omega)
    have hkd : ((a : Int) + (b : Int) - 1).tdiv (b : Int) = ((manyL a b : Nat) : Int) := by
      rw [Int.tdiv_eq_ediv_of_nonneg (by omega)]
      unfold manyL
      rw [Int.natCast_ediv]
      congr 1
      omega
    have hkd2 : ((a : Int) + (b : Int) - 1) / (b : Int) = ((manyL a b : Nat) : Int) := by
      unfold manyL
      rw [Int.natCast_ediv]
      congr 1
      omega
    have HG := hid (show groupsL a b = (List.range (manyL a b)).map (groupAt a (manyL a b)) from rfl)
    rw [HG.out]
    clear hP HG
    generalize manyL a b = k at *
    obtain ⟨i0, hi, hz0, hz1, hz2⟩ := info_parts int_info
    have hmk := run_makeSlice W 23 3 i0 (.int .i64 0) (by kernel_rfl) hi hz0 .i64 .i64 (k : Int) (k : Int) (by omega) (Int.le_refl _) (by rw [hz1]; simp; omega) (by rw [hz2]; omega) (by omega)
    have hrow := World.ownsRow_lit (base := W.heap.size) (e := 3) (size := 1) W (madeCells #[.int .i64 0] k) k (Nat.le_refl _) (by unfold maxLen; omega) (by rw [size_madeCells]; omega)
    have hby : Ints (W.alloc (.cells (madeCells #[.int .i64 0] k) 3)) W.heap.size (.slice (some ⟨W.heap.size, 0, none⟩) k k) (List.replicate k 0) := by
      unfold Ints
      rw [toList_madeCells_one] at hrow
      simpa using hrow
    rw [hz1] at hmk
    simp only [Int.toNat_natCast, Nat.mul_one, Value.cells] at hmk
    have HBY := hid hby
    have HBW := hid ((Below.refl W.heap.size W).alloc (Nat.le_refl _) (.cells (madeCells #[.int .i64 0] k) 3))
    have hq1 : (a : Int).tdiv (k : Int) = ((a / k : Nat) : Int) := by rw [Int.tdiv_eq_ediv_of_nonneg (by omega)]; rfl
    have hq2 : (a : Int) / (k : Int) = ((a / k : Nat) : Int) := rfl
    have hr1 : (a : Int).tmod (k : Int) = ((a % k : Nat) : Int) := by rw [Int.tmod_eq_emod_of_nonneg (by omega)]; rfl
    have hr2 : (a : Int) % (k : Int) = ((a % k : Nat) : Int) := rfl
    have hqa : a / k ≤ a := Nat.div_le_self _ _
    have hra : a % k ≤ a := Nat.mod_le _ _
    have hki : ¬ (k : Int) = 0 := by omega
    have hbi : ¬ (b : Int) = 0 := by omega
    have HQ := hid (show ∀ i, groupAt a k i = ((a / k + (if i < a % k then 1 else 0) : Nat) : Int) from fun i => rfl)
    clear hrow hby
    generalize groupAt a k = f at *
    generalize a / k = q at *
    generalize a % k = r at *
    generalize W.alloc (.cells (madeCells #[.int .i64 0] k) 3) = W1 at *
    go_enter Try.func21, Try.ntmps21
    go_wp2
    go_loopg [33] k (fun g i wr => ∃ (j : Nat) (L : List Int), i = .int .i64 j ∧ g + j = k ∧ Ints wr W.heap.size (.slice (some ⟨W.heap.size, 0, none⟩) k k) L ∧ L.length = k ∧ (∀ x, x < j → L[x]? = some (f x)) ∧ Below W.heap.size W wr)
    case atStart => exact ⟨0, _, rfl, rfl, HBY.out, by simp, fun x h => by omega, HBW.out⟩
    case round =>
      obtain ⟨j, L, rfl, hgj, hL, hlen, hf, hb⟩ := hrel
      have HG := hid hgj
      have HL := hid hL
      have HN := hid hlen
      have HF := hid hf
      have HB := hid hb
      have hjk : j ≤ k := by omega
      clear hgj hL hlen hf hb
      by_cases hj : j < k
      · have hz := HL.out.frozen j
        have hs1 := hid (HL.out.store j (q : Int))
        have hL1 : j < L.length := by rw [HN.out]; exact hj
        have hc0 := HL.out.cell (List.getElem?_eq_getElem hL1)
        have hc1 := hs1.out.cell (i := j) (d := (q : Int)) (by simp [hL1])
        have hz1 := hs1.out.frozen j
        have hs2 := hid (hs1.out.store j ((q : Int) + 1))
        have ho1 := hid (HB.out.setCell (p := ⟨W.heap.size, j, none⟩) (Nat.le_refl _) (.int .i64 (q : Int)))
        have ho2 := hid (ho1.out.setCell (p := ⟨W.heap.size, j, none⟩) (Nat.le_refl _) (.int .i64 ((q : Int) + 1)))
        have hji : (j : Int) < (k : Int) := by omega
        by_cases hr : j < r
        · have hri : (j : Int) < (r : Int) := by omega
          have HJ := hid hj
          clear hj
          go_wp2
          have hg := HG.out
          go_roundg (gk - 1)
          case measure => omega
          case rel =>
            refine ⟨j + 1, _, by go_num, by omega, hs2.out, by simp [HN.out], fun x hx => ?_, ho2.out⟩
            by_cases hxj : x = j
            · subst hxj
              rw [HQ.out]
              simp [hL1, hr]
            · rw [List.getElem?_set_ne (by omega), List.getElem?_set_ne (by omega)]
              exact HF.out x (by omega)
        · have hri : ¬ (j : Int) < (r : Int) := by omega
          have HJ := hid hj
          clear hj
          go_wp2
          have hg := HG.out
          go_roundg (gk - 1)
          case measure => omega
          case rel =>
            refine ⟨j + 1, _, by go_num, by omega, hs1.out, by simp [HN.out], fun x hx => ?_, ho1.out⟩
            by_cases hxj : x = j
            · subst hxj
              rw [HQ.out]
              simp [hL1, hr]
            · rw [List.getElem?_set_ne (by omega)]
              exact HF.out x (by omega)
      · have hji : ¬ (j : Int) < (k : Int) := by omega
        go_wp2
        go_ret2
        refine ⟨_, rfl, ?_, HB.out⟩
        have : (List.range k).map f = L := by
          apply List.ext_getElem?
          intro x
          rcases Nat.lt_or_ge x k with hx | hx
          · rw [List.getElem?_map, List.getElem?_range hx, HF.out x (by omega)]
            rfl
          · rw [List.getElem?_eq_none (by simpa using hx), List.getElem?_eq_none (by rw [HN.out]; exact hx)]
        rw [this]
        exact HL.out
  · have hP : GrPost W n m = fun e w => e = .returned (.tuple #[.slice none 0 0, .int .i64 1]) ∧ w = W := by
      funext e w
      unfold GrPost
      rw [if_neg h]
    rw [hP]
    clear hP
    rcases (show n < 1 ∨ (1 ≤ n ∧ 1024 < n) ∨ (1 ≤ n ∧ n ≤ 1024 ∧ m < 2) ∨ (1 ≤ n ∧ n ≤ 1024 ∧ 2 ≤ m ∧ 13 < m) by omega) with h1 | ⟨h1, h2⟩ | ⟨h1, h2, h3⟩ | ⟨h1, h2, h3, h4⟩
    all_goals
      clear h
      go_enter Try.func21, Try.ntmps21
      go_wp2
      go_ret2
      exact ⟨rfl, rfl⟩
end Go.Proofs.Ytfoidiebdklggaa
