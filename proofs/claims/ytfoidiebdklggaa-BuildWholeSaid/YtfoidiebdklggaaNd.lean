/-
  What Need of package build does, by a contract.
-/
import Derived.Test.YtfoidiebdklggaaKd
import Derived.OwnWalk
open Go Go.RowKit
namespace Go.Proofs.Ytfoidiebdklggaa

/-- How many pages, how many levels, above n. -/
def needs (m : Nat) : Nat → Nat → Nat × Nat
  | 0, _ => (0, 0)
  | f + 1, n => if n ≤ 1 then (0, 0) else ((needs m f (manyL n m)).1 + manyL n m, (needs m f (manyL n m)).2 + 1)
theorem manyL_lt {n m : Nat} (hn : 2 ≤ n) (hm : 2 ≤ m) : manyL n m < n := by
  unfold manyL
  rw [Nat.div_lt_iff_lt_mul (by omega)]
  have : n + m < m * n + 1 := by
    obtain ⟨a, rfl⟩ : ∃ a, n = a + 2 := ⟨n - 2, by omega⟩
    obtain ⟨b, rfl⟩ : ∃ b, m = b + 2 := ⟨m - 2, by omega⟩
    rw [Nat.add_mul, Nat.mul_add, Nat.mul_add]
    have := Nat.zero_le (b * a)
    omega
  rw [Nat.mul_comm]
  omega
theorem needs_le (m : Nat) (hm : 1 ≤ m) : ∀ f n, (needs m f n).1 ≤ f * n ∧ (needs m f n).2 ≤ f := by
  intro f
  induction f with
  | zero => intro n; simp [needs]
  | succ f ih =>
    intro n
    rw [needs]
    split
    · exact ⟨Nat.zero_le _, Nat.zero_le _⟩
    · obtain ⟨h1, h2⟩ := ih (manyL n m)
      have h3 : manyL n m ≤ n := manyL_le hm
      have h4 := Nat.mul_le_mul_left f h3
      refine ⟨?_, by show _ + 1 ≤ _; omega⟩
      show (needs m f (manyL n m)).1 + manyL n m ≤ (f + 1) * n
      rw [Nat.add_mul]
      omega
theorem needs_step {m f n : Nat} (hn : 2 ≤ n) : needs m (f + 1) n = ((needs m f (manyL n m)).1 + manyL n m, (needs m f (manyL n m)).2 + 1) := by
  rw [needs, if_neg (by omega)]
theorem needs_one {m f : Nat} : needs m f 1 = (0, 0) := by
  cases f with
  | zero => rfl
  | succ f => rw [needs, if_pos (Nat.le_refl _)]

/-- What Need leaves. -/
def NdPost (W : World) (n m : Int) (e : Ending) (w : World) : Prop :=
  Below W.heap.size W w ∧ if 1 ≤ n ∧ n ≤ 1024 ∧ 2 ≤ m ∧ m ≤ 13 then e = .returned (.tuple #[.int .i64 ((needs m.toNat n.toNat n.toNat).1 : Nat), .int .i64 ((needs m.toNat n.toNat n.toNat).2 : Nat), .int .i64 0])
  else e = .returned (.tuple #[.int .i64 0, .int .i64 0, .int .i64 1])
theorem NdPost.get {W w : World} {n m : Nat} {e : Ending} (h : NdPost W (n : Int) (m : Int) e w) (hn : 1 ≤ n ∧ n ≤ 1024) (hm : 2 ≤ m ∧ m ≤ 13) : e = .returned (.tuple #[.int .i64 ((needs m n n).1 : Nat), .int .i64 ((needs m n n).2 : Nat), .int .i64 0]) ∧ Below W.heap.size W w := by
  unfold NdPost at h
  rw [if_pos (by omega), Int.toNat_natCast, Int.toNat_natCast] at h
  exact ⟨h.2, h.1⟩
theorem NdPost.no {W w : World} {n m : Int} {e : Ending} (h : NdPost W n m e w) (hn : ¬ (1 ≤ n ∧ n ≤ 1024 ∧ 2 ≤ m ∧ m ≤ 13)) : e = .returned (.tuple #[.int .i64 0, .int .i64 0, .int .i64 1]) ∧ Below W.heap.size W w := by
  unfold NdPost at h
  rw [if_neg hn] at h
  exact ⟨h.2, h.1⟩

set_option maxHeartbeats 2000000 in
set_option maxRecDepth 100000 in
theorem need_any {W : World} (n m : Int) : Calls Try.prog 23 #[.int .i64 n, .int .i64 m] W (NdPost W n m) := by
  by_cases h : 1 ≤ n ∧ n ≤ 1024 ∧ 2 ≤ m ∧ m ≤ 13
  · obtain ⟨h1, h2, h3, h4⟩ := h
    obtain ⟨a, rfl⟩ : ∃ a : Nat, n = a := ⟨n.toNat, by omega⟩
    obtain ⟨b, rfl⟩ : ∃ b : Nat, m = b := ⟨m.toNat, by omega⟩
    have hP : NdPost W (a : Int) (b : Int) = fun e w => Below W.heap.size W w ∧ e = .returned (.tuple #[.int .i64 ((needs b a a).1 : Nat), .int .i64 ((needs b a a).2 : Nat), .int .i64 0]) := by
      funext e w
      unfold NdPost
      rw [if_pos ⟨h1, h2, h3, h4⟩, Int.toNat_natCast, Int.toNat_natCast]
    rw [hP]
    clear hP
    obtain ⟨t1, t2⟩ := needs_le b (by omega) a a
    have t3 : a * a ≤ 1024 * 1024 := Nat.mul_le_mul (by omega) (by omega)
    have HT1 := hid (show (needs b a a).1 ≤ 1048576 by omega)
    have HT2 := hid (show (needs b a a).2 ≤ 1024 by omega)
    have hb1 : 2 ≤ b := by omega
    have hb2 : b ≤ 13 := by omega
    clear t1 t2 t3
    go_enter Try.func23, Try.ntmps23
    go_wp2
    go_loopg [0, 7, 8] a (fun g x p l wr => ∃ (y q r : Nat), x = .int .i64 y ∧ p = .int .i64 q ∧ l = .int .i64 r ∧ 1 ≤ y ∧ y ≤ g ∧ y ≤ 1024 ∧ q + (needs b g y).1 = (needs b a a).1 ∧ r + (needs b g y).2 = (needs b a a).2 ∧ Below W.heap.size W wr)
    case atStart => exact ⟨a, 0, 0, rfl, rfl, rfl, by omega, Nat.le_refl _, by omega, by omega, by omega, Below.refl _ _⟩
    case round =>
      obtain ⟨y, q, r, rfl, rfl, rfl, hy1, hyg, hy2, hq, hr, hb⟩ := hrel
      have HQ := hid hq
      have HR := hid hr
      have HB := hid hb
      have hqi : (q : Int) ≤ 1048576 := by have := HT1.out; omega
      have hri : (r : Int) ≤ 1024 := by have := HT2.out; omega
      have HYG := hid hyg
      clear hq hr hb hyg
      go_wp2_with fail
      refine (groups_any (y : Int) (b : Int)).mono ?_
      rintro e w2 hp
      obtain ⟨v, rfl, hv, hb⟩ := hp.get ⟨hy1, hy2⟩ ⟨hb1, hb2⟩
      obtain ⟨va, vc, rfl⟩ := hv.shape
      rw [groupsL_len]
      have HB2 := hid (HB.out.trans (hb.mono HB.out.size))
      clear hp hv hb
      by_cases h1y : y = 1
      · subst h1y
        rw [needs_one] at HQ HR
        have hqe : q = (needs b a a).1 := HQ.out
        have hre : r = (needs b a a).2 := HR.out
        go_wp2
        go_ret3
        exact ⟨HB2.out, by rw [← hqe, ← hre]; rfl⟩
      · have h1i : ¬ (y : Int) = 1 := by omega
        have hml := manyL_lt (n := y) (m := b) (by omega) hb1
        have hmp := manyL_pos (n := y) (m := b) hy1 (by omega)
        obtain ⟨g, hg⟩ : ∃ g, gk = g + 1 := ⟨gk - 1, by have := HYG.out; omega⟩
        rw [hg, needs_step (by omega)] at HQ HR
        have hq2 := HQ.out
        have hr2 := HR.out
        simp only at hq2 hr2
        have HQ2 := hid hq2
        have HR2 := hid hr2
        clear hq2 hr2 HQ HR h1y
        generalize manyL y b = z at *
        go_wp2
        have hgg := HYG.out
        go_roundg g
        case measure => omega
        case rel =>
          have h1 := HQ2.out
          have h2 := HR2.out
          exact ⟨z, q + z, r + 1, rfl, by go_num, by go_num, by omega, by omega, by omega, by omega, by omega, HB2.out⟩
  · have hP : NdPost W n m = fun e w => Below W.heap.size W w ∧ e = .returned (.tuple #[.int .i64 0, .int .i64 0, .int .i64 1]) := by
      funext e w
      unfold NdPost
      rw [if_neg h]
    rw [hP]
    clear hP
    have HN := hid h
    clear h
    go_enter Try.func23, Try.ntmps23
    go_wp2
    go_loopg [0, 7, 8] 1 (fun g x p l wr => x = .int .i64 n ∧ p = .int .i64 0 ∧ l = .int .i64 0 ∧ W = wr)
    case atStart => exact ⟨rfl, rfl, rfl, rfl⟩
    case round =>
      obtain ⟨rfl, rfl, rfl, rfl⟩ := hrel
      go_wp2_with fail
      refine (groups_any n m).mono ?_
      rintro e w2 hp
      obtain ⟨rfl, rfl⟩ := hp.no HN.out
      clear hp
      go_wp2
      go_ret3
      exact ⟨Below.refl _ _, rfl⟩
end Go.Proofs.Ytfoidiebdklggaa
