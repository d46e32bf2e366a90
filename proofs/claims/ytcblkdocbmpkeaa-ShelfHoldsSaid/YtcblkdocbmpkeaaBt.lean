/-
  What bit, has, Is, TakeAt, Give, Len, New of package bits do, by contracts.
-/
import Derived.Test.YtcblkdocbmpkeaaByt
import Derived.Test.YtcblkdocbmpkeaaChecked
import Derived.WalkKit
import Derived.WalkLawsBesides
import Derived.WalkSpells
import Derived.Deep.QuietTactic
import Derived.BigQuiet
import Derived.Deep.LoopGhost
import Derived.Deep.DeepCutAuto
import Derived.Deep.CutRange
import Derived.Deep.CutBlock
import Derived.Deep.RegionLaw
import Derived.Deep.RegionHeld3
import Derived.Deep.RegionWith
import Derived.Outline
open Go Go.RowKit
namespace Go.Proofs.Ytcblkdocbmpkeaa

/-- Block p is a set of pages: T tells which are taken; v is its bytes' slice. -/
structure Bt (w : World) (B p : Nat) (v : Value) (T : List Bool) : Prop where
  blk : Blk w p 79 #[v, .int .i64 T.length]
  row : Byts w B v (bytesOf T)
  len1 : 1 ≤ T.length
  len2 : T.length ≤ 1024
  base : B ≤ p
theorem Bt.keep {w w' : World} {B p : Nat} {v : Value} {T : List Bool} {S : Nat → Prop} (h : Bt w B p v T) (ho : Only S w w') (hp : ¬ S p) (hv : ∀ g, v.ownBlock = some g → ¬ S g) : Bt w' B p v T :=
  ⟨ho.blk h.blk hp, h.row.keep ho hv, h.len1, h.len2, h.base⟩
theorem Bt.drewN {w : World} {B p : Nat} {v : Value} {T : List Bool} (h : Bt w B p v T) (n : Nat) : Bt (w.drewN n) B p v T := ⟨h.blk, h.row, h.len1, h.len2, h.base⟩
theorem Bt.alloc {w : World} {B p : Nat} {v : Value} {T : List Bool} (h : Bt w B p v T) (o : Obj) : Bt (w.alloc o) B p v T := ⟨h.blk.alloc o, h.row.alloc o, h.len1, h.len2, h.base⟩
theorem Bt.apart {w : World} {B p : Nat} {v : Value} {T : List Bool} (h : Bt w B p v T) {g : Nat} (e : v.ownBlock = some g) : g ≠ p := by
  obtain ⟨_, cur, hc⟩ := h.row.block e
  exact hc.ne_ h.blk (by decide)
theorem Bt.form {w : World} {B p : Nat} {v : Value} {T : List Bool} (h : Bt w B p v T) : ∃ g cap, v = .slice (some ⟨g, 0, none⟩) ((T.length + 7) / 8) cap ∧ B ≤ g ∧ g < w.heap.size := by
  have := h.len1
  have := h.row.form (by rw [bytesOf_len]; omega)
  rwa [bytesOf_len] at this

/-- Is page i taken? -/
def isB (T : List Bool) (i : Int) : Bool := decide (0 ≤ i) && decide (i < T.length) && tk T i.toNat
def hasB (T : List Bool) (i : Int) : Bool := decide (0 ≤ i) && decide (i < T.length)

theorem index8 (i : Nat) (w : World) : (Instr.index 87 (.agg #[.int .u8 1, .int .u8 2, .int .u8 4, .int .u8 8, .int .u8 16, .int .u8 32, .int .u8 64, .int .u8 128]) (.int .i64 ((i : Int) % 8))).run Try.prog w = .ok (.int .u8 ((2 ^ (i % 8) : Nat) : Int)) w := by
  have hund : Try.prog.underlying 87 = some (.array 8 5) := by kernel_rfl
  obtain ⟨i0, hi, hz0, hz1, hz2⟩ := info_parts u8_info
  have hm : (i : Int) % 8 = ((i % 8 : Nat) : Int) := by omega
  rw [hm]
  rcases eight (show i % 8 < 8 from Nat.mod_lt _ (by omega)) with h | h | h | h | h | h | h | h
  all_goals
    rw [h]
    simp [Instr.index, asIntOf, run_underlying hund, sizeOf, typeInfo, hi, hz1, part]

theorem bit_any {W : World} (i : Nat) : Calls Try.prog 49 #[.int .i64 (i : Int)] W fun e W' => e = .returned (.int .u8 ((2 ^ (i % 8) : Nat) : Int)) ∧ W' = W := by
  have hm : (i : Int).tmod 8 = (i : Int) % 8 := by rw [Int.tmod_eq_emod_of_nonneg (by omega)]
  have hix := index8 i
  generalize ((2 ^ (i % 8) : Nat) : Int) = z at *
  go_enter Try.func49, Try.ntmps49
  go_wp2
  go_ret
  exact ⟨rfl, rfl⟩

theorem has_any {W : World} {B p : Nat} {v : Value} {T : List Bool} (h : Bt W B p v T) (i : Int) :
    Calls Try.prog 46 #[.pointer (some ⟨p, 0, none⟩), .int .i64 i] W fun e W' => e = .returned (.bool (hasB T i)) ∧ W' = W := by
  have h1 := h.blk.cell 1
  simp only [List.getElem?_toArray, List.getElem?_cons_zero, List.getElem?_cons_succ] at h1
  clear h
  unfold hasB
  by_cases hi : 0 ≤ i
  · rw [decide_eq_true hi, Bool.true_and]
    go_enter Try.func46, Try.ntmps46
    go_wp2
    go_ret
    exact ⟨rfl, rfl⟩
  · rw [decide_eq_false hi, Bool.false_and]
    go_enter Try.func46, Try.ntmps46
    go_wp2
    go_ret
    exact ⟨rfl, rfl⟩

theorem len_any {W : World} {B p : Nat} {v : Value} {T : List Bool} (h : Bt W B p v T) :
    Calls Try.prog 32 #[.pointer (some ⟨p, 0, none⟩)] W fun e W' => e = .returned (.int .i64 T.length) ∧ W' = W := by
  have h1 := h.blk.cell 1
  simp only [List.getElem?_toArray, List.getElem?_cons_zero, List.getElem?_cons_succ] at h1
  clear h
  go_enter Try.func32, Try.ntmps32
  go_wp2
  go_ret
  exact ⟨rfl, rfl⟩

theorem is_any {W : World} {B p : Nat} {v : Value} {T : List Bool} (h : Bt W B p v T) (i : Int) :
    Calls Try.prog 48 #[.pointer (some ⟨p, 0, none⟩), .int .i64 i] W fun e W' => e = .returned (.bool (isB T i)) ∧ ∃ m, W' = W.drewN m := by
  have hh := fun n => hid (has_any (h.drewN n) i)
  obtain ⟨g, cap, rfl, hg, hgs⟩ := h.form
  have h0 := h.blk.cell 0
  simp only [List.getElem?_toArray, List.getElem?_cons_zero] at h0
  unfold isB
  by_cases hi : 0 ≤ i
  · by_cases hl : i < T.length
    · obtain ⟨k, rfl⟩ : ∃ k : Nat, i = k := ⟨i.toNat, by omega⟩
      have hk : k < T.length := by omega
      have hb : hasB T (k : Int) = true := by simp [hasB]; omega
      have hc := h.row.cell (bytesOf_at hk)
      have hq : (k : Int).tdiv 8 = ((k / 8 : Nat) : Int) := by rw [Int.tdiv_eq_ediv_of_nonneg (by omega)]; omega
      have hand : bits .and .u8 ((byteOf T (k / 8) : Nat) : Int) ((2 ^ (k % 8) : Nat) : Int) = if tk T k then ((2 ^ (k % 8) : Nat) : Int) else 0 := by
        rw [u8_and_nat _ _ (byteOf_lt T _) pow_lt, byteOf_and]
        split <;> rfl
      have hl2 := h.len2
      have hbit := fun w => hid (bit_any (W := w) k)
      rw [hb] at hh
      rw [decide_eq_true hi, decide_eq_true hl, Bool.true_and, Bool.true_and, Int.toNat_natCast]
      cases ht : tk T k with
      | true =>
        rw [ht, if_pos rfl] at hand
        have hne : ¬ ((2 ^ (k % 8) : Nat) : Int) = 0 := by have := pow_pos (i := k); omega
        generalize ((2 ^ (k % 8) : Nat) : Int) = z at *
        generalize ((byteOf T (k / 8) : Nat) : Int) = y at *
        clear h
        go_enter Try.func48, Try.ntmps48
        go_wp2
        go_quiet (first
          | (go_at_call 46; exact Calls.quiet_of_same (hh _).out)
          | (go_at_call 49; exact Calls.quiet_of_same (hbit _).out))
        have hzz : (z != 0) = true := by simp [hne]
        go_wp2
        go_ret
        exact ⟨by show Ending.returned (Value.bool (z != 0)) = _; rw [hzz], _, rfl⟩
      | false =>
        rw [ht, if_neg (by simp)] at hand
        generalize ((2 ^ (k % 8) : Nat) : Int) = z at *
        generalize ((byteOf T (k / 8) : Nat) : Int) = y at *
        clear h
        go_enter Try.func48, Try.ntmps48
        go_wp2
        go_quiet (first
          | (go_at_call 46; exact Calls.quiet_of_same (hh _).out)
          | (go_at_call 49; exact Calls.quiet_of_same (hbit _).out))
        go_wp2
        go_ret
        exact ⟨rfl, _, rfl⟩
    · have hb : hasB T i = false := by simp [hasB]; omega
      rw [hb] at hh
      rw [decide_eq_false hl, Bool.and_false, Bool.false_and]
      clear h
      go_enter Try.func48, Try.ntmps48
      go_wp2
      go_quiet (first
        | (go_at_call 46; exact Calls.quiet_of_same (hh _).out))
      go_wp2
      go_ret
      exact ⟨rfl, _, rfl⟩
  · have hb : hasB T i = false := by simp [hasB, hi]
    rw [hb] at hh
    rw [decide_eq_false hi, Bool.false_and, Bool.false_and]
    clear h
    go_enter Try.func48, Try.ntmps48
    go_wp2
    go_quiet (first
      | (go_at_call 46; exact Calls.quiet_of_same (hh _).out))
    go_wp2
    go_ret
    exact ⟨rfl, _, rfl⟩
end Go.Proofs.Ytcblkdocbmpkeaa
