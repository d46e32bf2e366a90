/-
  What TakeAt, Give, New of package bits do, by contracts.
-/
import Derived.Test.YtcblkdocbmpkeaaBt
open Go Go.RowKit
namespace Go.Proofs.Ytcblkdocbmpkeaa

def takeE (T : List Bool) (i : Int) : Int := if hasB T i then (if isB T i then 8 else 0) else 1
def takeT (T : List Bool) (i : Int) : List Bool := if hasB T i && !isB T i then T.set i.toNat true else T
def giveE (T : List Bool) (i : Int) : Int := if hasB T i then (if isB T i then 0 else 7) else 1
def giveT (T : List Bool) (i : Int) : List Bool := if isB T i then T.set i.toNat false else T
theorem isB_nat {T : List Bool} {k : Nat} (h : k < T.length) : isB T (k : Int) = tk T k := by simp [isB]; omega
theorem hasB_nat {T : List Bool} {k : Nat} (h : k < T.length) : hasB T (k : Int) = true := by simp [hasB]; omega

theorem Bt.stored {w : World} {B p g cap n : Nat} {T T' : List Bool} (h : Bt w B p (.slice (some ⟨g, 0, none⟩) n cap) T) {i x : Nat} (hT : bytesOf T' = (bytesOf T).set i x) (hl : T'.length = T.length) :
    Bt (w.setCell ⟨g, i, none⟩ (.int .u8 (x : Int))) B p (.slice (some ⟨g, 0, none⟩) n cap) T' := by
  refine ⟨?_, by rw [hT]; exact h.row.store i x, by rw [hl]; exact h.len1, by rw [hl]; exact h.len2, h.base⟩
  rw [hl]
  exact h.blk.far (fun e => h.apart (g := g) rfl e.symm) _

theorem only_own (w : World) (g n cap m j : Nat) {u : Value} : Only (fun k => (Value.slice (some ⟨g, 0, none⟩) n cap).ownBlock = some k) w ((w.drewN m).setCell ⟨g, j, none⟩ u) := by
  refine Only.setCell ((Only.refl _ _).drewN _) (.inl ?_) _
  rfl

set_option maxHeartbeats 800000 in
theorem takeAt_any {W : World} {B p : Nat} {v : Value} {T : List Bool} (h : Bt W B p v T) (i : Int) :
    Calls Try.prog 30 #[.pointer (some ⟨p, 0, none⟩), .int .i64 i] W fun e W' => e = .returned (.int .i64 (takeE T i)) ∧ Bt W' B p v (takeT T i) ∧ Only (fun k => v.ownBlock = some k) W W' := by
  have H := hid h
  have hh := hid (has_any h i)
  have hi' := hid (is_any h i)
  obtain ⟨g, cap, rfl, hg, hgs⟩ := h.form
  have h0 := h.blk.cell 0
  simp only [List.getElem?_toArray, List.getElem?_cons_zero] at h0
  have hl2 := h.len2
  unfold takeE takeT
  cases hb : hasB T i with
  | false =>
    rw [hb] at hh
    simp only [Bool.false_eq_true, if_false, Bool.false_and]
    clear h
    go_enter Try.func30, Try.ntmps30
    go_wp2_with (go_at_call 46; ((with_reducible refine hh.out.mono ?_)); rintro e w' ⟨rfl, rfl⟩)
    go_ret
    exact ⟨rfl, H.out, Only.refl _ _⟩
  | true =>
    rw [hb] at hh
    have hb2 := hb
    simp only [hasB, Bool.and_eq_true, decide_eq_true_eq] at hb2
    obtain ⟨hi0, hi1⟩ := hb2
    obtain ⟨k, rfl⟩ : ∃ k : Nat, i = k := ⟨i.toNat, by omega⟩
    have hk : k < T.length := by omega
    cases ht : isB T (k : Int) with
    | true =>
      rw [ht] at hi'
      simp only [if_true, Bool.not_true, Bool.and_false, Bool.false_eq_true, if_false]
      clear h
      go_enter Try.func30, Try.ntmps30
      go_wp2_with (first
        | (go_at_call 46; ((with_reducible refine hh.out.mono ?_)); rintro e w' ⟨rfl, rfl⟩)
        | (go_at_call 48; ((with_reducible refine hi'.out.mono ?_)); rintro e w' ⟨rfl, m, rfl⟩))
      go_ret
      exact ⟨rfl, H.out.drewN _, (Only.refl _ _).drewN _⟩
    | false =>
      rw [ht] at hi'
      simp only [if_true, Bool.not_false, Bool.and_true, Int.toNat_natCast, Bool.false_eq_true, if_false]
      have hc := h.row.cell (bytesOf_at hk)
      have hf := h.row.frozen (k / 8)
      have hq : (k : Int).tdiv 8 = ((k / 8 : Nat) : Int) := by rw [Int.tdiv_eq_ediv_of_nonneg (by omega)]; omega
      have hor : bits .or .u8 ((byteOf T (k / 8) : Nat) : Int) ((2 ^ (k % 8) : Nat) : Int) = ((byteOf T (k / 8) ||| 2 ^ (k % 8) : Nat) : Int) := u8_or_nat _ _ (byteOf_lt T _) pow_lt
      have hq2 : (k : Int) / 8 = ((k / 8 : Nat) : Int) := by omega
      have hx1 : (0 : Int) ≤ ((k / 8 : Nat) : Int) := by omega
      have hx2 : ((k / 8 : Nat) : Int) < (((T.length + 7) / 8 : Nat) : Int) := by omega
      have hx3 : k / 8 < (T.length + 7) / 8 := by omega
      have hN : (T.length + 7) / 8 ≤ 200 := by omega
      have h00 : ¬ g = p := h.apart rfl
      have hst := fun m => hid ((h.drewN m).stored (bytesOf_or hk) (by simp))
      have hbit := fun w => hid (bit_any (W := w) k)
      generalize ((2 ^ (k % 8) : Nat) : Int) = z at *
      generalize ((byteOf T (k / 8) ||| 2 ^ (k % 8) : Nat) : Int) = y' at *
      generalize ((byteOf T (k / 8) : Nat) : Int) = y at *
      generalize (T.length + 7) / 8 = N at *
      generalize k / 8 = j at *
      have hw2 : IntKind.i64.wrap (j : Int) = (j : Int) := by rw [IntKind.wrap_i64]; omega
      clear h hb
      go_enter Try.func30, Try.ntmps30
      go_wp2_with (first
        | (go_at_call 46; ((with_reducible refine hh.out.mono ?_)); rintro e w' ⟨rfl, rfl⟩)
        | (go_at_call 48; ((with_reducible refine hi'.out.mono ?_)); rintro e w' ⟨rfl, m, rfl⟩))
      go_region_with (go_at_call 49; ((with_reducible refine (hbit _).out.mono ?_)); rintro e w' ⟨rfl, rfl⟩)
      all_goals
        go_wp2
        go_ret
        exact ⟨rfl, (hst _).out, only_own _ _ _ _ _ _⟩
set_option maxHeartbeats 800000 in
theorem give_any {W : World} {B p : Nat} {v : Value} {T : List Bool} (h : Bt W B p v T) (i : Int) :
    Calls Try.prog 31 #[.pointer (some ⟨p, 0, none⟩), .int .i64 i] W fun e W' => e = .returned (.int .i64 (giveE T i)) ∧ Bt W' B p v (giveT T i) ∧ Only (fun k => v.ownBlock = some k) W W' := by
  have H := hid h
  have hh := hid (has_any h i)
  have hi' := hid (is_any h i)
  obtain ⟨g, cap, rfl, hg, hgs⟩ := h.form
  have h0 := h.blk.cell 0
  simp only [List.getElem?_toArray, List.getElem?_cons_zero] at h0
  have hl2 := h.len2
  unfold giveE giveT
  cases hb : hasB T i with
  | false =>
    rw [hb] at hh
    have hf0 : isB T i = false := by
      unfold hasB at hb
      unfold isB
      rw [hb]
      rfl
    rw [hf0]
    simp only [Bool.false_eq_true, if_false]
    clear h
    go_enter Try.func31, Try.ntmps31
    go_wp2_with (go_at_call 46; ((with_reducible refine hh.out.mono ?_)); rintro e w' ⟨rfl, rfl⟩)
    go_ret
    exact ⟨rfl, H.out, Only.refl _ _⟩
  | true =>
    rw [hb] at hh
    have hb2 := hb
    simp only [hasB, Bool.and_eq_true, decide_eq_true_eq] at hb2
    obtain ⟨hi0, hi1⟩ := hb2
    obtain ⟨k, rfl⟩ : ∃ k : Nat, i = k := ⟨i.toNat, by omega⟩
    have hk : k < T.length := by omega
    cases ht : isB T (k : Int) with
    | false =>
      rw [ht] at hi'
      simp only [if_true, Bool.false_eq_true, if_false]
      clear h
      go_enter Try.func31, Try.ntmps31
      go_wp2_with (first
        | (go_at_call 46; ((with_reducible refine hh.out.mono ?_)); rintro e w' ⟨rfl, rfl⟩)
        | (go_at_call 48; ((with_reducible refine hi'.out.mono ?_)); rintro e w' ⟨rfl, m, rfl⟩))
      go_ret
      exact ⟨rfl, H.out.drewN _, (Only.refl _ _).drewN _⟩
    | true =>
      rw [ht] at hi'
      simp only [if_true, Int.toNat_natCast]
      have hc := h.row.cell (bytesOf_at hk)
      have hf := h.row.frozen (k / 8)
      have hq : (k : Int).tdiv 8 = ((k / 8 : Nat) : Int) := by rw [Int.tdiv_eq_ediv_of_nonneg (by omega)]; omega
      have hor : bits .andNot .u8 ((byteOf T (k / 8) : Nat) : Int) ((2 ^ (k % 8) : Nat) : Int) = ((byteOf T (k / 8) &&& (255 - 2 ^ (k % 8)) : Nat) : Int) := u8_andNot_nat _ _ (byteOf_lt T _) pow_lt
      have hq2 : (k : Int) / 8 = ((k / 8 : Nat) : Int) := by omega
      have hx1 : (0 : Int) ≤ ((k / 8 : Nat) : Int) := by omega
      have hx2 : ((k / 8 : Nat) : Int) < (((T.length + 7) / 8 : Nat) : Int) := by omega
      have hx3 : k / 8 < (T.length + 7) / 8 := by omega
      have hN : (T.length + 7) / 8 ≤ 200 := by omega
      have h00 : ¬ g = p := h.apart rfl
      have hst := fun m => hid ((h.drewN m).stored (bytesOf_andNot hk) (by simp))
      have hbit := fun w => hid (bit_any (W := w) k)
      generalize ((2 ^ (k % 8) : Nat) : Int) = z at *
      generalize ((byteOf T (k / 8) &&& (255 - 2 ^ (k % 8)) : Nat) : Int) = y' at *
      generalize ((byteOf T (k / 8) : Nat) : Int) = y at *
      generalize (T.length + 7) / 8 = N at *
      generalize k / 8 = j at *
      have hw2 : IntKind.i64.wrap (j : Int) = (j : Int) := by rw [IntKind.wrap_i64]; omega
      clear h hb
      go_enter Try.func31, Try.ntmps31
      go_wp2_with (first
        | (go_at_call 46; ((with_reducible refine hh.out.mono ?_)); rintro e w' ⟨rfl, rfl⟩)
        | (go_at_call 48; ((with_reducible refine hi'.out.mono ?_)); rintro e w' ⟨rfl, m, rfl⟩))
      go_region_with (go_at_call 49; ((with_reducible refine (hbit _).out.mono ?_)); rintro e w' ⟨rfl, rfl⟩)
      all_goals
        go_wp2
        go_ret
        exact ⟨rfl, (hst _).out, only_own _ _ _ _ _ _⟩

theorem bytes_zero (n : Nat) : bytesOf (List.replicate n false) = List.replicate ((n + 7) / 8) 0 := by
  unfold bytesOf
  rw [List.length_replicate]
  apply List.ext_getElem?
  intro j
  rw [List.getElem?_map, List.getElem?_replicate]
  rcases Nat.lt_or_ge j ((n + 7) / 8) with hj | hj
  · rw [List.getElem?_range hj, if_pos hj]
    have hz : ∀ m, tk (List.replicate n false) m = false := fun m => by
      unfold tk
      rw [List.getElem?_replicate]
      split <;> rfl
    simp [byteOf, valF_B, hz, valB]
  · rw [List.getElem?_eq_none (by simpa using hj), if_neg (by omega)]
    rfl

/-- What New leaves. -/
def NewPost (W : World) (n : Int) (e : Ending) (w : World) : Prop :=
  if 1 ≤ n ∧ n ≤ 1024 then ∃ p v, e = .returned (.tuple #[.pointer (some ⟨p, 0, none⟩), .int .i64 0]) ∧ Bt w W.heap.size p v (List.replicate n.toNat false) ∧ Below W.heap.size W w
  else e = .returned (.tuple #[.pointer none, .int .i64 1]) ∧ Below W.heap.size W w

theorem new_any {W : World} (n : Int) : Calls Try.prog 28 #[.int .i64 n] W (NewPost W n) := by
  by_cases h : 1 ≤ n ∧ n ≤ 1024
  · obtain ⟨m, rfl⟩ : ∃ m : Nat, n = m := ⟨n.toNat, by omega⟩
    have hp : NewPost W (m : Int) = fun e w => ∃ p v, e = .returned (.tuple #[.pointer (some ⟨p, 0, none⟩), .int .i64 0]) ∧ Bt w W.heap.size p v (List.replicate m false) ∧ Below W.heap.size W w := by
      funext e w
      unfold NewPost
      rw [if_pos h, Int.toNat_natCast]
    rw [hp]
    obtain ⟨h1, h2⟩ := h
    obtain ⟨i0, hi, hz0, hz1, hz2⟩ := info_parts u8_info
    have hmk0 := run_makeSlice W 70 5 i0 (.int .u8 0) (by kernel_rfl) hi hz0 .i64 .i64 (((m + 7) / 8 : Nat) : Int) (((m + 7) / 8 : Nat) : Int) (by omega) (Int.le_refl _) (by rw [hz1]; simp; omega) (by rw [hz2]; omega) (by omega)
    have hrow := World.ownsRow_lit (base := W.heap.size) (e := 5) (size := 1) W (madeCells #[.int .u8 0] ((m + 7) / 8)) ((m + 7) / 8) (Nat.le_refl _) (by unfold maxLen; omega) (by rw [size_madeCells]; omega)
    have hby : Byts (W.alloc (.cells (madeCells #[.int .u8 0] ((m + 7) / 8)) 5)) W.heap.size (.slice (some ⟨W.heap.size, 0, none⟩) ((m + 7) / 8) ((m + 7) / 8)) (List.replicate ((m + 7) / 8) 0) := by
      unfold Byts
      rw [toList_madeCells_one] at hrow
      simpa using hrow
    rw [hz1] at hmk0
    simp only [Int.toNat_natCast, Nat.mul_one, Value.cells] at hmk0
    have hN : ((m : Int) + 8 - 1) / 8 = (((m + 7) / 8 : Nat) : Int) := by omega
    have hmk := hmk0
    rw [← hN] at hmk
    have HBY := hid hby
    have HBW := hid ((Below.refl W.heap.size W).alloc (Nat.le_refl _) (.cells (madeCells #[.int .u8 0] ((m + 7) / 8)) 5))
    have hsz : (W.alloc (.cells (madeCells #[.int .u8 0] ((m + 7) / 8)) 5)).heap.size = W.heap.size + 1 := by simp
    generalize W.alloc (.cells (madeCells #[.int .u8 0] ((m + 7) / 8)) 5) = W1 at *
    clear hmk0 hrow hby hN
    go_enter Try.func28, Try.ntmps28
    go_wp2
    have hblk := Blk.new W1 79 #[.slice (some ⟨W.heap.size, 0, none⟩) ((m + 7) / 8) ((m + 7) / 8), .int .i64 (m : Int)]
    rw [hsz] at hblk
    go_ret2
    refine ⟨_, .slice (some ⟨W.heap.size, 0, none⟩) ((m + 7) / 8) ((m + 7) / 8), rfl, ⟨?_, ?_, ?_, ?_, ?_⟩, HBW.out.alloc HBW.out.size _⟩
    · rw [List.length_replicate]; exact hblk
    · rw [bytes_zero]; exact HBY.out.alloc _
    · rw [List.length_replicate]; omega
    · rw [List.length_replicate]; omega
    · omega
  · have hp : NewPost W n = fun e w => e = .returned (.tuple #[.pointer none, .int .i64 1]) ∧ Below W.heap.size W w := by
      funext e w
      unfold NewPost
      rw [if_neg h]
    rw [hp]
    by_cases h1 : n < 1
    · go_enter Try.func28, Try.ntmps28
      go_wp2
      go_ret2
      exact ⟨rfl, Below.refl _ _⟩
    · have h2 : 1024 < n := by omega
      go_enter Try.func28, Try.ntmps28
      go_wp2
      go_ret2
      exact ⟨rfl, Below.refl _ _⟩
end Go.Proofs.Ytcblkdocbmpkeaa
