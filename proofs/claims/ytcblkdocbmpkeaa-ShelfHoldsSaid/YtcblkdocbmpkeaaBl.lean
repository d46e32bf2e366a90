/-
  A row of bools of the call's own; the document's set of pages; what its New, has, Is, TakeAt, Give do, by contracts.
-/
import Derived.Test.YtcblkdocbmpkeaaTa
open Go Go.RowKit
namespace Go.Proofs.Ytcblkdocbmpkeaa

theorem bool_info : (Try.prog.info? 4).map (fun i => (i.zero, i.size, i.bytes)) = some (some (.bool false), 1, 1) := by kernel_rfl

/-- The slice value v owns a row of the bools D. -/
def Bls (w : World) (B : Nat) (v : Value) (D : List Bool) : Prop := w.ownsRow B 4 1 v D.length (D.map fun (x : Bool) => Value.bool x)

section
variable {w w' : World} {B : Nat} {v : Value} {D : List Bool}
theorem Bls.form (h : Bls w B v D) (hn : 0 < D.length) : ∃ g cap, v = .slice (some ⟨g, 0, none⟩) D.length cap ∧ B ≤ g ∧ g < w.heap.size :=
  World.ownsRow.form h hn
theorem Bls.block (h : Bls w B v D) {g : Nat} (hg : v.ownBlock = some g) : B ≤ g ∧ ∃ cur : Array Value, Blk w g 4 cur := by
  rcases h.2 with ⟨h', _⟩ | ⟨g', cap', cur, h', hb, hh, _⟩
  · rw [h'] at hg; simp [Value.ownBlock] at hg
  · rw [h'] at hg
    simp [Value.ownBlock] at hg
    subst hg
    exact ⟨hb, cur, hh⟩
theorem Bls.alloc (h : Bls w B v D) (o : Obj) : Bls (w.alloc o) B v D := World.ownsRow.alloc h o
theorem Bls.drewN (h : Bls w B v D) (n : Nat) : Bls (w.drewN n) B v D := h
theorem Bls.keep {S : Nat → Prop} (h : Bls w B v D) (ho : Only S w w') (hn : ∀ g, v.ownBlock = some g → ¬ S g) : Bls w' B v D := ho.own h hn
theorem Bls.len {a : Option Addr} {n cap : Nat} (h : Bls w B (.slice a n cap) D) : n = D.length := by
  rcases h.2 with ⟨h', h0⟩ | ⟨g', cap', cur, h', _⟩
  · simp at h'; omega
  · simp at h'; exact h'.2.1
theorem Bls.cap (h : Bls w B v D) {a : Option Addr} {n cap : Nat} (e : v = .slice a n cap) : n ≤ cap ∧ cap ≤ maxLen := by
  rcases h.2 with ⟨h', h0⟩ | ⟨g, cap', cur, h', _, _, h1, h2, _⟩
  · rw [h'] at e; simp at e; omega
  · rw [h'] at e; simp at e; omega
theorem Bls.cell {g n cap i : Nat} (h : Bls w B (.slice (some ⟨g, 0, none⟩) n cap) D) (hi : i < D.length) : w.cell? ⟨g, i, none⟩ = some (.bool (tk D i)) := by
  have hn := h.len
  subst hn
  have := World.ownsRow.cellAt h i (by omega)
  rw [this]
  simp [tk, hi]
theorem Bls.frozen {g n cap : Nat} (h : Bls w B (.slice (some ⟨g, 0, none⟩) n cap) D) (i : Nat) : w.frozen? ⟨g, i, none⟩ = false := by
  have hn := h.len
  subst hn
  exact World.ownsRow.frozenAt h i
theorem Bls.store {g n cap : Nat} (h : Bls w B (.slice (some ⟨g, 0, none⟩) n cap) D) (i : Nat) (d : Bool) :
    Bls (w.setCell ⟨g, i, none⟩ (.bool d)) B (.slice (some ⟨g, 0, none⟩) n cap) (D.set i d) := by
  have hn := h.len
  subst hn
  have := (World.ownsRow.stored h i (.bool d)).1
  unfold Bls
  rw [List.length_set, List.map_set]
  exact this
end

/-- Block p is the document's set of pages: T tells which are taken; v is its bools' slice. -/
structure Rb (w : World) (B p : Nat) (v : Value) (T : List Bool) : Prop where
  blk : Blk w p 77 #[v]
  row : Bls w B v T
  len1 : 1 ≤ T.length
  len2 : T.length ≤ 1024
  base : B ≤ p
section
variable {w w' : World} {B p : Nat} {v : Value} {T : List Bool}
theorem Rb.keep {S : Nat → Prop} (h : Rb w B p v T) (ho : Only S w w') (hp : ¬ S p) (hv : ∀ g, v.ownBlock = some g → ¬ S g) : Rb w' B p v T :=
  ⟨ho.blk h.blk hp, h.row.keep ho hv, h.len1, h.len2, h.base⟩
theorem Rb.drewN (h : Rb w B p v T) (n : Nat) : Rb (w.drewN n) B p v T := ⟨h.blk, h.row, h.len1, h.len2, h.base⟩
theorem Rb.alloc (h : Rb w B p v T) (o : Obj) : Rb (w.alloc o) B p v T := ⟨h.blk.alloc o, h.row.alloc o, h.len1, h.len2, h.base⟩
theorem Rb.apart (h : Rb w B p v T) {g : Nat} (e : v.ownBlock = some g) : g ≠ p := by
  obtain ⟨_, cur, hc⟩ := h.row.block e
  exact hc.ne_ h.blk (by decide)
theorem Rb.form (h : Rb w B p v T) : ∃ g cap, v = .slice (some ⟨g, 0, none⟩) T.length cap ∧ B ≤ g ∧ g < w.heap.size :=
  h.row.form (by have := h.len1; omega)
theorem Rb.stored {g cap n : Nat} (h : Rb w B p (.slice (some ⟨g, 0, none⟩) n cap) T) (i : Nat) (x : Bool) :
    Rb (w.setCell ⟨g, i, none⟩ (.bool x)) B p (.slice (some ⟨g, 0, none⟩) n cap) (T.set i x) :=
  ⟨h.blk.far (fun e => h.apart (g := g) rfl e.symm) _, h.row.store i x, by rw [List.length_set]; exact h.len1, by rw [List.length_set]; exact h.len2, h.base⟩
theorem Rb.below (h : Rb w B p v T) (hb : Below w.heap.size w w') : Rb w' B p v T := h.keep (S := fun k => w.heap.size ≤ k) (by exact Only.of_below hb) (by have := h.blk.lt; omega) (fun g e => by obtain ⟨_, cur, hc⟩ := h.row.block e; have := hc.lt; omega)
end

theorem rhas_any {W : World} {B p : Nat} {v : Value} {T : List Bool} (h : Rb W B p v T) (i : Int) :
    Calls Try.prog 57 #[.pointer (some ⟨p, 0, none⟩), .int .i64 i] W fun e W' => e = .returned (.bool (hasB T i)) ∧ W' = W := by
  have h1 := h.blk.cell 0
  simp only [List.getElem?_toArray, List.getElem?_cons_zero] at h1
  obtain ⟨g, cap, rfl, hg, hgs⟩ := h.form
  clear h
  unfold hasB
  by_cases hi : 0 ≤ i
  · rw [decide_eq_true hi, Bool.true_and]
    go_enter Try.func57, Try.ntmps57
    go_wp2
    go_ret
    exact ⟨rfl, rfl⟩
  · rw [decide_eq_false hi, Bool.false_and]
    go_enter Try.func57, Try.ntmps57
    go_wp2
    go_ret
    exact ⟨rfl, rfl⟩

theorem ris_any {W : World} {B p : Nat} {v : Value} {T : List Bool} (h : Rb W B p v T) (i : Int) :
    Calls Try.prog 55 #[.pointer (some ⟨p, 0, none⟩), .int .i64 i] W fun e W' => e = .returned (.bool (isB T i)) ∧ W' = W := by
  have hh := hid (rhas_any h i)
  have h1 := h.blk.cell 0
  simp only [List.getElem?_toArray, List.getElem?_cons_zero] at h1
  obtain ⟨g, cap, rfl, hg, hgs⟩ := h.form
  have hl2 := h.len2
  cases hb : hasB T i with
  | false =>
    rw [hb] at hh
    have hf0 : isB T i = false := by
      unfold hasB at hb
      unfold isB
      rw [hb]
      rfl
    rw [hf0]
    clear h
    go_enter Try.func55, Try.ntmps55
    go_wp2_with (go_at_call 57; ((with_reducible refine hh.out.mono ?_)); rintro e w' ⟨rfl, rfl⟩)
    go_ret
    exact ⟨rfl, rfl⟩
  | true =>
    rw [hb] at hh
    have hb2 := hb
    simp only [hasB, Bool.and_eq_true, decide_eq_true_eq] at hb2
    obtain ⟨hi0, hi1⟩ := hb2
    obtain ⟨k, rfl⟩ : ∃ k : Nat, i = k := ⟨i.toNat, by omega⟩
    have hk : k < T.length := by omega
    have hc := h.row.cell hk
    rw [isB_nat hk]
    generalize tk T k = y at *
    clear h hb
    go_enter Try.func55, Try.ntmps55
    go_wp2_with (go_at_call 57; ((with_reducible refine hh.out.mono ?_)); rintro e w' ⟨rfl, rfl⟩)
    go_ret
    exact ⟨rfl, rfl⟩

set_option maxHeartbeats 800000 in
theorem rtakeAt_any {W : World} {B p : Nat} {v : Value} {T : List Bool} (h : Rb W B p v T) (i : Int) :
    Calls Try.prog 53 #[.pointer (some ⟨p, 0, none⟩), .int .i64 i] W fun e W' => e = .returned (.int .i64 (takeE T i)) ∧ Rb W' B p v (takeT T i) ∧ Only (fun k => v.ownBlock = some k) W W' := by
  have H := hid h
  have hh := hid (rhas_any h i)
  have h1 := h.blk.cell 0
  simp only [List.getElem?_toArray, List.getElem?_cons_zero] at h1
  obtain ⟨g, cap, rfl, hg, hgs⟩ := h.form
  have hl2 := h.len2
  unfold takeE takeT
  cases hb : hasB T i with
  | false =>
    rw [hb] at hh
    simp only [Bool.false_eq_true, if_false, Bool.false_and]
    clear h
    go_enter Try.func53, Try.ntmps53
    go_wp2_with (go_at_call 57; ((with_reducible refine hh.out.mono ?_)); rintro e w' ⟨rfl, rfl⟩)
    go_ret
    exact ⟨rfl, H.out, Only.refl _ _⟩
  | true =>
    rw [hb] at hh
    have hb2 := hb
    simp only [hasB, Bool.and_eq_true, decide_eq_true_eq] at hb2
    obtain ⟨hi0, hi1⟩ := hb2
    obtain ⟨k, rfl⟩ : ∃ k : Nat, i = k := ⟨i.toNat, by omega⟩
    have hk : k < T.length := by omega
    have hc := h.row.cell hk
    have hf := h.row.frozen k
    have hst := hid (h.stored k true)
    have hw2 : IntKind.i64.wrap (k : Int) = (k : Int) := by rw [IntKind.wrap_i64]; omega
    rw [isB_nat hk]
    cases ht : tk T k with
    | true =>
      rw [ht] at hc
      simp only [if_true, Bool.not_true, Bool.and_false, Bool.false_eq_true, if_false]
      clear h hb hst
      go_enter Try.func53, Try.ntmps53
      go_wp2_with (first
        | (go_at_call 57; ((with_reducible refine hh.out.mono ?_)); rintro e w' ⟨rfl, rfl⟩))
      go_ret
      exact ⟨rfl, H.out, (Only.refl _ _)⟩
    | false =>
      rw [ht] at hc
      simp only [if_true, Bool.not_false, Bool.and_true, Int.toNat_natCast, Bool.false_eq_true, if_false]
      clear h hb
      go_enter Try.func53, Try.ntmps53
      go_wp2_with (first
        | (go_at_call 57; ((with_reducible refine hh.out.mono ?_)); rintro e w' ⟨rfl, rfl⟩))
      go_ret
      exact ⟨rfl, hst.out, only_own _ g T.length cap 0 k⟩
set_option maxHeartbeats 800000 in
theorem rgive_any {W : World} {B p : Nat} {v : Value} {T : List Bool} (h : Rb W B p v T) (i : Int) :
    Calls Try.prog 54 #[.pointer (some ⟨p, 0, none⟩), .int .i64 i] W fun e W' => e = .returned (.int .i64 (giveE T i)) ∧ Rb W' B p v (giveT T i) ∧ Only (fun k => v.ownBlock = some k) W W' := by
  have H := hid h
  have hh := hid (rhas_any h i)
  have h1 := h.blk.cell 0
  simp only [List.getElem?_toArray, List.getElem?_cons_zero] at h1
  obtain ⟨g, cap, rfl, hg, hgs⟩ := h.form
  have hl2 := h.len2
  unfold giveE giveT
  cases hb : hasB T i with
  | false =>
    rw [hb] at hh
    have hf0 : isB T i = false := by
      unfold hasB at hb
      unfold isB
      rw [hb]
      rfl
    rw [hf0]
    simp only [Bool.false_eq_true, if_false]
    clear h
    go_enter Try.func54, Try.ntmps54
    go_wp2_with (go_at_call 57; ((with_reducible refine hh.out.mono ?_)); rintro e w' ⟨rfl, rfl⟩)
    go_ret
    exact ⟨rfl, H.out, Only.refl _ _⟩
  | true =>
    rw [hb] at hh
    have hb2 := hb
    simp only [hasB, Bool.and_eq_true, decide_eq_true_eq] at hb2
    obtain ⟨hi0, hi1⟩ := hb2
    obtain ⟨k, rfl⟩ : ∃ k : Nat, i = k := ⟨i.toNat, by omega⟩
    have hk : k < T.length := by omega
    have hc := h.row.cell hk
    have hf := h.row.frozen k
    have hst := hid (h.stored k false)
    have hw2 : IntKind.i64.wrap (k : Int) = (k : Int) := by rw [IntKind.wrap_i64]; omega
    rw [isB_nat hk]
    cases ht : tk T k with
    | false =>
      rw [ht] at hc
      simp only [if_true, Bool.false_eq_true, if_false]
      clear h hb hst
      go_enter Try.func54, Try.ntmps54
      go_wp2_with (first
        | (go_at_call 57; ((with_reducible refine hh.out.mono ?_)); rintro e w' ⟨rfl, rfl⟩))
      go_ret
      exact ⟨rfl, H.out, (Only.refl _ _)⟩
    | true =>
      rw [ht] at hc
      simp only [if_true, Int.toNat_natCast]
      clear h hb
      go_enter Try.func54, Try.ntmps54
      go_wp2_with (first
        | (go_at_call 57; ((with_reducible refine hh.out.mono ?_)); rintro e w' ⟨rfl, rfl⟩))
      go_ret
      exact ⟨rfl, hst.out, only_own _ g T.length cap 0 k⟩

/-- What the document's New leaves. -/
def RNewPost (W : World) (n : Int) (e : Ending) (w : World) : Prop :=
  if 1 ≤ n ∧ n ≤ 1024 then ∃ p v, e = .returned (.tuple #[.pointer (some ⟨p, 0, none⟩), .int .i64 0]) ∧ Rb w W.heap.size p v (List.replicate n.toNat false) ∧ Below W.heap.size W w
  else e = .returned (.tuple #[.pointer none, .int .i64 1]) ∧ Below W.heap.size W w

theorem rnew_any {W : World} (n : Int) : Calls Try.prog 36 #[.int .i64 n] W (RNewPost W n) := by
  by_cases h : 1 ≤ n ∧ n ≤ 1024
  · obtain ⟨m, rfl⟩ : ∃ m : Nat, n = m := ⟨n.toNat, by omega⟩
    have hp : RNewPost W (m : Int) = fun e w => ∃ p v, e = .returned (.tuple #[.pointer (some ⟨p, 0, none⟩), .int .i64 0]) ∧ Rb w W.heap.size p v (List.replicate m false) ∧ Below W.heap.size W w := by
      funext e w
      unfold RNewPost
      rw [if_pos h, Int.toNat_natCast]
    rw [hp]
    obtain ⟨h1, h2⟩ := h
    obtain ⟨i0, hi, hz0, hz1, hz2⟩ := info_parts bool_info
    have hmk0 := run_makeSlice W 28 4 i0 (.bool false) (by kernel_rfl) hi hz0 .i64 .i64 (m : Int) (m : Int) (by omega) (Int.le_refl _) (by rw [hz1]; simp; omega) (by rw [hz2]; omega) (by omega)
    have hrow := World.ownsRow_lit (base := W.heap.size) (e := 4) (size := 1) W (madeCells #[.bool false] m) m (Nat.le_refl _) (by unfold maxLen; omega) (by rw [size_madeCells]; omega)
    have hby : Bls (W.alloc (.cells (madeCells #[.bool false] m) 4)) W.heap.size (.slice (some ⟨W.heap.size, 0, none⟩) m m) (List.replicate m false) := by
      unfold Bls
      rw [toList_madeCells_one] at hrow
      simpa using hrow
    rw [hz1] at hmk0
    simp only [Int.toNat_natCast, Nat.mul_one, Value.cells] at hmk0
    have HBY := hid hby
    have HBW := hid ((Below.refl W.heap.size W).alloc (Nat.le_refl _) (.cells (madeCells #[.bool false] m) 4))
    have hsz : (W.alloc (.cells (madeCells #[.bool false] m) 4)).heap.size = W.heap.size + 1 := by simp
    generalize W.alloc (.cells (madeCells #[.bool false] m) 4) = W1 at *
    clear hrow hby
    go_enter Try.func36, Try.ntmps36
    go_wp2
    have hblk := Blk.new W1 77 #[.slice (some ⟨W.heap.size, 0, none⟩) m m]
    rw [hsz] at hblk
    go_ret2
    refine ⟨_, .slice (some ⟨W.heap.size, 0, none⟩) m m, rfl, ⟨hblk, HBY.out.alloc _, ?_, ?_, ?_⟩, HBW.out.alloc HBW.out.size _⟩
    · rw [List.length_replicate]; omega
    · rw [List.length_replicate]; omega
    · omega
  · have hp : RNewPost W n = fun e w => e = .returned (.tuple #[.pointer none, .int .i64 1]) ∧ Below W.heap.size W w := by
      funext e w
      unfold RNewPost
      rw [if_neg h]
    rw [hp]
    by_cases h1 : n < 1
    · go_enter Try.func36, Try.ntmps36
      go_wp2
      go_ret2
      exact ⟨rfl, Below.refl _ _⟩
    · have h2 : 1024 < n := by omega
      go_enter Try.func36, Try.ntmps36
      go_wp2
      go_ret2
      exact ⟨rfl, Below.refl _ _⟩
end Go.Proofs.Ytcblkdocbmpkeaa
