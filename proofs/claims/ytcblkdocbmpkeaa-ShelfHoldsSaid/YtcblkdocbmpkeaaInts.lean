/-
  A slice of ints of the call's own: one more int appended (a literal of one element, then the builtin), read, and stored into.
-/
import Derived.Test.YtcblkdocbmpkeaaMem
import Derived.Test.YtcblkdocbmpkeaaProg
import Derived.Maps.AppendAt
import Derived.Deep.AppendLies
import Derived.KernelRfl
open Go Go.RowKit
namespace Go.Proofs.Ytcblkdocbmpkeaa

theorem int_info : (Try.prog.info? 3).map (fun i => (i.zero, i.size, i.bytes)) = some (some (.int .i64 0), 1, 8) := by kernel_rfl

/-- The slice value v owns a row of the ints D. -/
def Ints (w : World) (B : Nat) (v : Value) (D : List Int) : Prop := w.ownsRow B 3 1 v D.length (D.map (Value.int .i64))

section
variable {w w' : World} {B : Nat} {v : Value} {D : List Int}
theorem Ints.nil (w : World) (B : Nat) : Ints w B (.slice none 0 0) [] := World.ownsRow_nil w B _ 1
theorem Ints.one {B : Nat} (h : B ≤ w.heap.size) (d : Int) : Ints (w.alloc (.cells #[.int .i64 d] 3)) B (.slice (some ⟨w.heap.size, 0, none⟩) 1 1) [d] :=
  World.ownsRow_lit w #[.int .i64 d] 1 h (by unfold maxLen; omega) (by simp)
theorem Ints.form (h : Ints w B v D) (hn : D ≠ []) : ∃ g cap, v = .slice (some ⟨g, 0, none⟩) D.length cap ∧ B ≤ g ∧ g < w.heap.size :=
  World.ownsRow.form h (by cases D with | nil => exact absurd rfl hn | cons a r => simp)
theorem Ints.shape (h : Ints w B v D) : ∃ a cap, v = .slice a D.length cap := by
  rcases h.2 with ⟨h', h0⟩ | ⟨g, cap, cur, h', _⟩
  · exact ⟨none, 0, by rw [h', h0]⟩
  · exact ⟨_, _, h'⟩
theorem Ints.block (h : Ints w B v D) {g : Nat} (hg : v.ownBlock = some g) : B ≤ g ∧ ∃ cur : Array Value, Blk w g 3 cur := by
  rcases h.2 with ⟨h', _⟩ | ⟨g', cap', cur, h', hb, hh, _⟩
  · rw [h'] at hg; simp [Value.ownBlock] at hg
  · rw [h'] at hg
    simp [Value.ownBlock] at hg
    subst hg
    exact ⟨hb, cur, hh⟩
theorem Ints.alloc (h : Ints w B v D) (o : Obj) : Ints (w.alloc o) B v D := World.ownsRow.alloc h o
theorem Ints.drewN (h : Ints w B v D) (n : Nat) : Ints (w.drewN n) B v D := h
theorem Ints.keep {S : Nat → Prop} (h : Ints w B v D) (ho : Only S w w') (hn : ∀ g, v.ownBlock = some g → ¬ S g) : Ints w' B v D := ho.own h hn
theorem Ints.cell {g n cap i : Nat} (h : Ints w B (.slice (some ⟨g, 0, none⟩) n cap) D) {d : Int} (hd : D[i]? = some d) : w.cell? ⟨g, i, none⟩ = some (.int .i64 d) := by
  have hi : i < D.length := by
    rcases Nat.lt_or_ge i D.length with h1 | h1
    · exact h1
    · rw [List.getElem?_eq_none h1] at hd; cases hd
  have hn : n = D.length := by
    rcases h.2 with ⟨h', _⟩ | ⟨g', cap', cur, h', _⟩
    · simp at h'
    · simp at h'; exact h'.2.1
  subst hn
  have := World.ownsRow.cellAt h i (by omega)
  rw [this]
  simp [hd]
theorem Ints.len {a : Option Addr} {n cap : Nat} (h : Ints w B (.slice a n cap) D) : n = D.length := by
  rcases h.2 with ⟨h', h0⟩ | ⟨g', cap', cur, h', _⟩
  · simp at h'; omega
  · simp at h'; exact h'.2.1
theorem Ints.frozen {g n cap : Nat} (h : Ints w B (.slice (some ⟨g, 0, none⟩) n cap) D) (i : Nat) : w.frozen? ⟨g, i, none⟩ = false := by
  have hn := h.len
  subst hn
  exact World.ownsRow.frozenAt h i
theorem Ints.store {g n cap : Nat} (h : Ints w B (.slice (some ⟨g, 0, none⟩) n cap) D) (i : Nat) (d : Int) :
    Ints (w.setCell ⟨g, i, none⟩ (.int .i64 d)) B (.slice (some ⟨g, 0, none⟩) n cap) (D.set i d) := by
  have hn := h.len
  subst hn
  have := (World.ownsRow.stored h i (.int .i64 d)).1
  unfold Ints
  rw [List.length_set, List.map_set]
  exact this
end

/-- append(v, y): v owns a row; y lies in a literal of one element that has just been made. -/
theorem wpList_push {w : World} {ops : Array Oper} {rest : List Oper} {o : Oper} {a : Act} {Q : Exit → Act → World → Prop} (hgd : o.guard = none) (s x : Operand)
    (ho : o.op = .call { callee := .builtin .append, args := #[s, x], argTypes := #[52, 52] })
    (B : Nat) (v : Value) (D : List Int) (y : Int) (hs : a.eval s = v) (hown : Ints w B v D) (hx : a.eval x = .slice (some ⟨w.heap.size, 0, none⟩) 1 1)
    (hlen : D.length < 1000000) (hbase : B ≤ w.heap.size)
    (h : ∀ v' w', Ints w' B v' (D ++ [y]) → Only (fun k => v.ownBlock = some k) w w' → wpList Try.prog ops Q rest (a.put o.dst v') w') :
    wpList Try.prog ops Q (o :: rest) a (w.alloc (.cells #[.int .i64 y] 3)) := by
  obtain ⟨i0, hi, hz0, hz1, hz2⟩ := info_parts int_info
  refine wpList_append_own _ hgd s x 52 ho B 3 i0 (.int .i64 0) 1 8 Try.underlying52 hi hz0 hz1 hz2 rfl (by decide) v D.length (D.map (Value.int .i64)) hs (hown.alloc _)
    ⟨w.heap.size, 0, none⟩ 1 1 [.int .i64 y] hx rfl (cell_one_new _ _ _) (by simp [Value.oneCell']) (by unfold maxLen; omega) (by omega) (by simp; omega) ?_
  intro v' w' hown' hgrow _
  refine h v' w' (by unfold Ints; simpa using hown') ?_
  exact (((Only.refl _ w).alloc _).grown hgrow (fun k hk => .inl hk))

/-- The same at a step of a region that draws its order. -/
theorem step_push {w : World} {ops : Array Oper} {o : Oper} {a : Act} {K : Act → World → Prop} {Q : Exit → Act → World → Prop} {E : Prop} (hgd : o.guard = none) (s x : Operand)
    (ho : o.op = .call { callee := .builtin .append, args := #[s, x], argTypes := #[52, 52] })
    (B H : Nat) (v : Value) (D : List Int) (y : Int) (hs : a.eval s = v) (hown : Ints w B v D) (hx : a.eval x = .slice (some ⟨H, 0, none⟩) 1 1)
    (hcell : w.cell? ⟨H, 0, none⟩ = some (.int .i64 y)) (hlen : D.length < 1000000) (hbase : B ≤ w.heap.size)
    (h : ∀ g cap w', Ints w' B (.slice (some ⟨g, 0, none⟩) (D.length + 1) cap) (D ++ [y]) → Only (fun k => v.ownBlock = some k) w w' → K (a.put o.dst (.slice (some ⟨g, 0, none⟩) (D.length + 1) cap)) w') :
    if Region.wanted o (yielded ops a.tmps) = true then Oper.wp Try.prog o a w K Q else E := by
  obtain ⟨i0, hi, hz0, hz1, hz2⟩ := info_parts int_info
  refine step_append_lies w hgd s x 52 ho B 3 i0 (.int .i64 0) 1 8 Try.underlying52 hi hz0 hz1 hz2 rfl (by decide) v D.length (D.map (Value.int .i64)) hs hown
    ⟨H, 0, none⟩ 1 1 [.int .i64 y] hx rfl (fun j u hu => ?_) (by simp [Value.oneCell']) (by decide) (by unfold maxLen; omega) (by omega) hbase w.heap.size rfl ?_
  · match j, hu with
    | 0, hu => simp at hu; subst hu; exact hcell
    | j + 1, hu => simp at hu
  · intro g cap w' hown' hgrow _ _
    exact h g cap w' (by unfold Ints; simpa using hown') ((Only.refl _ w).grown hgrow (fun k hk => .inl hk))
end Go.Proofs.Ytcblkdocbmpkeaa
