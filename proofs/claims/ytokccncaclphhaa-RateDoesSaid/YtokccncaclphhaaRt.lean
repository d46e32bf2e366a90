/-
  What the methods of a Rate do: each by a contract over its two blocks in memory, the struct's and the channel's.
-/
import Derived.Test.YtokccncaclphhaaComm
import Derived.Test.YtokccncaclphhaaMem
import Derived.Test.YtokccncaclphhaaPlain
import Derived.Test.YtokccncaclphhaaChecked
import Derived.WalkKit
import Derived.WalkLawsBesides
import Derived.WalkSpells
import Derived.Deep.QuietTactic
import Derived.BigQuiet
import Derived.Deep.LoopGhost
import Derived.Deep.RegionWith
import Derived.Outline
open Go Go.RowKit Go.Conc
namespace Go.Proofs.Ytokccncaclphhaa

/-- A Rate in memory: its struct is block b, its channel block c. -/
def Rt (W : World) (b c m : Nat) (wd now all first : Int) (q : List Int) : Prop :=
  Blk W b 40 #[.int .i64 wd, .int .i64 now, .int .i64 all, .chan (some c), .int .i64 first] ∧ ∃ s r, W.heap[c]? = some (.chan m (q.map (Value.int .i64)).toArray false s r false)

theorem chan_lt {W : World} {c : Nat} {o : Obj} (h : W.heap[c]? = some o) : c < W.heap.size := by
  rcases Nat.lt_or_ge c W.heap.size with hlt | hge
  · exact hlt
  · rw [Array.getElem?_eq_none hge] at h; cases h

section
variable {W W' : World} {b c m : Nat} {wd now all first : Int} {q : List Int}
theorem Rt.ne_ (h : Rt W b c m wd now all first q) : b ≠ c := by
  rintro rfl
  obtain ⟨hb, s, r, hc⟩ := h
  unfold Blk at hb
  rw [hb] at hc
  cases hc
theorem Rt.setChan (h : Rt W b c m wd now all first q) (q' : List Int) (s r : Nat) :
    Rt (W.setChan c m (q'.map (Value.int .i64)).toArray false s r false) b c m wd now all first q' := by
  have hne := h.ne_
  obtain ⟨hb, s', r', hc⟩ := h
  refine ⟨?_, s, r, heap_setChan _ _ _ _ _ _ _ _ (chan_lt hc)⟩
  unfold Blk at hb ⊢
  rw [← hb]
  simp only [World.setChan]
  rw [Array.getElem?_setIfInBounds_ne (by omega)]
theorem only_setChan (W : World) (c m : Nat) (bf : Array Value) (s r : Nat) : Only (· = c) W (W.setChan c m bf false s r false) :=
  ⟨rfl, rfl, rfl, by simp [World.setChan], fun k _ hn => by simp only [World.setChan]; rw [Array.getElem?_setIfInBounds_ne (fun e => hn e.symm)]⟩
theorem Rt.cells (h : Rt W b c m wd now all first q) :
    W.cell? ⟨b, 0, none⟩ = some (.int .i64 wd) ∧ W.cell? ⟨b, 1, none⟩ = some (.int .i64 now) ∧ W.cell? ⟨b, 2, none⟩ = some (.int .i64 all) ∧
    W.cell? ⟨b, 3, none⟩ = some (.chan (some c)) ∧ W.cell? ⟨b, 4, none⟩ = some (.int .i64 first) ∧ ∀ i, W.frozen? ⟨b, i, none⟩ = false := by
  obtain ⟨hb, _⟩ := h
  exact ⟨hb.cell 0, hb.cell 1, hb.cell 2, hb.cell 3, hb.cell 4, fun i => hb.frozen i⟩
theorem Rt.set1 (h : Rt W b c m wd now all first q) (x : Int) : Rt (W.setCell ⟨b, 1, none⟩ (.int .i64 x)) b c m wd x all first q := by
  have hne := h.ne_
  obtain ⟨hb, s, r, hc⟩ := h
  exact ⟨hb.set_ 1 _, s, r, (Below.heap_setCell W ⟨b, 1, none⟩ _ c (by simpa using fun e => hne e.symm)).trans hc⟩
theorem Rt.set2 (h : Rt W b c m wd now all first q) (x : Int) : Rt (W.setCell ⟨b, 2, none⟩ (.int .i64 x)) b c m wd now x first q := by
  have hne := h.ne_
  obtain ⟨hb, s, r, hc⟩ := h
  exact ⟨hb.set_ 2 _, s, r, (Below.heap_setCell W ⟨b, 2, none⟩ _ c (by simpa using fun e => hne e.symm)).trans hc⟩
theorem Rt.set4 (h : Rt W b c m wd now all first q) (x : Int) : Rt (W.setCell ⟨b, 4, none⟩ (.int .i64 x)) b c m wd now all x q := by
  have hne := h.ne_
  obtain ⟨hb, s, r, hc⟩ := h
  exact ⟨hb.set_ 4 _, s, r, (Below.heap_setCell W ⟨b, 4, none⟩ _ c (by simpa using fun e => hne e.symm)).trans hc⟩
theorem Rt.drewN (h : Rt W b c m wd now all first q) (n : Nat) : Rt (W.drewN n) b c m wd now all first q := h
theorem Rt.lt (h : Rt W b c m wd now all first q) : b < W.heap.size ∧ c < W.heap.size := by
  obtain ⟨hb, s, r, hc⟩ := h
  exact ⟨hb.lt, chan_lt hc⟩
theorem Rt.keep {S : Nat → Prop} (h : Rt W b c m wd now all first q) (ho : Only S W W') (hb : ¬ S b) (hc : ¬ S c) : Rt W' b c m wd now all first q := by
  have hl := h.lt
  obtain ⟨hb', s, r, hc'⟩ := h
  exact ⟨ho.blk hb' hb, s, r, (ho.block c hl.2 hc).trans hc'⟩
end

/-! ### next -/
theorem next_some {W : World} {b c m : Nat} {wd now all first t : Int} {q : List Int} (h : Rt W b c m wd now all first (t :: q)) :
    Calls Try.prog 20 #[.pointer (some ⟨b, 0, none⟩)] W fun e W' => e = .returned (.int .i64 t) ∧ Rt W' b c m wd now all first q ∧ Only (· = c) W W' := by
  have hR := fun s r => h.setChan q s r
  obtain ⟨hb, s, r, hc⟩ := h
  have c3 := hb.cell 3
  simp at c3
  have hR := hR s (r + 1)
  have hO := only_setChan W c m (q.map (Value.int .i64)).toArray s (r + 1)
  refine calls_of_wpN Try.func20 rfl ?_
  simp only [Try.ntmps20, List.size_toArray, List.length_cons, List.length_nil, Nat.reduceAdd, Nat.reduceSub, Array.replicate_succ,
     Array.replicate_zero, List.push_toArray, List.append_toArray, List.nil_append, List.cons_append]
  refine wpN_seq (WpN.of ?_)
  go_wp2
  refine wpN_seq (WpN.of ?_)
  go_wp2
  refine wpN_seq (wpN_recv_buf (c := c) (z := .int .i64 0) rfl (by simp [go_sem, execOp, rcase, Act.eval]) (buf := q.map (Value.int .i64)) (x := .int .i64 t) (by simpa using hc) ?_)
  go_wp2
  refine WpN.of ?_
  go_wp2
  go_ret
  exact ⟨rfl, hR, hO⟩

theorem next_none {W : World} {b c m : Nat} {wd now all first : Int} (h : Rt W b c m wd now all first []) :
    Calls Try.prog 20 #[.pointer (some ⟨b, 0, none⟩)] W fun e W' => e = .returned (.int .i64 (-1)) ∧ W = W' := by
  obtain ⟨hb, s, r, hc⟩ := h
  have c3 := hb.cell 3
  simp at c3
  refine calls_of_wpN Try.func20 rfl ?_
  simp only [Try.ntmps20, List.size_toArray, List.length_cons, List.length_nil, Nat.reduceAdd, Nat.reduceSub, Array.replicate_succ,
     Array.replicate_zero, List.push_toArray, List.append_toArray, List.nil_append, List.cons_append]
  refine wpN_seq (WpN.of ?_)
  go_wp2
  refine wpN_seq (WpN.of ?_)
  go_wp2
  refine wpN_seq (wpN_recv_default (c := c) (z := .int .i64 0) rfl (by simp [go_sem, execOp, rcase, Act.eval]) (by simpa using hc) ?_)
  go_wp2
  refine WpN.of ?_
  go_wp2
  go_ret
  exact ⟨rfl, rfl⟩

/-! ### held, Left, May -/
/-- The times that are still held: the oldest one may have been taken out of the channel already. -/
def Held (first : Int) (q P : List Int) : Prop := (first = -1 ∧ q = P) ∨ (0 ≤ first ∧ P = first :: q)

theorem held_any {W : World} {b c m : Nat} {wd now all first : Int} {q P : List Int} (h : Rt W b c m wd now all first q) (hp : Held first q P) (hl : P.length ≤ 1000) :
    Calls Try.prog 21 #[.pointer (some ⟨b, 0, none⟩)] W fun e W' => e = .returned (.int .i64 P.length) ∧ W = W' := by
  obtain ⟨c0, c1, c2, c3, c4, fz⟩ := h.cells
  obtain ⟨hb, s, r, hc⟩ := h
  have hlen := fun ty => run_len_chan (P := Try.prog) 38 ty Try.underlying38 hc
  simp only [List.size_toArray, List.length_map] at hlen
  clear hb hc
  rcases hp with ⟨rfl, rfl⟩ | ⟨h0, rfl⟩
  · go_enter Try.func21, Try.ntmps21
    go_wp2
    go_ret
    exact ⟨rfl, rfl⟩
  · have hne : (first != -1) = true := by rw [bne_iff_ne]; omega
    simp at hl
    go_enter Try.func21, Try.ntmps21
    go_wp2
    go_ret
    exact ⟨by simp, rfl⟩

theorem left_any {W : World} {b c m : Nat} {wd now all first : Int} {q P : List Int} (h : Rt W b c m wd now all first q) (hp : Held first q P) (hm : m ≤ 1000) (hl : P.length ≤ m) :
    Calls Try.prog 12 #[.pointer (some ⟨b, 0, none⟩)] W fun e W' => e = .returned (.int .i64 ((m : Int) - P.length)) ∧ W = W' := by
  have hh := hid (held_any h hp (by omega))
  obtain ⟨c0, c1, c2, c3, c4, fz⟩ := h.cells
  obtain ⟨hb, s, r, hc⟩ := h
  have hcap := fun ty => run_cap_chan (P := Try.prog) 38 ty Try.underlying38 hc
  clear hb hc hp
  go_enter Try.func12, Try.ntmps12
  go_wp2_with (go_at_call 21; refine hh.out.mono ?_; rintro e w' ⟨rfl, rfl⟩)
  go_ret
  exact ⟨rfl, rfl⟩

theorem may_any {W : World} {b c m : Nat} {wd now all first : Int} {q P : List Int} (h : Rt W b c m wd now all first q) (hp : Held first q P) (hm : m ≤ 1000) (hl : P.length ≤ m) :
    Calls Try.prog 14 #[.pointer (some ⟨b, 0, none⟩)] W fun e W' => e = .returned (.bool (decide (P.length < m))) ∧ W = W' := by
  have hh := hid (left_any h hp hm hl)
  clear h hp
  go_enter Try.func14, Try.ntmps14
  go_wp2_with (go_at_call 12; refine hh.out.mono ?_; rintro e w' ⟨rfl, rfl⟩)
  go_ret
  exact ⟨rfl, rfl⟩

/-! ### Take -/
theorem take_no {W : World} {b c m : Nat} {wd now all first : Int} {q P : List Int} (h : Rt W b c m wd now all first q) (hp : Held first q P) (hm : m ≤ 1000) (hl : P.length = m) :
    Calls Try.prog 10 #[.pointer (some ⟨b, 0, none⟩)] W fun e W' => e = .returned (.int .i64 10) ∧ W = W' := by
  have hh := hid (may_any h hp hm (by omega))
  have e1 := hid (show decide (P.length < m) = false by simp; omega)
  clear h hp hl
  go_enter Try.func10, Try.ntmps10
  go_wp2_with (go_at_call 14; refine hh.out.mono ?_; rintro e w' ⟨rfl, rfl⟩; rw [e1.out])
  go_ret
  exact ⟨rfl, rfl⟩

end Go.Proofs.Ytokccncaclphhaa
