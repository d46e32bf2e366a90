/-
  The document's shelf of pages: what its bad, Read, Take, TakeAt, Give, Write, Swap, Free do, by contracts.
-/
import Derived.Test.YtcblkdocbmpkeaaHd
import Derived.Test.YtcblkdocbmpkeaaRrn
import Derived.Deep.QuietTactic
import Derived.Deep.RegionHeld3
open Go Go.RowKit
namespace Go.Proofs.Ytcblkdocbmpkeaa

/-- The document's shelf in block S. -/
structure Rs (w : World) (B S p : Nat) (bv lv : Value) (M : Mt) : Prop where
  blk : Blk w S 56 #[.pointer (some ⟨p, 0, none⟩), lv]
  rb : Rb w B p bv (tks M)
  row : ∃ L, Sls w B lv L ∧ L.length = M.length ∧ ∀ i, i < M.length → hasM M i = true → hn L i = getM M i
  b1 : B ≤ S
def RsO (bv lv : Value) (k : Nat) : Prop := bv.ownBlock = some k ∨ lv.ownBlock = some k
section
variable {w w' : World} {B S p : Nat} {bv lv : Value} {M : Mt} {T : Nat → Prop}
theorem Rs.keep (h : Rs w B S p bv lv M) (ho : Only T w w') (h1 : ¬ T S) (h2 : ¬ T p) (h3 : ∀ k, RsO bv lv k → ¬ T k) : Rs w' B S p bv lv M := by
  obtain ⟨L, r1, r2, r3⟩ := h.row
  exact ⟨ho.blk h.blk h1, h.rb.keep ho h2 (fun g e => h3 g (.inl e)), ⟨L, r1.keep ho (fun g e => h3 g (.inr e)), r2, r3⟩, h.b1⟩
theorem Rs.below (h : Rs w B S p bv lv M) (hb : Below w.heap.size w w') : Rs w' B S p bv lv M := h.keep (Only.of_below (S := fun _ => False) hb) id id (fun _ _ e => e)
theorem Rs.drewN (h : Rs w B S p bv lv M) (n : Nat) : Rs (w.drewN n) B S p bv lv M := h.keep (T := fun _ => False) ((Only.refl _ w).drewN n) id id (fun _ _ e => e)
theorem Rs.alloc (h : Rs w B S p bv lv M) (o : Obj) : Rs (w.alloc o) B S p bv lv M := h.keep (T := fun _ => False) ((Only.refl _ w).alloc o) id id (fun _ _ e => e)
theorem Rs.only_below (h : Rs w B S p bv lv M) (ho : Only (RsO bv lv) w w') (hB : B ≤ w.heap.size) : Below B w w' := ho.below hB (fun k hk e => by
  obtain ⟨L, r1, _⟩ := h.row
  rcases e with e | e
  · have := (h.rb.row.block e).1; omega
  · have := (r1.block e).1; omega)
/-- The set of pages turns, and the texts not yet. -/
theorem Rs.bits (h : Rs w B S p bv lv M) (ho : Only (fun k => bv.ownBlock = some k) w w') : Blk w' S 56 #[.pointer (some ⟨p, 0, none⟩), lv] ∧ ∃ L, Sls w' B lv L ∧ L.length = M.length ∧ ∀ i, i < M.length → hasM M i = true → hn L i = getM M i := by
  obtain ⟨L, r1, r2, r3⟩ := h.row
  refine ⟨ho.blk h.blk (fun e => ?_), L, r1.keep ho (fun g e e' => ?_), r2, r3⟩
  · obtain ⟨_, cur, hc⟩ := h.rb.row.block e
    exact hc.ne_ h.blk (by decide) rfl
  · obtain ⟨_, cur, hc⟩ := h.rb.row.block e'
    obtain ⟨_, cur2, hc2⟩ := r1.block e
    exact hc.ne_ hc2 (by decide) rfl
theorem Rs.same {w1 : World} {M' : Mt} (h : Rs w B S p bv lv M) (ho : Only (fun k => bv.ownBlock = some k) w w1) (hbt : Rb w1 B p bv (tks M')) (hl : M'.length = M.length) (hle : ∀ i, i < M.length → hasM M' i = true → hasM M i = true ∧ getM M' i = getM M i) : Rs w1 B S p bv lv M' ∧ Only (RsO bv lv) w w1 := by
  obtain ⟨h1, L, h2, h3, h4⟩ := h.bits ho
  exact ⟨⟨h1, hbt, ⟨L, h2, by rw [hl]; exact h3, fun i hi hh => by
    rw [hl] at hi
    obtain ⟨a, b⟩ := hle i hi hh
    rw [b]
    exact h4 i hi a⟩, h.b1⟩, ho.mono (fun k _ e => .inl e)⟩
/-- A page has other bytes now. -/
theorem Rs.put {g n cap i : Nat} {s : ByteArray} {w1 : World} (h : Rs w B S p bv (.slice (some ⟨g, 0, none⟩) n cap) M) (ho : Only (fun k => bv.ownBlock = some k) w w1) (hi : i < M.length) (hbt : Rb w1 B p bv (tks (M.set i (some s)))) :
    Rs (w1.setCell ⟨g, i, none⟩ (.string s)) B S p bv (.slice (some ⟨g, 0, none⟩) n cap) (M.set i (some s)) ∧ Only (RsO bv (.slice (some ⟨g, 0, none⟩) n cap)) w (w1.setCell ⟨g, i, none⟩ (.string s)) := by
  obtain ⟨h1, L, h2, h3, h4⟩ := h.bits ho
  obtain ⟨_, cur, hc⟩ := h2.block rfl
  have hoc := only_cell w1 g i (.string s)
  refine ⟨⟨hoc.blk h1 (fun e => hc.ne_ h1 (by decide) e.symm), hbt.keep hoc (fun e => hc.ne_ hbt.blk (by decide) e.symm) (fun k e e' => ?_), ⟨L.set i s, h2.store i s, by simpa using h3, fun j hj hh => ?_⟩, h.b1⟩, (ho.mono (fun k _ e => .inl e)).trans (hoc.mono (fun k _ e => .inr (by rw [e]; rfl)))⟩
  · obtain ⟨_, cur2, hc2⟩ := hbt.row.block e
    exact hc.ne_ hc2 (by decide) e'.symm
  · rw [List.length_set] at hj
    rw [hn_set (by omega), getM_set hi]
    rw [hasM_set hi] at hh
    by_cases e : j = i
    · rw [if_pos e, if_pos e]; rfl
    · rw [if_neg e, if_neg e]
      rw [if_neg e] at hh
      exact h4 j hj hh
theorem Rs.form (h : Rs w B S p bv lv M) : ∃ g cap, lv = .slice (some ⟨g, 0, none⟩) M.length cap ∧ B ≤ g ∧ g < w.heap.size := by
  obtain ⟨L, r1, r2, _⟩ := h.row
  have := h.rb.len1
  rw [tks_len] at this
  have hf := World.ownsRow.form r1 (by omega)
  rwa [r2] at hf
theorem Rs.cell {g n cap i : Nat} (h : Rs w B S p bv (.slice (some ⟨g, 0, none⟩) n cap) M) (hi : i < M.length) (hh : hasM M i = true) : w.cell? ⟨g, i, none⟩ = some (.string (getM M i)) := by
  obtain ⟨L, r1, r2, r3⟩ := h.row
  rw [r1.cell (i := i) (by omega), r3 i hi hh]
end

set_option maxRecDepth 100000 in
theorem rbad_any {W : World} {B S p : Nat} {bv lv : Value} {M : Mt} (h : Rs W B S p bv lv M) (i : Int) :
    Calls Try.prog 45 #[.pointer (some ⟨S, 0, none⟩), .int .i64 i] W fun e W' => e = .returned (.int .i64 (readE M i)) ∧ W' = W := by
  obtain ⟨g, cap, rfl, hg, hgs⟩ := h.form
  have c0 := h.blk.cell 0
  have c1 := h.blk.cell 1
  simp only [List.getElem?_toArray, List.getElem?_cons_zero, List.getElem?_cons_succ] at c0 c1
  have hl2 := h.rb.len2
  rw [tks_len] at hl2
  have HC := hid (ris_any h.rb i)
  cases hh : hasB (tks M) i with
  | false =>
    have e1 : readE M i = 1 := by unfold readE; rw [hh]; rfl
    rw [e1]
    unfold hasB at hh
    rw [tks_len] at hh
    by_cases h1 : i < 0
    · clear hh e1 h
      go_enter Try.func45, Try.ntmps45
      go_wp2
      go_ret
      exact ⟨rfl, rfl⟩
    · have h2 : ¬ i < (M.length : Int) := fun h2 => by
        rw [decide_eq_true (show 0 ≤ i by omega), decide_eq_true h2] at hh
        simp at hh
      clear hh e1 h
      go_enter Try.func45, Try.ntmps45
      go_wp2
      go_ret
      exact ⟨rfl, rfl⟩
  | true =>
    obtain ⟨j, rfl, hj⟩ := hasB_set hh
    have e1 : readE M (j : Int) = if hasM M j then 0 else 7 := by unfold readE; rw [hh, if_pos rfl, Int.toNat_natCast]
    rw [isB_has hj] at HC
    rw [e1]
    have hji : (j : Int) < (M.length : Int) := by omega
    cases hm : hasM M j with
    | false =>
      rw [hm] at HC
      rw [if_neg (by simp)]
      clear hh e1 h hm hj
      go_enter Try.func45, Try.ntmps45
      go_wp2_with fail
      refine HC.out.mono ?_
      rintro e w1 ⟨rfl, rfl⟩
      go_wp2
      go_ret
      exact ⟨rfl, rfl⟩
    | true =>
      rw [hm] at HC
      rw [if_pos rfl]
      clear hh e1 h hm hj
      go_enter Try.func45, Try.ntmps45
      go_wp2_with fail
      refine HC.out.mono ?_
      rintro e w1 ⟨rfl, rfl⟩
      go_wp2
      go_ret
      exact ⟨rfl, rfl⟩
theorem readS_no {M : Mt} {i : Int} (h : ¬ readE M i = 0) : readS M i = ⟨#[]⟩ := by
  unfold readE at h
  unfold readS
  cases h1 : hasB (tks M) i with
  | false => rfl
  | true =>
    rw [h1] at h
    cases h2 : hasM M i.toNat with
    | false => rfl
    | true => rw [h2] at h; simp at h
theorem readS_yes {M : Mt} {j : Nat} (hj : j < M.length) (hh : hasM M j = true) : readS M (j : Int) = getM M j := by unfold readS; rw [hasB_has hj, Int.toNat_natCast, hh]; rfl
set_option maxRecDepth 100000 in
theorem rread_any {W : World} {B S p : Nat} {bv lv : Value} {M : Mt} (h : Rs W B S p bv lv M) (i : Int) :
    Calls Try.prog 27 #[.pointer (some ⟨S, 0, none⟩), .int .i64 i] W fun e W' => e = .returned (.tuple #[.string (readS M i), .int .i64 (readE M i)]) ∧ W' = W := by
  obtain ⟨g, cap, rfl, hg, hgs⟩ := h.form
  have c1 := h.blk.cell 1
  simp only [List.getElem?_toArray, List.getElem?_cons_zero, List.getElem?_cons_succ] at c1
  have HC := hid (rbad_any h i)
  have hl2 := h.rb.len2
  rw [tks_len] at hl2
  by_cases hr : readE M i = 0
  · obtain ⟨j, rfl, hj, hh⟩ := read_zero hr
    have hc := h.cell hj hh
    rw [hr, readS_yes hj hh]
    rw [hr] at HC
    generalize getM M j = s at *
    have hji : (j : Int) < (M.length : Int) := by omega
    clear h hr hh hj
    go_enter Try.func27, Try.ntmps27
    go_wp2_with fail
    refine HC.out.mono ?_
    rintro e w1 ⟨rfl, rfl⟩
    go_wp2
    go_ret2
    exact ⟨rfl, rfl⟩
  · rw [readS_no hr]
    generalize readE M i = z at *
    have hz : (z != 0) = true := by simpa using hr
    clear h
    go_enter Try.func27, Try.ntmps27
    go_wp2_with fail
    refine HC.out.mono ?_
    rintro e w1 ⟨rfl, rfl⟩
    go_wp2
    go_ret2
    exact ⟨rfl, rfl⟩
end Go.Proofs.Ytcblkdocbmpkeaa
