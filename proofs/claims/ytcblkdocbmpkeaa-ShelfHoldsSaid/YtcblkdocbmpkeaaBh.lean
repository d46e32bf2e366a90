/-
  Sets of pages, kept.
-/
import Derived.Test.YtcblkdocbmpkeaaTs
open Go Go.RowKit
namespace Go.Proofs.Ytcblkdocbmpkeaa

theorem below_dN {B : Nat} {a w : World} (h : Below B a w) (n : Nat) : Below B a (w.drewN n) := ⟨h.os, h.tape, h.output, h.size, h.block⟩
theorem NewPost.get {W w : World} {n : Nat} {e : Ending} (h : NewPost W (n : Int) e w) (h1 : 1 ≤ n) (h2 : n ≤ 1024) : ∃ p v, e = .returned (.tuple #[.pointer (some ⟨p, 0, none⟩), .int .i64 0]) ∧ Bt w W.heap.size p v (List.replicate n false) ∧ Below W.heap.size W w := by
  unfold NewPost at h
  rw [if_pos (by omega), Int.toNat_natCast] at h
  exact h
theorem NewPost.no {W w : World} {n : Int} {e : Ending} (h : NewPost W n e w) (h1 : ¬ (1 ≤ n ∧ n ≤ 1024)) : e = .returned (.tuple #[.pointer none, .int .i64 1]) ∧ Below W.heap.size W w := by
  unfold NewPost at h
  rw [if_neg h1] at h
  exact h
theorem Bt.below_keep {w w' : World} {B p : Nat} {v : Value} {T : List Bool} (h : Bt w B p v T) (hb : Below w.heap.size w w') : Bt w' B p v T := h.keep (Only.of_below (S := fun _ => False) hb) id (fun _ _ h => h)
theorem Bt.only_below {w w' : World} {B p : Nat} {v : Value} {T : List Bool} (h : Bt w B p v T) (ho : Only (fun k => v.ownBlock = some k) w w') (hB : B ≤ w.heap.size) : Below B w w' := ho.below hB (fun k hk e => by have := (h.row.block e).1; omega)
/-- Two sets of pages that have nothing in common. -/
theorem Bt.beside {w w' : World} {B B' p p' : Nat} {v v' : Value} {T T' : List Bool} (h : Bt w B p v T) (h' : Bt w B' p' v' T') (hv : ∀ k, v.ownBlock = some k → v'.ownBlock ≠ some k) (ho : Only (fun k => v'.ownBlock = some k) w w') : Bt w' B p v T :=
  h.keep ho (fun e => by
    obtain ⟨_, cur, hc⟩ := h'.row.block e
    exact hc.ne_ h.blk (by decide) rfl) (fun k e e' => hv k e e')
theorem below_new (w : World) (o : Obj) : Below w.heap.size w (w.alloc o) := (Below.refl _ w).alloc (Nat.le_refl _) o
end Go.Proofs.Ytcblkdocbmpkeaa
