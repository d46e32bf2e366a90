/-
  A page of the document that is being made; a row of such pages.
-/
import Derived.Test.YtfoidiebdklggaaRu
open Go Go.RowKit
namespace Go.Proofs.Ytfoidiebdklggaa

theorem rinner_info : (Try.prog.info? 44).map (fun i => (i.zero, i.size, i.bytes)) = some (some (.agg #[.slice none 0 0, .slice none 0 0, .string ⟨#[]⟩, .int .i64 0]), 4, 72) := by kernel_rfl

/-- The page that is being made, in block S. -/
structure RLv (S : Nat) (W : World) (vs vk : Value) (Ls : List ByteArray) (Lk : List Int) (hi : ByteArray) (nx : Int) (w : World) : Prop where
  blk : Blk w S 44 #[vs, vk, .string hi, .int .i64 nx]
  os : OwV 9 1 w S vs (Ls.map scell)
  ok : Ints w S vk Lk
  below : Below S W w
section
variable {S : Nat} {W w w' : World} {vs vk vs' vk' : Value} {Ls : List ByteArray} {Lk : List Int} {hi : ByteArray} {nx : Int}
theorem RLv.alloc (h : RLv S W vs vk Ls Lk hi nx w) (o : Obj) : RLv S W vs vk Ls Lk hi nx (w.alloc o) := ⟨h.blk.alloc o, h.os.alloc o, h.ok.alloc o, h.below.alloc (by have := h.blk.lt; omega) o⟩
theorem RLv.drew (h : RLv S W vs vk Ls Lk hi nx w) : RLv S W vs vk Ls Lk hi nx w.drew := ⟨h.blk, h.os, h.ok, h.below.drew⟩
theorem RLv.pushK {x : Int} (h : RLv S W vs vk Ls Lk hi nx w) (hk : Ints w' S vk' (Lk ++ [x])) (ho : Only (fun k => vk.ownBlock = some k) w w') : RLv S W vs vk' Ls (Lk ++ [x]) hi nx (w'.setCell ⟨S, 1, none⟩ vk') := by
  have hb : Blk w' S 44 #[vs, vk, .string hi, .int .i64 nx] := ho.blk h.blk (fun e => by
    obtain ⟨_, cur, hc⟩ := h.ok.block e
    exact hc.ne_ h.blk (by decide) rfl)
  have hs := h.os.keep ho (fun g e e' => by
    obtain ⟨_, cur, hc⟩ := h.os.block e
    obtain ⟨_, cur', hc'⟩ := h.ok.block e'
    exact hc.ne_ hc' (by decide) rfl)
  refine ⟨hb.set_ 1 vk', hs.keep (Only.setCell (S := fun k => k = S) (Only.refl _ w') (.inl rfl) _) (fun g e e' => ?_), hk.keep (Only.setCell (S := fun k => k = S) (Only.refl _ w') (.inl rfl) _) (fun g e e' => ?_), (h.below.trans (ho.below (by have := h.blk.lt; omega) (fun k hk' e => by have := (h.ok.block e).1; omega))).setCell (Nat.le_refl _) _⟩
  · obtain ⟨_, cur, hc⟩ := hs.block e
    rw [e'] at hc
    exact hc.ne_ hb (by decide) rfl
  · obtain ⟨_, cur, hc⟩ := hk.block e
    rw [e'] at hc
    exact hc.ne_ hb (by decide) rfl
theorem RLv.pushS {x : ByteArray} (h : RLv S W vs vk Ls Lk hi nx w) (hk : OwV 9 1 w' S vs' ((Ls ++ [x]).map scell)) (ho : Only (fun k => vs.ownBlock = some k) w w') : RLv S W vs' vk (Ls ++ [x]) Lk hi nx (w'.setCell ⟨S, 0, none⟩ vs') := by
  have hb : Blk w' S 44 #[vs, vk, .string hi, .int .i64 nx] := ho.blk h.blk (fun e => by
    obtain ⟨_, cur, hc⟩ := h.os.block e
    exact hc.ne_ h.blk (by decide) rfl)
  have hs := h.ok.keep ho (fun g e e' => by
    obtain ⟨_, cur, hc⟩ := h.ok.block e
    obtain ⟨_, cur', hc'⟩ := h.os.block e'
    exact hc.ne_ hc' (by decide) rfl)
  refine ⟨hb.set_ 0 vs', hk.keep (Only.setCell (S := fun k => k = S) (Only.refl _ w') (.inl rfl) _) (fun g e e' => ?_), hs.keep (Only.setCell (S := fun k => k = S) (Only.refl _ w') (.inl rfl) _) (fun g e e' => ?_), (h.below.trans (ho.below (by have := h.blk.lt; omega) (fun k hk' e => by have := (h.os.block e).1; omega))).setCell (Nat.le_refl _) _⟩
  · obtain ⟨_, cur, hc⟩ := hk.block e
    rw [e'] at hc
    exact hc.ne_ hb (by decide) rfl
  · obtain ⟨_, cur, hc⟩ := hs.block e
    rw [e'] at hc
    exact hc.ne_ hb (by decide) rfl
theorem RLv.setHi (h : RLv S W vs vk Ls Lk hi nx w) (hi' : ByteArray) (nx' : Int) : RLv S W vs vk Ls Lk hi' nx' ((w.setCell ⟨S, 2, none⟩ (.string hi')).setCell ⟨S, 3, none⟩ (.int .i64 nx')) := by
  have hb := h.blk
  have ho : Only (fun k => k = S) w ((w.setCell ⟨S, 2, none⟩ (.string hi')).setCell ⟨S, 3, none⟩ (.int .i64 nx')) := (Only.setCell (S := fun k => k = S) (Only.refl _ w) (.inl rfl) _).setCell (.inl rfl) _
  refine ⟨(hb.set_ 2 _).set_ 3 _, h.os.keep ho (fun g e e' => ?_), h.ok.keep ho (fun g e e' => ?_), (h.below.setCell (Nat.le_refl _) _).setCell (Nat.le_refl _) _⟩
  · obtain ⟨_, cur, hc⟩ := h.os.block e
    rw [e'] at hc
    exact hc.ne_ hb (by decide) rfl
  · obtain ⟨_, cur, hc⟩ := h.ok.block e
    rw [e'] at hc
    exact hc.ne_ hb (by decide) rfl
theorem RLv.cells (h : RLv S W vs vk Ls Lk hi nx w) : w.cell? ⟨S, 0, none⟩ = some vs ∧ w.cell? ⟨S, 1, none⟩ = some vk ∧ w.cell? ⟨S, 2, none⟩ = some (.string hi) ∧ w.cell? ⟨S, 3, none⟩ = some (.int .i64 nx) ∧ ∀ j, w.frozen? ⟨S, j, none⟩ = false :=
  ⟨h.blk.cell 0, h.blk.cell 1, h.blk.cell 2, h.blk.cell 3, fun j => h.blk.frozen j⟩
end
/-- The slice value v owns a row of the inner pages I, each with its own rows. -/
def ROwN (w : World) (B : Nat) (v : Value) (I : List Pg) : Prop :=
  ∃ X : List (List Value), OwV 44 4 w B v X ∧ X.length = I.length ∧ ∀ (i : Nat) (g : Pg), I[i]? = some g → ∃ vs vk, X[i]? = some (icells vs vk g) ∧ OwV 9 1 w B vs (g.seps.map scell) ∧ Ints w B vk g.kids
theorem ROwN.keep {S : Nat → Prop} {w w' : World} {B : Nat} {v : Value} {I : List Pg} (h : ROwN w B v I) (ho : Only S w w') (hS : ∀ k, S k → ∀ cur, ¬ Blk w k 44 cur ∧ ¬ Blk w k 9 cur ∧ ¬ Blk w k 3 cur) : ROwN w' B v I := by
  obtain ⟨X, h1, h2, h3⟩ := h
  refine ⟨X, h1.keep ho (fun g e e' => ?_), h2, fun i g hg => ?_⟩
  · obtain ⟨_, cur, hc⟩ := h1.block e
    exact (hS g e' cur).1 hc
  · obtain ⟨vs, vk, a1, a2, a3⟩ := h3 i g hg
    refine ⟨vs, vk, a1, a2.keep ho (fun g e e' => ?_), a3.keep ho (fun g e e' => ?_)⟩
    · obtain ⟨_, cur, hc⟩ := a2.block e
      exact (hS g e' cur).2.1 hc
    · obtain ⟨_, cur, hc⟩ := a3.block e
      exact (hS g e' cur).2.2 hc
theorem ROwN.nil (w : World) (B : Nat) : ROwN w B (.slice none 0 0) [] := ⟨[], OwV.nil _ _, rfl, fun i g h => by simp at h⟩
theorem ROwN.below {w w' : World} {B : Nat} {v : Value} {I : List Pg} (h : ROwN w B v I) (hb : Below w.heap.size w w') : ROwN w' B v I := h.keep (Only.of_below (S := fun _ => False) hb) (fun _ h => h.elim)
theorem rown_snoc {w w' : World} {S : Nat} {ov ov' vs vk : Value} {I : List Pg} {X : List (List Value)} {pg : Pg} (hX : OwV 44 4 w S ov X) (hXl : X.length = I.length)
    (hXi : ∀ (i : Nat) (g : Pg), I[i]? = some g → ∃ vs vk, X[i]? = some (icells vs vk g) ∧ OwV 9 1 w S vs (g.seps.map scell) ∧ Ints w S vk g.kids)
    (hp2 : OwV 44 4 w' S ov' (X ++ [icells vs vk pg])) (hp3 : OwV 9 1 w S vs (pg.seps.map scell)) (hp4 : Ints w S vk pg.kids) (ho : Only (fun k => ov.ownBlock = some k) w w') : ROwN w' S ov' (I ++ [pg]) := by
  have hne : ∀ k, ov.ownBlock = some k → ∀ (t : TypeId) cur, t ≠ 44 → ¬ Blk w k t cur := fun k e t cur h2 hc => by
    obtain ⟨_, cur', hc'⟩ := hX.block e
    exact hc.ne_ hc' h2 rfl
  refine ⟨X ++ [icells vs vk pg], hp2, by simp [hXl], ?_⟩
  intro i y hy
  rcases Nat.lt_or_ge i I.length with hlt | hge
  · rw [List.getElem?_append_left hlt] at hy
    obtain ⟨a, b, q1, q2, q3⟩ := hXi i y hy
    refine ⟨a, b, by rw [List.getElem?_append_left (by omega)]; exact q1, q2.keep ho (fun k e e' => ?_), q3.keep ho (fun k e e' => ?_)⟩
    · obtain ⟨_, cur, hc⟩ := q2.block e
      exact hne _ e' 9 _ (by decide) hc
    · obtain ⟨_, cur, hc⟩ := q3.block e
      exact hne _ e' 3 _ (by decide) hc
  · have hi : i = I.length := by
      have := (List.getElem?_eq_some_iff.1 hy).1
      simp at this
      omega
    subst hi
    rw [List.getElem?_append_right (Nat.le_refl _), Nat.sub_self] at hy
    simp at hy
    subst hy
    refine ⟨vs, vk, by rw [List.getElem?_append_right (by omega), hXl, Nat.sub_self]; rfl, hp3.keep ho (fun k e e' => ?_), hp4.keep ho (fun k e e' => ?_)⟩
    · obtain ⟨_, cur, hc⟩ := hp3.block e
      exact hne _ e' 9 _ (by decide) hc
    · obtain ⟨_, cur, hc⟩ := hp4.block e
      exact hne _ e' 3 _ (by decide) hc

end Go.Proofs.Ytfoidiebdklggaa
