/-
  RateDoes returns true for every input.
-/
import Derived.Test.YtokccncaclphhaaRate
import Derived.Test.YtokccncaclphhaaRef
import Derived.Test.YtokccncaclphhaaRow
import Derived.Deep.RegionWith
open Go Go.RowKit Go.Conc
namespace Go.Proofs.Ytokccncaclphhaa.rateDoes

theorem ints_ne_rate {w : World} {B g : Nat} {v : Value} {D : List Int} (h : Ints w B v D) (hg : v.ownBlock = some g) {b c m : Nat} {wd now all : Int} {P : List Int}
    (hr : Rate w b c m wd now all P) : ¬ BC b c g := by
  obtain ⟨_, cur, hb⟩ := h.block hg
  obtain ⟨⟨first, q, ⟨hb', s, r, hc⟩, _⟩, _⟩ := hr
  rintro (rfl | rfl)
  · exact Blk.ne_ hb hb' (by decide) rfl
  · unfold Blk at hb
    rw [hb] at hc
    cases hc

/-- The Rate is as it was, where only the counts' block has turned. -/
theorem rate_aside {w w' : World} {B : Nat} {v : Value} {D : List Int} (h : Ints w B v D) {b c m : Nat} {wd now all : Int} {P : List Int}
    (hr : Rate w b c m wd now all P) (ho : Only (fun k => v.ownBlock = some k) w w') : Rate w' b c m wd now all P :=
  hr.keep ho (fun e => ints_ne_rate h e hr (.inl rfl)) (fun e => ints_ne_rate h e hr (.inr rfl))

/-- The counts are as they were, where only the Rate has turned. -/
theorem ints_aside {w w' : World} {B : Nat} {v : Value} {D : List Int} (h : Ints w B v D) {b c m : Nat} {wd now all : Int} {P : List Int}
    (hr : Rate w b c m wd now all P) (ho : Only (BC b c) w w') : Ints w' B v D :=
  h.keep ho (fun _ e => ints_ne_rate h e hr)


theorem rf_ne_rate {w : World} {b c m d B : Nat} {wd now all m' wd' now' : Int} {P T : List Int} {v : Value} (h : Rf w d B m' wd' now' v T) (hr : Rate w b c m wd now all P) : ¬ BC b c d := by
  obtain ⟨⟨first, q, ⟨hb', s, r, hc⟩, _⟩, _⟩ := hr
  rintro (rfl | rfl)
  · exact Blk.ne_ h.1 hb' (by decide) rfl
  · have hb := h.1
    unfold Blk at hb
    rw [hb] at hc
    cases hc

/-- The document's Rate is as it was, where only the Rate has turned. -/
theorem rf_aside {w w' : World} {b c m d B : Nat} {wd now all m' wd' now' : Int} {P T : List Int} {v : Value} (h : Rf w d B m' wd' now' v T) (hr : Rate w b c m wd now all P)
    (ho : Only (BC b c) w w') : Rf w' d B m' wd' now' v T :=
  h.keep ho (rf_ne_rate h hr) (fun _ e => ints_ne_rate h.2 e hr)
/-- The Rate is as it was, where only the document's has turned. -/
theorem rate_aside' {w w' : World} {b c m d B : Nat} {wd now all m' wd' now' : Int} {P T : List Int} {v : Value} (h : Rf w d B m' wd' now' v T) (hr : Rate w b c m wd now all P)
    (ho : Only (fun k => k = d ∨ v.ownBlock = some k) w w') : Rate w' b c m wd now all P := by
  refine hr.keep ho (fun e => ?_) (fun e => ?_)
  · rcases e with rfl | e
    · exact rf_ne_rate h hr (.inl rfl)
    · exact ints_ne_rate h.2 e hr (.inl rfl)
  · rcases e with rfl | e
    · exact rf_ne_rate h hr (.inr rfl)
    · exact ints_ne_rate h.2 e hr (.inr rfl)

/-- Both, of one history. -/
structure Two (W w : World) (b c d m : Nat) (wd now : Int) (P : List Int) (v : Value) (T : List Int) : Prop where
  r : Rate w b c m wd now T.length P
  f : Rf w d W.heap.size m wd now v T
  p : P = Pl.alive (now - wd) T
  s : Pl.Sorted T
  t : ∀ x ∈ T, 0 ≤ x ∧ x ≤ now
  bel : Below W.heap.size W w

def StD (W w : World) (b c d m : Nat) (wd : Int) (k : Nat) : Prop := ∃ now P v T, Two W w b c d m wd now P v T ∧ now ≤ k ∧ T.length ≤ k

theorem StD.more {W w : World} {b c d m k k' : Nat} {wd : Int} (h : StD W w b c d m wd k) (hk : k ≤ k') : StD W w b c d m wd k' := by
  obtain ⟨now, P, v, T, h1, h2, h3⟩ := h
  exact ⟨now, P, v, T, h1, by omega, by omega⟩

theorem Two.tick {W w w' : World} {b c d m : Nat} {wd now : Int} {P T : List Int} {v : Value} (h : Two W w b c d m wd now P v T) (hb : W.heap.size ≤ b) (hc : W.heap.size ≤ c) (hd : W.heap.size ≤ d)
    (hr : Rate w' b c m wd (now + 1) T.length (Pl.drops (now + 1 - wd) P)) (ho : Only (BC b c) w w') :
    Two W (w'.setCell ⟨d, 2, none⟩ (.int .i64 (now + 1))) b c d m wd (now + 1) (Pl.drops (now + 1 - wd) P) v T := by
  have hf := rf_aside h.f h.r ho
  have hne := rf_ne_rate hf hr
  have hs : Only (fun k => k = d) w' (w'.setCell ⟨d, 2, none⟩ (.int .i64 (now + 1))) := Only.setCell (S := fun k => k = d) (Only.refl _ _) (.inl rfl) _
  refine ⟨hr.keep hs (fun e => hne (.inl e.symm)) (fun e => hne (.inr e.symm)), ⟨hf.1.set_ 2 _, hf.2.keep hs (fun g hg e => hf.apart (e ▸ hg))⟩, ?_, h.s, fun x hx => by have := h.t x hx; omega,
    (below_bc h.bel ho hb hc).setCell (by simpa using hd) _⟩
  rw [h.p, Pl.drops_eq _ (Pl.sorted_alive _ h.s), Pl.alive_alive (by omega)]
theorem Two.take {W w w' w'' : World} {b c d m : Nat} {wd now : Int} {P T : List Int} {v v' : Value} (h : Two W w b c d m wd now P v T) (hb : W.heap.size ≤ b) (hc : W.heap.size ≤ c) (hd : W.heap.size ≤ d)
    (hr : Rate w' b c m wd now (T.length + 1 : Nat) (P ++ [now])) (ho : Only (BC b c) w w')
    (hf : Rf w'' d W.heap.size m wd now v' (T ++ [now])) (ho2 : Only (fun k => k = d ∨ v.ownBlock = some k) w' w'') :
    Two W w'' b c d m wd now (P ++ [now]) v' (T ++ [now]) := by
  have hf' := rf_aside h.f h.r ho
  refine ⟨by simpa using rate_aside' hf' hr ho2, hf, ?_, Pl.sorted_snoc h.s (fun x hx => (h.t x hx).2), fun x hx => ?_, ?_⟩
  · rw [h.p, Pl.alive_snoc (by have := hr.2.2.2.2.2.1; omega)]
  · simp at hx
    rcases hx with hx | rfl
    · exact h.t x hx
    · have := hr.2.2.2.2.2.2.2.1; omega
  · have h1 := below_bc h.bel ho hb hc
    refine h1.trans (ho2.below h1.size (fun x hx e => ?_))
    rcases e with rfl | e
    · omega
    · have := (hf'.2.block e).1; omega
theorem Two.waited {W w w' : World} {b c d m : Nat} {wd now : Int} {P T : List Int} {v : Value} (h : Two W w b c d m wd now P v T) (hb : W.heap.size ≤ b) (hc : W.heap.size ≤ c)
    (hr : Rate w' b c m wd now T.length P) (ho : Only (BC b c) w w') : Two W w' b c d m wd now P v T :=
  ⟨hr, rf_aside h.f h.r ho, h.p, h.s, h.t, below_bc h.bel ho hb hc⟩
theorem Two.drewN {W w : World} {b c d m : Nat} {wd now : Int} {P T : List Int} {v : Value} (h : Two W w b c d m wd now P v T) (n : Nat) : Two W (w.drewN n) b c d m wd now P v T :=
  ⟨h.r.drewN n, h.f.drewN n, h.p, h.s, h.t, ⟨h.bel.os, h.bel.tape, h.bel.output, h.bel.size, h.bel.block⟩⟩
theorem Two.undrewN {W w : World} {b c d m : Nat} {wd now : Int} {P T : List Int} {v : Value} {n : Nat} (h : Two W (w.drewN n) b c d m wd now P v T) : Two W w b c d m wd now P v T :=
  ⟨h.r, h.f, h.p, h.s, h.t, ⟨h.bel.os, h.bel.tape, h.bel.output, h.bel.size, h.bel.block⟩⟩
theorem Two.count {W w : World} {b c d m : Nat} {wd now : Int} {P T : List Int} {v : Value} (h : Two W w b c d m wd now P v T) : Pl.count (now - wd) T = P.length := by
  rw [h.p]; rfl
end Go.Proofs.Ytokccncaclphhaa.rateDoes
