/-
  A slice of kids that came in, as the walk's reading.
-/
import Derived.Test.YtfoidiebdklggaaOps
import Derived.Test.YtfoidiebdklggaaKd
open Go Go.RowKit
namespace Go.Proofs.Ytfoidiebdklggaa
open Go Go.ChangeShapes Go.WideShapes Go.Deep
section
variable {H : Type} {enc : TypeId × Value → H} {P : Program} {w : World} {base : Nat} {spare : Nat → Bool} {held : Bool}

/-- A slice of structs of two ints that came in (text, int) reads as kids. -/
theorem open_kids {t e : TypeId} {f0 f1 : Field} {fuel : Nat} {a : Option Addr} {len cap : Nat} {x : DataW H × List MemPlace} (ht : P.underlying t = some (.slice e)) (he : P.underlying e = some (.struct #[f0, f1]))
    (hone : oneCellFields P #[f0, f1] = true) (hC : P.cellsOf e = 2) (h0 : P.underlying f0.type = some .string) (h1 : P.underlying f1.type = some (.int .i64))
    (h : DataW.trod enc P w base spare held fuel t [.slice a len cap] = some x) : ∃ U, RdK w w.heap.size (.slice a len cap) U := by
  rcases open_slice_fields ht he hone hC h with ⟨hcs, _⟩ | ⟨p, l, c, m, D, Pl, hcs, _, hl, hm, hmm, _, hi⟩
  · simp at hcs
    obtain ⟨rfl, rfl, rfl⟩ := hcs
    exact ⟨[], RdV.nil_ _ _⟩
  · simp at hcs
    obtain ⟨rfl, rfl, rfl⟩ := hcs
    have hlm : len ≤ m := by rw [hmm]; split <;> omega
    have hcell : ∀ i, i < len → ∃ u : Kid, w.cell? (p.add (i * 2)) = some (.string u.1) ∧ w.cell? (p.add (i * 2 + 1)) = some (.int .i64 u.2) := by
      intro i hil
      obtain ⟨ys, n, _, _, _, hf⟩ := hi i (by omega)
      obtain ⟨v0, y0, c0, _, t0⟩ := hf 0 f0 rfl
      obtain ⟨v1, y1, c1, _, t1⟩ := hf 1 f1 rfl
      obtain ⟨z0, e0, _, _⟩ := DataW.trod_string h0 t0
      obtain ⟨z1, e1, _, _⟩ := DataW.trod_int h1 t1
      simp only [List.cons.injEq, and_true] at e0 e1
      exact ⟨(z0, z1), by rw [← e0]; exact c0, by rw [← e1]; exact c1⟩
    have hall : ∀ i, ∃ u : Kid, i < len → w.cell? (p.add (i * 2)) = some (.string u.1) ∧ w.cell? (p.add (i * 2 + 1)) = some (.int .i64 u.2) := by
      intro i
      by_cases hil : i < len
      · obtain ⟨u, hu⟩ := hcell i hil
        exact ⟨u, fun _ => hu⟩
      · exact ⟨(ByteArray.empty, 0), fun h => absurd h hil⟩
    obtain ⟨f, hf⟩ := Classical.axiomOfChoice hall
    have hl' : ((List.range len).map f).length = len := by simp
    refine ⟨(List.range len).map f, some p, cap, by rw [List.length_map, hl'], by rw [List.length_map, hl']; omega, hm, fun hp => ?_⟩
    rw [List.length_map, hl'] at hp
    have hc0 := (hf 0 hp).1
    obtain ⟨b, off, spot⟩ := p
    have hspot : spot = none := by simpa [Addr.add] using World.cell?_spot hc0
    subst hspot
    have hadd : ∀ i, (Addr.add ⟨b, off, none⟩ i) = ⟨b, off + i, none⟩ := fun i => by
      unfold Addr.add
      split
      · subst_vars; rfl
      · rfl
    refine ⟨b, off, rfl, cell_lt hc0, fun i x hx j y hy => ?_⟩
    rw [List.getElem?_map, Option.map_eq_some_iff] at hx
    obtain ⟨u, hu, rfl⟩ := hx
    have hi' : i < len := by
      rcases Nat.lt_or_ge i len with h | h
      · exact h
      · rw [List.getElem?_eq_none (by omega)] at hu; cases hu
    rw [List.getElem?_map, List.getElem?_range hi'] at hu
    simp only [Option.map_some, Option.some.injEq] at hu
    have := hf i hi'
    rw [hadd, hadd, hu] at this
    match j, hy with
    | 0, hy => simp only [kcells, List.getElem?_cons_zero, Option.some.injEq] at hy; rw [← hy]; exact this.1
    | 1, hy => simp only [kcells, List.getElem?_cons_succ, List.getElem?_cons_zero, Option.some.injEq] at hy; rw [← hy]; exact this.2
    | j + 2, hy => simp [kcells] at hy
end
end Go.Proofs.Ytfoidiebdklggaa
