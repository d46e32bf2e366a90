/-
  A slice of units that came in, and a slice of ints, as the walk's readings.
-/
import Derived.Test.YtgnhfipmeljffaaRow
import Derived.Test.YtgnhfipmeljffaaAft
import Derived.Deep.Slices
import Derived.Deep.Fields
import Derived.ChangeSame
open Go Go.RowKit
namespace Go.Proofs.Ytgnhfipmeljffaa

theorem IsRow.rd {w : World} {a : Option Addr} {len cap : Nat} {zs : List Int} (h : IsRow .i64 w a len cap zs) : RdI w w.heap.size (.slice a len cap) (zs.take len) := by
  have hat := fun i hi => IsRow.at_ h (i := i) hi
  rcases h with ⟨rfl, rfl, rfl, rfl⟩ | ⟨x, rfl, h1, h2, hz, hc, hw⟩
  · exact RdI.nil_ _ _
  · have hl : (zs.take len).length = len := by simp; omega
    refine ⟨some x, cap, by rw [hl], by omega, h2, fun hp => ?_⟩
    rw [hl] at hp
    obtain ⟨b, off, e, hb, _⟩ := hat 0 hp
    refine ⟨b, off, e, hb, fun i d hd => ?_⟩
    have hi : i < len := by
      rcases Nat.lt_or_ge i len with h | h
      · exact h
      · rw [List.getElem?_eq_none (by omega)] at hd; cases hd
    obtain ⟨b', off', e', _, hc', _⟩ := hat i hi
    rw [e] at e'
    simp only [Option.some.injEq, Addr.mk.injEq] at e'
    obtain ⟨rfl, rfl, _⟩ := e'
    rw [hc']
    rw [List.getElem?_take, if_pos hi] at hd
    rw [List.getD_eq_getElem?_getD, hd]
    rfl
end Go.Proofs.Ytgnhfipmeljffaa
namespace Go.Proofs.Ytgnhfipmeljffaa
open Go Go.ChangeShapes Go.WideShapes Go.Deep
section
variable {H : Type} {enc : TypeId × Value → H} {P : Program} {w : World} {base : Nat} {spare : Nat → Bool} {held : Bool}
theorem open_slice_fields {t e : TypeId} {fs : Array Field} {fuel : Nat} {cs : List Value} {x : DataW H × List MemPlace} (ht : P.underlying t = some (.slice e)) (he : P.underlying e = some (.struct fs))
    (hone : oneCellFields P fs = true) (hC : P.cellsOf e = fs.size) (h : DataW.trod enc P w base spare held fuel t cs = some x) :
    (cs = [.slice none 0 0] ∧ x = (.nil, [])) ∨
    ∃ (a : Addr) (len cap m : Nat) (D : Nat → DataW H) (Pl : Nat → List MemPlace), cs = [.slice (some a) len cap] ∧ base ≤ a.block ∧ len ≤ cap ∧ cap ≤ maxLen ∧ m = (if spare a.block then cap else len) ∧
      x = (.slice ((List.range len).map D) ((List.range (m - len)).map fun j => D (len + j)), MemPlace.row a (m * fs.size) ++ (List.range m).flatMap Pl) ∧
      ∀ i, i < m → ∃ (ys : List (DataW H × List MemPlace)) (n : Nat), D i = .agg (ys.map (·.1)) ∧ Pl i = ys.flatMap (·.2) ∧ ys.length = fs.size ∧
        ∀ (j : Nat) (f : Field), fs[j]? = some f → ∃ (v : Value) (y : DataW H × List MemPlace), w.cell? (a.add (i * fs.size + j)) = some v ∧ ys[j]? = some y ∧ DataW.trod enc P w base spare held n f.type [v] = some y := by
  rcases open_slice ht h with h0 | ⟨a, len, cap, m, n, D, Pl, hcs, hb, hl, hm, hmm, hx, hi⟩
  · exact .inl h0
  · refine .inr ⟨a, len, cap, m, D, Pl, hcs, hb, hl, hm, hmm, by rw [hC] at hx; exact hx, fun i him => ?_⟩
    obtain ⟨cs', hc, ht'⟩ := hi i him
    rw [hC] at hc
    obtain ⟨ys, n', hn', hy, hlen, hyl, hf⟩ := DataW.trod_struct he ht'
    obtain ⟨_, hcl, hat⟩ := World.cells?_some hc
    simp only [Prod.mk.injEq] at hy
    refine ⟨ys, n', hy.1, hy.2, hyl, fun j f hj => ?_⟩
    obtain ⟨ho, hk⟩ := hone_of hone j f hj
    have hjl : j < fs.size := (Array.getElem?_eq_some_iff.1 hj).1
    have hcell := hat j hjl
    have hv : cs'[j]? = some (cs'[j]'(by omega)) := List.getElem?_eq_getElem (by omega)
    have h1 := hf j f hj
    rw [ho, hk] at h1
    have hone' : (cs'.drop j).take 1 = [cs'[j]'(by omega)] := by
      rw [List.drop_eq_getElem_cons (by omega)]
      rfl
    rw [hone'] at h1
    have hys : ys[j]? = some (ys[j]'(by omega)) := List.getElem?_eq_getElem (by omega)
    refine ⟨_, _, ?_, hys, h1.trans hys⟩
    rw [← Go.Deep.add_add, hcell, hv]

/-- A slice of structs of two ints that came in reads as units. -/
theorem open_units {t e : TypeId} {f0 f1 : Field} {fuel : Nat} {a : Option Addr} {len cap : Nat} {x : DataW H × List MemPlace} (ht : P.underlying t = some (.slice e)) (he : P.underlying e = some (.struct #[f0, f1]))
    (hone : oneCellFields P #[f0, f1] = true) (hC : P.cellsOf e = 2) (h0 : P.underlying f0.type = some (.int .i64)) (h1 : P.underlying f1.type = some (.int .i64))
    (h : DataW.trod enc P w base spare held fuel t [.slice a len cap] = some x) : ∃ U, RdU w w.heap.size (.slice a len cap) U := by
  rcases open_slice_fields ht he hone hC h with ⟨hcs, _⟩ | ⟨p, l, c, m, D, Pl, hcs, _, hl, hm, hmm, _, hi⟩
  · simp at hcs
    obtain ⟨rfl, rfl, rfl⟩ := hcs
    exact ⟨[], none, 0, rfl, Nat.le_refl _, by unfold maxLen; omega, fun h => absurd h (by simp)⟩
  · simp at hcs
    obtain ⟨rfl, rfl, rfl⟩ := hcs
    have hlm : len ≤ m := by rw [hmm]; split <;> omega
    have hcell : ∀ i, i < len → ∃ u : Int × Int, w.cell? (p.add (i * 2)) = some (.int .i64 u.1) ∧ w.cell? (p.add (i * 2 + 1)) = some (.int .i64 u.2) := by
      intro i hil
      obtain ⟨ys, n, _, _, _, hf⟩ := hi i (by omega)
      obtain ⟨v0, y0, c0, _, t0⟩ := hf 0 f0 rfl
      obtain ⟨v1, y1, c1, _, t1⟩ := hf 1 f1 rfl
      obtain ⟨z0, e0, _, _⟩ := DataW.trod_int h0 t0
      obtain ⟨z1, e1, _, _⟩ := DataW.trod_int h1 t1
      simp only [List.cons.injEq, and_true] at e0 e1
      exact ⟨(z0, z1), by rw [← e0]; exact c0, by rw [← e1]; exact c1⟩
    have hall : ∀ i, ∃ u : Int × Int, i < len → w.cell? (p.add (i * 2)) = some (.int .i64 u.1) ∧ w.cell? (p.add (i * 2 + 1)) = some (.int .i64 u.2) := by
      intro i
      by_cases hil : i < len
      · obtain ⟨u, hu⟩ := hcell i hil
        exact ⟨u, fun _ => hu⟩
      · exact ⟨(0, 0), fun h => absurd h hil⟩
    obtain ⟨f, hf⟩ := Classical.axiomOfChoice hall
    have hl' : ((List.range len).map f).length = len := by simp
    refine ⟨(List.range len).map f, some p, cap, by rw [hl'], by omega, hm, fun hp => ?_⟩
    rw [hl'] at hp
    have hc0 := (hf 0 hp).1
    obtain ⟨b, off, spot⟩ := p
    have hspot : spot = none := by simpa [Addr.add] using World.cell?_spot hc0
    subst hspot
    have hadd : ∀ i, (Addr.add ⟨b, off, none⟩ i) = ⟨b, off + i, none⟩ := fun i => by
      unfold Addr.add
      split
      · subst_vars; rfl
      · rfl
    refine ⟨b, off, rfl, cell_lt hc0, fun i u hu => ?_⟩
    have hi' : i < len := by
      rcases Nat.lt_or_ge i len with h | h
      · exact h
      · rw [List.getElem?_eq_none (by omega)] at hu; cases hu
    rw [List.getElem?_map, List.getElem?_range hi'] at hu
    simp only [Option.map_some, Option.some.injEq] at hu
    have := hf i hi'
    rw [hadd, hadd, hu] at this
    exact this
end
end Go.Proofs.Ytgnhfipmeljffaa
