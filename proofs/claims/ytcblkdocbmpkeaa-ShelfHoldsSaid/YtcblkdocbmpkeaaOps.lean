/-
  A slice of structs of two ints that came in, as the walk's reading.
-/
import Derived.Test.YtcblkdocbmpkeaaRow
import Derived.Test.YtcblkdocbmpkeaaSl
import Derived.Deep.Slices
import Derived.Deep.Fields
import Derived.ChangeSame
open Go Go.RowKit
namespace Go.Proofs.Ytcblkdocbmpkeaa

/-- Does an int fit 64 bits? -/
def wide (x : Int) : Prop := -9223372036854775808 ≤ x ∧ x ≤ 9223372036854775807
/-- The slice value v can be read as the pairs U. -/
def RdO (w : World) (B : Nat) (v : Value) (U : List (Int × Int)) : Prop :=
  ∃ a cap, v = .slice a U.length cap ∧ U.length ≤ cap ∧ cap ≤ maxLen ∧ (0 < U.length → ∃ g off, a = some ⟨g, off, none⟩ ∧ g < B ∧ ∀ (i : Nat) (u : Int × Int), U[i]? = some u →
    w.cell? ⟨g, off + i * 2, none⟩ = some (.int .i64 u.1) ∧ w.cell? ⟨g, off + i * 2 + 1, none⟩ = some (.int .i64 u.2) ∧ wide u.1 ∧ wide u.2)

section
variable {w w' : World} {B B' : Nat} {v : Value} {U : List (Int × Int)}
theorem RdO.shape (h : RdO w B v U) : ∃ a cap, v = .slice a U.length cap ∧ U.length ≤ cap ∧ cap ≤ maxLen := by
  obtain ⟨a', cap', h1, h2, h3, _⟩ := h
  exact ⟨a', cap', h1, h2, h3⟩
theorem RdO.at_ {a : Option Addr} {n cap i : Nat} (h : RdO w B (.slice a n cap) U) {u : Int × Int} (hd : U[i]? = some u) :
    ∃ g off, a = some ⟨g, off, none⟩ ∧ g < B ∧ w.cell? ⟨g, off + i * 2, none⟩ = some (.int .i64 u.1) ∧ w.cell? ⟨g, off + i * 2 + 1, none⟩ = some (.int .i64 u.2) ∧ wide u.1 ∧ wide u.2 := by
  obtain ⟨a', cap', h1, h2, h3, h4⟩ := h
  have hi : i < U.length := by
    rcases Nat.lt_or_ge i U.length with h | h
    · exact h
    · rw [List.getElem?_eq_none h] at hd; cases hd
  simp only [Value.slice.injEq] at h1
  obtain ⟨rfl, rfl, rfl⟩ := h1
  obtain ⟨g, off, e, hg, hc⟩ := h4 (by omega)
  exact ⟨g, off, e, hg, hc i u hd⟩
end
theorem wide_of {k : IntKind} (hk : k = .i64) {n : Int} (h : (Lit.int k n).wf = true) : wide n := by
  subst hk
  simp [Lit.wf, IntKind.min, IntKind.max, IntKind.bits, IntKind.signed] at h
  unfold wide
  omega
end Go.Proofs.Ytcblkdocbmpkeaa
namespace Go.Proofs.Ytcblkdocbmpkeaa
open Go Go.ChangeShapes Go.WideShapes Go.Deep
section
variable {H : Type} {enc : TypeId × Value → H} {P : Program} {w : World} {base : Nat} {spare : Nat → Bool} {held : Bool}
theorem open_slice_fields {t e : TypeId} {fs : Array Field} {fuel : Nat} {cs : List Value} {x : DataW H × List MemPlace} (ht : P.underlying t = some (.slice e)) (he : P.underlying e = some (.struct fs))
    (hone : oneCellFields P fs = true) (hC : P.cellsOf e = fs.size) (h : DataW.trod enc P w base spare held fuel t cs = some x) :
    (cs = [.slice none 0 0] ∧ x = (.nil, [])) ∨
    ∃ (a : Addr) (len cap m : Nat) (D : Nat → DataW H) (Pl : Nat → List MemPlace), cs = [.slice (some a) len cap] ∧ base ≤ a.block ∧ len ≤ cap ∧ cap ≤ maxLen ∧ m = (if spare a.block then cap else len) ∧
      x = (.slice ((List.range len).map D) ((List.range (m - len)).map fun j => D (len + j)), MemPlace.row a (m * fs.size) ++ (List.range m).flatMap Pl) ∧
      ∀ i, i < m → ∃ (ys : List (DataW H × List MemPlace)) (n : Nat), D i = .agg (ys.map (·.1)) ∧ Pl i = ys.flatMap (·.2) ∧ ys.length = fs.size ∧
        ∀ (j : Nat) (f : Field), fs[j]? = some f → ∃ (v : Value) (y : DataW H × List MemPlace), w.cell? (a.add (i * fs.size + j)) = some v ∧ ys[j]? = some y ∧ DataW.trod enc P w base spare held n f.type [v] = some y := by
  rcases open_slice ht h with h0 | ⟨a, len, cap, m, n, D, Pl, hcs, hb, hl, hm, hmm, hx, hi⟩
  · exact .inl h0
  · refine .inr ⟨a, len, cap, m, D, Pl, hcs, hb, hl, hm, hmm, by rw [hC] at hx; exact hx, fun i him => ?_⟩
    obtain ⟨cs', hc, ht'⟩ := hi i him
    rw [hC] at hc
    obtain ⟨ys, n', hn', hy, hlen, hyl, hf⟩ := DataW.trod_struct he ht'
    obtain ⟨_, hcl, hat⟩ := World.cells?_some hc
    simp only [Prod.mk.injEq] at hy
    refine ⟨ys, n', hy.1, hy.2, hyl, fun j f hj => ?_⟩
    obtain ⟨ho, hk⟩ := hone_of hone j f hj
    have hjl : j < fs.size := (Array.getElem?_eq_some_iff.1 hj).1
    have hcell := hat j hjl
    have hv : cs'[j]? = some (cs'[j]'(by omega)) := List.getElem?_eq_getElem (by omega)
    have h1 := hf j f hj
    rw [ho, hk] at h1
    have hone' : (cs'.drop j).take 1 = [cs'[j]'(by omega)] := by
      rw [List.drop_eq_getElem_cons (by omega)]
      rfl
    rw [hone'] at h1
    have hys : ys[j]? = some (ys[j]'(by omega)) := List.getElem?_eq_getElem (by omega)
    refine ⟨_, _, ?_, hys, h1.trans hys⟩
    rw [← Go.Deep.add_add, hcell, hv]

/-- A slice of structs of two ints that came in reads as pairs. -/
theorem open_pairs {t e : TypeId} {f0 f1 : Field} {fuel : Nat} {a : Option Addr} {len cap : Nat} {x : DataW H × List MemPlace} (ht : P.underlying t = some (.slice e)) (he : P.underlying e = some (.struct #[f0, f1]))
    (hone : oneCellFields P #[f0, f1] = true) (hC : P.cellsOf e = 2) (h0 : P.underlying f0.type = some (.int .i64)) (h1 : P.underlying f1.type = some (.int .i64))
    (h : DataW.trod enc P w base spare held fuel t [.slice a len cap] = some x) : ∃ U, RdO w w.heap.size (.slice a len cap) U := by
  rcases open_slice_fields ht he hone hC h with ⟨hcs, _⟩ | ⟨p, l, c, m, D, Pl, hcs, _, hl, hm, hmm, _, hi⟩
  · simp at hcs
    obtain ⟨rfl, rfl, rfl⟩ := hcs
    exact ⟨[], none, 0, rfl, Nat.le_refl _, by unfold maxLen; omega, fun h => absurd h (by simp)⟩
  · simp at hcs
    obtain ⟨rfl, rfl, rfl⟩ := hcs
    have hlm : len ≤ m := by rw [hmm]; split <;> omega
    have hcell : ∀ i, i < len → ∃ u : Int × Int, w.cell? (p.add (i * 2)) = some (.int .i64 u.1) ∧ w.cell? (p.add (i * 2 + 1)) = some (.int .i64 u.2) ∧ wide u.1 ∧ wide u.2 := by
      intro i hil
      obtain ⟨ys, n, _, _, _, hf⟩ := hi i (by omega)
      obtain ⟨v0, y0, c0, _, t0⟩ := hf 0 f0 rfl
      obtain ⟨v1, y1, c1, _, t1⟩ := hf 1 f1 rfl
      obtain ⟨z0, e0, _, l0⟩ := DataW.trod_int h0 t0
      obtain ⟨z1, e1, _, l1⟩ := DataW.trod_int h1 t1
      simp only [List.cons.injEq, and_true] at e0 e1
      exact ⟨(z0, z1), by rw [← e0]; exact c0, by rw [← e1]; exact c1, wide_of rfl l0, wide_of rfl l1⟩
    have hall : ∀ i, ∃ u : Int × Int, i < len → w.cell? (p.add (i * 2)) = some (.int .i64 u.1) ∧ w.cell? (p.add (i * 2 + 1)) = some (.int .i64 u.2) ∧ wide u.1 ∧ wide u.2 := by
      intro i
      by_cases hil : i < len
      · obtain ⟨u, hu⟩ := hcell i hil
        exact ⟨u, fun _ => hu⟩
      · exact ⟨(0, 0), fun h => absurd h hil⟩
    obtain ⟨f, hf⟩ := Classical.axiomOfChoice hall
    have hl' : ((List.range len).map f).length = len := by simp
    refine ⟨(List.range len).map f, some p, cap, by rw [hl'], by omega, hm, fun hp => ?_⟩
    rw [hl'] at hp
    have hc0 := (hf 0 hp).1
    obtain ⟨b, off, spot⟩ := p
    have hspot : spot = none := by simpa [Addr.add] using World.cell?_spot hc0
    subst hspot
    have hadd : ∀ i, (Addr.add ⟨b, off, none⟩ i) = ⟨b, off + i, none⟩ := fun i => by
      unfold Addr.add
      split
      · subst_vars; rfl
      · rfl
    refine ⟨b, off, rfl, cell_lt hc0, fun i u hu => ?_⟩
    have hi' : i < len := by
      rcases Nat.lt_or_ge i len with h | h
      · exact h
      · rw [List.getElem?_eq_none (by omega)] at hu; cases hu
    rw [List.getElem?_map, List.getElem?_range hi'] at hu
    simp only [Option.map_some, Option.some.injEq] at hu
    have := hf i hi'
    rw [hadd, hadd, hu] at this
    exact this
end
end Go.Proofs.Ytcblkdocbmpkeaa
