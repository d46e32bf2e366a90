/-
  A slice of calls that came in, as the walks' reading.
-/
import Derived.Test.YtcblkdocbmpkeaaRws
open Go Go.RowKit
namespace Go.Proofs.Ytcblkdocbmpkeaa
open Go Go.ChangeShapes Go.WideShapes Go.Deep

abbrev Oq := Int × Int × Int × ByteArray
def ocells (o : Oq) : List Value := [.int .i64 o.1, .int .i64 o.2.1, .int .i64 o.2.2.1, .string o.2.2.2]
def RdOq (w : World) (B : Nat) (v : Value) (U : List Oq) : Prop := RdV 4 w B v (U.map ocells) ∧ ∀ o ∈ U, wide o.2.1 ∧ wide o.2.2.1
theorem RdOq.shape {w : World} {B : Nat} {v : Value} {U : List Oq} (h : RdOq w B v U) : ∃ a cap, v = .slice a U.length cap ∧ U.length ≤ cap ∧ cap ≤ maxLen := by
  have := RdV.shape h.1
  rwa [List.length_map] at this
theorem RdOq.at_ {w : World} {B : Nat} {U : List Oq} {a : Option Addr} {n cap i : Nat} (h : RdOq w B (.slice a n cap) U) {o : Oq} (hk : U[i]? = some o) :
    ∃ g off, a = some ⟨g, off, none⟩ ∧ g < B ∧ w.cell? ⟨g, off + i * 4, none⟩ = some (.int .i64 o.1) ∧ w.cell? ⟨g, off + i * 4 + 1, none⟩ = some (.int .i64 o.2.1) ∧ w.cell? ⟨g, off + i * 4 + 2, none⟩ = some (.int .i64 o.2.2.1) ∧ w.cell? ⟨g, off + i * 4 + 3, none⟩ = some (.string o.2.2.2) ∧ wide o.2.1 ∧ wide o.2.2.1 := by
  obtain ⟨g, off, e, hg, hc⟩ := RdV.at_ h.1 (i := i) (x := ocells o) (by rw [List.getElem?_map, hk]; rfl)
  obtain ⟨h1, h2⟩ := h.2 o (List.mem_of_getElem? hk)
  exact ⟨g, off, e, hg, hc 0 _ rfl, hc 1 _ rfl, hc 2 _ rfl, hc 3 _ rfl, h1, h2⟩
section
variable {H : Type} {enc : TypeId × Value → H} {P : Program} {w : World} {base : Nat} {spare : Nat → Bool} {held : Bool}
theorem open_ops {t e : TypeId} {f0 f1 f2 f3 : Field} {fuel : Nat} {a : Option Addr} {len cap : Nat} {x : DataW H × List MemPlace} (ht : P.underlying t = some (.slice e)) (he : P.underlying e = some (.struct #[f0, f1, f2, f3]))
    (hone : oneCellFields P #[f0, f1, f2, f3] = true) (hC : P.cellsOf e = 4) (h0 : P.underlying f0.type = some (.int .i64)) (h1 : P.underlying f1.type = some (.int .i64)) (h2 : P.underlying f2.type = some (.int .i64)) (h3 : P.underlying f3.type = some .string)
    (h : DataW.trod enc P w base spare held fuel t [.slice a len cap] = some x) : ∃ U, RdOq w w.heap.size (.slice a len cap) U := by
  rcases open_slice_fields ht he hone hC h with ⟨hcs, _⟩ | ⟨p, l, c, m, D, Pl, hcs, _, hl, hm, hmm, _, hi⟩
  · simp at hcs
    obtain ⟨rfl, rfl, rfl⟩ := hcs
    exact ⟨[], RdV.nil_ _ _, fun p hp => by simp at hp⟩
  · simp at hcs
    obtain ⟨rfl, rfl, rfl⟩ := hcs
    have hlm : len ≤ m := by rw [hmm]; split <;> omega
    have hcell : ∀ i, i < len → ∃ u : Oq, w.cell? (p.add (i * 4)) = some (.int .i64 u.1) ∧ w.cell? (p.add (i * 4 + 1)) = some (.int .i64 u.2.1) ∧ w.cell? (p.add (i * 4 + 2)) = some (.int .i64 u.2.2.1) ∧ w.cell? (p.add (i * 4 + 3)) = some (.string u.2.2.2) ∧ wide u.2.1 ∧ wide u.2.2.1 := by
      intro i hil
      obtain ⟨ys, n, _, _, _, hf⟩ := hi i (by omega)
      obtain ⟨v0, y0, c0, _, t0⟩ := hf 0 f0 rfl
      obtain ⟨v1, y1, c1, _, t1⟩ := hf 1 f1 rfl
      obtain ⟨v2, y2, c2, _, t2⟩ := hf 2 f2 rfl
      obtain ⟨v3, y3, c3, _, t3⟩ := hf 3 f3 rfl
      obtain ⟨z0, e0, _, l0⟩ := DataW.trod_int h0 t0
      obtain ⟨z1, e1, _, l1⟩ := DataW.trod_int h1 t1
      obtain ⟨z2, e2, _, l2⟩ := DataW.trod_int h2 t2
      obtain ⟨z3, e3, _, _⟩ := DataW.trod_string h3 t3
      simp only [List.cons.injEq, and_true] at e0 e1 e2 e3
      exact ⟨(z0, z1, z2, z3), by rw [← e0]; exact c0, by rw [← e1]; exact c1, by rw [← e2]; exact c2, by rw [← e3]; exact c3, wide_of rfl l1, wide_of rfl l2⟩
    have hall : ∀ i, ∃ u : Oq, i < len → w.cell? (p.add (i * 4)) = some (.int .i64 u.1) ∧ w.cell? (p.add (i * 4 + 1)) = some (.int .i64 u.2.1) ∧ w.cell? (p.add (i * 4 + 2)) = some (.int .i64 u.2.2.1) ∧ w.cell? (p.add (i * 4 + 3)) = some (.string u.2.2.2) ∧ wide u.2.1 ∧ wide u.2.2.1 := by
      intro i
      by_cases hil : i < len
      · obtain ⟨u, hu⟩ := hcell i hil
        exact ⟨u, fun _ => hu⟩
      · exact ⟨(0, 0, 0, ⟨#[]⟩), fun h => absurd h hil⟩
    obtain ⟨f, hf⟩ := Classical.axiomOfChoice hall
    have hL : (((List.range len).map f).map ocells).length = len := by simp
    refine ⟨(List.range len).map f, ?_, fun q hq => ?_⟩
    · have := rdV_mk (s := 4) (w := w) (p := p) (cap := cap) (L := ((List.range len).map f).map ocells) (by omega) hm (fun x hx => by obtain ⟨s, _, rfl⟩ := List.mem_map.1 hx; simp [ocells]) (fun i x hx j u hu => by
        rw [List.getElem?_map, Option.map_eq_some_iff] at hx
        obtain ⟨s, hs, rfl⟩ := hx
        have hi' : i < len := by
          rcases Nat.lt_or_ge i len with h | h
          · exact h
          · rw [List.getElem?_eq_none (by simp; omega)] at hs; cases hs
        rw [List.getElem?_map, List.getElem?_range hi', Option.map_some, Option.some.injEq] at hs
        obtain ⟨q0, q1, q2, q3, _⟩ := hf i hi'
        rw [hs] at q0 q1 q2 q3
        match j, hu with
        | 0, hu => simp only [ocells, List.getElem?_cons_zero, Option.some.injEq] at hu; rw [← hu]; exact q0
        | 1, hu => simp only [ocells, List.getElem?_cons_succ, List.getElem?_cons_zero, Option.some.injEq] at hu; rw [← hu]; exact q1
        | 2, hu => simp only [ocells, List.getElem?_cons_succ, List.getElem?_cons_zero, Option.some.injEq] at hu; rw [← hu]; exact q2
        | 3, hu => simp only [ocells, List.getElem?_cons_succ, List.getElem?_cons_zero, Option.some.injEq] at hu; rw [← hu]; exact q3
        | j + 4, hu => simp [ocells] at hu)
      rw [hL] at this
      exact this
    · obtain ⟨i, hi, rfl⟩ := List.mem_map.1 hq
      exact (hf i (List.mem_range.1 hi)).2.2.2.2
end
end Go.Proofs.Ytcblkdocbmpkeaa
