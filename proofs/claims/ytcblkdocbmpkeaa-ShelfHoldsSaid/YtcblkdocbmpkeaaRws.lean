/-
  A slice of texts, of pairs of bytes, of calls that came in, as the walks' readings.
-/
import Derived.Test.YtcblkdocbmpkeaaOps
import Derived.Test.YtcblkdocbmpkeaaSs
import Derived.SliceStrings
import Derived.OpenShut
open Go Go.RowKit
namespace Go.Proofs.Ytcblkdocbmpkeaa
open Go Go.ChangeShapes Go.WideShapes Go.Deep

theorem rdV_mk {s : Nat} {w : World} {p : Addr} {cap : Nat} {L : List (List Value)} (h1 : L.length ≤ cap) (h2 : cap ≤ maxLen) (hne : ∀ x ∈ L, 0 < x.length)
    (hc : ∀ (i : Nat) (x : List Value), L[i]? = some x → ∀ (j : Nat) (u : Value), x[j]? = some u → w.cell? (p.add (i * s + j)) = some u) : RdV s w w.heap.size (.slice (some p) L.length cap) L := by
  refine ⟨some p, cap, rfl, h1, h2, fun hp => ?_⟩
  obtain ⟨x0, hx0⟩ : ∃ x0, L[0]? = some x0 := ⟨_, List.getElem?_eq_getElem hp⟩
  have hx0l := hne x0 (List.mem_of_getElem? hx0)
  have hc0 := hc 0 x0 hx0 0 _ (List.getElem?_eq_getElem hx0l)
  obtain ⟨b, off, spot⟩ := p
  have hspot : spot = none := by simpa [Addr.add] using World.cell?_spot hc0
  subst hspot
  have hadd : ∀ i, (Addr.add ⟨b, off, none⟩ i) = ⟨b, off + i, none⟩ := fun i => by
    unfold Addr.add
    split
    · subst_vars; rfl
    · rfl
  rw [hadd] at hc0
  refine ⟨b, off, rfl, cell_lt hc0, fun i x hx j u hu => ?_⟩
  have := hc i x hx j u hu
  rwa [hadd, ← Nat.add_assoc] at this

section
variable {H : Type} {enc : TypeId × Value → H} {P : Program} {w : World} {base : Nat} {spare : Nat → Bool} {held : Bool}
theorem open_texts {t e : TypeId} {fuel : Nat} {a : Option Addr} {len cap : Nat} {x : DataW H × List MemPlace} (ht : P.underlying t = some (.slice e)) (he : P.underlying e = some .string) (hC : P.cellsOf e = 1)
    (h : DataW.trod enc P w base spare held fuel t [.slice a len cap] = some x) : ∃ L, RdS w w.heap.size (.slice a len cap) L := by
  rcases open_strings ht he hC h with ⟨hcs, _⟩ | ⟨p, l, c, ss, hcs, _, hl, hm, hz, _, hcell, _⟩
  · simp at hcs
    obtain ⟨rfl, rfl, rfl⟩ := hcs
    exact ⟨[], RdV.nil_ _ _⟩
  · simp at hcs
    obtain ⟨rfl, rfl, rfl⟩ := hcs
    have hlm : len ≤ ss.length := by rw [hz]; split <;> omega
    have hL : ((ss.take len).map scell).length = len := by simp; omega
    refine ⟨ss.take len, ?_⟩
    have := rdV_mk (s := 1) (w := w) (p := p) (cap := cap) (L := (ss.take len).map scell) (by omega) hm (fun x hx => by obtain ⟨s, _, rfl⟩ := List.mem_map.1 hx; simp [scell]) (fun i x hx j u hu => by
      rw [List.getElem?_map, Option.map_eq_some_iff] at hx
      obtain ⟨s, hs, rfl⟩ := hx
      match j, hu with
      | 0, hu =>
        simp only [scell, List.getElem?_cons_zero, Option.some.injEq] at hu
        rw [← hu, Nat.mul_one, Nat.add_zero]
        have hi : i < len := by
          rcases Nat.lt_or_ge i len with h | h
          · exact h
          · rw [List.getElem?_eq_none (by simp; omega)] at hs; cases hs
        rw [List.getElem?_take, if_pos hi] at hs
        rw [hcell i (by omega), List.getD_eq_getElem?_getD, hs]
        rfl
      | j + 1, hu => simp [scell] at hu)
    rw [hL] at this
    exact this
theorem open_bytes2 {t e f : TypeId} {fuel : Nat} {a : Option Addr} {len cap : Nat} {x : DataW H × List MemPlace} (ht : P.underlying t = some (.slice e)) (he : P.underlying e = some (.array 2 f)) (hf : P.underlying f = some (.int .u8)) (hC : P.cellsOf e = 2) (hC1 : P.cellsOf f = 1)
    (h : DataW.trod enc P w base spare held fuel t [.slice a len cap] = some x) : ∃ L, RdPr w w.heap.size (.slice a len cap) L := by
  rcases open_slice ht h with ⟨hcs, _⟩ | ⟨p, l, c, m, n, D, Pl, hcs, _, hl, hm, hmm, _, hi⟩
  · simp at hcs
    obtain ⟨rfl, rfl, rfl⟩ := hcs
    exact ⟨[], RdV.nil_ _ _, fun p hp => by simp at hp⟩
  · simp at hcs
    obtain ⟨rfl, rfl, rfl⟩ := hcs
    have hlm : len ≤ m := by rw [hmm]; split <;> omega
    have hcell : ∀ i, i < len → ∃ u : Nat × Nat, w.cell? (p.add (i * 2)) = some (.int .u8 (u.1 : Int)) ∧ w.cell? (p.add (i * 2 + 1)) = some (.int .u8 (u.2 : Int)) ∧ u.1 < 256 ∧ u.2 < 256 := by
      intro i hil
      obtain ⟨cs', hc, ht'⟩ := hi i (by omega)
      rw [hC] at hc
      obtain ⟨xs, k, _, _, hlen, hxl, hx⟩ := DataW.trod_array he ht'
      obtain ⟨_, hcl, hat⟩ := World.cells?_some hc
      rw [hC1] at hx
      have h0 := hx 0 (by omega)
      have h1 := hx 1 (by omega)
      match cs', hcl with
      | [v0, v1], _ =>
        simp only [Nat.zero_mul, Nat.one_mul, List.drop_zero, List.take_succ_cons, List.take_zero, List.drop_succ_cons] at h0 h1
        rw [List.getElem?_eq_getElem (by omega)] at h0 h1
        obtain ⟨z0, e0, _, w0⟩ := DataW.trod_int hf h0
        obtain ⟨z1, e1, _, w1⟩ := DataW.trod_int hf h1
        simp only [List.cons.injEq, and_true] at e0 e1
        have a0 := hat 0 (by omega)
        have a1 := hat 1 (by omega)
        simp only [List.getElem?_cons_zero, List.getElem?_cons_succ] at a0 a1
        rw [e0] at a0
        rw [e1] at a1
        simp [Lit.wf, IntKind.min, IntKind.max, IntKind.bits, IntKind.signed] at w0 w1
        refine ⟨(z0.toNat, z1.toNat), ?_, ?_, by show z0.toNat < 256; omega, by show z1.toNat < 256; omega⟩
        · rw [Int.toNat_of_nonneg (by omega), ← a0, Go.Deep.add_add, Nat.add_zero]
        · rw [Int.toNat_of_nonneg (by omega), ← a1, Go.Deep.add_add]
    have hall : ∀ i, ∃ u : Nat × Nat, i < len → w.cell? (p.add (i * 2)) = some (.int .u8 (u.1 : Int)) ∧ w.cell? (p.add (i * 2 + 1)) = some (.int .u8 (u.2 : Int)) ∧ u.1 < 256 ∧ u.2 < 256 := by
      intro i
      by_cases hil : i < len
      · obtain ⟨u, hu⟩ := hcell i hil
        exact ⟨u, fun _ => hu⟩
      · exact ⟨(0, 0), fun h => absurd h hil⟩
    obtain ⟨g, hg⟩ := Classical.axiomOfChoice hall
    have hL : (((List.range len).map g).map pcells).length = len := by simp
    refine ⟨(List.range len).map g, ?_, fun q hq => ?_⟩
    · have := rdV_mk (s := 2) (w := w) (p := p) (cap := cap) (L := ((List.range len).map g).map pcells) (by omega) hm (fun x hx => by obtain ⟨s, _, rfl⟩ := List.mem_map.1 hx; simp [pcells]) (fun i x hx j u hu => by
        rw [List.getElem?_map, Option.map_eq_some_iff] at hx
        obtain ⟨s, hs, rfl⟩ := hx
        have hi' : i < len := by
          rcases Nat.lt_or_ge i len with h | h
          · exact h
          · rw [List.getElem?_eq_none (by simp; omega)] at hs; cases hs
        rw [List.getElem?_map, List.getElem?_range hi', Option.map_some, Option.some.injEq] at hs
        have := hg i hi'
        rw [hs] at this
        match j, hu with
        | 0, hu => simp only [pcells, List.getElem?_cons_zero, Option.some.injEq] at hu; rw [← hu]; exact this.1
        | 1, hu => simp only [pcells, List.getElem?_cons_succ, List.getElem?_cons_zero, Option.some.injEq] at hu; rw [← hu]; exact this.2.1
        | j + 2, hu => simp [pcells] at hu)
      rw [hL] at this
      exact this
    · obtain ⟨i, hi, rfl⟩ := List.mem_map.1 hq
      exact (hg i (List.mem_range.1 hi)).2.2
end
end Go.Proofs.Ytcblkdocbmpkeaa
