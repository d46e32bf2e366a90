/-
  A slice of ints that came in, as the walk's reading.
-/
import Derived.Test.YtcblkdocbmpkeaaRow
import Derived.Test.YtcblkdocbmpkeaaSl
open Go Go.RowKit
namespace Go.Proofs.Ytcblkdocbmpkeaa

theorem IsRow.rd {w : World} {a : Option Addr} {len cap : Nat} {zs : List Int} (h : IsRow .i64 w a len cap zs) : RdI w w.heap.size (.slice a len cap) (zs.take len) := by
  have hat := fun i hi => IsRow.at_ h (i := i) hi
  rcases h with ⟨rfl, rfl, rfl, rfl⟩ | ⟨x, rfl, h1, h2, hz, hc, hw⟩
  · exact RdI.nil_ _ _
  · have hl : (zs.take len).length = len := by simp; omega
    refine ⟨some x, cap, by rw [hl], by omega, h2, fun hp => ?_⟩
    rw [hl] at hp
    obtain ⟨b, off, e, hb, _⟩ := hat 0 hp
    refine ⟨b, off, e, hb, fun i d hd => ?_⟩
    have hi : i < len := by
      rcases Nat.lt_or_ge i len with h | h
      · exact h
      · rw [List.getElem?_eq_none (by omega)] at hd; cases hd
    obtain ⟨b', off', e', _, hc', _⟩ := hat i hi
    rw [e] at e'
    simp only [Option.some.injEq, Addr.mk.injEq] at e'
    obtain ⟨rfl, rfl, _⟩ := e'
    rw [hc']
    rw [List.getElem?_take, if_pos hi] at hd
    rw [List.getD_eq_getElem?_getD, hd]
    rfl
end Go.Proofs.Ytcblkdocbmpkeaa
