/-
  A shelf of pages: what Write, Free, Len, Taken, Run, Copy, New do, by contracts.
-/
import Derived.Test.YtcblkdocbmpkeaaSh
import Derived.Test.YtcblkdocbmpkeaaTs
import Derived.Deep.RegionHeld3
import Derived.Shelf.SlMaps.Clone
open Go Go.RowKit
namespace Go.Proofs.Ytcblkdocbmpkeaa

def writeE (M : Mt) (i : Int) (s : ByteArray) : Int := if readE M i = 0 then (if 252 < s.size then 2 else 0) else readE M i
def writeM (M : Mt) (i : Int) (s : ByteArray) : Mt := if writeE M i s = 0 then M.set i.toNat (some s) else M
theorem read_zero {M : Mt} {i : Int} (h : readE M i = 0) : ∃ j : Nat, i = j ∧ j < M.length ∧ hasM M j = true := by
  unfold readE at h
  cases h1 : hasB (tks M) i with
  | false => rw [h1] at h; simp at h
  | true =>
    obtain ⟨j, rfl, hj⟩ := hasB_set h1
    rw [h1, Int.toNat_natCast] at h
    refine ⟨j, rfl, hj, ?_⟩
    cases h2 : hasM M j with
    | true => rfl
    | false => rw [h2] at h; simp at h
theorem tks_over {M : Mt} {i : Nat} (hi : i < M.length) (h : hasM M i = true) (s : ByteArray) : tks (M.set i (some s)) = tks M := by
  rw [tks_set]
  apply List.ext_getElem?
  intro j
  rw [List.getElem?_set]
  by_cases e : i = j
  · subst e
    rw [if_pos rfl, tks_len, if_pos hi]
    unfold tks
    rw [List.getElem?_map, atM_lt hi]
    unfold hasM at h
    rw [Option.map_some, h]
    rfl
  · rw [if_neg e]
section
variable {w w' : World} {B S p mb : Nat} {v : Value} {M : Mt}
/-- A page that is taken has other bytes now. -/
theorem Sh.over (h : Sh w B S p mb v M) {i : Nat} (hi : i < M.length) (hh : hasM M i = true) {s : ByteArray} (hm : Mp w' mb (M.set i (some s))) (ho : Only (fun k => k = mb) w w') : Sh w' B S p mb v (M.set i (some s)) := by
  obtain ⟨h1, h2, h3⟩ := h.own
  exact ⟨ho.blk h.blk h1, by rw [tks_over hi hh]; exact h.bt.keep ho h2 h3, hm, h.b1, h.b2⟩
end
set_option maxRecDepth 100000 in
theorem write_s {W : World} {B S p mb : Nat} {v : Value} {M : Mt} (h : Sh W B S p mb v M) (i : Int) (s : ByteArray) :
    Calls Try.prog 11 #[.pointer (some ⟨S, 0, none⟩), .int .i64 i, .string s] W fun e W' => e = .returned (.int .i64 (writeE M i s)) ∧ Sh W' B S p mb v (writeM M i s) ∧ Only (ShO v mb) W W' := by
  have H := hid h
  have c1 := h.blk.cell 1
  simp only [List.getElem?_toArray, List.getElem?_cons_zero, List.getElem?_cons_succ] at c1
  have HR := hid (read_s h i)
  by_cases hr : readE M i = 0
  · rw [hr] at HR
    obtain ⟨j, rfl, hj, hh⟩ := read_zero hr
    by_cases hs : 252 < s.size
    · have e1 : writeE M (j : Int) s = 2 := by unfold writeE; rw [if_pos hr, if_pos hs]
      have e2 : writeM M (j : Int) s = M := by unfold writeM; rw [if_neg (by rw [e1]; decide)]
      rw [e1, e2]
      have hsi : (252 : Int) < (s.size : Int) := by omega
      clear h hr e1 e2 hj hh hs
      go_enter Try.func11, Try.ntmps11
      go_wp2_with fail
      refine HR.out.mono ?_
      rintro e w1 ⟨rfl, rfl⟩
      go_wp2
      go_ret
      exact ⟨rfl, H.out, Only.refl _ _⟩
    · have e1 : writeE M (j : Int) s = 0 := by unfold writeE; rw [if_pos hr, if_neg hs]
      have e2 : writeM M (j : Int) s = M.set j (some s) := by unfold writeM; rw [if_pos e1, Int.toNat_natCast]
      rw [e1, e2]
      have hsi : ¬ (252 : Int) < (s.size : Int) := by omega
      obtain ⟨w2, hrun, hm, ho⟩ := h.mp.store hj (s := s) (by unfold maxLen; omega)
      have HS := hid (h.over hj hh hm ho)
      have HO := hid (ho.mono (T := ShO v mb) (fun k _ e => .inl e))
      clear h hr e1 e2 hj hh hs hm ho
      go_enter Try.func11, Try.ntmps11
      go_wp2_with fail
      refine HR.out.mono ?_
      rintro e w1 ⟨rfl, rfl⟩
      go_wp2
      go_ret
      exact ⟨rfl, HS.out, HO.out⟩
  · have e1 : writeE M i s = readE M i := by unfold writeE; rw [if_neg hr]
    have e2 : writeM M i s = M := by unfold writeM; rw [if_neg (by rw [e1]; exact hr)]
    rw [e1, e2]
    generalize readE M i = z at *
    have hz : (z == 0) = false := by simpa using hr
    have hz2 : (z != 0) = true := by simpa using hr
    clear h e1 e2
    go_enter Try.func11, Try.ntmps11
    go_wp2_with fail
    refine HR.out.mono ?_
    rintro e w1 ⟨rfl, rfl⟩
    go_wp2
    go_ret
    exact ⟨rfl, H.out, Only.refl _ _⟩

section
variable {W : World} {B S p mb : Nat} {v : Value} {M : Mt}
theorem len_s (h : Sh W B S p mb v M) : Calls Try.prog 24 #[.pointer (some ⟨S, 0, none⟩)] W fun e W' => e = .returned (.int .i64 M.length) ∧ W' = W := by
  have h0 := h.blk.cell 0
  simp only [List.getElem?_toArray, List.getElem?_cons_zero] at h0
  have HC := hid (len_any h.bt)
  rw [tks_len] at HC
  clear h
  go_enter Try.func24, Try.ntmps24
  go_wp2_with fail
  refine HC.out.mono ?_
  rintro e w1 ⟨rfl, rfl⟩
  go_wp2
  go_ret
  exact ⟨rfl, rfl⟩
theorem free_s (h : Sh W B S p mb v M) : Calls Try.prog 15 #[.pointer (some ⟨S, 0, none⟩)] W fun e W' => e = .returned (.int .i64 (freeN (tks M))) ∧ Below W.heap.size W W' := by
  have h0 := h.blk.cell 0
  simp only [List.getElem?_toArray, List.getElem?_cons_zero] at h0
  have HC := hid (free_any h.bt)
  clear h
  go_enter Try.func15, Try.ntmps15
  go_wp2_with fail
  refine HC.out.mono ?_
  rintro e w1 ⟨rfl, hb⟩
  have HB := hid hb
  clear hb
  go_wp2
  go_ret
  exact ⟨rfl, HB.out⟩
theorem taken_s (h : Sh W B S p mb v M) : Calls Try.prog 21 #[.pointer (some ⟨S, 0, none⟩)] W fun e W' => ∃ vo, e = .returned vo ∧ Ints W' W.heap.size vo (takenL (tks M)) ∧ Below W.heap.size W W' := by
  have h0 := h.blk.cell 0
  simp only [List.getElem?_toArray, List.getElem?_cons_zero] at h0
  have HC := hid (taken_any h.bt)
  clear h
  go_enter Try.func21, Try.ntmps21
  go_wp2_with fail
  refine HC.out.mono ?_
  rintro e w1 ⟨vo, rfl, hi, hb⟩
  have HB := hid hb
  have HI := hid hi
  clear hb hi
  go_wp2
  go_ret
  exact ⟨_, rfl, HI.out, HB.out⟩
theorem run_s (h : Sh W B S p mb v M) (m : Int) : Calls Try.prog 25 #[.pointer (some ⟨S, 0, none⟩), .int .i64 m] W fun e W' => e = .returned (.tuple #[.int .i64 (runX (tks M) m), .bool (runOk (tks M) m)]) ∧ Below W.heap.size W W' := by
  have h0 := h.blk.cell 0
  simp only [List.getElem?_toArray, List.getElem?_cons_zero] at h0
  have HC := hid (run_any h.bt m)
  clear h
  go_enter Try.func25, Try.ntmps25
  go_wp2_with fail
  refine HC.out.mono ?_
  rintro e w1 ⟨rfl, hb⟩
  have HB := hid hb
  clear hb
  go_wp2
  go_ret2
  exact ⟨rfl, HB.out⟩
end

set_option maxHeartbeats 2000000 in
theorem cloneM_any {W : World} {b : Nat} {M : Mt} (h : Mp W b M) :
    Calls Try.prog 35 #[.map (some b)] W fun e W' => e = .returned (.map (some W.heap.size)) ∧ Mp W' W.heap.size M ∧ Below W.heap.size W W' := by
  obtain ⟨D, ⟨es, clock, hb, F, hs, hD⟩, hall⟩ := h.own
  have hq := fun w => run_eql_map_nil_sl (P := Try.prog) w 63 _ _ (some b) Try.underlying63
  have hR := hid (show Mp (W.alloc (.map es clock)) W.heap.size M from ⟨⟨D, ⟨es, clock, (MapKept.heap_alloc W _).1, F, hs, hD⟩, hall⟩, h.len⟩)
  have hB := hid ((Below.refl W.heap.size W).alloc (Nat.le_refl _) (.map es clock))
  clear h F hs hD hall
  go_enter Try.func35, Try.ntmps35
  go_wp2
  rw [run_callFunc_extern Try.func51 (by kernel_rfl) (by kernel_rfl) (by kernel_rfl) (e := Extern.MapsClone.clone) (by kernel_rfl), run_maps_clone_sl W 63 hb]
  simp only [Result.andThen]
  rw [Oper.upon_value]
  go_wp2
  rw [run_typeAssert_map_sl _ 63 20 _ _ _ Try.underlying63]
  simp only [Result.andThen]
  rw [Oper.upon_value]
  go_wp2
  go_ret
  exact ⟨rfl, hR.out, hB.out⟩
end Go.Proofs.Ytcblkdocbmpkeaa
