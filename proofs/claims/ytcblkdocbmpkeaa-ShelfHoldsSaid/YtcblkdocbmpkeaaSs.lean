/-
  Swaps of pages that are all taken: plain laws.
-/
import Derived.Test.YtcblkdocbmpkeaaFu
import Derived.Test.YtcblkdocbmpkeaaRv
open Go Go.RowKit
namespace Go.Proofs.Ytcblkdocbmpkeaa

/-- All of n pages are taken. -/
structure AllM (M : Mt) (n : Nat) : Prop where
  len : M.length = n
  all : ∀ i, i < n → hasM M i = true
theorem AllM.of_full {M : Mt} {n : Nat} (h : Full (tks M) n) : AllM M n := by
  have hl := h.len
  rw [tks_len] at hl
  exact ⟨hl, fun i hi => by rw [← tks_at (by omega)]; exact h.all i hi⟩
theorem some_get {M : Mt} {i : Nat} (h : hasM M i = true) : some (getM M i) = atM M i := by
  unfold hasM at h
  unfold getM
  cases hc : atM M i with
  | none => rw [hc] at h; simp at h
  | some x => rfl
theorem mt_ext {M N : Mt} (hl : M.length = N.length) (h : ∀ i, i < M.length → atM M i = atM N i) : M = N := by
  apply List.ext_getElem?
  intro i
  by_cases hi : i < M.length
  · rw [atM_lt hi, atM_lt (by omega), h i hi]
  · rw [List.getElem?_eq_none (by omega), List.getElem?_eq_none (by omega)]
theorem read_all {M : Mt} {n : Nat} (h : AllM M n) {i : Nat} (hi : i < n) : readE M (i : Int) = 0 := by
  unfold readE
  rw [hasB_has (by rw [h.len]; exact hi), Int.toNat_natCast, h.all i hi]
  rfl
theorem swap_all {M : Mt} {n a b : Nat} (h : AllM M n) (ha : a < n) (hb : b < n) : swapE M (a : Int) (b : Int) = 0 ∧ swapM M (a : Int) (b : Int) = (M.set a (atM M b)).set b (atM M a) := by
  have e : swapE M (a : Int) (b : Int) = 0 := by unfold swapE; rw [read_all h ha, read_all h hb]; rfl
  refine ⟨e, ?_⟩
  unfold swapM
  rw [if_pos e, Int.toNat_natCast, Int.toNat_natCast, some_get (h.all a ha), some_get (h.all b hb)]
theorem swap_at {M : Mt} {n a b : Nat} (h : AllM M n) (ha : a < n) (hb : b < n) (i : Nat) : atM (swapM M (a : Int) (b : Int)) i = if i = b then atM M a else if i = a then atM M b else atM M i := by
  have hl := h.len
  rw [(swap_all h ha hb).2, atM_set (by rw [List.length_set]; omega), atM_set (by omega)]
theorem swap_len {M : Mt} {n a b : Nat} (h : AllM M n) (ha : a < n) (hb : b < n) : (swapM M (a : Int) (b : Int)).length = n := by
  rw [(swap_all h ha hb).2, List.length_set, List.length_set, h.len]
theorem swap_keeps {M : Mt} {n a b : Nat} (h : AllM M n) (ha : a < n) (hb : b < n) : AllM (swapM M (a : Int) (b : Int)) n := by
  refine ⟨swap_len h ha hb, fun i hi => ?_⟩
  have h1 := h.all a ha
  have h2 := h.all b hb
  have h3 := h.all i hi
  unfold hasM at h1 h2 h3 ⊢
  rw [swap_at h ha hb]
  split
  · exact h1
  · split
    · exact h2
    · exact h3
theorem swap_back {M : Mt} {n a b : Nat} (h : AllM M n) (ha : a < n) (hb : b < n) : swapM (swapM M (a : Int) (b : Int)) (b : Int) (a : Int) = M := by
  have hk := swap_keeps h ha hb
  refine mt_ext (by rw [swap_len hk hb ha, h.len]) (fun i hi => ?_)
  rw [swap_at hk hb ha, swap_at h ha hb, swap_at h ha hb, swap_at h ha hb]
  by_cases e1 : i = a
  · subst e1
    rw [if_pos rfl]
    by_cases e2 : b = i
    · subst e2; simp
    · simp
  · rw [if_neg e1]
    by_cases e2 : i = b
    · subst e2
      rw [if_pos rfl]
      simp [Ne.symm e1]
    · simp [e1, e2]
theorem swap_self {M : Mt} {n a : Nat} (h : AllM M n) (ha : a < n) : swapM M (a : Int) (a : Int) = M := by
  refine mt_ext (by rw [swap_len h ha ha, h.len]) (fun i hi => ?_)
  rw [swap_at h ha ha]
  by_cases e : i = a
  · subst e; simp
  · simp [e]
/-- Some swaps, one behind the other. -/
def sts (M : Mt) (l : List (Nat × Nat)) : Mt := l.foldl (fun M p => swapM M ((p.1 % 8 : Nat) : Int) ((p.2 % 8 : Nat) : Int)) M
theorem sts_snoc (M : Mt) (l : List (Nat × Nat)) (p : Nat × Nat) : sts M (l ++ [p]) = swapM (sts M l) ((p.1 % 8 : Nat) : Int) ((p.2 % 8 : Nat) : Int) := by simp [sts, List.foldl_append]
theorem sts_all {M : Mt} (h : AllM M 8) (l : List (Nat × Nat)) : AllM (sts M l) 8 := by
  induction l generalizing M with
  | nil => exact h
  | cons p l ih => exact ih (swap_keeps h (Nat.mod_lt _ (by omega)) (Nat.mod_lt _ (by omega)))
theorem sts_take {M : Mt} {l : List (Nat × Nat)} {k : Nat} {p : Nat × Nat} (h : l[k]? = some p) : sts M (l.take (k + 1)) = swapM (sts M (l.take k)) ((p.1 % 8 : Nat) : Int) ((p.2 % 8 : Nat) : Int) := by
  rw [List.take_add_one, h, Option.toList_some, sts_snoc]
theorem write_tks (M : Mt) (i : Int) (s : ByteArray) : tks (writeM M i s) = tks M := by
  unfold writeM
  split
  · rename_i h
    have hr : readE M i = 0 := by
      unfold writeE at h
      split at h
      · assumption
      · exact h
    obtain ⟨j, rfl, hj, hh⟩ := read_zero hr
    rw [Int.toNat_natCast, tks_over hj hh]
  · rfl

/-- Pairs of bytes. -/
def pcells (p : Nat × Nat) : List Value := [.int .u8 (p.1 : Int), .int .u8 (p.2 : Int)]
def RdPr (w : World) (B : Nat) (v : Value) (P : List (Nat × Nat)) : Prop := RdV 2 w B v (P.map pcells) ∧ ∀ p ∈ P, p.1 < 256 ∧ p.2 < 256
theorem and7u : ∀ a : Fin 256, bits .and .u8 (a.1 : Int) 7 = ((a.1 % 8 : Nat) : Int) := by decide +kernel
def scell (s : ByteArray) : List Value := [.string s]
def RdS (w : World) (B : Nat) (v : Value) (L : List ByteArray) : Prop := RdV 1 w B v (L.map scell)
theorem RdS.shape {w : World} {B : Nat} {v : Value} {L : List ByteArray} (h : RdS w B v L) : ∃ a cap, v = .slice a L.length cap ∧ L.length ≤ cap ∧ cap ≤ maxLen := by
  have := RdV.shape h
  rwa [List.length_map] at this
theorem RdS.at_ {w : World} {B : Nat} {L : List ByteArray} {a : Option Addr} {n cap i : Nat} (h : RdS w B (.slice a n cap) L) {s : ByteArray} (hk : L[i]? = some s) :
    ∃ g off, a = some ⟨g, off, none⟩ ∧ g < B ∧ w.cell? ⟨g, off + i, none⟩ = some (.string s) := by
  obtain ⟨g, off, e, hg, hc⟩ := RdV.at_ h (i := i) (x := scell s) (by rw [List.getElem?_map, hk]; rfl)
  have := hc 0 _ rfl
  rw [Nat.mul_one, Nat.add_zero] at this
  exact ⟨g, off, e, hg, this⟩
theorem RdPr.shape {w : World} {B : Nat} {v : Value} {P : List (Nat × Nat)} (h : RdPr w B v P) : ∃ a cap, v = .slice a P.length cap ∧ P.length ≤ cap ∧ cap ≤ maxLen := by
  have := RdV.shape h.1
  rwa [List.length_map] at this
theorem RdPr.at_ {w : World} {B : Nat} {P : List (Nat × Nat)} {a : Option Addr} {n cap i : Nat} (h : RdPr w B (.slice a n cap) P) {p : Nat × Nat} (hk : P[i]? = some p) :
    ∃ g off, a = some ⟨g, off, none⟩ ∧ g < B ∧ w.cell? ⟨g, off + i * 2, none⟩ = some (.int .u8 (p.1 : Int)) ∧ w.cell? ⟨g, off + i * 2 + 1, none⟩ = some (.int .u8 (p.2 : Int)) := by
  obtain ⟨g, off, e, hg, hc⟩ := RdV.at_ h.1 (i := i) (x := pcells p) (by rw [List.getElem?_map, hk]; rfl)
  exact ⟨g, off, e, hg, hc 0 _ rfl, hc 1 _ rfl⟩
end Go.Proofs.Ytcblkdocbmpkeaa
