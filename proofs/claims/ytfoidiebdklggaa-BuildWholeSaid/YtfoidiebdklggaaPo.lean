/-
  What Level and Up leave, the program's and the document's, in one form.
-/
import Derived.Test.YtfoidiebdklggaaRl
open Go Go.RowKit
namespace Go.Proofs.Ytfoidiebdklggaa

def lvR (K : List Kid) (m : Int) (P : List Int) : List Pg := if canB K m P = true then lvL P 0 (groupsN K.length m.toNat) K else []
def upR (K : List Kid) (m : Int) (P : List Int) : List Kid := if canB K m P = true then upL P 0 (groupsN K.length m.toNat) K else []
def ecR (K : List Kid) (m : Int) (P : List Int) : Int := if canB K m P = true then 0 else 1
theorem lvR_len (K : List Kid) (m : Int) (P : List Int) : (lvR K m P).length ≤ P.length := by
  unfold lvR
  split
  · rename_i h
    have := can_parts h
    rw [lvL_len, groupsN_len]
    omega
  · simp
theorem upR_len (K : List Kid) (m : Int) (P : List Int) : (upR K m P).length ≤ P.length := by
  unfold upR
  split
  · rename_i h
    have := can_parts h
    rw [upL_len, groupsN_len]
    omega
  · simp
theorem LePost.any {W w : World} {K : List Kid} {m : Int} {P : List Int} {e : Ending} (h : LePost W K m P e w) : ∃ a c, e = .returned (.tuple #[.slice a (lvR K m P).length c, .int .i64 (ecR K m P)]) ∧ OwN w W.heap.size (.slice a (lvR K m P).length c) (lvR K m P) ∧ Below W.heap.size W w := by
  unfold lvR ecR
  cases hc : canB K m P with
  | false =>
    obtain ⟨rfl, hb⟩ := h.no hc
    exact ⟨none, 0, rfl, OwN.nil _ _, hb⟩
  | true =>
    obtain ⟨v, rfl, ho, hb⟩ := h.yes hc
    rw [if_pos rfl, if_pos rfl]
    obtain ⟨X, h1, h2, h3⟩ := ho
    obtain ⟨a, c, rfl⟩ := h1.shape
    rw [h2] at h1 ⊢
    exact ⟨a, c, rfl, ⟨X, h1, h2, h3⟩, hb⟩
theorem RLePost.any {W w : World} {K : List Kid} {m : Int} {P : List Int} {e : Ending} (h : RLePost W K m P e w) : ∃ a c, e = .returned (.tuple #[.slice a (lvR K m P).length c, .int .i64 (ecR K m P)]) ∧ ROwN w W.heap.size (.slice a (lvR K m P).length c) (lvR K m P) ∧ Below W.heap.size W w := by
  unfold lvR ecR
  cases hc : canB K m P with
  | false =>
    obtain ⟨rfl, hb⟩ := h.no hc
    exact ⟨none, 0, rfl, ROwN.nil _ _, hb⟩
  | true =>
    obtain ⟨v, rfl, ho, hb⟩ := h.yes hc
    rw [if_pos rfl, if_pos rfl]
    obtain ⟨X, h1, h2, h3⟩ := ho
    obtain ⟨a, c, rfl⟩ := h1.shape
    rw [h2] at h1 ⊢
    exact ⟨a, c, rfl, ⟨X, h1, h2, h3⟩, hb⟩
theorem UpPost.any {W w : World} {K : List Kid} {m : Int} {P : List Int} {e : Ending} (h : UpPost W K m P e w) : ∃ a c, e = .returned (.tuple #[.slice a (upR K m P).length c, .int .i64 (ecR K m P)]) ∧ OwV 57 2 w W.heap.size (.slice a (upR K m P).length c) ((upR K m P).map kcells) ∧ Below W.heap.size W w := by
  unfold upR ecR
  cases hc : canB K m P with
  | false =>
    obtain ⟨rfl, hb⟩ := h.no hc
    exact ⟨none, 0, rfl, OwV.nil _ _, hb⟩
  | true =>
    obtain ⟨v, rfl, ho, hb⟩ := h.yes hc
    rw [if_pos rfl, if_pos rfl]
    obtain ⟨a, c, rfl⟩ := ho.shape
    rw [List.length_map] at ho ⊢
    exact ⟨a, c, rfl, ho, hb⟩
theorem RUpPost.any {W w : World} {K : List Kid} {m : Int} {P : List Int} {e : Ending} (h : RUpPost W K m P e w) : ∃ a c, e = .returned (.tuple #[.slice a (upR K m P).length c, .int .i64 (ecR K m P)]) ∧ OwV 67 2 w W.heap.size (.slice a (upR K m P).length c) ((upR K m P).map kcells) ∧ Below W.heap.size W w := by
  unfold upR ecR
  cases hc : canB K m P with
  | false =>
    obtain ⟨rfl, hb⟩ := h.no hc
    exact ⟨none, 0, rfl, OwV.nil _ _, hb⟩
  | true =>
    obtain ⟨v, rfl, ho, hb⟩ := h.yes hc
    rw [if_pos rfl, if_pos rfl]
    obtain ⟨a, c, rfl⟩ := ho.shape
    rw [List.length_map] at ho ⊢
    exact ⟨a, c, rfl, ho, hb⟩

theorem OwV.below {t : TypeId} {s : Nat} {w w' : World} {B : Nat} {v : Value} {L : List (List Value)} (h : OwV t s w B v L) (hb : Below w.heap.size w w') : OwV t s w' B v L := h.keep (Only.of_below (S := fun _ => False) hb) (fun _ _ h => h)
theorem RdK.own {t : TypeId} {w : World} {B : Nat} {v : Value} {K : List Kid} (h : OwV t 2 w B v (K.map kcells)) : RdK w w.heap.size v K := RdV.of_own h
/-- One page of a row: where it lies. -/
theorem own_page {w : World} {B n c i : Nat} {a : Option Addr} {I : List Pg} (h : OwN w B (.slice a n c) I) {g : Pg} (hi : I[i]? = some g) :
    ∃ b off vs vk, a = some ⟨b, off, none⟩ ∧ b < w.heap.size ∧ w.cell? ⟨b, off + i * 4, none⟩ = some vs ∧ w.cell? ⟨b, off + i * 4 + 1, none⟩ = some vk ∧ w.cell? ⟨b, off + i * 4 + 2, none⟩ = some (.string g.high) ∧ w.cell? ⟨b, off + i * 4 + 3, none⟩ = some (.int .i64 g.next) ∧
      RdS w w.heap.size vs g.seps ∧ RdI w w.heap.size vk g.kids := by
  obtain ⟨X, h1, h2, h3⟩ := h
  obtain ⟨vs, vk, a1, a2, a3⟩ := h3 i g hi
  obtain ⟨b, off, rfl, hb, hc⟩ := (RdV.of_own h1).at_ a1
  exact ⟨b, off, vs, vk, rfl, hb, hc 0 _ rfl, hc 1 _ rfl, hc 2 _ rfl, hc 3 _ rfl, RdV.of_own a2, RdI.of_own a3⟩
theorem rown_page {w : World} {B n c i : Nat} {a : Option Addr} {I : List Pg} (h : ROwN w B (.slice a n c) I) {g : Pg} (hi : I[i]? = some g) :
    ∃ b off vs vk, a = some ⟨b, off, none⟩ ∧ b < w.heap.size ∧ w.cell? ⟨b, off + i * 4, none⟩ = some vs ∧ w.cell? ⟨b, off + i * 4 + 1, none⟩ = some vk ∧ w.cell? ⟨b, off + i * 4 + 2, none⟩ = some (.string g.high) ∧ w.cell? ⟨b, off + i * 4 + 3, none⟩ = some (.int .i64 g.next) ∧
      RdS w w.heap.size vs g.seps ∧ RdI w w.heap.size vk g.kids := by
  obtain ⟨X, h1, h2, h3⟩ := h
  obtain ⟨vs, vk, a1, a2, a3⟩ := h3 i g hi
  obtain ⟨b, off, rfl, hb, hc⟩ := (RdV.of_own h1).at_ a1
  exact ⟨b, off, vs, vk, rfl, hb, hc 0 _ rfl, hc 1 _ rfl, hc 2 _ rfl, hc 3 _ rfl, RdV.of_own a2, RdI.of_own a3⟩
theorem sameB_self (g : Pg) : sameB g g = true := by simp [sameB]
theorem cutK_fair (K : List Kid) : ∀ k ∈ cutK K, k.1.size ≤ 1000 := by
  intro k hk
  unfold cutK at hk
  rw [List.mem_map] at hk
  obtain ⟨x, _, rfl⟩ := hk
  have := cut20_size x.1
  show (cut20 x.1).size ≤ 1000
  omega
end Go.Proofs.Ytfoidiebdklggaa
