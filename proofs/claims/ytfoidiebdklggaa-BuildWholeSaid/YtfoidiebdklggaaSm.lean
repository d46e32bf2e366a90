/-
  Rows of texts, inner pages; what Same of the document's layers 2 and 11, and ref do, by contracts.
-/
import Derived.Test.YtfoidiebdklggaaKd
import Derived.Handy
open Go Go.RowKit
namespace Go.Proofs.Ytfoidiebdklggaa

def scell (s : ByteArray) : List Value := [.string s]
/-- The slice value v reads as the texts L. -/
def RdS (w : World) (B : Nat) (v : Value) (L : List ByteArray) : Prop := RdV 1 w B v (L.map scell)
section
variable {w w' : World} {B B' : Nat} {v : Value} {L : List ByteArray}
theorem RdS.below (h : RdS w B v L) (hb : Below B w w') : RdS w' B v L := RdV.below h hb
theorem RdS.more (h : RdS w B v L) (hB : B ≤ B') : RdS w B' v L := RdV.more h hB
theorem RdS.nil_ (w : World) (B : Nat) : RdS w B (.slice none 0 0) [] := RdV.nil_ w B
theorem RdS.shape (h : RdS w B v L) : ∃ a cap, v = .slice a L.length cap ∧ L.length ≤ cap ∧ cap ≤ maxLen := by
  have := RdV.shape h
  rwa [List.length_map] at this
theorem RdS.at_ {a : Option Addr} {n cap i : Nat} (h : RdS w B (.slice a n cap) L) {s : ByteArray} (hk : L[i]? = some s) :
    ∃ g off, a = some ⟨g, off, none⟩ ∧ g < B ∧ w.cell? ⟨g, off + i, none⟩ = some (.string s) := by
  obtain ⟨g, off, e, hg, hc⟩ := RdV.at_ h (i := i) (x := scell s) (by rw [List.getElem?_map, hk]; rfl)
  have := hc 0 _ rfl
  rw [Nat.mul_one, Nat.add_zero] at this
  exact ⟨g, off, e, hg, this⟩
end

theorem str_ne {a b : ByteArray} (h : ¬ a = b) : (a.toList == b.toList) = false := by
  rw [beq_eq_false_iff_ne]
  intro e
  rw [ByteArray.toList_eq, ByteArray.toList_eq] at e
  exact h (ByteArray.ext (Array.toList_inj.1 e))
theorem str_eq (a : ByteArray) : (a.toList == a.toList) = true := by simp

set_option maxHeartbeats 800000 in
theorem same2_any {W : World} {v v' : Value} {D E : List ByteArray} (h : RdS W W.heap.size v D) (h' : RdS W W.heap.size v' E) :
    Calls Try.prog 37 #[v, v'] W fun e W' => e = .returned (.bool (decide (D = E))) ∧ ∃ m, W' = W.drewN m := by
  obtain ⟨a, cap, rfl, hl1, hm⟩ := h.shape
  obtain ⟨a', cap', rfl, hl1', hm'⟩ := h'.shape
  unfold maxLen at hm hm'
  have H := hid h
  have H' := hid h'
  clear h h'
  by_cases hle : D.length = E.length
  · rw [← hle] at H' hl1' ⊢
    have HL := hid hle
    clear hle
    go_enter Try.func37, Try.ntmps37
    go_wp2_with fail
    go_loopg [5] D.length (fun g i wr => ∃ k m : Nat, i = .int .i64 k ∧ g + k = D.length ∧ (∀ x, x < k → D[x]? = E[x]?) ∧ wr = W.drewN m)
    case atStart => exact ⟨0, 0, rfl, rfl, fun x h => by omega, rfl⟩
    case round =>
      obtain ⟨k, m, rfl, hgk, htk, rfl⟩ := hrel
      have HG := hid hgk
      have HT := hid htk
      have hk : k ≤ D.length := by omega
      clear hgk htk
      by_cases hlt : k < D.length
      · obtain ⟨g, off, rfl, _, hc⟩ := H.out.at_ (List.getElem?_eq_getElem hlt)
        have hlt' : k < E.length := by have := HL.out; omega
        obtain ⟨g', off', rfl, _, hc'⟩ := H'.out.at_ (List.getElem?_eq_getElem hlt')
        have hki : (k : Int) < (D.length : Int) := by omega
        have hk1 := hid (show D[k]? = some D[k] from List.getElem?_eq_getElem hlt)
        have hk2 := hid (show E[k]? = some E[k] from List.getElem?_eq_getElem hlt')
        generalize D[k] = x at *
        generalize E[k] = y at *
        by_cases hxy : x = y
        · subst hxy
          have hs := str_eq x
          go_wp2
          go_quiet (fail)
          go_wp2
          have hg := HG.out
          go_roundg (gk - 1)
          case measure => omega
          case rel => exact ⟨k + 1, m + nq, by go_num, by omega, fun z hz => by
            by_cases hzk : z = k
            · rw [hzk, hk1.out, hk2.out]
            · exact HT.out z (by omega), rfl⟩
        · have hs := str_ne hxy
          have HN := hid (show D ≠ E from fun e => hxy (by have h1 := hk1.out; have h2 := hk2.out; rw [e, h2] at h1; simpa using h1.symm))
          clear hxy
          go_wp2
          go_quiet (fail)
          go_wp2
          go_ret
          rw [decide_eq_false HN.out]
          exact ⟨rfl, m + nq, by rw [World.drewN_drewN]⟩
      · have hki : ¬ (k : Int) < (D.length : Int) := by omega
        have HE := hid (show D = E from by
          apply List.ext_getElem?
          intro x
          by_cases hx : x < k
          · exact HT.out x hx
          · rw [List.getElem?_eq_none (by omega), List.getElem?_eq_none (by have := HL.out; omega)])
        go_wp2
        go_ret
        rw [decide_eq_true HE.out]
        exact ⟨rfl, m, rfl⟩
  · have HN := hid (show D ≠ E from fun e => hle (by rw [e]))
    have hli : ¬ (D.length : Int) = (E.length : Int) := by omega
    go_enter Try.func37, Try.ntmps37
    go_wp2
    go_ret
    rw [decide_eq_false HN.out]
    exact ⟨rfl, 0, rfl⟩

/-- An inner page: separators, kids, what is above, the next one's page and 1. -/
structure Pg where
  seps : List ByteArray
  kids : List Int
  high : ByteArray
  next : Int
deriving DecidableEq
def icells (vs vk : Value) (g : Pg) : List Value := [vs, vk, .string g.high, .int .i64 g.next]
/-- The value x is the inner page g. -/
def RdP (w : World) (B : Nat) (x : Value) (g : Pg) : Prop := ∃ vs vk, x = .agg #[vs, vk, .string g.high, .int .i64 g.next] ∧ RdS w B vs g.seps ∧ RdI w B vk g.kids
def sameB (a b : Pg) : Bool := decide (a.seps = b.seps) && decide (a.kids = b.kids) && decide (a.high = b.high) && decide (a.next = b.next)

theorem ref_any {W : World} {x : Value} {g : Pg} {B : Nat} (h : RdP W B x g) :
    Calls Try.prog 19 #[x] W fun e W' => e = .returned x ∧ Below W.heap.size W W' := by
  obtain ⟨vs, vk, rfl, hs, hk⟩ := h
  obtain ⟨a, cap, rfl, _⟩ := hs.shape
  obtain ⟨a', cap', rfl, _⟩ := hk.shape
  go_enter Try.func19, Try.ntmps19
  go_wp2
  go_returns
  exact ⟨rfl, ((Below.refl _ W).alloc (Nat.le_refl _) _).alloc (by simp) _⟩

set_option maxHeartbeats 800000 in
theorem same11_any {W : World} {x y : Value} {a b : Pg} (h : RdP W W.heap.size x a) (h' : RdP W W.heap.size y b) :
    Calls Try.prog 18 #[x, y] W fun e W' => e = .returned (.bool (sameB a b)) ∧ Below W.heap.size W W' := by
  obtain ⟨vs, vk, rfl, hs, hk⟩ := h
  obtain ⟨vs', vk', rfl, hs', hk'⟩ := h'
  obtain ⟨w2, hw2⟩ : ∃ w2, (W.alloc (.cells #[vs, vk, .string a.high, .int .i64 a.next] 44)).alloc (.cells #[vs', vk', .string b.high, .int .i64 b.next] 44) = w2 := ⟨_, rfl⟩
  have hb2 : Below W.heap.size W w2 := by rw [← hw2]; exact ((Below.refl _ W).alloc (Nat.le_refl _) _).alloc (by simp) _
  have HB2 := hid hb2
  have HS := hid ((hs.below hb2).more hb2.size)
  have HK := hid ((hk.below hb2).more hb2.size)
  have HS' := hid ((hs'.below hb2).more hb2.size)
  have HK' := hid ((hk'.below hb2).more hb2.size)
  obtain ⟨a1, c1, rfl, _, _⟩ := hs.shape
  obtain ⟨a2, c2, rfl, _, _⟩ := hk.shape
  obtain ⟨a3, c3, rfl, _, _⟩ := hs'.shape
  obtain ⟨a4, c4, rfl, _, _⟩ := hk'.shape
  have k1 : Blk w2 W.heap.size 44 #[.slice a1 a.seps.length c1, .slice a2 a.kids.length c2, .string a.high, .int .i64 a.next] := by rw [← hw2]; exact (Blk.new W _ _).alloc _
  have k2 : Blk w2 (W.heap.size + 1) 44 #[.slice a3 b.seps.length c3, .slice a4 b.kids.length c4, .string b.high, .int .i64 b.next] := by
    rw [← hw2]
    have := Blk.new (W.alloc (.cells #[.slice a1 a.seps.length c1, .slice a2 a.kids.length c2, .string a.high, .int .i64 a.next] 44)) 44 #[.slice a3 b.seps.length c3, .slice a4 b.kids.length c4, .string b.high, .int .i64 b.next]
    simpa using this
  have p0 := k1.cell 0
  have p1 := k1.cell 1
  have p2 := k1.cell 2
  have p3 := k1.cell 3
  have q0 := k2.cell 0
  have q1 := k2.cell 1
  have q2 := k2.cell 2
  have q3 := k2.cell 3
  simp only [List.getElem?_toArray, List.getElem?_cons_zero, List.getElem?_cons_succ] at p0 p1 p2 p3 q0 q1 q2 q3
  have hp0 := k1.lt
  have hq0 := k2.lt
  have HE := hid (show sameB a b = (decide (a.seps = b.seps) && decide (a.kids = b.kids) && decide (a.high = b.high) && decide (a.next = b.next)) from rfl)
  clear hs hk hs' hk' hb2 k1 k2
  go_enter Try.func18, Try.ntmps18
  cases h1 : decide (a.seps = b.seps) with
  | false =>
    rw [h1] at HE
    go_wp2_with fail
    refine (same2_any HS.out HS'.out).mono ?_
    rintro e w3 ⟨rfl, m, rfl⟩
    rw [h1]
    clear h1
    go_wp2_with fail
    go_ret
    rw [HE.out]
    exact ⟨rfl, below_dN HB2.out _⟩
  | true =>
    rw [h1] at HE
    go_wp2_with fail
    refine (same2_any HS.out HS'.out).mono ?_
    rintro e w3 ⟨rfl, m, rfl⟩
    rw [h1]
    clear h1
    go_wp2_with fail
    refine (ints_any (HK.out.below (below_dN (Below.refl _ _) m)) (HK'.out.below (below_dN (Below.refl _ _) m))).mono ?_
    rintro e w3 ⟨rfl, m2, rfl⟩
    cases h2 : decide (a.kids = b.kids) with
    | false =>
      rw [h2] at HE
      clear h2
      go_wp2_with fail
      go_ret
      rw [HE.out]
      exact ⟨rfl, below_dN HB2.out _⟩
    | true =>
      rw [h2] at HE
      clear h2
      by_cases h3 : a.high = b.high
      · rw [decide_eq_true h3] at HE
        rw [h3] at p2 
        have hs := str_eq b.high
        clear h3
        by_cases h4 : a.next = b.next
        · rw [decide_eq_true h4] at HE
          rw [h4] at p3
          clear h4
          go_wp2_with fail
          go_ret
          rw [HE.out]
          exact ⟨by simp, below_dN HB2.out _⟩
        · rw [decide_eq_false h4] at HE
          go_wp2_with fail
          go_ret
          rw [HE.out]
          exact ⟨by simp [h4], below_dN HB2.out _⟩
      · rw [decide_eq_false h3] at HE
        have hs := str_ne h3
        go_wp2_with fail
        go_ret
        rw [HE.out]
        exact ⟨rfl, below_dN HB2.out _⟩
end Go.Proofs.Ytfoidiebdklggaa
