/-
  What sum, Sum, Tight, right and their like of package plan do, each by a contract.
-/
import Derived.Test.YtgnhfipmeljffaaSl
import Derived.Test.YtgnhfipmeljffaaChecked
import Derived.WalkKit
import Derived.WalkLawsBesides
import Derived.WalkSpells
import Derived.Deep.QuietTactic
import Derived.BigQuiet
import Derived.Deep.LoopGhost
import Derived.Deep.DeepCutAuto
import Derived.Deep.CutRange
import Derived.Deep.CutBlock
import Derived.Outline
open Go Go.RowKit
namespace Go.Proofs.Ytgnhfipmeljffaa

theorem hbn {W w w' : World} (h : Hid (Below W.heap.size W w)) (k : Below w.heap.size w w') : Hid (Below W.heap.size W w') := h.out.trans (k.mono h.out.size)

/-- The sum, as Go adds. -/
def sumW (D : List Int) : Int := D.foldl (fun a d => wrap64 (a + d)) 0
theorem sumW_snoc (D : List Int) (d : Int) : sumW (D ++ [d]) = wrap64 (sumW D + d) := by simp [sumW, List.foldl_append]
theorem take_snoc' {D : List Int} {k : Nat} (h : k < D.length) : D.take (k + 1) = D.take k ++ [D[k]] := List.take_succ_eq_append_getElem h

theorem sum_any {W : World} {B : Nat} {v : Value} {D : List Int} (h : RdI W B v D) :
    Calls Try.prog 17 #[v] W fun e W' => e = .returned (.int .i64 (sumW D)) ∧ W = W' := by
  obtain ⟨a, cap, rfl, hl, hm⟩ := h.shape
  have H := hid h
  unfold maxLen at hm
  clear h
  go_enter Try.func17, Try.ntmps17
  go_wp2_with fail
  go_loopg [3, 8] D.length (fun g s i wr => ∃ k : Nat, ∃ y, i = .int .i64 k ∧ g + k = D.length ∧ y = sumW (D.take k) ∧ s = .int .i64 y ∧ wr = W)
  case atStart => exact ⟨0, 0, rfl, rfl, rfl, rfl, rfl⟩
  case round =>
    obtain ⟨k, y, rfl, hgk, hy, rfl, rfl⟩ := hrel
    have HG := hid hgk
    have HY := hid hy
    have hk : k ≤ D.length := by omega
    clear hgk hy
    by_cases hlt : k < D.length
    · obtain ⟨g, off, rfl, _, hc⟩ := H.out.at_ (List.getElem?_eq_getElem hlt)
      obtain ⟨x, hx⟩ : ∃ x, x = D[k] := ⟨_, rfl⟩
      rw [← hx] at hc
      have HX := hid hx
      clear hx
      go_wp2
      have hg := HG.out
      go_roundg (gk - 1)
      case measure => omega
      case rel =>
        refine ⟨k + 1, wrap64 (y + x), by go_num, by omega, ?_, rfl, rfl⟩
        rw [take_snoc' hlt, sumW_snoc, ← HY.out, ← HX.out]
    · have hy := HY.out
      have hk' : k = D.length := by omega
      rw [hk', List.take_length] at hy
      subst hy
      go_wp2
      go_ret
      exact ⟨rfl, rfl⟩

theorem Sum_any {W : World} {B : Nat} {v : Value} {D : List Int} (h : RdI W B v D) :
    Calls Try.prog 14 #[v] W fun e W' => e = .returned (.int .i64 (sumW D)) ∧ W = W' := by
  have H := hid h
  clear h
  go_enter Try.func14, Try.ntmps14
  go_wp2_with (go_at_call 17; ((with_reducible refine (sum_any H.out).mono ?_)); rintro e w' ⟨rfl, rfl⟩)
  go_ret
  exact ⟨rfl, rfl⟩

/-- Is a weight none that may be? -/
def badB (lim x : Int) : Bool := decide (x < 0) || decide (lim < x)
def anyBad (lim : Int) (D : List Int) : Bool := D.any (badB lim)
theorem anyBad_snoc (lim : Int) (D : List Int) (d : Int) : anyBad lim (D ++ [d]) = (anyBad lim D || badB lim d) := by simp [anyBad]
theorem anyBad_hit {lim : Int} {D : List Int} {k : Nat} (hk : k < D.length) (h : badB lim D[k] = true) : anyBad lim D = true := by
  unfold anyBad
  rw [List.any_eq_true]
  exact ⟨D[k], List.getElem_mem hk, h⟩
theorem some_idx (k : Nat) (lim : Int) (D : List Int) (W : World) (h : anyBad lim D = true) : ∃ r : Int, Ending.returned (.int .i64 (k : Int)) = .returned (.int .i64 r) ∧ decide (0 ≤ r) = anyBad lim D ∧ W = W :=
  ⟨k, rfl, by rw [h]; simp, rfl⟩
theorem no_idx (lim : Int) (D : List Int) (W : World) (h : anyBad lim D = false) : ∃ r : Int, Ending.returned (.int .i64 (-1)) = .returned (.int .i64 r) ∧ decide (0 ≤ r) = anyBad lim D ∧ W = W :=
  ⟨-1, rfl, by rw [h]; rfl, rfl⟩

theorem oddA_any {W : World} (x : Int) :
    Calls Try.prog 19 #[.int .i64 x] W fun e W' => e = .returned (.bool (badB 1000000 x)) ∧ W = W' := by
  unfold badB
  by_cases h1 : x < 0
  · rw [show (decide (x < 0) || decide (1000000 < x)) = true by simp [h1]]
    go_enter Try.func19, Try.ntmps19
    go_wp2
    go_ret
    exact ⟨rfl, rfl⟩
  · rw [show (decide (x < 0) || decide (1000000 < x)) = decide (1000000 < x) by simp [h1]]
    go_enter Try.func19, Try.ntmps19
    go_wp2
    go_ret
    exact ⟨rfl, rfl⟩

theorem indexA_any {W : World} {B : Nat} {v : Value} {D : List Int} (h : RdI W B v D) :
    Calls Try.prog 23 #[v, (.func (.func 19) #[] #[])] W fun e W' => ∃ r : Int, e = .returned (.int .i64 r) ∧ decide (0 ≤ r) = anyBad 1000000 D ∧ W = W' := by
  obtain ⟨a, cap, rfl, hl, hm⟩ := h.shape
  have H := hid h
  unfold maxLen at hm
  clear h
  go_enter Try.func23, Try.ntmps23
  go_wp2_with fail
  go_loopg [8] D.length (fun g i wr => ∃ k : Nat, i = .int .i64 k ∧ g + k = D.length ∧ anyBad 1000000 (D.take k) = false ∧ wr = W)
  case atStart => exact ⟨0, rfl, rfl, rfl, rfl⟩
  case round =>
    obtain ⟨k, rfl, hgk, hy, rfl⟩ := hrel
    have HG := hid hgk
    have HY := hid hy
    have hk : k ≤ D.length := by omega
    clear hgk hy
    by_cases hlt : k < D.length
    · obtain ⟨g, off, rfl, _, hcc⟩ := H.out.at_ (List.getElem?_eq_getElem hlt)
      obtain ⟨x, hx⟩ : ∃ x, x = D[k] := ⟨_, rfl⟩
      rw [← hx] at hcc
      have HX := hid hx
      clear hx
      cases hb : badB 1000000 x with
      | true =>
        have hr : anyBad 1000000 D = true := anyBad_hit hlt (by rw [← HX.out]; exact hb)
        have HR := hid hr
        clear hr
        go_wp2_with fail
        refine (oddA_any x ).mono ?_
        rintro e w' ⟨rfl, rfl⟩
        rw [hb]
        go_wp2
        go_ret
        exact some_idx k 1000000 D _ HR.out
      | false =>
        go_wp2_with fail
        refine (oddA_any x ).mono ?_
        rintro e w' ⟨rfl, rfl⟩
        rw [hb]
        go_wp2
        have hg := HG.out
        go_roundg (gk - 1)
        case measure => omega
        case rel =>
          refine ⟨k + 1, by go_num, by omega, ?_, rfl⟩
          rw [take_snoc' hlt, anyBad_snoc, HY.out, ← HX.out, hb]
          rfl
    · have hy := HY.out
      have hk' : k = D.length := by omega
      rw [hk', List.take_length] at hy
      have HR := hid hy
      clear hy
      go_wp2
      go_ret
      exact no_idx 1000000 D _ HR.out

theorem containsA_any {W : World} {B : Nat} {v : Value} {D : List Int} (h : RdI W B v D) :
    Calls Try.prog 18 #[v, (.func (.func 19) #[] #[])] W fun e W' => e = .returned (.bool (anyBad 1000000 D)) ∧ W = W' := by
  have H := hid (indexA_any h )
  clear h
  go_enter Try.func18, Try.ntmps18
  go_wp2_with fail
  refine H.out.mono ?_
  rintro e w' ⟨r, rfl, hr, rfl⟩
  have HR := hid hr
  clear hr
  go_wp2
  go_ret
  rw [← HR.out]
  exact ⟨rfl, rfl⟩

theorem oddR_any {W : World} (x : Int) {q : Nat} {most : Int} (hc : W.cell? ⟨q, 0, none⟩ = some (.int .i64 most)) :
    Calls Try.prog 24 #[.int .i64 x, .pointer (some ⟨q, 0, none⟩)] W fun e W' => e = .returned (.bool (badB most x)) ∧ W = W' := by
  unfold badB
  by_cases h1 : x < 0
  · rw [show (decide (x < 0) || decide (most < x)) = true by simp [h1]]
    go_enter Try.func24, Try.ntmps24
    go_wp2
    go_ret
    exact ⟨rfl, rfl⟩
  · rw [show (decide (x < 0) || decide (most < x)) = decide (most < x) by simp [h1]]
    go_enter Try.func24, Try.ntmps24
    go_wp2
    go_ret
    exact ⟨rfl, rfl⟩

theorem indexR_any {W : World} {B : Nat} {v : Value} {D : List Int} (h : RdI W B v D) {q : Nat} {most : Int} (hc : W.cell? ⟨q, 0, none⟩ = some (.int .i64 most)) :
    Calls Try.prog 23 #[v, (.func (.func 24) #[] #[.pointer (some ⟨q, 0, none⟩)])] W fun e W' => ∃ r : Int, e = .returned (.int .i64 r) ∧ decide (0 ≤ r) = anyBad most D ∧ W = W' := by
  obtain ⟨a, cap, rfl, hl, hm⟩ := h.shape
  have H := hid h
  unfold maxLen at hm
  clear h
  go_enter Try.func23, Try.ntmps23
  go_wp2_with fail
  go_loopg [8] D.length (fun g i wr => ∃ k : Nat, i = .int .i64 k ∧ g + k = D.length ∧ anyBad most (D.take k) = false ∧ wr = W)
  case atStart => exact ⟨0, rfl, rfl, rfl, rfl⟩
  case round =>
    obtain ⟨k, rfl, hgk, hy, rfl⟩ := hrel
    have HG := hid hgk
    have HY := hid hy
    have hk : k ≤ D.length := by omega
    clear hgk hy
    by_cases hlt : k < D.length
    · obtain ⟨g, off, rfl, _, hcc⟩ := H.out.at_ (List.getElem?_eq_getElem hlt)
      obtain ⟨x, hx⟩ : ∃ x, x = D[k] := ⟨_, rfl⟩
      rw [← hx] at hcc
      have HX := hid hx
      clear hx
      cases hb : badB most x with
      | true =>
        have hr : anyBad most D = true := anyBad_hit hlt (by rw [← HX.out]; exact hb)
        have HR := hid hr
        clear hr
        go_wp2_with fail
        refine (oddR_any x hc).mono ?_
        rintro e w' ⟨rfl, rfl⟩
        rw [hb]
        go_wp2
        go_ret
        exact some_idx k most D _ HR.out
      | false =>
        go_wp2_with fail
        refine (oddR_any x hc).mono ?_
        rintro e w' ⟨rfl, rfl⟩
        rw [hb]
        go_wp2
        have hg := HG.out
        go_roundg (gk - 1)
        case measure => omega
        case rel =>
          refine ⟨k + 1, by go_num, by omega, ?_, rfl⟩
          rw [take_snoc' hlt, anyBad_snoc, HY.out, ← HX.out, hb]
          rfl
    · have hy := HY.out
      have hk' : k = D.length := by omega
      rw [hk', List.take_length] at hy
      have HR := hid hy
      clear hy
      go_wp2
      go_ret
      exact no_idx most D _ HR.out

theorem containsR_any {W : World} {B : Nat} {v : Value} {D : List Int} (h : RdI W B v D) {q : Nat} {most : Int} (hc : W.cell? ⟨q, 0, none⟩ = some (.int .i64 most)) :
    Calls Try.prog 18 #[v, (.func (.func 24) #[] #[.pointer (some ⟨q, 0, none⟩)])] W fun e W' => e = .returned (.bool (anyBad most D)) ∧ W = W' := by
  have H := hid (indexR_any h hc)
  clear h
  go_enter Try.func18, Try.ntmps18
  go_wp2_with fail
  refine H.out.mono ?_
  rintro e w' ⟨r, rfl, hr, rfl⟩
  have HR := hid hr
  clear hr
  go_wp2
  go_ret
  rw [← HR.out]
  exact ⟨rfl, rfl⟩

/-- What right answers. -/
def rightB (D : List Int) (most many : Int) : Bool := decide (D.length ≤ 1024) && decide (1 ≤ most) && decide (most ≤ 1000) && decide (2 ≤ many) && decide (many ≤ 16) && !anyBad most D

theorem right_any {W : World} {B : Nat} {v : Value} {D : List Int} (h : RdI W B v D) (hB : B ≤ W.heap.size) (most many : Int) :
    Calls Try.prog 21 #[v, .int .i64 most, .int .i64 many] W fun e W' => e = .returned (.bool (rightB D most many)) ∧ W' = W.alloc (.cells #[.int .i64 most] 3) := by
  have hmf : ∀ (fn : Fn) (first cap : Array Value) (w : World), (Instr.makeFunc fn first cap).run Try.prog w = .ok (.func fn first cap) w := fun _ _ _ _ => rfl
  have hc : (W.alloc (.cells #[.int .i64 most] 3)).cell? ⟨W.heap.size, 0, none⟩ = some (.int .i64 most) := (Blk.new W 3 #[.int .i64 most]).cell 0
  have h2 := h.below (((Below.refl B W)).alloc hB (.cells #[.int .i64 most] 3))
  obtain ⟨a, cap, rfl, hl, hm⟩ := h.shape
  have HC := hid (containsR_any h2 hc)
  unfold maxLen at hm
  clear h h2
  by_cases g1 : D.length ≤ 1024
  · by_cases g2 : 1 ≤ most
    · by_cases g3 : most ≤ 1000
      · by_cases g4 : 2 ≤ many
        · by_cases g5 : many ≤ 16
          · rw [show rightB D most many = !anyBad most D by simp [rightB, g1, g2, g3, g4, g5]]
            go_enter Try.func21, Try.ntmps21
            go_wp2_with (go_at_call 18; ((with_reducible refine HC.out.mono ?_)); rintro e w' ⟨rfl, rfl⟩)
            go_ret
            exact ⟨rfl, rfl⟩
          all_goals
            rw [show rightB D most many = false by simp [rightB, g1, g2, g3, g4, g5]]
            go_enter Try.func21, Try.ntmps21
            go_wp2
            go_ret
            exact ⟨rfl, rfl⟩
        all_goals
          rw [show rightB D most many = false by simp [rightB, g1, g2, g3, g4]]
          go_enter Try.func21, Try.ntmps21
          go_wp2
          go_ret
          exact ⟨rfl, rfl⟩
      all_goals
        rw [show rightB D most many = false by simp [rightB, g1, g2, g3]]
        go_enter Try.func21, Try.ntmps21
        go_wp2
        go_ret
        exact ⟨rfl, rfl⟩
    all_goals
      rw [show rightB D most many = false by simp [rightB, g1, g2]]
      go_enter Try.func21, Try.ntmps21
      go_wp2
      go_ret
      exact ⟨rfl, rfl⟩
  all_goals
    rw [show rightB D most many = false by simp [rightB, g1]]
    go_enter Try.func21, Try.ntmps21
    go_wp2
    go_ret
    exact ⟨rfl, rfl⟩

/-- What Tight answers. -/
def tightB (most : Int) : List Int → Bool
  | a :: b :: r => if wrap64 (a + b) ≤ most then false else tightB most (b :: r)
  | _ => true

theorem tight_any {W : World} {B : Nat} {v : Value} {D : List Int} (h : RdI W B v D) (most : Int) :
    Calls Try.prog 16 #[v, .int .i64 most] W fun e W' => e = .returned (.bool (tightB most D)) ∧ ∃ n, W' = W.drewN n := by
  obtain ⟨a, cap, rfl, hl, hm⟩ := h.shape
  have H := hid h
  unfold maxLen at hm
  clear h
  obtain ⟨t, ht⟩ : ∃ t, tightB most D = t := ⟨_, rfl⟩
  rw [ht]
  have HT := hid ht
  clear ht
  go_enter Try.func16, Try.ntmps16
  go_wp2_with fail
  go_loopg [8] D.length (fun g i wr => ∃ k q : Nat, i = .int .i64 k ∧ g + k = D.length ∧ t = tightB most (D.drop (k - 1)) ∧ wr = W.drewN q)
  case atStart => exact ⟨0, 0, rfl, rfl, HT.out.symm, rfl⟩
  case round =>
    obtain ⟨k, q, rfl, hgk, hy, rfl⟩ := hrel
    have HG := hid hgk
    have HY := hid hy
    have hk : k ≤ D.length := by omega
    clear hgk hy
    by_cases hlt : k < D.length
    · by_cases h0 : 0 < k
      · obtain ⟨g, off, rfl, _, hc⟩ := H.out.at_ (List.getElem?_eq_getElem hlt)
        obtain ⟨g2, off2, e2, _, hc2⟩ := H.out.at_ (i := k - 1) (List.getElem?_eq_getElem (by omega))
        injection e2 with e2
        simp only [Addr.mk.injEq] at e2
        obtain ⟨rfl, rfl, _⟩ := e2
        obtain ⟨x, hx⟩ : ∃ x, x = D[k] := ⟨_, rfl⟩
        obtain ⟨y, hy⟩ : ∃ y, y = D[k - 1]'(by omega) := ⟨_, rfl⟩
        rw [← hx] at hc
        rw [← hy] at hc2
        have hdk : D.drop k = x :: D.drop (k + 1) := by rw [List.drop_eq_getElem_cons hlt, hx]
        have hd : D.drop (k - 1) = y :: x :: D.drop (k + 1) := by
          rw [List.drop_eq_getElem_cons (by omega), ← hy, show k - 1 + 1 = k by omega, hdk]
        have HY2 := hid (HY.out.trans (by rw [hd, tightB, ← hdk] : _ = if wrap64 (y + x) ≤ most then false else tightB most (D.drop k)))
        clear hd hx hy hdk
        have hk0 : (0 : Int) < (k : Int) := by omega
        by_cases hle : wrap64 (y + x) ≤ most
        · have ht : t = false := by have := HY2.out; rwa [if_pos hle] at this
          have HTT := hid ht
          clear ht
          go_wp2_with fail
          go_quiet (fail)
          go_wp2
          go_ret
          exact ⟨by rw [HTT.out]; rfl, by simp only [World.drewN_drewN]; exact ⟨_, rfl⟩⟩
        · have ht : t = tightB most (D.drop k) := by have := HY2.out; rwa [if_neg hle] at this
          have HTT := hid ht
          clear ht
          go_wp2_with fail
          go_quiet (fail)
          go_wp2
          have hg := HG.out
          go_roundg (gk - 1)
          case measure => omega
          case rel => exact ⟨k + 1, _, by go_num, by omega, by rw [Nat.add_sub_cancel]; exact HTT.out, rfl⟩
      · obtain rfl : k = 0 := by omega
        have hk0 : decide ((0 : Int) < ((0 : Nat) : Int)) = false := rfl
        go_wp2_with fail
        go_quiet (fail)
        go_wp2
        have hg := HG.out
        go_roundg (gk - 1)
        case measure => omega
        case rel => exact ⟨1, _, by go_num, by omega, HY.out, rfl⟩
    · have hk' : k = D.length := by omega
      have ht : t = true := by
        rw [HY.out]
        rcases Nat.eq_zero_or_pos k with h0 | h0
        · have hD : D = [] := List.eq_nil_of_length_eq_zero (by omega)
          subst hD
          simp [tightB]
        · have e : D.drop k = [] := by rw [hk', List.drop_length]
          rw [List.drop_eq_getElem_cons (by omega), show k - 1 + 1 = k by omega, e]
          rfl
      have HTT := hid ht
      clear ht
      go_wp2
      go_ret
      exact ⟨by rw [HTT.out]; rfl, _, rfl⟩

/-! ### Clone -/
theorem Ints.empty {w : World} {B : Nat} (h : B ≤ w.heap.size) : Ints (w.alloc (.cells #[] 3)) B (.slice (some ⟨w.heap.size, 0, none⟩) 0 0) [] :=
  World.ownsRow_lit w #[] 0 h (by unfold maxLen; omega) (by simp)

/-- One value comes back, of which P holds. -/
def SomeV (P : Value → World → Prop) (e : Ending) (w : World) : Prop := ∃ v, e = .returned v ∧ P v w

theorem clone_any {W : World} {B : Nat} {ad : Addr} {n cap : Nat} {D : List Int} (h : RdI W B (.slice (some ad) n cap) D) (hB : B ≤ W.heap.size) (hl : D.length ≤ 1024) :
    Calls Try.prog 22 #[.slice (some ad) n cap] W (SomeV fun v' W' => Ints W' W.heap.size v' D ∧ Below W.heap.size W W') := by
  have hnil := @Lib.run_eql_slice_nil Try.prog
  have h2 := hid (h.below (((Below.refl B W)).alloc hB (.cells #[] 3)))
  have hown := hid (Ints.empty (w := W) (Nat.le_refl _))
  have hbl := hid ((Below.refl W.heap.size W).alloc (Nat.le_refl _) (.cells #[] 3))
  clear h
  go_enter Try.func22, Try.ntmps22
  go_wp2_with (at_builtin; refine wpList_pushAll rfl (.tmp 5) (.tmp 6) rfl W.heap.size B (.slice (some ⟨W.heap.size, 0, none⟩) 0 0) _ [] D rfl hown.out rfl h2.out (by simp; omega) hbl.out.size ?_; intro v' w1 hown1 honly1)
  go_ret
  refine ⟨v', rfl, by simpa using hown1, hbl.out.trans (honly1.below hbl.out.size (fun k hk e => ?_))⟩
  have e' : W.heap.size = k := by simpa [Value.ownBlock] using e
  omega
end Go.Proofs.Ytgnhfipmeljffaa
