/-
  What Units of package plan does, by a contract.
-/
import Derived.Test.YtgnhfipmeljffaaUns
import Derived.Test.YtgnhfipmeljffaaJmp
open Go Go.RowKit
namespace Go.Proofs.Ytgnhfipmeljffaa

/-- May the unit from b to e take one leaf more? -/
def mayGrow (D : List Int) (most many : Int) (b e : Nat) : Bool := decide (e < D.length) && decide ((e : Int) - b < many) && decide (sumW ((D.take (e + 1)).drop b) ≤ most)
def growF (D : List Int) (most many : Int) (b : Nat) : Nat → Nat → Nat
  | 0, e => e
  | k + 1, e => if mayGrow D most many b e then growF D most many b k (e + 1) else e
def growE (D : List Int) (most many : Int) (b e : Nat) : Nat := growF D most many b (D.length - e) e
theorem growE_yes {D : List Int} {most many : Int} {b e : Nat} (h : mayGrow D most many b e = true) : growE D most many b e = growE D most many b (e + 1) := by
  have hlt : e < D.length := by simp [mayGrow] at h; omega
  obtain ⟨k, hk⟩ : ∃ k, D.length - e = k + 1 := ⟨D.length - e - 1, by omega⟩
  have hk' : D.length - (e + 1) = k := by omega
  unfold growE
  rw [hk, hk', growF, if_pos h]
theorem growE_no {D : List Int} {most many : Int} {b e : Nat} (h : mayGrow D most many b e = false) : growE D most many b e = e := by
  unfold growE
  cases D.length - e with
  | zero => rfl
  | succ k => rw [growF, if_neg (by simp [h])]
theorem growF_ge (D : List Int) (most many : Int) (b : Nat) : ∀ k e, e ≤ growF D most many b k e := by
  intro k
  induction k with
  | zero => intro e; exact Nat.le_refl _
  | succ k ih =>
    intro e
    rw [growF]
    split
    · exact Nat.le_trans (Nat.le_succ e) (ih _)
    · exact Nat.le_refl _
theorem growE_ge (D : List Int) (most many : Int) (b e : Nat) : e ≤ growE D most many b e := growF_ge ..

def oneUnit (b e : Nat) : List (Int × Int) := if 2 ≤ e - b then [((b : Int), (e : Int) - b)] else []
def unitsF (D : List Int) (most many : Int) : Nat → Nat → List (Int × Int)
  | 0, _ => []
  | k + 1, b => if D.length ≤ b then [] else oneUnit b (growE D most many b (b + 1)) ++ unitsF D most many k (growE D most many b (b + 1))
theorem unitsF_fuel {D : List Int} {most many : Int} : ∀ (k m b : Nat), D.length - b ≤ k → D.length - b ≤ m → unitsF D most many k b = unitsF D most many m b := by
  intro k
  induction k with
  | zero =>
    intro m b h1 h2
    cases m with
    | zero => rfl
    | succ m => rw [unitsF, unitsF, if_pos (by omega)]
  | succ k ih =>
    intro m b h1 h2
    cases m with
    | zero => rw [unitsF, unitsF, if_pos (by omega)]
    | succ m =>
      rw [unitsF, unitsF]
      split
      · rfl
      · have := growE_ge D most many b (b + 1)
        rw [ih m _ (by omega) (by omega)]
def unitsE (D : List Int) (most many : Int) (b : Nat) : List (Int × Int) := unitsF D most many (D.length - b) b
theorem unitsE_end {D : List Int} {most many : Int} {b : Nat} (h : D.length ≤ b) : unitsE D most many b = [] := by
  unfold unitsE
  rw [show D.length - b = 0 by omega]
  rfl
theorem unitsE_step {D : List Int} {most many : Int} {b : Nat} (h : b < D.length) : unitsE D most many b = oneUnit b (growE D most many b (b + 1)) ++ unitsE D most many (growE D most many b (b + 1)) := by
  obtain ⟨k, hk⟩ : ∃ k, D.length - b = k + 1 := ⟨D.length - b - 1, by omega⟩
  have := growE_ge D most many b (b + 1)
  unfold unitsE
  rw [hk, unitsF, if_neg (by omega), unitsF_fuel k (D.length - growE D most many b (b + 1)) _ (by omega) (Nat.le_refl _)]
/-- What Units answers. -/
def unitsB (D : List Int) (most many : Int) : Option (List (Int × Int)) := if rightB D most many then some (unitsE D most many 0) else none

def UnitsPost (t : TypeId) (W : World) (D : List Int) (most many : Int) (e : Ending) (w : World) : Prop :=
  match unitsB D most many with
  | none => e = .returned (.tuple #[.slice none 0 0, .int .i64 1]) ∧ Below W.heap.size W w
  | some R => ∃ v, e = .returned (.tuple #[v, .int .i64 0]) ∧ Uns t w W.heap.size v R ∧ Below W.heap.size W w
theorem UnitsPost.none_ {t : TypeId} {W w : World} {D : List Int} {most many : Int} {e : Ending} (h : unitsB D most many = none) (he : e = .returned (.tuple #[.slice none 0 0, .int .i64 1])) (hb : Below W.heap.size W w) : UnitsPost t W D most many e w := by
  unfold UnitsPost; rw [h]; exact ⟨he, hb⟩
theorem UnitsPost.some_ {t : TypeId} {W w : World} {D : List Int} {R : List (Int × Int)} {most many : Int} {e : Ending} {v : Value} (h : unitsB D most many = some R) (he : e = .returned (.tuple #[v, .int .i64 0])) (hi : Uns t w W.heap.size v R) (hb : Below W.heap.size W w) : UnitsPost t W D most many e w := by
  unfold UnitsPost; rw [h]; exact ⟨v, he, hi, hb⟩

/-- The frame at the labels. -/
def UFrame (vD : Value) (most many : Int) (vO : Value) (b e : Int) (a : Act) : Prop :=
  ∃ u3 u4 u5 u11 u12 u13 u14 u15 u16 u17 u18 u19 u20 u21 u22 u23 u24 u25 u26 u27 u28 u29 u30 u31 u32 u33 u34 u35 u36 u37 u38 u39 u40 u41 u42 u43 u44 u45 u46 u47 u48 u49 u50 u51 u52 u53 u54 u55 u56 u57 u58 : Value, a = { tmps := #[vD, .int .i64 most, .int .i64 many, u3, u4, u5, .slice none 0 0, .int .i64 0, vO, .int .i64 b, .int .i64 e, u11, u12, u13, u14, u15, u16, u17, u18, u19, u20, u21, u22, u23, u24, u25, u26, u27, u28, u29, u30, u31, u32, u33, u34, u35, u36, u37, u38, u39, u40, u41, u42, u43, u44, u45, u46, u47, u48, u49, u50, u51, u52, u53, u54, u55, u56, u57, u58], defers := [] }

def UJ (W : World) (vD : Value) (D : List Int) (most many : Int) (n l : Nat) (a : Act) (w : World) : Prop :=
  ∃ (vO : Value) (out : List (Int × Int)) (b e : Nat), UFrame vD most many vO b e a ∧ Uns 38 w W.heap.size vO out ∧ Below W.heap.size W w ∧ out.length ≤ e ∧ rightB D most many = true ∧
   ((l = 0 ∧ e ≤ D.length ∧ n = 2 * (D.length - e) ∧ out ++ unitsE D most many e = unitsE D most many 0) ∨
    (l = 1 ∧ b < e ∧ e ≤ D.length ∧ out.length ≤ b ∧ n = 2 * (D.length - e) + 1 ∧ out ++ (oneUnit b (growE D most many b e) ++ unitsE D most many (growE D most many b e)) = unitsE D most many 0))

set_option maxHeartbeats 1600000 in
set_option maxRecDepth 100000 in
theorem units_any {W : World} {v : Value} {D : List Int} (h : RdI W W.heap.size v D) (hD : D.length ≤ 1024) (most many : Int) :
    Calls Try.prog 13 #[v, .int .i64 most, .int .i64 many] W (UnitsPost 38 W D most many) := by
  have hb0 := (Below.refl W.heap.size W).alloc (Nat.le_refl _) (.cells #[.int .i64 most] 3)
  have HR := hid (right_any h (Nat.le_refl _) most many)
  have hv0 := h.below hb0
  obtain ⟨a0, cap, rfl, hl, hm⟩ := h.shape
  have H0 := hid h
  have H := hid hv0
  have HB := hid hb0
  unfold maxLen at hm
  clear h hv0 hb0
  go_enter Try.func13, Try.ntmps13
  go_wp2
  refine wp_scope_two rfl rfl (UJ W (.slice a0 D.length cap) D most many) ?_ ?_ ?_ ?_
  · rintro n l a w ⟨_, _, _, _, _, _, _, _, _, h | h⟩
    · exact .inl h.1
    · exact .inr h.1
  · intro k0
    cases hr : rightB D most many with
    | false =>
      have hn : unitsB D most many = none := by unfold unitsB; rw [hr]; rfl
      have HN := hid hn
      clear hn
      go_wp2_with fail
      refine HR.out.mono ?_
      rintro e w' ⟨rfl, rfl⟩
      rw [hr]
      go_wp2
      simp only [Exit.jumps]
      go_ret2
      exact UnitsPost.none_ HN.out rfl HB.out
    | true =>
      have hn : unitsB D most many = some (unitsE D most many 0) := by unfold unitsB; rw [hr]; rfl
      have HN := hid hn
      clear hn
      go_wp2_with fail
      refine HR.out.mono ?_
      rintro e w' ⟨rfl, rfl⟩
      rw [hr]
      go_wp2
      go_step3
      refine then_of (by assumption) ?_
      refine k0 (2 * D.length) _ _ ?_
      exact ⟨_, [], 0, 0, ⟨_, _, _, _, _, _, _, _, _, _, _, _, _, _, _, _, _, _, _, _, _, _, _, _, _, _, _, _, _, _, _, _, _, _, _, _, _, _, _, _, _, _, _, _, _, _, _, _, _, _, _, rfl⟩, Uns.nil _ _, HB.out, Nat.le_refl _, hr, .inl ⟨rfl, Nat.zero_le _, rfl, rfl⟩⟩
  · rintro n a w k1 ⟨vO, out, b, e, ⟨u3, u4, u5, u11, u12, u13, u14, u15, u16, u17, u18, u19, u20, u21, u22, u23, u24, u25, u26, u27, u28, u29, u30, u31, u32, u33, u34, u35, u36, u37, u38, u39, u40, u41, u42, u43, u44, u45, u46, u47, u48, u49, u50, u51, u52, u53, u54, u55, u56, u57, u58, rfl⟩, ho, hb, hoe, hr, h | h⟩
    rotate_left
    · exact absurd h.1 (by decide)
    obtain ⟨_, he, hn, hu⟩ := h
    have HO := hid ho
    have HB := hid hb
    have HU := hid hu
    have hn0 : unitsB D most many = some (unitsE D most many 0) := by unfold unitsB; rw [hr]; rfl
    have HN := hid hn0
    clear ho hb hu hn0
    by_cases hlt : e < D.length
    · go_wp2
      go_step3
      refine then_of (by assumption) ?_
      refine k1 (2 * (D.length - (e + 1)) + 1) _ _ (by omega) ?_
      refine ⟨_, out, e, e + 1, ⟨_, _, _, _, _, _, _, _, _, _, _, _, _, _, _, _, _, _, _, _, _, _, _, _, _, _, _, _, _, _, _, _, _, _, _, _, _, _, _, _, _, _, _, _, _, _, _, _, _, _, _, rfl⟩, HO.out, HB.out, by omega, hr, .inr ⟨rfl, by omega, by omega, hoe, rfl, ?_⟩⟩
      have := HU.out
      rwa [unitsE_step hlt] at this
    · have hu2 := HU.out
      rw [unitsE_end (by omega), List.append_nil] at hu2
      subst hu2
      go_wp2
      simp only [Exit.jumps]
      go_ret2
      exact UnitsPost.some_ HN.out rfl HO.out HB.out
  · rintro n a w ⟨vO, out, b, e, ⟨u3, u4, u5, u11, u12, u13, u14, u15, u16, u17, u18, u19, u20, u21, u22, u23, u24, u25, u26, u27, u28, u29, u30, u31, u32, u33, u34, u35, u36, u37, u38, u39, u40, u41, u42, u43, u44, u45, u46, u47, u48, u49, u50, u51, u52, u53, u54, u55, u56, u57, u58, rfl⟩, ho, hb, hoe, hr, h | h⟩
    · exact absurd h.1 (by decide)
    obtain ⟨_, hbe, he, hob, hn, hu⟩ := h
    have HO := hid ho
    have HB := hid hb
    have HU := hid hu
    have hlen := hid (show out.length < 1000000 by omega)
    have HV := hid (H0.out.below hb)
    clear ho hb hu
    have hgrow : mayGrow D most many b e = true → mayGrow D most many b e = true := id
    by_cases c1 : (e : Int) < D.length
    · obtain ⟨s2, hs2', hr2⟩ := run_sub HV.out b (e + 1) (by omega) (by omega)
      have hs2 : ∀ W, (Instr.slice 22 (.slice a0 D.length cap) (some (.int .i64 (b : Int))) (some (.int .i64 ((e : Int) + 1))) none).run Try.prog W = .ok s2 W := fun W => by have := hs2' W; rwa [Int.natCast_add, Int.natCast_one] at this
      have R2 := hid hr2
      clear hs2' hr2
      by_cases c2 : (e : Int) - b < many
      · by_cases c3 : sumW ((D.take (e + 1)).drop b) ≤ most
        · have hg : mayGrow D most many b e = true := by simp [mayGrow]; omega
          have HG := hid hg
          clear hg hgrow
          go_wp2_with (go_at_call 17; ((with_reducible refine (sum_any R2.out).mono ?_)); rintro e' w3 ⟨rfl, rfl⟩)
          go_step3
          refine (Exists.intro (2 * (D.length - (e + 1)) + 1) ⟨by omega, ?_⟩ : ∃ m, m < n ∧ UJ W (.slice a0 D.length cap) D most many m 1 _ _)
          refine ⟨_, out, b, e + 1, ⟨_, _, _, _, _, _, _, _, _, _, _, _, _, _, _, _, _, _, _, _, _, _, _, _, _, _, _, _, _, _, _, _, _, _, _, _, _, _, _, _, _, _, _, _, _, _, _, _, _, _, _, rfl⟩, HO.out, HB.out, by omega, hr, .inr ⟨rfl, by omega, by omega, hob, rfl, ?_⟩⟩
          rw [← growE_yes HG.out]
          exact HU.out
        · have hg : mayGrow D most many b e = false := by simp [mayGrow]; omega
          have hu2 := HU.out
          rw [growE_no hg] at hu2
          have HU2 := hid hu2
          clear hg hgrow hu2
          by_cases h2 : 2 ≤ (e : Int) - b
          · go_wp2_with (first | (go_at_call 17; ((with_reducible refine (sum_any R2.out).mono ?_)); rintro e' w3 ⟨rfl, rfl⟩) | (at_builtin; go_must (refine wpList_pushU 23 38 unit_info (by kernel_rfl) rfl (.tmp 51) (.tmp 57) rfl W.heap.size vO out ((b : Int), (e : Int) - b) rfl HO.out rfl hlen.out HB.out.size ?_); intro v3 w3 hown3 honly3))
            go_step3
            refine (Exists.intro (2 * (D.length - e)) ⟨by omega, ?_⟩ : ∃ m, m < n ∧ UJ W (.slice a0 D.length cap) D most many m 0 _ _)
            refine ⟨_, _, b, e, ⟨_, _, _, _, _, _, _, _, _, _, _, _, _, _, _, _, _, _, _, _, _, _, _, _, _, _, _, _, _, _, _, _, _, _, _, _, _, _, _, _, _, _, _, _, _, _, _, _, _, _, _, rfl⟩, hown3, HB.out.trans (honly3.below HB.out.size (fun x hx e => by have := (HO.out.block e).1; omega)), by simp; omega, hr, .inl ⟨rfl, he, rfl, ?_⟩⟩
            have := HU2.out
            rw [oneUnit, if_pos (by omega)] at this
            simpa using this
          · go_wp2_with (go_at_call 17; ((with_reducible refine (sum_any R2.out).mono ?_)); rintro e' w3 ⟨rfl, rfl⟩)
            go_step3
            refine (Exists.intro (2 * (D.length - e)) ⟨by omega, ?_⟩ : ∃ m, m < n ∧ UJ W (.slice a0 D.length cap) D most many m 0 _ _)
            refine ⟨_, _, b, e, ⟨_, _, _, _, _, _, _, _, _, _, _, _, _, _, _, _, _, _, _, _, _, _, _, _, _, _, _, _, _, _, _, _, _, _, _, _, _, _, _, _, _, _, _, _, _, _, _, _, _, _, _, rfl⟩, HO.out, HB.out, hoe, hr, .inl ⟨rfl, he, rfl, ?_⟩⟩
            have := HU2.out
            rw [oneUnit, if_neg (by omega)] at this
            simpa using this
      · have hg : mayGrow D most many b e = false := by simp [mayGrow]; omega
        have hu2 := HU.out
        rw [growE_no hg] at hu2
        have HU2 := hid hu2
        clear hg hgrow hu2
        by_cases h2 : 2 ≤ (e : Int) - b
        · go_wp2_with (at_builtin; go_must (refine wpList_pushU 23 38 unit_info (by kernel_rfl) rfl (.tmp 51) (.tmp 57) rfl W.heap.size vO out ((b : Int), (e : Int) - b) rfl HO.out rfl hlen.out HB.out.size ?_); intro v3 w3 hown3 honly3)
          go_step3
          refine (Exists.intro (2 * (D.length - e)) ⟨by omega, ?_⟩ : ∃ m, m < n ∧ UJ W (.slice a0 D.length cap) D most many m 0 _ _)
          refine ⟨_, _, b, e, ⟨_, _, _, _, _, _, _, _, _, _, _, _, _, _, _, _, _, _, _, _, _, _, _, _, _, _, _, _, _, _, _, _, _, _, _, _, _, _, _, _, _, _, _, _, _, _, _, _, _, _, _, rfl⟩, hown3, HB.out.trans (honly3.below HB.out.size (fun x hx e => by have := (HO.out.block e).1; omega)), by simp; omega, hr, .inl ⟨rfl, he, rfl, ?_⟩⟩
          have := HU2.out
          rw [oneUnit, if_pos (by omega)] at this
          simpa using this
        · go_wp2_with fail
          go_step3
          refine (Exists.intro (2 * (D.length - e)) ⟨by omega, ?_⟩ : ∃ m, m < n ∧ UJ W (.slice a0 D.length cap) D most many m 0 _ _)
          refine ⟨_, _, b, e, ⟨_, _, _, _, _, _, _, _, _, _, _, _, _, _, _, _, _, _, _, _, _, _, _, _, _, _, _, _, _, _, _, _, _, _, _, _, _, _, _, _, _, _, _, _, _, _, _, _, _, _, _, rfl⟩, HO.out, HB.out, hoe, hr, .inl ⟨rfl, he, rfl, ?_⟩⟩
          have := HU2.out
          rw [oneUnit, if_neg (by omega)] at this
          simpa using this
    · have hg : mayGrow D most many b e = false := by simp [mayGrow]; omega
      have hu2 := HU.out
      rw [growE_no hg] at hu2
      have HU2 := hid hu2
      clear hg hgrow hu2
      by_cases h2 : 2 ≤ (e : Int) - b
      · go_wp2_with (at_builtin; go_must (refine wpList_pushU 23 38 unit_info (by kernel_rfl) rfl (.tmp 51) (.tmp 57) rfl W.heap.size vO out ((b : Int), (e : Int) - b) rfl HO.out rfl hlen.out HB.out.size ?_); intro v3 w3 hown3 honly3)
        go_step3
        refine (Exists.intro (2 * (D.length - e)) ⟨by omega, ?_⟩ : ∃ m, m < n ∧ UJ W (.slice a0 D.length cap) D most many m 0 _ _)
        refine ⟨_, _, b, e, ⟨_, _, _, _, _, _, _, _, _, _, _, _, _, _, _, _, _, _, _, _, _, _, _, _, _, _, _, _, _, _, _, _, _, _, _, _, _, _, _, _, _, _, _, _, _, _, _, _, _, _, _, rfl⟩, hown3, HB.out.trans (honly3.below HB.out.size (fun x hx e => by have := (HO.out.block e).1; omega)), by simp; omega, hr, .inl ⟨rfl, he, rfl, ?_⟩⟩
        have := HU2.out
        rw [oneUnit, if_pos (by omega)] at this
        simpa using this
      · go_wp2_with fail
        go_step3
        refine (Exists.intro (2 * (D.length - e)) ⟨by omega, ?_⟩ : ∃ m, m < n ∧ UJ W (.slice a0 D.length cap) D most many m 0 _ _)
        refine ⟨_, _, b, e, ⟨_, _, _, _, _, _, _, _, _, _, _, _, _, _, _, _, _, _, _, _, _, _, _, _, _, _, _, _, _, _, _, _, _, _, _, _, _, _, _, _, _, _, _, _, _, _, _, _, _, _, _, rfl⟩, HO.out, HB.out, hoe, hr, .inl ⟨rfl, he, rfl, ?_⟩⟩
        have := HU2.out
        rw [oneUnit, if_neg (by omega)] at this
        simpa using this
end Go.Proofs.Ytgnhfipmeljffaa
