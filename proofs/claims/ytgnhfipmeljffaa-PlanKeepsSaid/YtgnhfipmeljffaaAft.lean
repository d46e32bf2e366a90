/-
  What After of package plan does, by a contract.
-/
import Derived.Test.YtgnhfipmeljffaaPl
open Go Go.RowKit
namespace Go.Proofs.Ytgnhfipmeljffaa

/-- The slice value v reads as the units U (From, Many); it lies below block B. -/
def RdU (w : World) (B : Nat) (v : Value) (U : List (Int × Int)) : Prop :=
  ∃ a cap, v = .slice a U.length cap ∧ U.length ≤ cap ∧ cap ≤ maxLen ∧ (0 < U.length → ∃ g off, a = some ⟨g, off, none⟩ ∧ g < B ∧ ∀ (i : Nat) (u : Int × Int), U[i]? = some u →
    w.cell? ⟨g, off + i * 2, none⟩ = some (.int .i64 u.1) ∧ w.cell? ⟨g, off + i * 2 + 1, none⟩ = some (.int .i64 u.2))

section
variable {w w' : World} {B B' : Nat} {v : Value} {U : List (Int × Int)}
theorem RdU.keep (h : RdU w B v U) (hk : ∀ g off, g < B → w'.cell? ⟨g, off, none⟩ = w.cell? ⟨g, off, none⟩) : RdU w' B v U := by
  obtain ⟨a, cap, h1, h2, h3, h4⟩ := h
  refine ⟨a, cap, h1, h2, h3, fun hn => ?_⟩
  obtain ⟨g, off, e, hg, hc⟩ := h4 hn
  exact ⟨g, off, e, hg, fun i d hd => ⟨(hk g _ hg).trans (hc i d hd).1, (hk g _ hg).trans (hc i d hd).2⟩⟩
theorem RdU.below (h : RdU w B v U) (hb : Below B w w') : RdU w' B v U := h.keep fun g off hg => hb.cell (p := ⟨g, off, none⟩) hg
theorem RdU.shape (h : RdU w B v U) : ∃ a cap, v = .slice a U.length cap ∧ U.length ≤ cap ∧ cap ≤ maxLen := by
  obtain ⟨a', cap', h1, h2, h3, _⟩ := h
  exact ⟨a', cap', h1, h2, h3⟩
theorem RdU.at_ {a : Option Addr} {n cap i : Nat} (h : RdU w B (.slice a n cap) U) {u : Int × Int} (hd : U[i]? = some u) :
    ∃ g off, a = some ⟨g, off, none⟩ ∧ g < B ∧ w.cell? ⟨g, off + i * 2, none⟩ = some (.int .i64 u.1) ∧ w.cell? ⟨g, off + i * 2 + 1, none⟩ = some (.int .i64 u.2) := by
  obtain ⟨a', cap', h1, h2, h3, h4⟩ := h
  have hi : i < U.length := by
    rcases Nat.lt_or_ge i U.length with h | h
    · exact h
    · rw [List.getElem?_eq_none h] at hd; cases hd
  simp only [Value.slice.injEq] at h1
  obtain ⟨rfl, rfl, rfl⟩ := h1
  obtain ⟨g, off, e, hg, hc⟩ := h4 (by omega)
  exact ⟨g, off, e, hg, hc i u hd⟩
end

/-- Is a unit none that may be, behind 'at'? -/
def badU (n : Nat) (at_ : Nat) (u : Int × Int) : Bool := decide (u.1 < at_) || decide (u.2 < 1) || decide ((n : Int) < u.1) || decide ((n : Int) - u.1 < u.2)
def aftStep (D : List Int) (s : Option (List Int × Nat)) (u : Int × Int) : Option (List Int × Nat) :=
  match s with
  | none => none
  | some (out, at_) => if badU D.length at_ u then none else some (out ++ (D.take u.1.toNat).drop at_ ++ [sumW ((D.take (u.1.toNat + u.2.toNat)).drop u.1.toNat)], u.1.toNat + u.2.toNat)
def aftTo (D : List Int) (U : List (Int × Int)) : Option (List Int × Nat) := U.foldl (aftStep D) (some ([], 0))
theorem aft_snoc (D : List Int) (U : List (Int × Int)) (u : Int × Int) : aftTo D (U ++ [u]) = aftStep D (aftTo D U) u := by simp [aftTo, List.foldl_append]
theorem aft_none (D : List Int) : ∀ U : List (Int × Int), U.foldl (aftStep D) none = none := by
  intro U
  induction U with
  | nil => rfl
  | cons u r ih => exact ih
/-- What After answers. -/
def aftB (D : List Int) (U : List (Int × Int)) : Option (List Int) :=
  match aftTo D U with
  | none => none
  | some (out, e) => if anyBad 1000000 D then none else some (out ++ D.drop e)

theorem badU_no {n at_ : Nat} {u : Int × Int} (h : badU n at_ u = false) : (at_ : Int) ≤ u.1 ∧ 1 ≤ u.2 ∧ u.1 ≤ n ∧ u.2 ≤ n - u.1 := by
  simp [badU] at h
  omega
theorem aft_len_step {D : List Int} {s : Option (List Int × Nat)} (h : ∀ out e, s = some (out, e) → out.length ≤ e ∧ e ≤ D.length) (u : Int × Int) :
    ∀ out e, aftStep D s u = some (out, e) → out.length ≤ e ∧ e ≤ D.length := by
  intro out e he
  cases s with
  | none => cases he
  | some s =>
    obtain ⟨o, a⟩ := s
    obtain ⟨i1, i2⟩ := h o a rfl
    simp only [aftStep] at he
    split at he
    · cases he
    · rename_i hb
      have hb' := badU_no (by simpa using hb)
      simp only [Option.some.injEq, Prod.mk.injEq] at he
      obtain ⟨rfl, rfl⟩ := he
      simp
      omega
theorem aft_len_all {D : List Int} : ∀ (U : List (Int × Int)) (s : Option (List Int × Nat)), (∀ out e, s = some (out, e) → out.length ≤ e ∧ e ≤ D.length) →
    ∀ out e, U.foldl (aftStep D) s = some (out, e) → out.length ≤ e ∧ e ≤ D.length := by
  intro U
  induction U with
  | nil => intro s h; exact h
  | cons u r ih => intro s h; exact ih _ (aft_len_step h u)
theorem aft_len {D : List Int} {U : List (Int × Int)} {out : List Int} {e : Nat} (h : aftTo D U = some (out, e)) : out.length ≤ e ∧ e ≤ D.length :=
  aft_len_all U _ (fun o a h => by simp at h; obtain ⟨rfl, rfl⟩ := h; simp) out e h

theorem aftB_none {D : List Int} {U : List (Int × Int)} {k : Nat} (h : aftTo D (U.take k) = none) : aftB D U = none := by
  have e : aftTo D U = none := by
    have h2 : aftTo D (U.take k ++ U.drop k) = none := by
      unfold aftTo at h ⊢
      rw [List.foldl_append, h]
      exact aft_none D _
    rwa [List.take_append_drop] at h2
  unfold aftB
  rw [e]

/-- What After leaves: the value and the error. -/
def AftPost (W : World) (D : List Int) (U : List (Int × Int)) (e : Ending) (w : World) : Prop :=
  match aftB D U with
  | none => e = .returned (.tuple #[.slice none 0 0, .int .i64 1]) ∧ Below W.heap.size W w
  | some R => ∃ v, e = .returned (.tuple #[v, .int .i64 0]) ∧ Ints w W.heap.size v R ∧ Below W.heap.size W w
theorem AftPost.none_ {W w : World} {D : List Int} {U : List (Int × Int)} {e : Ending} (h : aftB D U = none) (he : e = .returned (.tuple #[.slice none 0 0, .int .i64 1])) (hb : Below W.heap.size W w) : AftPost W D U e w := by
  unfold AftPost; rw [h]; exact ⟨he, hb⟩
theorem AftPost.some_ {W w : World} {D R : List Int} {U : List (Int × Int)} {e : Ending} {v : Value} (h : aftB D U = some R) (he : e = .returned (.tuple #[v, .int .i64 0])) (hi : Ints w W.heap.size v R) (hb : Below W.heap.size W w) : AftPost W D U e w := by
  unfold AftPost; rw [h]; exact ⟨v, he, hi, hb⟩

set_option maxHeartbeats 1600000 in
set_option maxRecDepth 100000 in
theorem after_any {W : World} {v u : Value} {D : List Int} {U : List (Int × Int)} (h : RdI W W.heap.size v D) (hu : RdU W W.heap.size u U) (hD : D.length ≤ 1024) :
    Calls Try.prog 7 #[v, u] W (AftPost W D U) := by
  obtain ⟨a, cap, rfl, hl, hm⟩ := h.shape
  obtain ⟨a2, cap2, rfl, hl2, hm2⟩ := hu.shape
  have H := hid h
  have HU := hid hu
  unfold maxLen at hm hm2
  clear h hu
  go_enter Try.func7, Try.ntmps7
  go_wp2_with fail
  go_loopg [6, 7, 12] U.length (fun g s p i wr => ∃ k at_ : Nat, ∃ out, i = .int .i64 k ∧ g + k = U.length ∧ aftTo D (U.take k) = some (out, at_) ∧ p = .int .i64 at_ ∧ Ints wr W.heap.size s out ∧ Below W.heap.size W wr)
  case atStart => exact ⟨0, 0, [], rfl, rfl, rfl, rfl, Ints.nil _ _, Below.refl _ _⟩
  case round =>
    obtain ⟨k, at_, out, rfl, hgk, haft, rfl, hown, hbel⟩ := hrel
    have HG := hid hgk
    have HA := hid haft
    have HO := hid hown
    have HB := hid hbel
    have hk : k ≤ U.length := by omega
    obtain ⟨la, lb⟩ := aft_len haft
    clear hgk haft hown hbel
    by_cases hlt : k < U.length
    · obtain ⟨g, off, rfl, hg, hc1, hc2⟩ := HU.out.at_ (List.getElem?_eq_getElem hlt)
      obtain ⟨f, mm, hx⟩ : ∃ f mm, (f, mm) = U[k] := ⟨_, _, rfl⟩
      rw [← hx] at hc1 hc2
      have hd1 := (HB.out.cell (p := ⟨g, off + k * 2, none⟩) hg).trans hc1
      have hd2 := (HB.out.cell (p := ⟨g, off + k * 2 + 1, none⟩) hg).trans hc2
      have hU1 : U.take (k + 1) = U.take k ++ [(f, mm)] := by rw [List.take_succ_eq_append_getElem hlt, hx]
      have HU1 := hid hU1
      clear hx hU1 hc1 hc2
      go_upto_region 6 with fail
      have e1 : (wr.alloc (.cells #[.int .i64 f, .int .i64 mm] 38)).cell? ⟨wr.heap.size, 0, none⟩ = some (.int .i64 f) := (Blk.new wr 38 #[.int .i64 f, .int .i64 mm]).cell 0
      have e2 : (wr.alloc (.cells #[.int .i64 f, .int .i64 mm] 38)).cell? ⟨wr.heap.size, 1, none⟩ = some (.int .i64 mm) := (Blk.new wr 38 #[.int .i64 f, .int .i64 mm]).cell 1
      have ho1 := HO.out.alloc (.cells #[.int .i64 f, .int .i64 mm] 38)
      have hblk := Blk.new wr 38 #[.int .i64 f, .int .i64 mm]
      have hb1 := HB.out.alloc HB.out.size (.cells #[.int .i64 f, .int .i64 mm] 38)
      have hGW := HB.out.size
      generalize wr.alloc (.cells #[.int .i64 f, .int .i64 mm] 38) = W1 at *
      generalize wr.heap.size = G at *
      have HO1 := hid ho1
      have HB1 := hid hb1
      have HK := hid hblk
      clear ho1 hb1 hblk hd1 hd2
      by_cases c1 : f < at_
      · have hb : badU D.length at_ (f, mm) = true := by simp [badU]; omega
        have hn : aftB D U = none := by
          have h1 : aftTo D (U.take (k + 1)) = none := by rw [HU1.out, aft_snoc, HA.out]; simp only [aftStep, hb, if_true]
          exact aftB_none h1
        have HN := hid hn
        clear hb hn
        go_wp2
        go_ret2
        exact AftPost.none_ HN.out rfl HB1.out
      · by_cases c2 : mm < 1
        · have hb : badU D.length at_ (f, mm) = true := by simp [badU]; omega
          have hn : aftB D U = none := by
            have h1 : aftTo D (U.take (k + 1)) = none := by rw [HU1.out, aft_snoc, HA.out]; simp only [aftStep, hb, if_true]
            exact aftB_none h1
          have HN := hid hn
          clear hb hn
          go_wp2
          go_ret2
          exact AftPost.none_ HN.out rfl HB1.out
        · by_cases c3 : (D.length : Int) < f
          · have hb : badU D.length at_ (f, mm) = true := by simp [badU]; omega
            have hn : aftB D U = none := by
              have h1 : aftTo D (U.take (k + 1)) = none := by rw [HU1.out, aft_snoc, HA.out]; simp only [aftStep, hb, if_true]
              exact aftB_none h1
            have HN := hid hn
            clear hb hn
            go_wp2
            go_ret2
            exact AftPost.none_ HN.out rfl HB1.out
          · by_cases c4 : (D.length : Int) - f < mm
            · have hb : badU D.length at_ (f, mm) = true := by simp [badU]; omega
              have hn : aftB D U = none := by
                have h1 : aftTo D (U.take (k + 1)) = none := by rw [HU1.out, aft_snoc, HA.out]; simp only [aftStep, hb, if_true]
                exact aftB_none h1
              have HN := hid hn
              clear hb hn
              go_wp2
              go_ret2
              exact AftPost.none_ HN.out rfl HB1.out
            · obtain ⟨F, rfl⟩ : ∃ F : Nat, f = F := ⟨f.toNat, by omega⟩
              obtain ⟨M, rfl⟩ : ∃ M : Nat, mm = M := ⟨mm.toNat, by omega⟩
              have hb : badU D.length at_ ((F : Int), (M : Int)) = false := by simp [badU]; omega
              have hnext : aftTo D (U.take (k + 1)) = some (out ++ (D.take F).drop at_ ++ [sumW ((D.take (F + M)).drop F)], F + M) := by
                rw [HU1.out, aft_snoc, HA.out]
                simp only [aftStep, hb, Bool.false_eq_true, if_false, Int.toNat_natCast]
              have HNX := hid hnext
              have HV := hid (H.out.below HB1.out)
              obtain ⟨s1, hs1, hr1⟩ := run_sub HV.out at_ F (by omega) (by omega)
              obtain ⟨s2, hs2', hr2⟩ := run_sub HV.out F (F + M) (by omega) (by omega)
              have hs2 : ∀ W, (Instr.slice 22 (.slice a D.length cap) (some (.int .i64 (F : Int))) (some (.int .i64 ((F : Int) + (M : Int)))) none).run Try.prog W = .ok s2 W := fun W => by have := hs2' W; rwa [Int.natCast_add] at this
              have R1 := hid hr1
              have R2 := hid hr2
              have hlen1 := hid (show out.length + ((D.take F).drop at_).length < 1000000 by simp; omega)
              clear hb hnext hs2' hr1 hr2
              obtain ⟨oa, oc, rfl⟩ := HO1.out.shape
              have hne : ∀ g', (Value.slice oa out.length oc).ownBlock = some g' → G ≠ g' := fun g' e => by
                obtain ⟨_, cur, hcur⟩ := HO1.out.block e
                exact HK.out.ne_ hcur (by decide)
              have HNE := hid hne
              have hlen2 := hid (show (out ++ (D.take F).drop at_).length < 1000000 by simp; omega)
              clear hne e1 e2
              have e1 : W1.cell? ⟨G, 0, none⟩ = some (.int .i64 F) := HK.out.cell 0
              have e2 : W1.cell? ⟨G, 1, none⟩ = some (.int .i64 M) := HK.out.cell 1
              go_wp2_with (first
                | (at_builtin; refine wpList_pushAll rfl (.tmp 42) (.tmp 47) rfl W.heap.size W.heap.size (.slice oa out.length oc) s1 out ((D.take F).drop at_) rfl HO1.out rfl R1.out hlen1.out HB1.out.size ?_
                   intro v2 w2 hown2 honly2
                   have hk2 := honly2.blk HK.out (fun e => HNE.out _ e rfl)
                   have e3 : w2.cell? ⟨G, 0, none⟩ = some (.int .i64 F) := hk2.cell 0
                   have e4 : w2.cell? ⟨G, 1, none⟩ = some (.int .i64 M) := hk2.cell 1
                   have HK2 := hid hk2
                   have HO2 := hid hown2
                   have hb2 := honly2.below HB1.out.size (fun x hx e => by have := (HO1.out.block e).1; omega)
                   have HR2 := hid (R2.out.below hb2)
                   have HB2 := hid (HB1.out.trans hb2)
                   clear hk2 hown2 honly2 hb2)
                | (go_at_call 17; ((with_reducible refine (sum_any HR2.out).mono ?_)); rintro e w3 ⟨rfl, rfl⟩)
                | (at_builtin; go_must (refine wpList_push rfl (.tmp 49) (.tmp 60) rfl W.heap.size v2 (out ++ (D.take F).drop at_) (sumW ((D.take (F + M)).drop F)) rfl HO2.out rfl hlen2.out HB2.out.size ?_)
                   intro v3 w3 hown3 honly3
                   have hk3 := honly3.blk HK2.out (fun e => by have hk0 := HK2.out; obtain ⟨_, cur, hcur⟩ := HO2.out.block e; exact hk0.ne_ hcur (by decide) rfl)
                   have e5 : w3.cell? ⟨G, 0, none⟩ = some (.int .i64 F) := hk3.cell 0
                   have e6 : w3.cell? ⟨G, 1, none⟩ = some (.int .i64 M) := hk3.cell 1
                   have HO3 := hid hown3
                   have hb3 := honly3.below HB2.out.size (fun x hx e => by have := (HO2.out.block e).1; omega)
                   have HB3 := hid (HB2.out.trans hb3)
                   clear hk3 hown3 honly3 hb3))
              have hg := HG.out
              go_roundg (gk - 1)
              case measure => omega
              case rel => exact ⟨k + 1, F + M, _, by go_num, by omega, HNX.out, by simp, by simpa using HO3.out, HB3.out⟩
    · have hA := HA.out
      have hk' : k = U.length := by omega
      rw [hk', List.take_length] at hA
      have HA2 := hid hA
      have HV := hid (H.out.below HB.out)
      obtain ⟨s1, hs1, hr1⟩ := run_from HV.out at_ (by omega)
      have R1 := hid hr1
      have hlen := hid (show out.length + (D.drop at_).length < 1000000 by simp; omega)
      clear hA hr1
      cases hbad : anyBad 1000000 D with
      | true =>
        have hn : aftB D U = none := by unfold aftB; rw [HA2.out]; simp only [hbad, if_true]
        have HN := hid hn
        clear hn
        go_wp2_with fail
        refine (containsA_any HV.out).mono ?_
        rintro e w' ⟨rfl, rfl⟩
        rw [hbad]
        go_wp2
        go_ret2
        exact AftPost.none_ HN.out rfl HB.out
      | false =>
        have hn : aftB D U = some (out ++ D.drop at_) := by unfold aftB; rw [HA2.out]; simp only [hbad, Bool.false_eq_true, if_false]
        have HN := hid hn
        clear hn
        go_wp2_with fail
        refine (containsA_any HV.out).mono ?_
        rintro e w' ⟨rfl, rfl⟩
        rw [hbad]
        go_wp2_with (at_builtin; go_must (refine wpList_pushAll rfl (.tmp 70) (.tmp 73) rfl W.heap.size W.heap.size _ s1 out (D.drop at_) rfl HO.out rfl R1.out hlen.out HB.out.size ?_); intro v2 w2 hown2 honly2)
        go_ret2
        exact AftPost.some_ HN.out rfl hown2 (HB.out.trans (honly2.below HB.out.size (fun x hx e => by have := (HO.out.block e).1; omega)))
end Go.Proofs.Ytgnhfipmeljffaa
