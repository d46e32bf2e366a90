/-
  What the document's Sum and After do, by contracts.
-/
import Derived.Test.YtgnhfipmeljffaaHlp
open Go Go.RowKit
namespace Go.Proofs.Ytgnhfipmeljffaa

theorem refSum_any {W : World} {B : Nat} {v : Value} {D : List Int} (h : RdI W B v D) :
    Calls Try.prog 20 #[v] W fun e W' => e = .returned (.int .i64 (sumW D)) ∧ W = W' := by
  obtain ⟨a, cap, rfl, hl, hm⟩ := h.shape
  have H := hid h
  unfold maxLen at hm
  clear h
  go_enter Try.func20, Try.ntmps20
  go_wp2_with fail
  go_loopg [3, 4] D.length (fun g s i wr => ∃ k : Nat, ∃ y, i = .int .i64 k ∧ g + k = D.length ∧ y = sumW (D.take k) ∧ s = .int .i64 y ∧ wr = W)
  case atStart => exact ⟨0, 0, rfl, rfl, rfl, rfl, rfl⟩
  case round =>
    obtain ⟨k, y, rfl, hgk, hy, rfl, rfl⟩ := hrel
    have HG := hid hgk
    have HY := hid hy
    have hk : k ≤ D.length := by omega
    clear hgk hy
    by_cases hlt : k < D.length
    · obtain ⟨g, off, rfl, _, hc⟩ := H.out.at_ (List.getElem?_eq_getElem hlt)
      obtain ⟨x, hx⟩ : ∃ x, x = D[k] := ⟨_, rfl⟩
      rw [← hx] at hc
      have HX := hid hx
      clear hx
      go_wp2
      have hg := HG.out
      go_roundg (gk - 1)
      case measure => omega
      case rel =>
        refine ⟨k + 1, wrap64 (y + x), by go_num, by omega, ?_, rfl, rfl⟩
        rw [take_snoc' hlt, sumW_snoc, ← HY.out, ← HX.out]
    · have hy := HY.out
      have hk' : k = D.length := by omega
      rw [hk', List.take_length] at hy
      subst hy
      go_wp2
      go_ret
      exact ⟨rfl, rfl⟩

theorem aftB_bad {D : List Int} {U : List (Int × Int)} (h : anyBad 1000000 D = true) : aftB D U = none := by
  unfold aftB
  split
  · rfl
  · rw [if_pos h]
theorem badU_yes {n at_ : Nat} {u : Int × Int} (h : badU n at_ u = true) : u.1 < at_ ∨ u.2 < 1 ∨ (n : Int) < u.1 ∨ (n : Int) - u.1 < u.2 := by
  simp [badU] at h
  omega
/-- What the document's After asks of a unit, in its own order. -/
def badR (n at_ : Int) (u : Int × Int) : Bool := decide (u.1 < at_) || decide (u.2 < 1) || decide (n < u.1) || decide (n < u.2) || decide (n < u.1 + u.2)

set_option maxHeartbeats 1600000 in
set_option maxRecDepth 100000 in
theorem refAfter_any {W : World} {v u : Value} {D : List Int} {U : List (Int × Int)} (h : RdI W W.heap.size v D) (hu : RdU W W.heap.size u U) (hD : D.length ≤ 1024) :
    Calls Try.prog 8 #[v, u] W (AftPost W D U) := by
  obtain ⟨a, cap, rfl, hl, hm⟩ := h.shape
  obtain ⟨a2, cap2, rfl, hl2, hm2⟩ := hu.shape
  have H := hid h
  have HU := hid hu
  have H0 := hid (Ints.empty (w := W) (Nat.le_refl _))
  have B0 := hid ((Below.refl W.heap.size W).alloc (Nat.le_refl _) (.cells #[] 3))
  unfold maxLen at hm hm2
  clear h hu
  go_enter Try.func8, Try.ntmps8
  go_wp2_with fail
  go_loopg [6] D.length (fun g i wr => ∃ k : Nat, i = .int .i64 k ∧ g + k = D.length ∧ anyBad 1000000 (D.take k) = false ∧ W = wr)
  case atStart => exact ⟨0, rfl, rfl, rfl, rfl⟩
  case round =>
    obtain ⟨k, rfl, hgk, hnb, rfl⟩ := hrel
    have HG := hid hgk
    have HNB := hid hnb
    have hk : k ≤ D.length := by omega
    clear hgk hnb
    by_cases hlt : k < D.length
    · obtain ⟨g, off, rfl, hg, hc⟩ := H.out.at_ (List.getElem?_eq_getElem hlt)
      obtain ⟨x, hx⟩ : ∃ x, x = D[k] := ⟨_, rfl⟩
      rw [← hx] at hc
      have HX := hid hx
      clear hx
      by_cases c1 : x < 0
      · have hn : aftB D U = none := aftB_bad (anyBad_hit hlt (by rw [← HX.out]; simp [badB, c1]))
        have HN := hid hn
        clear hn
        go_wp2
        go_ret2
        exact AftPost.none_ HN.out rfl (Below.refl _ _)
      · by_cases c2 : 1000000 < x
        · have hn : aftB D U = none := aftB_bad (anyBad_hit hlt (by rw [← HX.out]; simp [badB, c2]))
          have HN := hid hn
          clear hn
          go_wp2
          go_ret2
          exact AftPost.none_ HN.out rfl (Below.refl _ _)
        · go_wp2
          have hg := HG.out
          go_roundg (gk - 1)
          case measure => omega
          case rel =>
            refine ⟨k + 1, by go_num, by omega, ?_, rfl⟩
            rw [take_snoc' hlt, anyBad_snoc, HNB.out, ← HX.out]
            simp [badB, c1, c2]
    · have hk' : k = D.length := by omega
      have hnb := HNB.out
      rw [hk', List.take_length] at hnb
      have HND := hid hnb
      clear hnb hk' HNB
      go_wp2_with fail
      go_loopg [7, 8, 9] U.length (fun g s p i wr => ∃ k at_ : Nat, ∃ out, i = .int .i64 k ∧ g + k = U.length ∧ aftTo D (U.take k) = some (out, at_) ∧ p = .int .i64 at_ ∧ Ints wr W.heap.size s out ∧ Below W.heap.size W wr)
      case atStart => exact ⟨0, 0, [], rfl, rfl, rfl, rfl, H0.out, B0.out⟩
      case round =>
        obtain ⟨k2, at_, out, rfl, hgk2, haft, rfl, hown, hbel⟩ := hrel
        obtain ⟨gk2, rfl⟩ : ∃ x, x = gk := ⟨_, rfl⟩
        have HG2 := hid hgk2
        have HA := hid haft
        have HO := hid hown
        have HB := hid hbel
        have hk2 : k2 ≤ U.length := by omega
        obtain ⟨la, lb⟩ := aft_len haft
        clear hgk2 haft hown hbel
        by_cases hlt2 : k2 < U.length
        · obtain ⟨g, off, rfl, hg, hc1, hc2⟩ := HU.out.at_ (List.getElem?_eq_getElem hlt2)
          obtain ⟨f, mm, hx⟩ : ∃ f mm, (f, mm) = U[k2] := ⟨_, _, rfl⟩
          rw [← hx] at hc1 hc2
          have hd1 := (HB.out.cell (p := ⟨g, off + k2 * 2, none⟩) hg).trans hc1
          have hd2 := (HB.out.cell (p := ⟨g, off + k2 * 2 + 1, none⟩) hg).trans hc2
          have hU1 : U.take (k2 + 1) = U.take k2 ++ [(f, mm)] := by rw [List.take_succ_eq_append_getElem hlt2, hx]
          have HU1 := hid hU1
          clear hx hU1 hc1 hc2
          go_upto_region 11 with fail
          have e1 : (wr.alloc (.cells #[.int .i64 f, .int .i64 mm] 47)).cell? ⟨wr.heap.size, 0, none⟩ = some (.int .i64 f) := (Blk.new wr 47 #[.int .i64 f, .int .i64 mm]).cell 0
          have e2 : (wr.alloc (.cells #[.int .i64 f, .int .i64 mm] 47)).cell? ⟨wr.heap.size, 1, none⟩ = some (.int .i64 mm) := (Blk.new wr 47 #[.int .i64 f, .int .i64 mm]).cell 1
          have ho1 := HO.out.alloc (.cells #[.int .i64 f, .int .i64 mm] 47)
          have hblk := Blk.new wr 47 #[.int .i64 f, .int .i64 mm]
          have hb1 := HB.out.alloc HB.out.size (.cells #[.int .i64 f, .int .i64 mm] 47)
          have hGW := HB.out.size
          generalize wr.alloc (.cells #[.int .i64 f, .int .i64 mm] 47) = W1 at *
          generalize wr.heap.size = G at *
          have HO1 := hid ho1
          have HB1 := hid hb1
          have HK := hid hblk
          have HBAD : Hid (badU D.length at_ (f, mm) = true → aftB D U = none) := fun hb => by
            have h1 : aftTo D (U.take (k2 + 1)) = none := by rw [HU1.out, aft_snoc, HA.out]; simp only [aftStep, hb, if_true]
            exact aftB_none h1
          clear ho1 hb1 hblk hd1 hd2
          by_cases c1 : f < at_
          · have HN := hid (HBAD.out (by simp [badU]; omega))
            go_wp2
            go_ret2
            exact AftPost.none_ HN.out rfl HB1.out
          · by_cases c2 : mm < 1
            · have HN := hid (HBAD.out (by simp [badU]; omega))
              go_wp2
              go_ret2
              exact AftPost.none_ HN.out rfl HB1.out
            · by_cases c3 : (D.length : Int) < f
              · have HN := hid (HBAD.out (by simp [badU]; omega))
                go_wp2
                go_ret2
                exact AftPost.none_ HN.out rfl HB1.out
              · by_cases c4 : (D.length : Int) < mm
                · have HN := hid (HBAD.out (by simp [badU]; omega))
                  go_wp2
                  go_ret2
                  exact AftPost.none_ HN.out rfl HB1.out
                · obtain ⟨F, rfl⟩ : ∃ F : Nat, f = F := ⟨f.toNat, by omega⟩
                  obtain ⟨M, rfl⟩ : ∃ M : Nat, mm = M := ⟨mm.toNat, by omega⟩
                  by_cases c5 : (D.length : Int) < (F : Int) + (M : Int)
                  · have HN := hid (HBAD.out (by simp [badU]; omega))
                    go_wp2
                    go_ret2
                    exact AftPost.none_ HN.out rfl HB1.out
                  · have hb : badU D.length at_ ((F : Int), (M : Int)) = false := by simp [badU]; omega
                    have hnext : aftTo D (U.take (k2 + 1)) = some (out ++ (D.take F).drop at_ ++ [sumW ((D.take (F + M)).drop F)], F + M) := by
                      rw [HU1.out, aft_snoc, HA.out]
                      simp only [aftStep, hb, Bool.false_eq_true, if_false, Int.toNat_natCast]
                    have HNX := hid hnext
                    have hstart := hid (show Ints W1 W.heap.size u7 (out ++ (D.take at_).drop at_) by
                      rw [List.drop_of_length_le (by simp; omega), List.append_nil]; exact HO1.out)
                    have hoG := hid (show ∀ g', u7.ownBlock = some g' → G ≠ g' from fun g' e => by
                      obtain ⟨_, cur, hcur⟩ := HO1.out.block e
                      exact HK.out.ne_ hcur (by decide))
                    clear hb hnext
                    go_wp2_with fail
                    go_loopg [7, 8] (F - at_) (fun g2 s p wr2 => ∃ j : Nat, p = .int .i64 j ∧ g2 + j = F ∧ at_ ≤ j ∧ Ints wr2 W.heap.size s (out ++ (D.take j).drop at_) ∧ Below W.heap.size W wr2 ∧ Blk wr2 G 47 #[.int .i64 F, .int .i64 M])
                    case atStart => exact ⟨at_, rfl, by omega, Nat.le_refl _, hstart.out, HB1.out, HK.out⟩
                    case round =>
                      obtain ⟨j, rfl, hj, haj, hown2, hbel2, hblk2⟩ := hrel
                      have hjle : j ≤ F := by omega
                      have HG3 := hid hj
                      have HO2 := hid hown2
                      have HB2 := hid hbel2
                      have HK2 := hid hblk2
                      have f1 := hblk2.cell 0
                      have f2 := hblk2.cell 1
                      simp only [List.getElem?_toArray, List.getElem?_cons_zero, List.getElem?_cons_succ] at f1 f2
                      clear e1 e2 hj hown2 hbel2 hblk2
                      by_cases hjl : j < F
                      · have hjD : j < D.length := by omega
                        obtain ⟨g3, off3, rfl, hg3, hc3⟩ := H.out.at_ (List.getElem?_eq_getElem hjD)
                        obtain ⟨x, hx⟩ : ∃ x, x = D[j] := ⟨_, rfl⟩
                        rw [← hx] at hc3
                        have hd3 := (HB2.out.cell (p := ⟨g3, off3 + j, none⟩) hg3).trans hc3
                        have hcut : (D.take (j + 1)).drop at_ = (D.take j).drop at_ ++ [x] := by
                          have := cutL_append (D := D) (a := at_) (b := j) (c := j + 1) haj (by omega) (by omega)
                          rw [cutL_one hjD, ← hx] at this
                          exact this.symm
                        have HCUT := hid hcut
                        have hlen3 := hid (show (out ++ (D.take j).drop at_).length < 1000000 by simp; omega)
                        clear hx hc3 hcut
                        go_wp2_with (at_builtin; go_must (refine wpList_push rfl (.tmp 77) (.tmp 82) rfl W.heap.size u7 (out ++ (D.take j).drop at_) x rfl HO2.out rfl hlen3.out HB2.out.size ?_); intro v3 w3 hown3 honly3)
                        have hg3' := HG3.out
                        have hk3 := honly3.blk HK2.out (fun e => by
                          have hk0 := HK2.out
                          obtain ⟨_, cur, hcur⟩ := HO2.out.block e
                          exact hk0.ne_ hcur (by decide) rfl)
                        go_roundg (gk - 1)
                        case measure => omega
                        case rel => exact ⟨j + 1, by go_num, by omega, by omega, by rw [HCUT.out, ← List.append_assoc]; exact hown3, HB2.out.trans (honly3.below HB2.out.size (fun x hx e => by have := (HO2.out.block e).1; omega)), hk3⟩
                      · have hjF : j = F := by omega
                        subst hjF
                        obtain ⟨s2, hs2', hr2⟩ := run_sub (H.out.below HB2.out) j (j + M) (by omega) (by omega)
                        have hs2 : ∀ W, (Instr.slice 22 (.slice a D.length cap) (some (.int .i64 (j : Int))) (some (.int .i64 ((j : Int) + (M : Int)))) none).run Try.prog W = .ok s2 W := fun W => by have := hs2' W; rwa [Int.natCast_add] at this
                        have R2 := hid hr2
                        have hlen3 := hid (show (out ++ (D.take j).drop at_).length < 1000000 by simp; omega)
                        clear hs2' hr2
                        go_wp2_with (first
                          | (go_at_call 20; ((with_reducible refine (refSum_any R2.out).mono ?_)); rintro e w3 ⟨rfl, rfl⟩)
                          | (at_builtin; go_must (refine wpList_push rfl (.tmp 91) (.tmp 98) rfl W.heap.size u7 (out ++ (D.take j).drop at_) (sumW ((D.take (j + M)).drop j)) rfl HO2.out rfl hlen3.out HB2.out.size ?_); intro v3 w3 hown3 honly3))
                        have hg := HG2.out
                        go_roundg (gk2 - 1)
                        case measure => omega
                        case rel => exact ⟨k2 + 1, j + M, _, by go_num, by omega, HNX.out, by simp, hown3, HB2.out.trans (honly3.below HB2.out.size (fun x hx e => by have := (HO2.out.block e).1; omega))⟩
        · have hA := HA.out
          have hk' : k2 = U.length := by omega
          rw [hk', List.take_length] at hA
          have HA2 := hid hA
          have HV := hid (H.out.below HB.out)
          obtain ⟨s1, hs1, hr1⟩ := run_from HV.out at_ (by omega)
          have R1 := hid hr1
          have hlen := hid (show out.length + (D.drop at_).length < 1000000 by simp; omega)
          have hn : aftB D U = some (out ++ D.drop at_) := by unfold aftB; rw [HA2.out]; simp only [HND.out, Bool.false_eq_true, if_false]
          have HN := hid hn
          clear hA hr1 hn
          go_wp2_with (at_builtin; go_must (refine wpList_pushAll rfl (.tmp 100) (.tmp 103) rfl W.heap.size W.heap.size _ s1 out (D.drop at_) rfl HO.out rfl R1.out hlen.out HB.out.size ?_); intro v2 w2 hown2 honly2)
          go_ret2
          exact AftPost.some_ HN.out rfl hown2 (HB.out.trans (honly2.below HB.out.size (fun x hx e => by have := (HO.out.block e).1; omega)))
end Go.Proofs.Ytgnhfipmeljffaa
