/-
  What the document's Up answers: by a contract.
-/
import Derived.Test.YtfoidiebdklggaaRq
open Go Go.RowKit
namespace Go.Proofs.Ytfoidiebdklggaa

theorem lowAt_drop (K : List Kid) (a i : Nat) : lowAt (K.drop a) i = lowAt K (a + i) := by
  unfold lowAt
  rw [List.getElem?_drop]
theorem upL_at (P : List Int) : ∀ (gs : List Nat) (i : Nat) (K : List Kid) (j : Nat), j < gs.length → (upL P i gs K)[j]? = some (lowAt K (gs.take j).sum, P[i + j]?.getD 0) := by
  intro gs
  induction gs with
  | nil => intro i K j h; simp at h
  | cons g r ih =>
    intro i K j h
    cases j with
    | zero => simp [upL]
    | succ j =>
      rw [upL, List.getElem?_cons_succ, ih (i + 1) (K.drop g) j (by simpa using h), lowAt_drop]
      simp [List.take_succ_cons, Nat.add_assoc, Nat.add_comm 1 j]
theorem lvL_at (P : List Int) : ∀ (gs : List Nat) (i : Nat) (K : List Kid) (j : Nat) (g : Nat), gs[j]? = some g → (lvL P i gs K)[j]? = some (pgOf P (i + j) ((K.drop (gs.take j).sum).take g) (K.drop ((gs.take j).sum + g))) := by
  intro gs
  induction gs with
  | nil => intro i K j g h; simp at h
  | cons g r ih =>
    intro i K j x h
    cases j with
    | zero =>
      simp at h
      subst h
      simp [lvL]
    | succ j =>
      rw [List.getElem?_cons_succ] at h
      rw [lvL, List.getElem?_cons_succ, ih (i + 1) (K.drop g) j x h]
      simp [List.take_succ_cons, Nat.add_assoc, Nat.add_comm 1 j]
theorem sum_next {gs : List Nat} {j g : Nat} (h : gs[j]? = some g) : (gs.take (j + 1)).sum = (gs.take j).sum + g := by
  rw [take_snocK h]
  simp
theorem sum_take_le (gs : List Nat) (j : Nat) : (gs.take j).sum ≤ gs.sum := by
  have h := congrArg List.sum (List.take_append_drop j gs)
  rw [List.sum_append] at h
  omega
theorem at_before {gs : List Nat} {j g : Nat} (h : gs[j]? = some g) (hp : ∀ x ∈ gs, 1 ≤ x) : (gs.take j).sum + g ≤ gs.sum ∧ 1 ≤ g := by
  have h1 := sum_next h
  have h2 := sum_take_le gs (j + 1)
  exact ⟨by omega, hp g (List.mem_of_getElem? h)⟩

def RUpPost (W : World) (K : List Kid) (m : Int) (P : List Int) (e : Ending) (w : World) : Prop :=
  Below W.heap.size W w ∧ if canB K m P = true then ∃ v, e = .returned (.tuple #[v, .int .i64 0]) ∧ OwV 67 2 w W.heap.size v ((upL P 0 (groupsN K.length m.toNat) K).map kcells) else e = .returned (.tuple #[.slice none 0 0, .int .i64 1])
theorem RUpPost.yes {W w : World} {K : List Kid} {m : Int} {P : List Int} {e : Ending} (h : RUpPost W K m P e w) (hc : canB K m P = true) : ∃ v, e = .returned (.tuple #[v, .int .i64 0]) ∧ OwV 67 2 w W.heap.size v ((upL P 0 (groupsN K.length m.toNat) K).map kcells) ∧ Below W.heap.size W w := by
  unfold RUpPost at h
  rw [if_pos hc] at h
  obtain ⟨h1, v, h2, h3⟩ := h
  exact ⟨v, h2, h3, h1⟩
theorem RUpPost.no {W w : World} {K : List Kid} {m : Int} {P : List Int} {e : Ending} (h : RUpPost W K m P e w) (hc : canB K m P = false) : e = .returned (.tuple #[.slice none 0 0, .int .i64 1]) ∧ Below W.heap.size W w := by
  unfold RUpPost at h
  rw [if_neg (by rw [hc]; simp)] at h
  exact ⟨h.2, h.1⟩

set_option maxHeartbeats 6400000 in
set_option maxRecDepth 100000 in
theorem rup_any {W : World} {v pv : Value} {K : List Kid} {P : List Int} (h : RdK W W.heap.size v K) (hf : ∀ k ∈ K, k.1.size ≤ 1000) (hp : RdI W W.heap.size pv P) (m : Int) :
    Calls Try.prog 14 #[v, .int .i64 m, pv] W (RUpPost W K m P) := by
  obtain ⟨ad, cap, rfl, hl, hm⟩ := h.shape
  obtain ⟨ad', cap', rfl, hl', hm'⟩ := hp.shape
  have HK := hid h
  have HP := hid hp
  have HF := hid hf
  unfold maxLen at hm hm'
  have HQ := hid (show ∀ e w, RUpPost W K m P e w = (Below W.heap.size W w ∧ if canB K m P = true then ∃ v, e = .returned (.tuple #[v, .int .i64 0]) ∧ OwV 67 2 w W.heap.size v ((upL P 0 (groupsN K.length m.toNat) K).map kcells) else e = .returned (.tuple #[.slice none 0 0, .int .i64 1])) from fun e w => rfl)
  clear h hp hf
  go_enter Try.func14, Try.ntmps14
  go_wp2_with fail
  refine (bad_any HK.out HF.out HP.out m).mono ?_
  rintro e w1 ⟨rfl, hb1⟩
  have HB1 := hid hb1
  cases hc : canB K m P with
  | false =>
    have HC := hid hc
    clear hb1 hc
    go_wp2_with fail
    go_ret2
    rw [HQ.out, HC.out]
    exact ⟨HB1.out, rfl⟩
  | true =>
    obtain ⟨k1, k2, k3, k4, k5, k6, _⟩ := can_parts hc
    obtain ⟨b, rfl⟩ : ∃ b : Nat, m = b := ⟨m.toNat, by omega⟩
    have HC := hid hc
    rw [Int.toNat_natCast] at k6 HQ
    have HK6 := hid k6
    have HK1 := hid k1
    have HK2 := hid k2
    have HK3 := hid (show 2 ≤ b ∧ b ≤ 13 by omega)
    clear hb1 hc k6
    go_wp2_with fail
    refine (rgroups_any (K.length : Int) (b : Int)).mono ?_
    rintro e w2 hgp
    obtain ⟨gv, rfl, hgv, hb2⟩ := hgp.get ⟨HK1.out, HK2.out⟩ HK3.out
    rw [groups_cast] at hgv
    have hsum := hid (groupsN_sum (n := K.length) (m := b) HK1.out (by have := HK3.out; omega))
    have hpos := hid (groupsN_pos (n := K.length) (m := b) HK1.out (by have := HK3.out; omega))
    have HGL := hid (show (groupsN K.length b).length = P.length by rw [groupsN_len]; exact HK6.out.symm)
    generalize groupsN K.length b = gs at *
    have HB2 := hid (HB1.out.trans (hb2.mono HB1.out.size))
    have HGV := hid (RdI.of_own hgv)
    have hS := HB2.out.size
    have HK4 := hid ((HK.out.below HB2.out).more hS)
    have HP4 := hid ((HP.out.below HB2.out).more hS)
    obtain ⟨ga, gc, rfl⟩ := hgv.shape
    rw [List.length_map] at HGV ⊢
    have hglen : gs.length ≤ 2000 := by
      have h1 : ∀ l : List Nat, (∀ g ∈ l, 1 ≤ g) → l.length ≤ l.sum := by
        intro l
        induction l with
        | nil => intro _; simp
        | cons a r ih =>
          intro h
          have h1 := h a (by simp)
          have h2 := ih (fun g hg => h g (by simp [hg]))
          simp
          omega
      have := h1 gs hpos.out
      rw [hsum.out] at this
      omega
    have HO0 := hid (OwV.empty (t := 67) (s := 2) (w := w2) (Nat.le_refl w2.heap.size))
    have HB0 := hid ((Below.refl w2.heap.size w2).alloc (Nat.le_refl _) (.cells #[] 67))
    clear hgp hgv hb2 k1 k2 k3 k4 k5
    go_wp2
    go_loopg [10, 11, 12] gs.length (fun g s t i wr => ∃ k : Nat, i = .int .i64 k ∧ g + k = gs.length ∧ t = .int .i64 ((gs.take k).sum : Int) ∧ OwV 67 2 wr w2.heap.size s (((upL P 0 gs K).take k).map kcells) ∧ Below w2.heap.size w2 wr)
    case atStart => exact ⟨0, rfl, rfl, rfl, HO0.out, HB0.out⟩
    case round =>
      obtain ⟨k, rfl, hgk, rfl, ho, hb⟩ := hrel
      have HG := hid hgk
      have HO := hid ho
      have HB := hid hb
      have hk : k ≤ gs.length := by omega
      clear hgk
      by_cases hlt : k < gs.length
      · obtain ⟨g, hgg⟩ : ∃ g, gs[k]? = some g := ⟨_, List.getElem?_eq_getElem hlt⟩
        obtain ⟨hat, hg1⟩ := at_before hgg hpos.out
        rw [hsum.out] at hat
        have HNX := hid (sum_next hgg)
        have hsl := sum_take_le gs k
        rw [hsum.out] at hsl
        have hx := upL_at P gs 0 K k hlt
        rw [Nat.zero_add] at hx
        obtain ⟨gb, goff, rfl, hgb, hcg⟩ := HGV.out.at_ (i := k) (d := (g : Int)) (by rw [List.getElem?_map, hgg]; rfl)
        have hdg := (hb.cell (p := ⟨gb, goff + k, none⟩) hgb).trans hcg
        have hkP : k < P.length := by rw [← HGL.out]; exact hlt
        obtain ⟨pb, poff, rfl, hpb, hcp⟩ := HP4.out.at_ (List.getElem?_eq_getElem hkP)
        have hdp := (hb.cell (p := ⟨pb, poff + k, none⟩) hpb).trans hcp
        rw [List.getElem?_eq_getElem hkP] at hx
        obtain ⟨at0, hat0⟩ : ∃ a, (gs.take k).sum = a := ⟨_, rfl⟩
        rw [hat0] at hat hsl hx HNX ⊢
        obtain ⟨kb, koff, rfl, hkb, hck, _⟩ := HK4.out.at_ (kid_at (K := K) (i := at0) (by omega))
        have hdk := (hb.cell (p := ⟨kb, koff + at0 * 2, none⟩) hkb).trans hck
        have HU := hid (take_snocK hx)
        obtain ⟨lo, hlo⟩ : ∃ lo, lowAt K at0 = lo := ⟨_, rfl⟩
        obtain ⟨pg, hpg⟩ : ∃ pg, P[k] = pg := ⟨_, rfl⟩
        rw [hlo] at hdk HU
        rw [hpg] at hdp
        rw [Option.getD_some, hpg] at HU
        have hki : (k : Int) < (gs.length : Int) := by omega
        have hkPi : (k : Int) < (P.length : Int) := by omega
        have hati : (at0 : Int) < (K.length : Int) := by omega
        have hat1 : (at0 : Int) + (g : Int) ≤ (K.length : Int) := by omega
        have hlen0 : (((upL P 0 gs K).take k).map kcells).length < 1000000 := by simp; omega
        have HZ := hid (show ((upL P 0 gs K).take (k + 1)).map kcells = ((upL P 0 gs K).take k).map kcells ++ [[.string lo, .int .i64 pg]] by rw [HU.out, List.map_append]; rfl)
        generalize ((upL P 0 gs K).take k).map kcells = Z at *
        have hlen := hid hlen0
        have hown0 := hid (show OwV 67 2 ((wr.drewN 1).alloc (.cells #[.string lo, .int .i64 pg] 67)) w2.heap.size u10 _ from OwV.alloc (w := wr.drewN 1) HO.out _)
        have hcell := hid (show ∀ j u, (#[Value.string lo, .int .i64 pg] : Array Value).toList[j]? = some u → ((wr.drewN 1).alloc (.cells #[.string lo, .int .i64 pg] 67)).cell? ⟨wr.heap.size, j, none⟩ = some u from fun j u hu => by
          have := (Blk.new (wr.drewN 1) 67 #[.string lo, .int .i64 pg]).cell j
          rw [show wr.heap.size = (wr.drewN 1).heap.size from rfl, this]
          simpa using hu)
        have hhone := hid (show ∀ u ∈ (#[Value.string lo, .int .i64 pg] : Array Value).toList, u.oneCell' = true by simp [Value.oneCell'])
        have hGW := hb.size
        have HCG := hid hcg
        have HGB := hid hgb
        clear hlen0 hb ho hx hlo hpg hcp hcg hgb hck hlt hgg hat hat0 hsl
        go_wp2
        go_region_law
          (first | (refine step_pushV 32 67 2 24 (.agg #[.string ⟨#[]⟩, .int .i64 0]) rkid_info rfl (by decide) (by decide) (by kernel_rfl) (by rfl) (.tmp 31) (.tmp 42) (by rfl) w2.heap.size wr.heap.size u10 _ #[.string lo, .int .i64 pg] (by rfl) hown0.out (by rfl) hcell.out hlen.out (by simp; omega) rfl hhone.out ?_; intro g' cap' w5 hown1 honly; have HO1 := hid hown1; have HN1 := hid honly; clear hown1 honly) | fail)
        all_goals
          have hB5 : Below w2.heap.size w2 w5 := by
            have hon : Only (fun q => u10.ownBlock = some q) wr w5 := (((Only.refl _ wr).drewN 1).alloc _).trans HN1.out
            exact HB.out.trans (hon.below hGW (fun q hq hs => by have := (HO.out.block hs).1; omega))
          have hdg5 := (hB5.cell (p := ⟨gb, goff + k, none⟩) HGB.out).trans HCG.out
          have hR := hid (show OwV 67 2 w5 w2.heap.size (.slice (some ⟨g', 0, none⟩) (Z.length + 1) cap') (((upL P 0 gs K).take (k + 1)).map kcells) by
            rw [HZ.out]
            exact HO1.out)
          have hBB := hid hB5
          clear HO1 hB5
          go_wp2
          have hg2 := HG.out
          go_roundg (gk - 1)
          case measure => omega
          case rel => exact ⟨k + 1, by go_num, by omega, by rw [HNX.out]; go_num, hR.out, hBB.out⟩
      · have hki : ¬ (k : Int) < (gs.length : Int) := by omega
        have hE := hid (show (upL P 0 gs K).take k = upL P 0 gs K from List.take_of_length_le (by rw [upL_len]; omega))
        clear hlt
        rw [hE.out] at HO
        have hsl := sum_take_le gs k
        obtain ⟨oa, on, oc, rfl⟩ := owV_slice HO.out
        clear ho
        go_wp2
        go_ret2
        rw [HQ.out, HC.out, if_pos (by rfl)]
        exact ⟨HB2.out.trans (HB.out.mono hS), _, rfl, HO.out.base hS⟩
end Go.Proofs.Ytfoidiebdklggaa
