/-
  What the document's Level answers: by a contract. (Printed by mkrl2.py out of XRu and XRl.txt.)
-/
import Derived.Test.YtfoidiebdklggaaRp
open Go Go.RowKit
namespace Go.Proofs.Ytfoidiebdklggaa

theorem rown_base {w : World} {B B' : Nat} {v : Value} {I : List Pg} (h : ROwN w B v I) (hB : B' ≤ B) : ROwN w B' v I := by
  obtain ⟨X, h1, h2, h3⟩ := h
  refine ⟨X, h1.base hB, h2, fun i g hg => ?_⟩
  obtain ⟨vs, vk, a1, a2, a3⟩ := h3 i g hg
  exact ⟨vs, vk, a1, a2.base hB, a3.base_ hB⟩
theorem grp_at {K : List Kid} {a g n : Nat} (h : n < g) (hk : a + n < K.length) : ((K.drop a).take g)[n]? = some (lowAt K (a + n), pageAt K (a + n)) := by
  rw [List.getElem?_take, if_pos h, List.getElem?_drop, kid_at hk]

def RLePost (W : World) (K : List Kid) (m : Int) (P : List Int) (e : Ending) (w : World) : Prop :=
  Below W.heap.size W w ∧ if canB K m P = true then ∃ v, e = .returned (.tuple #[v, .int .i64 0]) ∧ ROwN w W.heap.size v (lvL P 0 (groupsN K.length m.toNat) K) else e = .returned (.tuple #[.slice none 0 0, .int .i64 1])
theorem RLePost.yes {W w : World} {K : List Kid} {m : Int} {P : List Int} {e : Ending} (h : RLePost W K m P e w) (hc : canB K m P = true) : ∃ v, e = .returned (.tuple #[v, .int .i64 0]) ∧ ROwN w W.heap.size v (lvL P 0 (groupsN K.length m.toNat) K) ∧ Below W.heap.size W w := by
  unfold RLePost at h
  rw [if_pos hc] at h
  obtain ⟨h1, v, h2, h3⟩ := h
  exact ⟨v, h2, h3, h1⟩
theorem RLePost.no {W w : World} {K : List Kid} {m : Int} {P : List Int} {e : Ending} (h : RLePost W K m P e w) (hc : canB K m P = false) : e = .returned (.tuple #[.slice none 0 0, .int .i64 1]) ∧ Below W.heap.size W w := by
  unfold RLePost at h
  rw [if_neg (by rw [hc]; simp)] at h
  exact ⟨h.2, h.1⟩

set_option maxHeartbeats 6400000 in
set_option maxRecDepth 100000 in
theorem rlevel_any {W : World} {v pv : Value} {K : List Kid} {P : List Int} (h : RdK W W.heap.size v K) (hf : ∀ k ∈ K, k.1.size ≤ 1000) (hp : RdI W W.heap.size pv P) (m : Int) :
    Calls Try.prog 11 #[v, .int .i64 m, pv] W (RLePost W K m P) := by
  obtain ⟨ad, cap, rfl, hl, hm⟩ := h.shape
  obtain ⟨ad', cap', rfl, hl', hm'⟩ := hp.shape
  have HK := hid h
  have HP := hid hp
  have HF := hid hf
  unfold maxLen at hm hm'
  have HQ := hid (show ∀ e w, RLePost W K m P e w = (Below W.heap.size W w ∧ if canB K m P = true then ∃ v, e = .returned (.tuple #[v, .int .i64 0]) ∧ ROwN w W.heap.size v (lvL P 0 (groupsN K.length m.toNat) K) else e = .returned (.tuple #[.slice none 0 0, .int .i64 1])) from fun e w => rfl)
  clear h hp hf
  go_enter Try.func11, Try.ntmps11
  go_wp2_with fail
  refine (bad_any HK.out HF.out HP.out m).mono ?_
  rintro e w1 ⟨rfl, hb1⟩
  have HB1 := hid hb1
  cases hc : canB K m P with
  | false =>
    have HC := hid hc
    clear hb1 hc
    go_wp2_with fail
    go_ret2
    rw [HQ.out, HC.out]
    exact ⟨HB1.out, rfl⟩
  | true =>
    obtain ⟨k1, k2, k3, k4, k5, k6, k7⟩ := can_parts hc
    have HK7 := hid k7
    obtain ⟨b, rfl⟩ : ∃ b : Nat, m = b := ⟨m.toNat, by omega⟩
    have HC := hid hc
    rw [Int.toNat_natCast] at k6 HQ
    have HK6 := hid k6
    have HK1 := hid k1
    have HK2 := hid k2
    have HK3 := hid (show 2 ≤ b ∧ b ≤ 13 by omega)
    clear hb1 hc k6 k7
    go_wp2_with fail
    refine (rgroups_any (K.length : Int) (b : Int)).mono ?_
    rintro e w2 hgp
    obtain ⟨gv, rfl, hgv, hb2⟩ := hgp.get ⟨HK1.out, HK2.out⟩ HK3.out
    rw [groups_cast] at hgv
    have hsum := hid (groupsN_sum (n := K.length) (m := b) HK1.out (by have := HK3.out; omega))
    have hpos := hid (groupsN_pos (n := K.length) (m := b) HK1.out (by have := HK3.out; omega))
    have HGL := hid (show (groupsN K.length b).length = P.length by rw [groupsN_len]; exact HK6.out.symm)
    generalize groupsN K.length b = gs at *
    have HB2 := hid (HB1.out.trans (hb2.mono HB1.out.size))
    have HGV := hid (RdI.of_own hgv)
    have hS := HB2.out.size
    have HK4 := hid ((HK.out.below HB2.out).more hS)
    have HP4 := hid ((HP.out.below HB2.out).more hS)
    obtain ⟨ga, gc, rfl⟩ := hgv.shape
    rw [List.length_map] at HGV ⊢
    have hglen : gs.length ≤ 2000 := by
      have h1 : ∀ l : List Nat, (∀ g ∈ l, 1 ≤ g) → l.length ≤ l.sum := by
        intro l
        induction l with
        | nil => intro _; simp
        | cons a r ih =>
          intro h
          have h1 := h a (by simp)
          have h2 := ih (fun g hg => h g (by simp [hg]))
          simp
          omega
      have := h1 gs hpos.out
      rw [hsum.out] at this
      omega
    have HO0 := hid (show ROwN (w2.alloc (.cells #[] 44)) w2.heap.size (.slice (some ⟨w2.heap.size, 0, none⟩) 0 0) [] from ⟨[], OwV.empty (t := 44) (s := 4) (w := w2) (Nat.le_refl w2.heap.size), rfl, fun i g h => by simp at h⟩)
    have HB0 := hid ((Below.refl w2.heap.size w2).alloc (Nat.le_refl _) (.cells #[] 44))
    clear hgp hgv hb2 k1 k2 k3 k4 k5
    go_wp2
    go_loopg [10, 11, 12] gs.length (fun g s t i wr => ∃ k : Nat, i = .int .i64 k ∧ g + k = gs.length ∧ t = .int .i64 ((gs.take k).sum : Int) ∧ ROwN wr w2.heap.size s ((lvL P 0 gs K).take k) ∧ Below w2.heap.size w2 wr)
    case atStart => exact ⟨0, rfl, rfl, rfl, HO0.out, HB0.out⟩
    case round =>
      obtain ⟨k, rfl, hgk, rfl, ho, hb⟩ := hrel
      obtain ⟨go, hgo⟩ : ∃ go, gk = go := ⟨_, rfl⟩
      rw [hgo] at hgk
      have HG := hid hgk
      have HGO := hid hgo
      have HO := hid ho
      have HB := hid hb
      have hk : k ≤ gs.length := by omega
      clear hgk hgo
      by_cases hlt : k < gs.length
      · obtain ⟨g, hgg⟩ : ∃ g, gs[k]? = some g := ⟨_, List.getElem?_eq_getElem hlt⟩
        obtain ⟨hat, hg1⟩ := at_before hgg hpos.out
        rw [hsum.out] at hat
        have HNX := hid (sum_next hgg)
        have hx := lvL_at P gs 0 K k g hgg
        rw [Nat.zero_add] at hx
        obtain ⟨gb, goff, rfl, hgb, hcg⟩ := HGV.out.at_ (i := k) (d := (g : Int)) (by rw [List.getElem?_map, hgg]; rfl)
        have hdg := (hb.cell (p := ⟨gb, goff + k, none⟩) hgb).trans hcg
        obtain ⟨at0, hat0⟩ : ∃ a, (gs.take k).sum = a := ⟨_, rfl⟩
        rw [hat0] at hat hx HNX ⊢
        have HX := hid (take_snocK hx)
        have hki : (k : Int) < (gs.length : Int) := by omega
        have HK5 := hid ((HK4.out.below hb).more hb.size)
        have HLV := hid (show RLv wr.heap.size wr (.slice none 0 0) (.slice none 0 0) [] [] ⟨#[]⟩ 0 (wr.alloc (.cells #[.slice none 0 0, .slice none 0 0, .string ⟨#[]⟩, .int .i64 0] 44)) from
          ⟨Blk.new wr _ _, OwV.nil _ _, Ints.nil _ _, (Below.refl _ wr).alloc (Nat.le_refl _) _⟩)
        have HCG := hid hcg
        have HGB := hid hgb
        have hGW := hb.size
        clear hb ho hx hcg hlt hgg hat0
        obtain ⟨G, hGdef⟩ : ∃ G, (K.drop at0).take g = G := ⟨_, rfl⟩
        have hGl : G.length = g := by rw [← hGdef]; simp; omega
        rw [hGdef] at HX
        have HGD := hid hGdef
        have HGL2 := hid hGl
        have hat1 : (at0 : Int) + (g : Int) ≤ 1024 := by have := HK2.out; omega
        have hg1i : (1 : Int) ≤ (g : Int) := by omega
        clear hGdef hGl
        go_wp2
        obtain ⟨wo, hwo⟩ : ∃ wo, wo = wr := ⟨_, rfl⟩
        subst hwo
        go_loopg [14] g (fun g' x' wq => ∃ (x : Nat) (vs vk : Value), x' = .int .i64 x ∧ at0 ≤ x ∧ g' + x = at0 + g ∧ RLv wo.heap.size wo vs vk (((G.take (x - at0)).drop 1).map (·.1)) ((G.take (x - at0)).map (·.2)) ⟨#[]⟩ 0 wq)
        case atStart => exact ⟨at0, _, _, rfl, Nat.le_refl _, by omega, by simpa using HLV.out⟩
        case round =>
          obtain ⟨x, vs, vk, rfl, hx0, hgx, hlv⟩ := hrel
          have HGX := hid hgx
          have HL := hid hlv
          have hxl : x ≤ at0 + g := by omega
          have hdg2 := (hlv.below.cell (p := ⟨gb, goff + k, none⟩) (Nat.lt_of_lt_of_le HGB.out hGW)).trans hdg
          clear hgx hlv
          by_cases hxx : x < at0 + g
          · have hxi : (x : Int) < (at0 : Int) + (g : Int) := by omega
            have hxK : x < K.length := by omega
            have hxKi : (x : Int) < (K.length : Int) := by omega
            obtain ⟨kb, koff, rfl, hkb, hc0, hc1⟩ := HK5.out.at_ (kid_at hxK)
            have hd0 := (HL.out.below.cell (p := ⟨kb, koff + x * 2, none⟩) hkb).trans hc0
            have hd1 := (HL.out.below.cell (p := ⟨kb, koff + x * 2 + 1, none⟩) hkb).trans hc1
            have hgat : G[x - at0]? = some (lowAt K x, pageAt K x) := by
              rw [← HGD.out, grp_at (by omega) (by omega), show at0 + (x - at0) = x by omega]
            have HT := hid (take_snocK hgat)
            obtain ⟨lo, hlo⟩ : ∃ lo, lowAt K x = lo := ⟨_, rfl⟩
            obtain ⟨pg, hpg⟩ : ∃ pg, pageAt K x = pg := ⟨_, rfl⟩
            rw [hlo, hpg] at HT
            rw [hlo] at hd0 hc0
            rw [hpg] at hd1
            have hlen1 := hid (show ((G.take (x - at0)).map (·.2)).length < 1000000 by simp; have := HGL2.out; omega)
            obtain ⟨n, hn⟩ : ∃ n, x - at0 = n := ⟨_, rfl⟩
            rw [hn] at HL HT hlen1
            have HN := hid hn
            have HTK := hid (show (G.take (n + 1)).map (·.2) = (G.take n).map (·.2) ++ [pg] by rw [HT.out, List.map_append]; rfl)
            have HTS0 := hid (show n = 0 → ((G.take (n + 1)).drop 1).map (·.1) = ((G.take n).drop 1).map (·.1) from fun e => by subst e; rw [HT.out]; simp)
            have HTS1 := hid (show n ≠ 0 → ((G.take (n + 1)).drop 1).map (·.1) = ((G.take n).drop 1).map (·.1) ++ [lo] from fun e => by
              rw [HT.out, List.drop_append_of_le_length (by simp; have := HGL2.out; omega), List.map_append]
              rfl)
            have hlen2 := hid (show ((((G.take n).drop 1).map (·.1)).map scell).length < 1000000 by simp; have := HGL2.out; omega)
            generalize (G.take n).map (·.2) = Lk at *
            generalize ((G.take n).drop 1).map (·.1) = Ls at *
            clear HT
            obtain ⟨e0, e1, _, _, ez⟩ := HL.out.cells
            have ez1 := ez 1
            have HX0 := hid hx0
            have HKB := hid hkb
            have hwl := HL.out.blk.lt
            have HLA := hid (show RLv wo.heap.size wo vs vk Ls Lk ⟨#[]⟩ 0 ((wr.drewN 1).alloc (.cells #[.int .i64 pg] 3)) from HL.out.drew.alloc _)
            have hcell := hid (show ((wr.drewN 1).alloc (.cells #[.int .i64 pg] 3)).cell? ⟨wr.heap.size, 0, none⟩ = some (.int .i64 pg) from (Blk.new (wr.drewN 1) 3 #[.int .i64 pg]).cell 0)
            have HC0 := hid hc0
            clear hc0 hc1 hlo hpg hxx hgat ez hn hx0 hkb
            go_wp2
            go_region_law
              (first | (refine step_push (by rfl) (.tmp 46) (.tmp 52) (by rfl) wo.heap.size wr.heap.size vk _ pg (by rfl) HLA.out.ok (by rfl) hcell.out hlen1.out (by simp; omega) ?_; intro g' cap' w5 hown honly; have HL3 := hid (HLA.out.pushK hown honly); have HB3 := hid (honly.blk HLA.out.blk (fun e => by obtain ⟨_, cur, hc⟩ := HLA.out.ok.block e; exact hc.ne_ HLA.out.blk (by decide) rfl)); have z3 := Blk.frozen HB3.out 1; have c3 := Blk.cell HB3.out 1; clear hown honly) | fail)
            all_goals
              generalize w5.setCell ⟨wo.heap.size, 1, none⟩ (.slice (some ⟨g', 0, none⟩) (Lk.length + 1) cap') = w6 at *
              clear e0 e1 ez1 hd0 hd1 z3 c3 HB3 HLA hcell hwl hlen1 HL hdg2
              have hd0 := (HL3.out.below.cell (p := ⟨kb, koff + x * 2, none⟩) HKB.out).trans HC0.out
              obtain ⟨e0, e1, _, _, ez⟩ := HL3.out.cells
              have ez0 := ez 0
              have hwl := HL3.out.blk.lt
              clear ez
              by_cases hn0 : n = 0
              · have HS := hid (HTS0.out hn0)
                have hxa : x = at0 := by have := HN.out; have := HX0.out; omega
                have hxd : decide (at0 < x) = false := by simp; omega
                have hxd' : decide ((at0 : Int) < (x : Int)) = false := by simp; omega
                clear hn0 hxa HTS0 HTS1
                go_wp2
                have hg := HGX.out
                have hx0 := HX0.out
                go_roundg (gk - 1)
                case measure => omega
                case rel => exact ⟨x + 1, _, _, by go_num, by omega, by omega, by
                  rw [show x + 1 - at0 = n + 1 by have := HN.out; omega, HTK.out, HS.out]
                  exact HL3.out⟩
              · have HS := hid (HTS1.out hn0)
                have hxd : decide (at0 < x) = true := by simp; have := HN.out; omega
                have hxd' : decide ((at0 : Int) < (x : Int)) = true := by simp; have := HN.out; omega
                have HLA := hid (show RLv wo.heap.size wo vs (.slice (some ⟨g', 0, none⟩) (Lk.length + 1) cap') Ls (Lk ++ [pg]) ⟨#[]⟩ 0 ((w6.drewN 1).alloc (.cells #[.string lo] 9)) from HL3.out.drew.alloc _)
                have hcell := hid (show ∀ j u, (#[Value.string lo] : Array Value).toList[j]? = some u → ((w6.drewN 1).alloc (.cells #[.string lo] 9)).cell? ⟨w6.heap.size, j, none⟩ = some u from fun j u hu => by
                  have := (Blk.new (w6.drewN 1) 9 #[.string lo]).cell j
                  rw [show w6.heap.size = (w6.drewN 1).heap.size from rfl, this]
                  simpa using hu)
                have hhone := hid (show ∀ u ∈ (#[Value.string lo] : Array Value).toList, u.oneCell' = true by simp [Value.oneCell'])
                clear hn0 HTS0 HTS1
                go_wp2
                go_region_law
                  (first | (refine step_pushV 42 9 1 16 (.string ⟨#[]⟩) str_info rfl (by decide) (by decide) (by kernel_rfl) (by rfl) (.tmp 59) (.tmp 65) (by rfl) wo.heap.size w6.heap.size vs _ #[.string lo] (by rfl) HLA.out.os (by rfl) hcell.out hlen2.out (by simp; omega) rfl hhone.out ?_; intro g2 cap2 w7 hown honly; have HL5 := hid (HLA.out.pushS (x := lo) (by rw [List.map_append]; exact hown) honly); have HB5 := hid (honly.blk HLA.out.blk (fun e => by obtain ⟨_, cur, hc⟩ := HLA.out.os.block e; exact hc.ne_ HLA.out.blk (by decide) rfl)); have z5 := Blk.frozen HB5.out 0; have c5 := Blk.cell HB5.out 0; clear hown honly) | fail)
                all_goals
                  rw [List.length_map] at HL5
                  generalize w7.setCell ⟨wo.heap.size, 0, none⟩ (.slice (some ⟨g2, 0, none⟩) (Ls.length + 1) cap2) = w8 at *
                  clear e0 e1 ez0 hd0 z5 c5 HB5 HLA hcell hwl hlen2 HL3
                  go_wp2
                  have hg := HGX.out
                  have hx0 := HX0.out
                  go_roundg (gk - 1)
                  case measure => omega
                  case rel => exact ⟨x + 1, _, _, by go_num, by omega, by omega, by
                    rw [show x + 1 - at0 = n + 1 by have := HN.out; omega, HTK.out, HS.out]
                    exact HL5.out⟩
          · have hxa : x = at0 + g := by omega
            have hxi : ¬ (x : Int) < (at0 : Int) + (g : Int) := by omega
            have hlv2 : RLv wo.heap.size wo vs vk ((G.drop 1).map (·.1)) (G.map (·.2)) ⟨#[]⟩ 0 wr := by
              have := HL.out
              rw [List.take_of_length_le (by have := HGL2.out; omega)] at this
              exact this
            have HL6 := hid hlv2
            obtain ⟨at1, hat1d⟩ : ∃ a, at0 + g = a := ⟨_, rfl⟩
            have hati : IntKind.i64.wrap ((at0 : Int) + (g : Int)) = (at1 : Int) := by rw [IntKind.wrap_i64]; omega
            have HAT := hid hat1d
            clear HL hlv2 hxx
            obtain ⟨sa, sn, sc, rfl⟩ := owV_slice HL6.out.os
            obtain ⟨ka, kn, kc, rfl⟩ := ints_slice HL6.out.ok
            obtain ⟨e0, e1, e2, e3, ez⟩ := HL6.out.cells
            have hwl : Hid (wo.heap.size < wr.heap.size) := HL6.out.blk.lt
            by_cases hH : at1 < K.length
            case' pos =>
              have hHi : (at1 : Int) < (K.length : Int) := by omega
              have hHj : (at0 : Int) + (g : Int) < (K.length : Int) := by omega
              obtain ⟨kb, koff, rfl, hkb, hc0, _⟩ := HK5.out.at_ (kid_at hH)
              have hcK := (HL6.out.below.cell (p := ⟨kb, koff + at1 * 2, none⟩) hkb).trans hc0
              have hkn : k + 1 < gs.length := by
                rcases Nat.lt_or_ge (k + 1) gs.length with h | h
                · exact h
                · have h1 := HNX.out
                  rw [List.take_of_length_le h, hsum.out] at h1
                  omega
              have hip : k + 1 < P.length := by have := HGL.out; omega
              obtain ⟨pb, poff, rfl, hpb, hcp⟩ := HP4.out.at_ (List.getElem?_eq_getElem hip)
              have hcP := (HL6.out.below.cell (p := ⟨pb, poff + (k + 1), none⟩) (Nat.lt_of_lt_of_le hpb hGW)).trans ((HB.out.cell (p := ⟨pb, poff + (k + 1), none⟩) hpb).trans hcp)
              have hpbb : pageB P[k + 1] = true := by
                have h1 := HK7.out
                unfold anyOdd at h1
                rw [List.any_eq_false] at h1
                have := h1 _ (List.getElem_mem hip)
                simpa using this
              have HPG := hid (show pgOf P k G (K.drop at1) = ⟨(G.drop 1).map (·.1), G.map (·.2), lowAt K at1, P[k + 1] + 1⟩ by
                unfold pgOf nextOf
                rw [lowAt_drop, Nat.add_zero, if_neg (by simp; omega), List.getElem?_eq_getElem hip]
                rfl)
              have HSH := HL6.out.setHi (lowAt K at1) (P[k + 1] + 1)
              have ez2 := ez 2
              have ez3 := ez 3
              have hip2 : ((k : Int) + 1) < (P.length : Int) := by omega
              have hii : IntKind.i64.wrap ((k : Int) + 1) = (k : Int) + 1 := by rw [IntKind.wrap_i64]; omega
              have hnat : ((k : Int) + 1).toNat = k + 1 := by omega
              generalize P[k + 1] = y at *
              generalize lowAt K at1 = hi at *
              unfold pageB at hpbb
              simp only [Bool.and_eq_true, decide_eq_true_eq] at hpbb
              obtain ⟨y1, y2⟩ := hpbb
              have hyw : IntKind.i64.wrap (y + 1) = y + 1 := by rw [IntKind.wrap_i64]; omega
              have HL7 := hid HSH
              obtain ⟨ny, hny⟩ : ∃ ny, y + 1 = ny := ⟨_, rfl⟩
              have HNY := hid hny
              clear HSH hc0 hcp hkn hip hH ez hny
              go_upto_region 19 with fail
              clear hHi hHj hcP hcK ez2 ez3 e0 e1 e2 e3 hip2 hii hnat hyw hwl
              rw [HNY.out] at HL7 HPG ⊢
              generalize (wr.setCell ⟨wo.heap.size, 2, none⟩ (.string hi)).setCell ⟨wo.heap.size, 3, none⟩ (.int .i64 ny) = w7 at *
            case' neg =>
              have hHi : ¬ (at1 : Int) < (K.length : Int) := by omega
              have hHj : ¬ (at0 : Int) + (g : Int) < (K.length : Int) := by omega
              have HPG := hid (show pgOf P k G (K.drop at1) = ⟨(G.drop 1).map (·.1), G.map (·.2), ⟨#[]⟩, 0⟩ by
                unfold pgOf
                have hn : K.drop at1 = [] := List.drop_eq_nil_of_le (by omega)
                rw [hn]
                rfl)
              clear hH
              go_upto_region 19 with fail
              have HL7 := hid HL6.out
              obtain ⟨hi, hhi⟩ : ∃ hi : ByteArray, ⟨#[]⟩ = hi := ⟨_, rfl⟩
              obtain ⟨ny, hny⟩ : ∃ ny : Int, 0 = ny := ⟨_, rfl⟩
              clear hHi hHj e0 e1 e2 e3 ez hwl
              rw [hhi, hny] at HL7 HPG
              clear hhi hny
              obtain ⟨w7, hw7⟩ : ∃ w7, w7 = wr := ⟨_, rfl⟩
              subst hw7
            all_goals
              obtain ⟨X, hX, hXl, hXi⟩ := HO.out.below HL7.out.below
              obtain ⟨oa, on, oc, rfl⟩ := owV_slice hX
              obtain ⟨e0, e1, e2, e3, _⟩ := HL7.out.cells
              have HX7 := hid hX
              have HXL := hid hXl
              have HXI := hid hXi
              have hbase := hid (Nat.le_trans hGW HL7.out.below.size)
              have hlen := hid (show X.length < 1000000 by rw [hXl]; simp; omega)
              have hhone := hid (show ∀ u ∈ (#[Value.slice sa sn sc, .slice ka kn kc, .string hi, .int .i64 ny] : Array Value).toList, u.oneCell' = true by simp [Value.oneCell'])
              clear hX hXl hXi
              go_wp2_with (at_builtin; refine wpList_pushV 29 44 4 72 (.agg #[.slice none 0 0, .slice none 0 0, .string ⟨#[]⟩, .int .i64 0]) rinner_info rfl (by decide) (by decide) (by kernel_rfl) rfl (.tmp 91) (.tmp 93) rfl w2.heap.size (.slice oa on oc) X #[.slice sa sn sc, .slice ka kn kc, .string hi, .int .i64 ny] rfl HX7.out rfl hlen.out hbase.out rfl hhone.out ?_; intro ov' w8 hown honly; obtain ⟨a8, n8, c8, rfl⟩ := owV_slice hown; have HO8 := hid hown; have HY8 := hid honly; clear hown honly)
              have HR := hid (show ROwN w8 w2.heap.size (.slice a8 n8 c8) ((lvL P 0 gs K).take (k + 1)) by
                rw [HX.out, HAT.out]
                refine rown_snoc (vs := .slice sa sn sc) (vk := .slice ka kn kc) HX7.out HXL.out HXI.out ?_ ?_ ?_ HY8.out
                · rw [HPG.out]
                  exact HO8.out
                · rw [HPG.out]
                  exact HL7.out.os.base hGW
                · rw [HPG.out]
                  exact HL7.out.ok.base_ hGW)
              have HBB := hid (show Below w2.heap.size w2 w8 from HB.out.trans ((HL7.out.below.mono hGW).trans (HY8.out.below hbase.out (fun q hq hs => by have := (HX7.out.block hs).1; omega))))
              clear HO8 HY8 HL7 HX7 HXL HXI e0 e1 e2 e3
              have hg := HG.out
              have hgo := HGO.out
              go_roundg (go - 1)
              case measure => omega
              case rel => exact ⟨k + 1, by go_num, by omega, by rw [HNX.out, HAT.out], HR.out, HBB.out⟩
      · have hki : ¬ (k : Int) < (gs.length : Int) := by omega
        have hE := hid (show (lvL P 0 gs K).take k = lvL P 0 gs K from List.take_of_length_le (by rw [lvL_len]; omega))
        clear hlt
        rw [hE.out] at HO
        obtain ⟨oa, on, oc, rfl⟩ : ∃ a n c, u10 = .slice a n c := by
          obtain ⟨X, hX, _⟩ := HO.out
          exact owV_slice hX
        clear ho
        go_wp2
        go_ret2
        rw [HQ.out, HC.out, if_pos (by rfl)]
        exact ⟨HB2.out.trans (HB.out.mono hS), _, rfl, rown_base HO.out hS⟩
end Go.Proofs.Ytfoidiebdklggaa
