/-
  What refs does: kids, for the document. By a contract.
-/
import Derived.Test.YtfoidiebdklggaaCt
open Go Go.RowKit
namespace Go.Proofs.Ytfoidiebdklggaa

theorem rkid_info : (Try.prog.info? 67).map (fun i => (i.zero, i.size, i.bytes)) = some (some (.agg #[.string ⟨#[]⟩, .int .i64 0]), 2, 24) := by kernel_rfl

set_option maxHeartbeats 2000000 in
set_option maxRecDepth 100000 in
theorem refs_any {W : World} {v : Value} {K : List Kid} (h : RdK W W.heap.size v K) (h60 : K.length ≤ 1000) :
    Calls Try.prog 12 #[v] W fun e W' => ∃ v', e = .returned v' ∧ OwV 67 2 W' W.heap.size v' (K.map kcells) ∧ Below W.heap.size W W' := by
  obtain ⟨ad, cap, rfl, hl, hm⟩ := h.shape
  have HD := hid h
  have HO0 := hid (OwV.empty (t := 67) (s := 2) (w := W) (Nat.le_refl W.heap.size))
  have HB0 := hid ((Below.refl W.heap.size W).alloc (Nat.le_refl _) (.cells #[] 67))
  unfold maxLen at hm
  clear h
  go_enter Try.func12, Try.ntmps12
  go_wp2
  go_loopg [3, 4] K.length (fun g s i wr => ∃ k : Nat, i = .int .i64 k ∧ g + k = K.length ∧ OwV 67 2 wr W.heap.size s ((K.take k).map kcells) ∧ Below W.heap.size W wr)
  case atStart => exact ⟨0, rfl, rfl, HO0.out, HB0.out⟩
  case round =>
    obtain ⟨k, rfl, hgk, ho, hb⟩ := hrel
    have HG := hid hgk
    have HO := hid ho
    have HB := hid hb
    have hk : k ≤ K.length := by omega
    clear hgk
    by_cases hlt : k < K.length
    · obtain ⟨g, off, rfl, hg, hc1, hc2⟩ := HD.out.at_ (kid_at hlt)
      have hd1 := (hb.cell (p := ⟨g, off + k * 2, none⟩) hg).trans hc1
      have hd2 := (hb.cell (p := ⟨g, off + k * 2 + 1, none⟩) hg).trans hc2
      have HU := hid (show K.take (k + 1) = K.take k ++ [(lowAt K k, pageAt K k)] from take_snocK (kid_at hlt))
      obtain ⟨lo, hlo⟩ : ∃ lo, lowAt K k = lo := ⟨_, rfl⟩
      obtain ⟨pg, hpg⟩ : ∃ pg, pageAt K k = pg := ⟨_, rfl⟩
      rw [hlo] at hd1
      rw [hpg] at hd2
      rw [hlo, hpg] at HU
      have hki : (k : Int) < (K.length : Int) := by omega
      clear hc1 hc2 hlo hpg hlt
      have hlen := hid (show ((K.take k).map kcells).length < 1000000 by simp; omega)
      have hown0 := hid (show OwV 67 2 ((wr.drewN 1).alloc (.cells #[.string lo, .int .i64 pg] 67)) W.heap.size u3 _ from OwV.alloc (w := wr.drewN 1) HO.out _)
      have hcell := hid (show ∀ j u, (#[Value.string lo, .int .i64 pg] : Array Value).toList[j]? = some u → ((wr.drewN 1).alloc (.cells #[.string lo, .int .i64 pg] 67)).cell? ⟨wr.heap.size, j, none⟩ = some u from fun j u hu => by
        have := (Blk.new (wr.drewN 1) 67 #[.string lo, .int .i64 pg]).cell j
        rw [show wr.heap.size = (wr.drewN 1).heap.size from rfl, this]
        simpa using hu)
      have hhone := hid (show ∀ u ∈ (#[Value.string lo, .int .i64 pg] : Array Value).toList, u.oneCell' = true by simp [Value.oneCell'])
      have hGW := hb.size
      clear hb ho
      go_wp2
      go_region_law
        (first | (refine step_pushV 32 67 2 24 (.agg #[.string ⟨#[]⟩, .int .i64 0]) rkid_info rfl (by decide) (by decide) (by kernel_rfl) (by rfl) (.tmp 12) (.tmp 24) (by rfl) W.heap.size wr.heap.size u3 _ #[.string (lo), .int .i64 pg] (by rfl) hown0.out (by rfl) hcell.out hlen.out (by simp; omega) rfl hhone.out ?_; intro g' cap' w1 hown1 honly; have HO1 := hid hown1; have HN1 := hid honly; clear hown1 honly) | fail)
      all_goals
        go_wp2
        have hg2 := HG.out
        have hrest : OwV 67 2 w1 W.heap.size (.slice (some ⟨g', 0, none⟩) (k + 1) cap') ((K.take (k + 1)).map kcells) := by
          have h1 := HO1.out
          rw [List.length_map, List.length_take, Nat.min_eq_left hk] at h1
          rw [HU.out, List.map_append]
          exact h1
        have hB1 : Below W.heap.size W w1 := by
          have hon : Only (fun q => u3.ownBlock = some q) wr w1 := (((Only.refl _ wr).drewN 1).alloc _).trans HN1.out
          exact HB.out.trans (hon.below hGW (fun q hq hs => by have := (HO.out.block hs).1; omega))
        have hR := hid hrest
        have hBB := hid hB1
        clear hrest hB1
        go_roundg (gk - 1)
        case measure => omega
        case rel => exact ⟨k + 1, by go_num, by omega, hR.out, hBB.out⟩
    · have hki : ¬ ((k : Int) < (K.length : Int)) := by omega
      rw [List.take_of_length_le (by omega)] at HO
      clear hlt
      go_wp2
      go_returns
      exact ⟨_, rfl, HO.out, HB.out⟩
end Go.Proofs.Ytfoidiebdklggaa
