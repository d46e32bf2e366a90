/-
  What Cut does: at most 60 kids, keys of at most 20 bytes. By a contract.
-/
import Derived.Test.YtfoidiebdklggaaUp
import Derived.Deep.RegionLaw
import Derived.Deep.RegionHeld3
import Derived.Deep.RegionWith
open Go Go.RowKit
namespace Go.Proofs.Ytfoidiebdklggaa

def cut20 (s : ByteArray) : ByteArray := if s.size ≤ 20 then s else s.extract 0 20
def cutK (K : List Kid) : List Kid := (K.take 60).map fun k => (cut20 k.1, k.2)
theorem cutK_len (K : List Kid) : (cutK K).length ≤ 60 := by simp [cutK]; omega
theorem cut20_size (s : ByteArray) : (cut20 s).size ≤ 20 := by
  unfold cut20
  split
  · assumption
  · rw [ByteArray.size_extract]; omega

set_option maxHeartbeats 2000000 in
set_option maxRecDepth 100000 in
theorem cut_any {W : World} {v : Value} {K : List Kid} (h : RdK W W.heap.size v K) :
    Calls Try.prog 9 #[v] W fun e W' => ∃ v', e = .returned v' ∧ OwV 57 2 W' W.heap.size v' ((cutK K).map kcells) ∧ Below W.heap.size W W' := by
  obtain ⟨ad, cap, rfl, hl, hm⟩ := h.shape
  have HD := hid h
  have HO0 := hid (OwV.empty (t := 57) (s := 2) (w := W) (Nat.le_refl W.heap.size))
  have HB0 := hid ((Below.refl W.heap.size W).alloc (Nat.le_refl _) (.cells #[] 57))
  unfold maxLen at hm
  clear h
  go_enter Try.func9, Try.ntmps9
  go_wp2
  go_loopg [3, 4] (min K.length 60) (fun g s i wr => ∃ k : Nat, i = .int .i64 k ∧ g + k = min K.length 60 ∧ OwV 57 2 wr W.heap.size s ((cutK (K.take k)).map kcells) ∧ Below W.heap.size W wr)
  case atStart => exact ⟨0, rfl, rfl, HO0.out, HB0.out⟩
  case round =>
    obtain ⟨k, rfl, hgk, ho, hb⟩ := hrel
    have HG := hid hgk
    have HO := hid ho
    have HB := hid hb
    have hk : k ≤ K.length := by omega
    have hk60 : k ≤ 60 := by omega
    clear hgk
    by_cases hlt : k < K.length
    · by_cases h60 : k < 60
      · obtain ⟨g, off, rfl, hg, hc1, hc2⟩ := HD.out.at_ (kid_at hlt)
        have hd1 := (hb.cell (p := ⟨g, off + k * 2, none⟩) hg).trans hc1
        have hd2 := (hb.cell (p := ⟨g, off + k * 2 + 1, none⟩) hg).trans hc2
        have HU := hid (show cutK (K.take (k + 1)) = cutK (K.take k) ++ [(cut20 (lowAt K k), pageAt K k)] by
          unfold cutK
          rw [List.take_take, List.take_take, Nat.min_eq_right (by omega), Nat.min_eq_right (by omega), take_snocK (kid_at hlt), List.map_append]
          rfl)
        obtain ⟨lo, hlo⟩ : ∃ lo, lowAt K k = lo := ⟨_, rfl⟩
        obtain ⟨pg, hpg⟩ : ∃ pg, pageAt K k = pg := ⟨_, rfl⟩
        rw [hlo] at hd1
        rw [hpg] at hd2
        rw [hlo, hpg] at HU
        have hki : (k : Int) < (K.length : Int) := by omega
        have hk6 : (k : Int) < 60 := by omega
        clear hc1 hc2 hlo hpg hlt h60
        obtain ⟨m, hmdef⟩ : ∃ m : Nat, m = (if lo.size ≤ 20 then lo.size else 20) := ⟨_, rfl⟩
        have hmlo : m ≤ lo.size := by rw [hmdef]; split <;> omega
        have hcut : cut20 lo = lo.extract 0 m := by
          unfold cut20
          rw [hmdef]
          split
          · simp
          · rfl
        have hmin : ∀ (ts : Array TypeId) (t : TypeId) (w : World), (Builtin.min_ ts t #[.int .i64 (lo.size : Int), .int .i64 20]).run Try.prog w = .ok (.int .i64 (m : Int)) w := fun ts t w => by
          rw [run_min_int2, hmdef]
          congr 2
          split <;> split <;> omega
        have HC := hid hcut
        have hmli : (m : Int) ≤ (lo.size : Int) := by omega
        have hm0 : (0 : Int) ≤ (m : Int) := by omega
        have hlen := hid (show ((cutK (K.take k)).map kcells).length < 1000000 by simp [cutK]; omega)
        have hown0 := hid (show OwV 57 2 ((wr.drewN 1).alloc (.cells #[.string (lo.extract 0 m), .int .i64 pg] 57)) W.heap.size u3 _ from OwV.alloc (w := wr.drewN 1) HO.out _)
        have hcell := hid (show ∀ j u, (#[Value.string (lo.extract 0 m), .int .i64 pg] : Array Value).toList[j]? = some u → ((wr.drewN 1).alloc (.cells #[.string (lo.extract 0 m), .int .i64 pg] 57)).cell? ⟨wr.heap.size, j, none⟩ = some u from fun j u hu => by
          have := (Blk.new (wr.drewN 1) 57 #[.string (lo.extract 0 m), .int .i64 pg]).cell j
          rw [show wr.heap.size = (wr.drewN 1).heap.size from rfl, this]
          simpa using hu)
        have hhone := hid (show ∀ u ∈ (#[Value.string (lo.extract 0 m), .int .i64 pg] : Array Value).toList, u.oneCell' = true by simp [Value.oneCell'])
        have hGW := hb.size
        clear hmdef hcut hb ho
        go_wp2
        go_region_law
          (first | (refine step_pushV 22 57 2 24 (.agg #[.string ⟨#[]⟩, .int .i64 0]) kid_info rfl (by decide) (by decide) (by kernel_rfl) (by rfl) (.tmp 16) (.tmp 36) (by rfl) W.heap.size wr.heap.size u3 _ #[.string (lo.extract 0 m), .int .i64 pg] (by rfl) hown0.out (by rfl) hcell.out hlen.out (by simp; omega) rfl hhone.out ?_; intro g' cap' w1 hown1 honly; have HO1 := hid hown1; have HN1 := hid honly; clear hown1 honly) | fail)
        all_goals
          go_wp2
          have hg2 := HG.out
          have hrest : OwV 57 2 w1 W.heap.size (.slice (some ⟨g', 0, none⟩) ((cutK (K.take k)).length + 1) cap') ((cutK (K.take (k + 1))).map kcells) := by
            have h1 := HO1.out
            rw [List.length_map] at h1
            rw [HU.out, HC.out, List.map_append]
            exact h1
          have hB1 : Below W.heap.size W w1 := by
            have hon : Only (fun q => u3.ownBlock = some q) wr w1 := (((Only.refl _ wr).drewN 1).alloc _).trans HN1.out
            exact HB.out.trans (hon.below hGW (fun q hq hs => by have := (HO.out.block hs).1; omega))
          have hR := hid hrest
          have hBB := hid hB1
          clear hrest hB1
          go_roundg (gk - 1)
          case measure => omega
          case rel => exact ⟨k + 1, by go_num, by omega, hR.out, hBB.out⟩
      · have hk6 : ¬ ((k : Int) < 60) := by omega
        have hki : (k : Int) < (K.length : Int) := by omega
        have hE := hid (show cutK (K.take k) = cutK K by unfold cutK; rw [List.take_take, show min 60 k = 60 by omega])
        clear hlt h60
        go_wp2
        go_returns
        exact ⟨_, rfl, by rw [← hE.out]; exact HO.out, HB.out⟩
    · have hki : ¬ ((k : Int) < (K.length : Int)) := by omega
      have hE := hid (show cutK (K.take k) = cutK K by rw [List.take_of_length_le (by omega)])
      clear hlt
      go_wp2
      go_returns
      exact ⟨_, rfl, by rw [← hE.out]; exact HO.out, HB.out⟩
end Go.Proofs.Ytfoidiebdklggaa
