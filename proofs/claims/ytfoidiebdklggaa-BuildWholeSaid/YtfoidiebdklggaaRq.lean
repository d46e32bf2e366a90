/-
  What the document's Kids says of the same kids: by a contract.
-/
import Derived.Test.YtfoidiebdklggaaRb
open Go Go.RowKit
namespace Go.Proofs.Ytfoidiebdklggaa

set_option maxHeartbeats 6400000 in
set_option maxRecDepth 100000 in
theorem rkids_same {W : World} {v v' : Value} {K : List Kid} (h : RdK W W.heap.size v K) (h' : RdK W W.heap.size v' K) :
    Calls Try.prog 15 #[v, v'] W fun e W' => e = .returned (.bool true) ∧ Below W.heap.size W W' := by
  obtain ⟨ad, cap, rfl, hl, hm⟩ := h.shape
  obtain ⟨ad', cap', rfl, hl', hm'⟩ := h'.shape
  have HD := hid h
  have HE := hid h'
  unfold maxLen at hm hm'
  clear h h'
  go_enter Try.func15, Try.ntmps15
  go_wp2
  go_loopg [5] K.length (fun g' i wr => ∃ j q : Nat, i = .int .i64 j ∧ g' + j = K.length ∧ wr = W.drewN q)
  case atStart => exact ⟨0, 0, rfl, rfl, rfl⟩
  case round =>
    obtain ⟨i, q, rfl, hgi, hwr⟩ := hrel
    have HG := hid hgi
    have hil : i ≤ K.length := by omega
    clear hgi
    by_cases hi : i < K.length
    · have hii : (i : Int) < (K.length : Int) := by omega
      have HI := hid hi
      obtain ⟨gb, off, rfl, _, hc0, hc1⟩ := HD.out.at_ (kid_at hi)
      obtain ⟨gb', off', rfl, _, hc0', hc1'⟩ := HE.out.at_ (kid_at hi)
      obtain ⟨s, hs⟩ : ∃ s, lowAt K i = s := ⟨_, rfl⟩
      obtain ⟨y, hy⟩ : ∃ y, pageAt K i = y := ⟨_, rfl⟩
      rw [hs] at hc0 hc0'
      rw [hy] at hc1 hc1'
      have hd0 : wr.cell? ⟨gb, off + i * 2, none⟩ = some (.string s) := by rw [hwr]; exact hc0
      have hd1 : wr.cell? ⟨gb, off + i * 2 + 1, none⟩ = some (.int .i64 y) := by rw [hwr]; exact hc1
      have hd0' : wr.cell? ⟨gb', off' + i * 2, none⟩ = some (.string s) := by rw [hwr]; exact hc0'
      have hd1' : wr.cell? ⟨gb', off' + i * 2 + 1, none⟩ = some (.int .i64 y) := by rw [hwr]; exact hc1'
      have HWR := hid hwr
      clear hwr hc0 hc1 hc0' hc1' hs hy hi
      go_wp2
      go_quiet (fail)
      go_wp2
      have hg := HG.out
      have hI := HI.out
      go_roundg (gk - 1)
      case measure => omega
      case rel => exact ⟨i + 1, q + nq, by go_num, by omega, by rw [HWR.out, World.drewN_drewN]⟩
    · have hii : ¬ (i : Int) < (K.length : Int) := by omega
      clear hi
      go_wp2
      go_ret
      exact ⟨rfl, below_dN (Below.refl _ _) _⟩
end Go.Proofs.Ytfoidiebdklggaa
