/-
  The iterator 'round' of package bits: its contract.
-/
import Derived.RangeFuncNested
import Derived.RangeFuncBound
import Derived.RangeFuncCalls
import Derived.RangeFuncLeaves
import Derived.RangeFuncBox
import Derived.Shelf.Abstract
import Derived.WalkKit
import Derived.OwnWalkIn
import Derived.TacticsInMore
import Derived.LoopNIn
import Derived.LoopIn
import Derived.RegionIn
import Derived.BigRegionIn
import Derived.Shelf.RegionOpen
import Derived.Test.YtcblkdocbmpkeaaTa
namespace Go.Proofs.Ytcblkdocbmpkeaa
open Go Go.RowKit Go.Shelf

attribute [local go_sem] Oper.semAt_some

/-- What has come when k rounds are over. -/
def upto (f : Nat → Int) (k : Nat) : List Int := (List.range k).map f
theorem upto_succ (f : Nat → Int) (k : Nat) : upto f (k + 1) = upto f k ++ [f k] := by simp [upto, List.range_succ]
theorem upto_length (f : Nat → Int) (k : Nat) : (upto f k).length = k := by simp [upto]
/-- The pages in the iterator's order: from one on, and then from the first one on. -/
def rnd (b N : Nat) (k : Nat) : Int := ((b : Int) + (k : Int)) % (N : Int)

theorem one_way {e : Ending} {P Q : Prop} (h : (e = .returned (.bool true) ∧ P) ∨ (e = .returned (.bool false) ∧ Q)) : ∃ bb : Bool, e = .returned (.bool bb) ∧ ((bb = true ∧ P) ∨ (bb = false ∧ Q)) := by
  rcases h with ⟨h, hp⟩ | ⟨h, hq⟩
  · exact ⟨true, h, .inl ⟨rfl, hp⟩⟩
  · exact ⟨false, h, .inr ⟨rfl, hq⟩⟩

/-- What a round of the iterator must keep: the two boxes, and how many pages there are. -/
def Kr (qb qf p : Nat) (A B : World) : Prop := B.cell? ⟨qb, 0, none⟩ = A.cell? ⟨qb, 0, none⟩ ∧ B.cell? ⟨qf, 0, none⟩ = A.cell? ⟨qf, 0, none⟩ ∧ B.cell? ⟨p, 1, none⟩ = A.cell? ⟨p, 1, none⟩
theorem Kr.refl (qb qf p : Nat) (A : World) : Kr qb qf p A A := ⟨rfl, rfl, rfl⟩
theorem Kr.trans {qb qf p : Nat} {A B C : World} (h : Kr qb qf p A B) (k : Kr qb qf p B C) : Kr qb qf p A C := ⟨k.1.trans h.1, k.2.1.trans h.2.1, k.2.2.trans h.2.2⟩
theorem Kr.drew {qb qf p : Nat} {A B : World} (h : Kr qb qf p A B) : Kr qb qf p A B.drew := h
theorem Kr.put {qb qf p B : Nat} (h1 : qb < B) (h2 : qf < B) (h3 : p < B) (W : World) (l : Nat) (o : Obj) (hl : B ≤ l) : Kr qb qf p W (W.putObj l o) := by
  have h : ∀ k i, k < B → (W.putObj l o).cell? ⟨k, i, none⟩ = W.cell? ⟨k, i, none⟩ := fun k i hk => World.cell?_of_block (World.putObj_heap_other (by simp; omega))
  exact ⟨h _ _ h1, h _ _ h2, h _ _ h3⟩
theorem Kr.of_only {qb qf p : Nat} {S : Nat → Prop} {A B : World} (h : Only S A B) (h1 : ¬ S qb) (h2 : ¬ S qf) (h3 : ¬ S p) (l1 : qb < A.heap.size) (l2 : qf < A.heap.size) (l3 : p < A.heap.size) : Kr qb qf p A B :=
  ⟨World.cell?_of_block (h.block _ l1 h1), World.cell?_of_block (h.block _ l2 h2), World.cell?_of_block (h.block _ l3 h3)⟩

set_option maxRecDepth 100000 in
set_option maxHeartbeats 2000000 in
theorem round1_in (n : Nat) (hn : 1 ≤ n) (l qb qf p b N : Nat) (hb : b ≤ 1024) (hN : 1 ≤ N) (hN2 : N ≤ 1024) (J Jx : List Int → World → Prop)
    (hdr : ∀ pre W, J pre W → J pre W.drew)
    (hY : ∀ pre x W, J pre W → pre.length < N → YieldAt Fence.wide (n - 1) Try.prog l #[.int .i64 x] W fun e W' =>
      (e = .returned (.bool true) ∧ J (pre ++ [x]) W' ∧ Kr qb qf p W W') ∨ (e = .returned (.bool false) ∧ Jx (pre ++ [x]) W'))
    (W : World) (c0 : W.cell? ⟨qb, 0, none⟩ = some (.pointer (some ⟨p, 0, none⟩))) (c1 : W.cell? ⟨qf, 0, none⟩ = some (.int .i64 b)) (c2 : W.cell? ⟨p, 1, none⟩ = some (.int .i64 N)) (h0 : J [] W) :
    CallsIn Fence.wide n Try.prog 56 #[.func (.yield l) #[] #[], .pointer (some ⟨qb, 0, none⟩), .pointer (some ⟨qf, 0, none⟩)] W fun e W' => (∃ v, e = .returned v) ∧
      ((∃ ys, ys = upto (rnd b N) N ∧ J ys W') ∨ (∃ pre, (∃ k, k ≤ N ∧ pre = upto (rnd b N) k) ∧ Jx pre W')) := by
  refine callsIn_of_wp Try.func56 rfl trivial ?_ rfl
  simp only [Try.ntmps56, List.size_toArray, List.length_cons, List.length_nil, Nat.reduceAdd, Nat.reduceSub, Array.replicate_succ, Array.replicate_zero, List.push_toArray, List.append_toArray, List.nil_append, List.cons_append]
  gi_wp2
  gi_loopw [9] (fun i wr => ∃ k : Nat, k ≤ N ∧ i = .int .i64 k ∧ J (upto (rnd b N) k) wr ∧ Kr qb qf p W wr)
    (fun i _ => N - (intOf i).toNat)
  case atStart => exact ⟨0, Nat.zero_le _, rfl, h0, Kr.refl _ _ _ _⟩
  case round =>
    obtain ⟨k, hk, rfl, hJs, hnx⟩ := hrel
    have d0 : wr.cell? ⟨qb, 0, none⟩ = some (.pointer (some ⟨p, 0, none⟩)) := hnx.1.trans c0
    have d1 : wr.cell? ⟨qf, 0, none⟩ = some (.int .i64 b) := hnx.2.1.trans c1
    have d2 : wr.cell? ⟨p, 1, none⟩ = some (.int .i64 N) := hnx.2.2.trans c2
    by_cases hlt : k < N
    · obtain ⟨fn, tmps, assign, body, hy, hR⟩ := hY _ (rnd b N k) wr.drew (hdr _ _ hJs) (by rw [upto_length]; exact hlt)
      have hN0 : ¬ (N : Int) = 0 := by omega
      unfold rnd at hy
      have hmix : Try.prog.follows .mixedOrders = true := by kernel_rfl
      gi_wp2
      gi_region_with_o ((with_reducible refine hR.mono ?_); rintro e W3 h3; obtain ⟨bb, rfl, h4⟩ := one_way h3; clear h3)
      all_goals
        rcases h4 with ⟨rfl, hJ3, hk3⟩ | ⟨rfl, hJx3⟩
        · gi_wp2
          go_roundw
          case rel => exact ⟨k + 1, by omega, by simp, by rw [upto_succ]; exact hJ3, hnx.drew.trans hk3⟩
          case measure => simp [intOf]; omega
        · gi_wp2
          refine bodyPost_ret (results_none rfl _ _ _) rfl ?_
          exact ⟨⟨_, rfl⟩, .inr ⟨_, ⟨k + 1, by omega, (upto_succ _ _).symm⟩, hJx3⟩⟩
    · obtain rfl : k = N := by omega
      gi_wp2
      go_end0
      exact ⟨⟨_, rfl⟩, .inl ⟨_, rfl, hJs⟩⟩

theorem abides_drew {B : Nat} {J : List Int → World → Prop} (h : AbidesFrom B J) : ∀ pre W, J pre W → J pre W.drew := fun pre W hj => h pre W W.drew none hj ⟨rfl, rfl, rfl, Nat.le_refl _, fun _ _ _ => rfl⟩ (fun r e => by cases e)

theorem round_stops (n : Nat) (hn : 1 ≤ n) (qb qf p b N : Nat) (hb : b ≤ 1024) (hN : 1 ≤ N) (hN2 : N ≤ 1024) (w : World) (c0 : w.cell? ⟨qb, 0, none⟩ = some (.pointer (some ⟨p, 0, none⟩))) (c1 : w.cell? ⟨qf, 0, none⟩ = some (.int .i64 b)) (c2 : w.cell? ⟨p, 1, none⟩ = some (.int .i64 N)) :
    SeqStopsK Fence.wide n Try.prog 56 #[.pointer (some ⟨qb, 0, none⟩), .pointer (some ⟨qf, 0, none⟩)] (fun x : Int => #[Value.int .i64 x]) (Kr qb qf p) (fun ys => ys = upto (rnd b N) N) (fun pre => ∃ k, k ≤ N ∧ pre = upto (rnd b N) k) N w := fun l J Jx W hW hJ _ hY h0 => by
  have lt : ∀ {q i : Nat} {v : Value}, w.cell? ⟨q, i, none⟩ = some v → q < w.heap.size := fun {q i v} h => by
    rcases Nat.lt_or_ge q w.heap.size with hlt | hge
    · exact hlt
    · exfalso; simp [World.cell?, Array.getElem?_eq_none hge] at h
  exact round1_in n hn l qb qf p b N hb hN hN2 J Jx (abides_drew hJ) hY W ((hW.cell (p := ⟨qb, 0, none⟩) (lt c0)).trans c0) ((hW.cell (p := ⟨qf, 0, none⟩) (lt c1)).trans c1) ((hW.cell (p := ⟨p, 1, none⟩) (lt c2)).trans c2) h0

theorem round_any {W : World} (p : Addr) (b : Int) :
    Calls Try.prog 47 #[.pointer (some p), .int .i64 b] W fun e W' => e = .returned (.func (.func 56) #[] #[.pointer (some ⟨W.heap.size, 0, none⟩), .pointer (some ⟨W.heap.size + 1, 0, none⟩)]) ∧ W' = (W.alloc (.cells #[.pointer (some p)] 60)).alloc (.cells #[.int .i64 b] 3) := by
  have hmf : ∀ (fn : Fn) (first cap : Array Value) (w : World), (Instr.makeFunc fn first cap).run Try.prog w = .ok (.func fn first cap) w := fun _ _ _ _ => rfl
  go_enter Try.func47, Try.ntmps47
  go_wp2
  go_ret
  exact ⟨rfl, rfl⟩
end Go.Proofs.Ytcblkdocbmpkeaa
