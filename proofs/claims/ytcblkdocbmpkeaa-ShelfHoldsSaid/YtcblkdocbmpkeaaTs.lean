/-
  Run whole, by a contract.
-/
import Derived.Test.YtcblkdocbmpkeaaTr
namespace Go.Proofs.Ytcblkdocbmpkeaa
open Go Go.RowKit Go.Shelf

attribute [local go_sem] Oper.semAt_some

/-- The last page of the first run of so many free ones. -/
def runFind (T : List Bool) (m : Int) : Nat → List Int → Option Int
  | _, [] => none
  | s, x :: r => if isB T x then runFind T m 0 r else if ((s + 1 : Nat) : Int) = m then some x else runFind T m (s + 1) r
theorem runFind_app {T : List Bool} {m : Int} (r : List Int) : ∀ (q : List Int) (s0 s : Nat), q.foldl (runStep T m) (some s0) = some s → runFind T m s0 (q ++ r) = runFind T m s r := by
  intro q
  induction q with
  | nil => intro s0 s h; simp at h; subst h; rfl
  | cons x q ih =>
    intro s0 s h
    rw [List.foldl_cons] at h
    have hn : ∀ l : List Int, l.foldl (runStep T m) none = none := by
      intro l
      induction l with
      | nil => rfl
      | cons y l ihl => exact ihl
    rw [List.cons_append, runFind]
    rw [show runStep T m (some s0) x = if isB T x then some 0 else if ((s0 + 1 : Nat) : Int) = m then none else some (s0 + 1) from rfl] at h
    split at h
    · rename_i hx
      rw [if_pos hx]
      exact ih 0 s h
    · rename_i hx
      rw [if_neg hx]
      split at h
      · rw [hn] at h; cases h
      · rename_i hm
        rw [if_neg hm]
        exact ih (s0 + 1) s h
def runB (T : List Bool) (m : Int) : Option Int := if 1 ≤ m then runFind T m 0 (upto (rnd 0 T.length) T.length) else none
def runX (T : List Bool) (m : Int) : Int := match runB T m with | some x => x - m + 1 | none => 0
def runOk (T : List Bool) (m : Int) : Bool := (runB T m).isSome

set_option maxRecDepth 100000 in
set_option maxHeartbeats 2000000 in
theorem run_no {W : World} {p : Nat} (m : Int) (hm : m < 1) :
    Calls Try.prog 44 #[.pointer (some ⟨p, 0, none⟩), .int .i64 m] W fun e W' => e = .returned (.tuple #[.int .i64 0, .bool false]) ∧ Below W.heap.size W W' := by
  refine (callsIn_wide (n := 4)).1 ?_
  refine callsIn_of_wp_marks Try.func44 rfl trivial ?_ rfl
  simp only [Try.ntmps44, List.size_toArray, List.length_cons, List.length_nil, Nat.reduceAdd, Nat.reduceSub, Array.replicate_succ, Array.replicate_zero, List.push_toArray, List.append_toArray, List.nil_append, List.cons_append]
  obtain ⟨W4, hW4⟩ : ∃ W4, (((W.alloc (.cells #[.pointer (some ⟨p, 0, none⟩)] 60)).alloc (.cells #[.int .i64 m] 3)).alloc (.cells #[.int .i64 0] 3)).alloc (.cells #[.bool false] 4) = W4 := ⟨_, rfl⟩
  have g1 : Blk W4 (W.heap.size + 1) 3 #[.int .i64 m] := by
    rw [← hW4]
    have := ((Blk.new (W.alloc (.cells #[.pointer (some ⟨p, 0, none⟩)] 60)) 3 #[.int .i64 m]).alloc (.cells #[.int .i64 0] 3)).alloc (.cells #[.bool false] 4)
    simpa using this
  have g2 : Blk W4 (W.heap.size + 1 + 1) 3 #[.int .i64 0] := by
    rw [← hW4]
    have := (Blk.new ((W.alloc (.cells #[.pointer (some ⟨p, 0, none⟩)] 60)).alloc (.cells #[.int .i64 m] 3)) 3 #[.int .i64 0]).alloc (.cells #[.bool false] 4)
    simpa using this
  have g3 : Blk W4 (W.heap.size + 1 + 1 + 1) 4 #[.bool false] := by
    rw [← hW4]
    have := Blk.new (((W.alloc (.cells #[.pointer (some ⟨p, 0, none⟩)] 60)).alloc (.cells #[.int .i64 m] 3)).alloc (.cells #[.int .i64 0] 3)) 4 #[.bool false]
    simpa using this
  have gw : Below W.heap.size W W4 := by rw [← hW4]; exact ((((Below.refl _ W).alloc (Nat.le_refl _) _).alloc (by simp) _).alloc (by simp; omega) _).alloc (by simp; omega) _
  have c1 := g1.cell 0
  have e2 := g2.cell 0
  have e3 := g3.cell 0
  have z2 := g2.frozen 0
  have z3 := g3.frozen 0
  simp only [List.getElem?_toArray, List.getElem?_cons_zero] at c1 e2 e3
  have G2 := hid g2
  have G3 := hid g3
  have GW := hid gw
  clear g1 g2 g3 gw
  gi_wp2
  clear hW4
  have hne : ¬ W.heap.size + 1 + 1 = W.heap.size + 1 + 1 + 1 := by omega
  have n2 := (G2.out.set_ 0 (.int .i64 0)).far (p := ⟨W.heap.size + 1 + 1 + 1, 0, none⟩) hne (.bool false)
  have n3 := (G3.out.far (p := ⟨W.heap.size + 1 + 1, 0, none⟩) (fun e => hne e.symm) (.int .i64 0)).set_ 0 (.bool false)
  have nw := (GW.out.setCell (p := ⟨W.heap.size + 1 + 1, 0, none⟩) (by simp; omega) (.int .i64 0)).setCell (p := ⟨W.heap.size + 1 + 1 + 1, 0, none⟩) (by simp; omega) (.bool false)
  have y1 := n2.cell 0
  have y2 := n3.cell 0
  simp only [List.getElem?_toArray, List.getElem?_cons_zero, List.setIfInBounds_toArray, List.set_cons_zero] at y1 y2
  refine ⟨.tuple #[.int .i64 0, .bool false], ?_, rfl, nw⟩
  simp [results, Try.f44, go_sem, y1, y2]

theorem run_any {W : World} {B p : Nat} {v : Value} {T : List Bool} (h : Bt W B p v T) (m : Int) :
    Calls Try.prog 44 #[.pointer (some ⟨p, 0, none⟩), .int .i64 m] W fun e W' => e = .returned (.tuple #[.int .i64 (runX T m), .bool (runOk T m)]) ∧ Below W.heap.size W W' := by
  by_cases hm : 1 ≤ m
  · refine (run_yes h m hm).mono ?_
    rintro e w ⟨⟨rfl, s, hs⟩ | ⟨q, x, k, s, h1, hk, h2, h3, h4, rfl⟩, hb⟩
    · have hr : runB T m = none := by
        unfold runB
        rw [if_pos hm]
        have := runFind_app (m := m) [] (upto (rnd 0 T.length) T.length) 0 s hs
        rw [List.append_nil] at this
        rw [this]
        rfl
      have e1 : runX T m = 0 := by unfold runX; rw [hr]
      have e2 : runOk T m = false := by unfold runOk; rw [hr]; rfl
      rw [e1, e2]
      exact ⟨rfl, hb⟩
    · have hr : runB T m = some x := by
        unfold runB
        rw [if_pos hm]
        obtain ⟨j, hj⟩ : ∃ j, T.length = k + j := ⟨T.length - k, by omega⟩
        have : upto (rnd 0 T.length) T.length = q ++ x :: ((List.range j).map (fun i => rnd 0 T.length (k + i))) := by
          conv => lhs; rw [show upto (rnd 0 T.length) T.length = upto (rnd 0 T.length) (k + j) by rw [← hj]]
          rw [upto_add, h1, List.append_assoc]
          rfl
        rw [this, runFind_app _ q 0 s h2, runFind, if_neg (by simp [h3]), if_pos h4]
      obtain ⟨i, hi, rfl⟩ := mem_upto (b := 0) (N := T.length) (k := k) (x := x) h.len1 (by rw [h1]; simp)
      have hs := h.len2
      have hlen : q.length + 1 ≤ 1024 := by
        have := congrArg List.length h1
        rw [upto_length] at this
        simp at this
        omega
      have hsl : ∀ (l : List Int) (s0 s1 : Nat), l.foldl (runStep T m) (some s0) = some s1 → s1 ≤ s0 + l.length := by
        intro l
        induction l with
        | nil => intro s0 s1 h; simp at h; omega
        | cons y l ih =>
          intro s0 s1 h
          rw [List.foldl_cons] at h
          have hn : ∀ l : List Int, l.foldl (runStep T m) none = none := by
            intro l
            induction l with
            | nil => rfl
            | cons y l ihl => exact ihl
          rw [show runStep T m (some s0) y = if isB T y then some 0 else if ((s0 + 1 : Nat) : Int) = m then none else some (s0 + 1) from rfl] at h
          split at h
          · have := ih 0 s1 h; simp; omega
          · split at h
            · rw [hn] at h; cases h
            · have := ih (s0 + 1) s1 h; simp; omega
      have hs2 := hsl q 0 s h2
      have e1 : runX T m = (i : Int) - m + 1 := by unfold runX; rw [hr]
      have e2 : runOk T m = true := by unfold runOk; rw [hr]; rfl
      have e3 : wrap64 (wrap64 ((i : Int) - m) + 1) = (i : Int) - m + 1 := by unfold wrap64; omega
      rw [e1, e2, e3]
      exact ⟨rfl, hb⟩
  · have hr : runB T m = none := by unfold runB; rw [if_neg hm]
    have e1 : runX T m = 0 := by unfold runX; rw [hr]
    have e2 : runOk T m = false := by unfold runOk; rw [hr]; rfl
    rw [e1, e2]
    exact run_no m (by omega)
end Go.Proofs.Ytcblkdocbmpkeaa
