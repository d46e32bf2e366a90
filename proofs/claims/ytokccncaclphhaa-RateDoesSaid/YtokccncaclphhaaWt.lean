/-
  What Wait, Now, All of a Rate and New do, each by a contract.
-/
import Derived.Test.YtokccncaclphhaaTk
open Go Go.RowKit Go.Conc
namespace Go.Proofs.Ytokccncaclphhaa

theorem wait_zero {W : World} {b c m : Nat} {wd now all first : Int} {q P : List Int} (h : Rt W b c m wd now all first q) (hp : Held first q P) (hm : m ≤ 1000) (hl : P.length < m) :
    Calls Try.prog 15 #[.pointer (some ⟨b, 0, none⟩)] W fun e W' => e = .returned (.int .i64 0) ∧ W = W' := by
  have hh := hid (may_any h hp hm (by omega))
  have e1 := hid (show decide (P.length < m) = true by simp; omega)
  clear h hp hl
  go_enter Try.func15, Try.ntmps15
  go_wp2_with (go_at_call 14; refine hh.out.mono ?_; rintro e w' ⟨rfl, rfl⟩; rw [e1.out])
  go_ret
  exact ⟨rfl, rfl⟩

theorem wait_some {W : World} {b c m : Nat} {wd now all first t : Int} {q r : List Int} (h : Rt W b c m wd now all first q) (hp : Held first q (t :: r)) (hm : m ≤ 1000) (hl : (t :: r).length = m)
    (ht : 0 ≤ t) (htn : t ≤ now) (n1 : now ≤ 1000000) (w0 : 1 ≤ wd) (w1 : wd ≤ 1000) :
    Calls Try.prog 15 #[.pointer (some ⟨b, 0, none⟩)] W fun e W' => e = .returned (.int .i64 (t + wd - now)) ∧
      Rt W' b c m wd now all t r ∧ Only (fun k => k = b ∨ k = c) W W' := by
  have hh := hid (may_any h hp hm (by omega))
  have e1 := hid (show decide ((t :: r).length < m) = false by rw [decide_eq_false_iff_not]; omega)
  obtain ⟨c0, c1, c2, c3, c4, fz⟩ := h.cells
  have H := hid h
  clear h hl
  rcases hp with ⟨rfl, rfl⟩ | ⟨h0, hq⟩
  · go_enter Try.func15, Try.ntmps15
    go_wp2_with (first
      | (go_at_call 14; refine hh.out.mono ?_; rintro e w' ⟨rfl, rfl⟩; rw [e1.out])
      | (go_at_call 20; refine (next_some H.out).mono ?_; rintro e w' ⟨rfl, hr', ho'⟩; obtain ⟨g0, g1, g2, g3, g4, gz⟩ := hr'.cells; have HR := hid hr'; have HO := hid ho'; clear hr' ho'))
    go_quiet (fail)
    go_wp2
    go_ret
    exact ⟨rfl, (HR.out.set4 t).drewN _, ((HO.out.mono fun k _ hk => .inr hk).setCell (.inl (.inl rfl)) _).drewN _⟩
  · injection hq with e2 e3
    subst e2 e3
    have hne1 : (t == -1) = false := by rw [beq_eq_false_iff_ne]; omega
    go_enter Try.func15, Try.ntmps15
    go_wp2_with (go_at_call 14; refine hh.out.mono ?_; rintro e w' ⟨rfl, rfl⟩; rw [e1.out])
    go_quiet (fail)
    go_wp2
    go_ret
    exact ⟨rfl, H.out.drewN _, (Only.refl _ _).drewN _⟩

theorem now_any {W : World} {b c m : Nat} {wd now all first : Int} {q : List Int} (h : Rt W b c m wd now all first q) :
    Calls Try.prog 17 #[.pointer (some ⟨b, 0, none⟩)] W fun e W' => e = .returned (.int .i64 now) ∧ W = W' := by
  obtain ⟨c0, c1, c2, c3, c4, fz⟩ := h.cells
  clear h
  go_enter Try.func17, Try.ntmps17
  go_wp2
  go_ret
  exact ⟨rfl, rfl⟩
theorem all_any {W : World} {b c m : Nat} {wd now all first : Int} {q : List Int} (h : Rt W b c m wd now all first q) :
    Calls Try.prog 18 #[.pointer (some ⟨b, 0, none⟩)] W fun e W' => e = .returned (.int .i64 all) ∧ W = W' := by
  obtain ⟨c0, c1, c2, c3, c4, fz⟩ := h.cells
  clear h
  go_enter Try.func18, Try.ntmps18
  go_wp2
  go_ret
  exact ⟨rfl, rfl⟩

/-! ### New -/
theorem int_bytes : ∃ i, Try.prog.info? 3 = some i ∧ i.bytes = 8 := by
  have h : (Try.prog.info? 3).map (·.bytes) = some 8 := by kernel_rfl
  obtain ⟨i, hi, hb⟩ := Option.map_eq_some_iff.1 h
  exact ⟨i, hi, hb⟩
theorem mkc (n : Nat) (hn : n ≤ 1000) (w : World) : (Instr.makeChan 38 (.int .i64 n)).run Try.prog w = .ok (.chan (some w.heap.size)) (w.alloc (.chan n #[] false 0 0 false)) := by
  obtain ⟨i, hi, hb⟩ := int_bytes
  simpa using run_makeChan (P := Try.prog) (w := w) Try.underlying38 hi .i64 n (by omega) (by rw [hb]; omega)

theorem new_bad {W : World} (m wd : Int) (h : m < 1 ∨ 1000 < m ∨ wd < 1 ∨ 1000 < wd) :
    Calls Try.prog 7 #[.int .i64 m, .int .i64 wd] W fun e W' => e = .returned (.tuple #[.pointer none, .int .i64 1]) ∧ W = W' := by
  by_cases h1 : m < 1
  · clear h
    go_enter Try.func7, Try.ntmps7
    go_wp2
    go_ret2
    exact ⟨rfl, rfl⟩
  · by_cases h2 : 1000 < m
    · clear h
      go_enter Try.func7, Try.ntmps7
      go_wp2
      go_ret2
      exact ⟨rfl, rfl⟩
    · by_cases h3 : wd < 1
      · clear h
        go_enter Try.func7, Try.ntmps7
        go_wp2
        go_ret2
        exact ⟨rfl, rfl⟩
      · have h4 : 1000 < wd := by omega
        clear h
        go_enter Try.func7, Try.ntmps7
        go_wp2
        go_ret2
        exact ⟨rfl, rfl⟩

theorem new_ok {W : World} (m : Nat) (wd : Int) (h1 : 1 ≤ m) (h2 : m ≤ 1000) (h3 : 1 ≤ wd) (h4 : wd ≤ 1000) :
    Calls Try.prog 7 #[.int .i64 m, .int .i64 wd] W fun e W' => e = .returned (.tuple #[.pointer (some ⟨W.heap.size + 1, 0, none⟩), .int .i64 0]) ∧
      Rt W' (W.heap.size + 1) W.heap.size m wd 0 0 (-1) [] ∧ Below W.heap.size W W' ∧ W'.heap.size = W.heap.size + 2 := by
  have hmk := mkc m h2
  have t1 : ¬ (m : Int) < 1 := by omega
  have t2 : ¬ 1000 < (m : Int) := by omega
  go_enter Try.func7, Try.ntmps7
  go_wp2
  go_ret2
  refine ⟨by simp, ⟨?_, 0, 0, ?_⟩, ((Below.refl _ _).alloc (Nat.le_refl _) _).alloc (by simp) _, by simp⟩
  · have := Blk.new (W.alloc (.chan m #[] false 0 0 false)) 40 #[.int .i64 wd, .int .i64 0, .int .i64 0, .chan (some W.heap.size), .int .i64 (-1)]
    simpa using this
  · rw [Below.heap_alloc _ _ _ (by simp)]
    exact heap_alloc_new W _
end Go.Proofs.Ytokccncaclphhaa
