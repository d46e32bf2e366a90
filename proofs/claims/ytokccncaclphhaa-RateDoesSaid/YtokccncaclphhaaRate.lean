/-
  A Rate by what it holds: the contracts of its methods, said of one predicate; and the law's fixed calls: they answer true.
-/
import Derived.Test.YtokccncaclphhaaWt
open Go Go.RowKit Go.Conc
namespace Go.Proofs.Ytokccncaclphhaa

/-- A Rate in memory (struct block b, channel block c): at most m things in a window wd; so many ticks, so many things; the times of those in the window. -/
def Rate (W : World) (b c m : Nat) (wd now all : Int) (P : List Int) : Prop :=
  (∃ first q, Rt W b c m wd now all first q ∧ Held first q P) ∧ (∀ t ∈ P, 0 ≤ t ∧ t ≤ now) ∧ 1 ≤ m ∧ m ≤ 1000 ∧ P.length ≤ m ∧ 1 ≤ wd ∧ wd ≤ 1000 ∧ 0 ≤ now ∧ 0 ≤ all

/-- The two blocks of a Rate. -/
def BC (b c : Nat) (k : Nat) : Prop := k = b ∨ k = c

section
variable {W W' : World} {b c m : Nat} {wd now all : Int} {P : List Int}
theorem Rate.keep {S : Nat → Prop} (h : Rate W b c m wd now all P) (ho : Only S W W') (hb : ¬ S b) (hc : ¬ S c) : Rate W' b c m wd now all P := by
  obtain ⟨⟨first, q, h1, h2⟩, h3⟩ := h
  exact ⟨⟨first, q, h1.keep ho hb hc, h2⟩, h3⟩
theorem Rate.drewN (h : Rate W b c m wd now all P) (n : Nat) : Rate (W.drewN n) b c m wd now all P := h
theorem Rate.lt (h : Rate W b c m wd now all P) : b < W.heap.size ∧ c < W.heap.size := by
  obtain ⟨⟨first, q, h1, h2⟩, h3⟩ := h
  exact h1.lt

theorem rate_new (mi wd : Int) (m : Nat) (hm : mi = m) (h1 : 1 ≤ m) (h2 : m ≤ 1000) (h3 : 1 ≤ wd) (h4 : wd ≤ 1000) :
    Calls Try.prog 7 #[.int .i64 mi, .int .i64 wd] W fun e W' => e = .returned (.tuple #[.pointer (some ⟨W.heap.size + 1, 0, none⟩), .int .i64 0]) ∧
      Rate W' (W.heap.size + 1) W.heap.size m wd 0 0 [] ∧ Below W.heap.size W W' ∧ W'.heap.size = W.heap.size + 2 := by
  subst hm
  refine (new_ok m wd h1 h2 h3 h4).mono fun e W' ⟨he, hr, hb, hs⟩ => ⟨he, ⟨⟨-1, [], hr, .inl ⟨rfl, rfl⟩⟩, fun t ht => by simp at ht, h1, h2, by simp, h3, h4, by omega, by omega⟩, hb, hs⟩

theorem rate_new' (mi wd : Int) (m : Nat) (hm : mi = m) (h1 : 1 ≤ m) (h2 : m ≤ 1000) (h3 : 1 ≤ wd) (h4 : wd ≤ 1000) :
    Calls Try.prog 7 #[.int .i64 mi, .int .i64 wd] W fun e W' => ∃ b c, e = .returned (.tuple #[.pointer (some ⟨b, 0, none⟩), .int .i64 0]) ∧
      Rate W' b c m wd 0 0 [] ∧ Below W.heap.size W W' ∧ W.heap.size ≤ b ∧ W.heap.size ≤ c :=
  (rate_new mi wd m hm h1 h2 h3 h4).mono fun _ _ ⟨he, hr, hb, _⟩ => ⟨_, _, he, hr, hb, by omega, by omega⟩

theorem rate_tick (h : Rate W b c m wd now all P) (now' : Int) (P' : List Int) (n1 : now ≤ 1000000) (hn : now' = now + 1) (hP : Pl.drops (now' - wd) P = P') :
    Calls Try.prog 9 #[.pointer (some ⟨b, 0, none⟩)] W fun e W' => e = .returned (.tuple #[]) ∧ Rate W' b c m wd now' all P' ∧ Only (BC b c) W W' := by
  subst hn hP
  obtain ⟨⟨first, q, h1, h2⟩, h3, h4, h5, h6, h7, h8, h9, h10⟩ := h
  refine (tick_any h1 h2 (fun t ht => (h3 t ht).1) h9 n1 h7 h8).mono fun e W' ⟨he, hr, ho⟩ => ⟨he, ⟨hr, fun t ht => ?_, h4, h5, ?_, h7, h8, by omega, h10⟩, ho⟩
  · have := h3 t (Pl.drops_mem ht)
    omega
  · have := Pl.drops_len (now + 1 - wd) P
    omega

theorem rate_left (h : Rate W b c m wd now all P) (l : Int) (hl : l = (m : Int) - P.length) :
    Calls Try.prog 12 #[.pointer (some ⟨b, 0, none⟩)] W fun e W' => e = .returned (.int .i64 l) ∧ W = W' := by
  subst hl
  obtain ⟨⟨first, q, h1, h2⟩, h3, h4, h5, h6, _⟩ := h
  exact left_any h1 h2 h5 h6
theorem rate_may (h : Rate W b c m wd now all P) (t : Bool) (hl : decide (P.length < m) = t) :
    Calls Try.prog 14 #[.pointer (some ⟨b, 0, none⟩)] W fun e W' => e = .returned (.bool t) ∧ W = W' := by
  subst hl
  obtain ⟨⟨first, q, h1, h2⟩, h3, h4, h5, h6, _⟩ := h
  exact may_any h1 h2 h5 h6
theorem rate_take_no (h : Rate W b c m wd now all P) (hl : P.length = m) :
    Calls Try.prog 10 #[.pointer (some ⟨b, 0, none⟩)] W fun e W' => e = .returned (.int .i64 10) ∧ W = W' := by
  obtain ⟨⟨first, q, h1, h2⟩, h3, h4, h5, h6, _⟩ := h
  exact take_no h1 h2 h5 hl
theorem rate_take (h : Rate W b c m wd now all P) (all' : Int) (P' : List Int) (hl : P.length < m) (a1 : all ≤ 1000000) (ha : all' = all + 1) (hP : P ++ [now] = P') :
    Calls Try.prog 10 #[.pointer (some ⟨b, 0, none⟩)] W fun e W' => e = .returned (.int .i64 0) ∧ Rate W' b c m wd now all' P' ∧ Only (BC b c) W W' := by
  subst ha hP
  obtain ⟨⟨first, q, h1, h2⟩, h3, h4, h5, h6, h7, h8, h9, h10⟩ := h
  refine (take_yes h1 h2 h5 hl h10 a1).mono fun e W' ⟨he, hr, ho⟩ => ⟨he, ⟨⟨first, q ++ [now], hr, ?_⟩, fun t ht => ?_, h4, h5, by simp; omega, h7, h8, h9, by omega⟩, ho⟩
  · rcases h2 with ⟨h2, rfl⟩ | ⟨h2, rfl⟩
    · exact .inl ⟨h2, rfl⟩
    · exact .inr ⟨h2, rfl⟩
  · simp at ht
    rcases ht with ht | rfl
    · exact h3 t ht
    · omega
theorem rate_wait0 (h : Rate W b c m wd now all P) (hl : P.length < m) :
    Calls Try.prog 15 #[.pointer (some ⟨b, 0, none⟩)] W fun e W' => e = .returned (.int .i64 0) ∧ W = W' := by
  obtain ⟨⟨first, q, h1, h2⟩, h3, h4, h5, h6, _⟩ := h
  exact wait_zero h1 h2 h5 hl
theorem rate_wait {t : Int} {r : List Int} (h : Rate W b c m wd now all (t :: r)) (x : Int) (hl : (t :: r).length = m) (n1 : now ≤ 1000000) (hx : x = t + wd - now) :
    Calls Try.prog 15 #[.pointer (some ⟨b, 0, none⟩)] W fun e W' => e = .returned (.int .i64 x) ∧ Rate W' b c m wd now all (t :: r) ∧ Only (BC b c) W W' := by
  subst hx
  obtain ⟨⟨first, q, h1, h2⟩, h3, h4, h5, h6, h7, h8, h9, h10⟩ := h
  have ht := h3 t (by simp)
  refine (wait_some h1 h2 h5 hl ht.1 ht.2 n1 h7 h8).mono fun e W' ⟨he, hr, ho⟩ => ⟨he, ⟨⟨t, r, hr, .inr ⟨ht.1, rfl⟩⟩, h3, h4, h5, h6, h7, h8, h9, h10⟩, ho⟩
theorem rate_now (h : Rate W b c m wd now all P) :
    Calls Try.prog 17 #[.pointer (some ⟨b, 0, none⟩)] W fun e W' => e = .returned (.int .i64 now) ∧ W = W' := by
  obtain ⟨⟨first, q, h1, h2⟩, _⟩ := h
  exact now_any h1
theorem rate_all (h : Rate W b c m wd now all P) :
    Calls Try.prog 18 #[.pointer (some ⟨b, 0, none⟩)] W fun e W' => e = .returned (.int .i64 all) ∧ W = W' := by
  obtain ⟨⟨first, q, h1, h2⟩, _⟩ := h
  exact all_any h1
theorem rate_all' (h : Rate W b c m wd now all P) (x : Int) (hx : all = x) :
    Calls Try.prog 18 #[.pointer (some ⟨b, 0, none⟩)] W fun e W' => e = .returned (.int .i64 x) ∧ W = W' := by
  subst hx
  exact rate_all h
end

/-! ### behind some calls -/
/-- Behind some calls: the Rate is there, and nothing that was there has turned. -/
def St (W w : World) (b c m : Nat) (wd : Int) (k : Nat) : Prop := ∃ now all P, Rate w b c m wd now all P ∧ now ≤ k ∧ all ≤ k ∧ Pl.Good wd now P ∧ Below W.heap.size W w

theorem St.more {W w : World} {b c m k k' : Nat} {wd : Int} (h : St W w b c m wd k) (hk : k ≤ k') : St W w b c m wd k' := by
  obtain ⟨now, all, P, h1, h2, h3, h4⟩ := h
  exact ⟨now, all, P, h1, by omega, by omega, h4⟩

theorem below_bc {W w w' : World} {b c : Nat} (h : Below W.heap.size W w) (ho : Only (BC b c) w w') (hb : W.heap.size ≤ b) (hc : W.heap.size ≤ c) : Below W.heap.size W w' :=
  h.trans (ho.below h.size (fun x hx hbc => by rcases hbc with rfl | rfl <;> omega))

/-! ### the fixed calls -/
set_option maxHeartbeats 1000000 in
set_option maxRecDepth 100000 in
theorem fixed_any (W : World) : Calls Try.prog 19 #[] W fun e W' => e = .returned (.bool true) ∧ Below W.heap.size W W' := by
  go_enter Try.func19, Try.ntmps19
  go_wp2_with fail
  refine (rate_new 2 3 2 rfl (by omega) (by omega) (by omega) (by omega)).mono ?_
  rintro e w1 ⟨rfl, r1, b1, s1⟩
  have R1 := hid r1; have S1 := hid s1; clear r1 s1
  go_wp2_with fail
  refine (new_bad 0 3 (by omega)).mono ?_
  rintro e w' ⟨rfl, rfl⟩
  go_wp2_with fail
  refine (new_bad 1 1001 (by omega)).mono ?_
  rintro e w' ⟨rfl, rfl⟩
  go_wp2_with fail
  refine (rate_take R1.out 1 [0] (by decide) (by omega) rfl rfl).mono ?_
  rintro e w2 ⟨rfl, r2, o2⟩
  have R2 := hid r2; have O2 := hid o2; clear r2 o2
  go_wp2_with fail
  refine (rate_tick R2.out 1 [0] (by omega) rfl (by decide)).mono ?_
  rintro e w3 ⟨rfl, r3, o3⟩
  have R3 := hid r3; have O3 := hid o3; clear r3 o3
  go_wp2_with fail
  refine (rate_take R3.out 2 [0, 1] (by decide) (by omega) rfl rfl).mono ?_
  rintro e w4 ⟨rfl, r4, o4⟩
  have R4 := hid r4; have O4 := hid o4; clear r4 o4
  go_wp2_with fail
  refine (rate_take_no R4.out rfl).mono ?_
  rintro e w' ⟨rfl, rfl⟩
  go_wp2_with fail
  refine (rate_wait R4.out 2 rfl (by omega) rfl).mono ?_
  rintro e w5 ⟨rfl, r5, o5⟩
  have R5 := hid r5; have O5 := hid o5; clear r5 o5
  go_wp2_with fail
  refine (rate_left R5.out 0 (by decide)).mono ?_
  rintro e w' ⟨rfl, rfl⟩
  go_wp2_with fail
  refine (rate_tick R5.out 2 [0, 1] (by omega) rfl (by decide)).mono ?_
  rintro e w6 ⟨rfl, r6, o6⟩
  have R6 := hid r6; have O6 := hid o6; clear r6 o6
  go_wp2_with fail
  refine (rate_may R6.out false (by decide)).mono ?_
  rintro e w' ⟨rfl, rfl⟩
  go_wp2_with fail
  refine (rate_tick R6.out 3 [1] (by omega) rfl (by decide)).mono ?_
  rintro e w7 ⟨rfl, r7, o7⟩
  have R7 := hid r7; have O7 := hid o7; clear r7 o7
  go_wp2_with fail
  refine (rate_take R7.out 3 [1, 3] (by decide) (by omega) rfl rfl).mono ?_
  rintro e w8 ⟨rfl, r8, o8⟩
  have R8 := hid r8; have O8 := hid o8; clear r8 o8
  go_wp2_with fail
  refine (rate_take_no R8.out rfl).mono ?_
  rintro e w' ⟨rfl, rfl⟩
  go_wp2_with fail
  refine (rate_all R8.out).mono ?_
  rintro e w' ⟨rfl, rfl⟩
  go_wp2_with fail
  refine (rate_now R8.out).mono ?_
  rintro e w' ⟨rfl, rfl⟩
  go_wp2_with fail
  refine (rate_wait R8.out 1 rfl (by omega) rfl).mono ?_
  rintro e w9 ⟨rfl, r9, o9⟩
  have R9 := hid r9; have O9 := hid o9; clear r9 o9
  go_wp2_with fail
  go_ret
  refine ⟨rfl, ?_⟩
  have o := ((((((O2.out.trans O3.out).trans O4.out).trans O5.out).trans O6.out).trans O7.out).trans O8.out).trans O9.out
  have hs := S1.out
  exact b1.trans (o.below (by omega) (fun k hk hbc => by rcases hbc with rfl | rfl <;> omega))
end Go.Proofs.Ytokccncaclphhaa
