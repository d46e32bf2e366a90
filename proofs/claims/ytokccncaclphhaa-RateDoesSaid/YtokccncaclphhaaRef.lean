/-
  What the document's Rate does (budwoodref22), each method by a contract.
-/
import Derived.Test.YtokccncaclphhaaTally
import Derived.Test.YtokccncaclphhaaInts
import Derived.Test.YtokccncaclphhaaChecked
import Derived.WalkKit
import Derived.WalkLawsBesides
import Derived.WalkSpells
import Derived.Deep.QuietTactic
import Derived.BigQuiet
import Derived.Deep.LoopGhost
import Derived.Deep.RegionLaw
import Derived.Deep.AppendLies
import Derived.Deep.RegionHeld3
import Derived.Outline
open Go Go.RowKit
namespace Go.Proofs.Ytokccncaclphhaa

/-- The document's Rate in memory: its struct is block d; v is the slice of all times. -/
def Rf (W : World) (d B : Nat) (m wd now : Int) (v : Value) (T : List Int) : Prop :=
  Blk W d 32 #[.int .i64 m, .int .i64 wd, .int .i64 now, v] ∧ Ints W B v T

section
variable {W W' : World} {d B : Nat} {m wd now : Int} {v : Value} {T : List Int}
theorem Rf.cells (h : Rf W d B m wd now v T) :
    W.cell? ⟨d, 0, none⟩ = some (.int .i64 m) ∧ W.cell? ⟨d, 1, none⟩ = some (.int .i64 wd) ∧ W.cell? ⟨d, 2, none⟩ = some (.int .i64 now) ∧
    W.cell? ⟨d, 3, none⟩ = some v ∧ ∀ i, W.frozen? ⟨d, i, none⟩ = false :=
  ⟨h.1.cell 0, h.1.cell 1, h.1.cell 2, h.1.cell 3, fun i => h.1.frozen i⟩
theorem Rf.drewN (h : Rf W d B m wd now v T) (n : Nat) : Rf (W.drewN n) d B m wd now v T := h
theorem Rf.apart (h : Rf W d B m wd now v T) : v.ownBlock ≠ some d := fun e => by
  obtain ⟨_, cur, hb⟩ := h.2.block e
  exact Blk.ne_ hb h.1 (by decide) rfl
theorem Rf.keep {S : Nat → Prop} (h : Rf W d B m wd now v T) (ho : Only S W W') (hd : ¬ S d) (hv : ∀ g, v.ownBlock = some g → ¬ S g) : Rf W' d B m wd now v T :=
  ⟨ho.blk h.1 hd, h.2.keep ho hv⟩
end

theorem count_take (l : Int) {T : List Int} {k : Nat} (hk : k < T.length) : Pl.count l (T.take (k + 1)) = Pl.count l (T.take k) + if l < T[k] then 1 else 0 := by
  rw [List.take_succ_eq_append_getElem hk]
  simp only [Pl.count, Pl.alive, List.filter_append, List.length_append]
  by_cases h : l < T[k] <;> simp [h]

set_option maxHeartbeats 400000 in
theorem refleft_any {W : World} {d B : Nat} {m wd now t lim : Int} {v : Value} {T : List Int} (h : Rf W d B m wd now v T) (hl : now + t - wd = lim) (hT : T.length ≤ 1000) (hx : ∀ x ∈ T, 0 ≤ x ∧ x ≤ 1000000)
    (m1 : 0 ≤ m) (m2 : m ≤ 1000) (w1 : 0 ≤ wd) (w2 : wd ≤ 1000) (n1 : 0 ≤ now) (n2 : now ≤ 1000000) (t1 : 0 ≤ t) (t2 : t ≤ 1000000) :
    Calls Try.prog 22 #[.pointer (some ⟨d, 0, none⟩), .int .i64 t] W fun e W' => e = .returned (.int .i64 (m - Pl.count lim T)) ∧ ∃ n, W' = W.drewN n := by
  obtain ⟨c0, c1, c2, c3, _⟩ := h.cells
  obtain ⟨a, cap, rfl⟩ := h.2.shape
  have HI := hid h.2
  have HL := hid hl
  have HX := hid hx
  clear h hl hx
  go_enter Try.func22, Try.ntmps22
  go_wp2_with fail
  go_loopg [5, 6] T.length (fun g n i wr => ∃ k y q : Nat, i = .int .i64 k ∧ g + k = T.length ∧ y = Pl.count lim (T.take k) ∧ n = .int .i64 (m - y) ∧ wr = W.drewN q)
  case atStart => exact ⟨0, 0, 0, rfl, rfl, rfl, by simp, rfl⟩
  case round =>
    obtain ⟨k, y, q, rfl, hgk, hy, rfl, rfl⟩ := hrel
    have HG := hid hgk
    have HY := hid hy
    have hk : k ≤ T.length := by omega
    have hy2 : y ≤ 1000 := by
      have h1 := Pl.count_le lim (T.take k)
      simp at h1
      omega
    clear hgk hy
    by_cases hlt : k < T.length
    · obtain ⟨g, cap', hv, _⟩ := HI.out.form (by intro e; rw [e] at hlt; simp at hlt)
      simp only [Value.slice.injEq] at hv
      obtain ⟨rfl, _, rfl⟩ := hv
      have hc := HI.out.cell (i := k) (d := T[k]) (List.getElem?_eq_getElem hlt)
      obtain ⟨x, hx⟩ : ∃ x, x = T[k] := ⟨_, rfl⟩
      rw [← hx] at hc
      have hxx := HX.out x (by rw [hx]; exact List.getElem_mem hlt)
      obtain ⟨x1, x2⟩ := hxx
      have HXE := hid hx
      clear hx
      go_wp2_with fail
      go_quiet (fail)
      by_cases hgt : now + t - wd < x
      · go_wp2
        have hg := HG.out
        go_roundg (gk - 1)
        case measure => omega
        case rel =>
          refine ⟨k + 1, y + 1, _, by go_num, by omega, ?_, by go_num, rfl⟩
          rw [count_take lim hlt, ← HY.out, ← HXE.out, ← HL.out, if_pos hgt]
      · go_wp2
        have hg := HG.out
        go_roundg (gk - 1)
        case measure => omega
        case rel =>
          refine ⟨k + 1, y, _, by go_num, by omega, ?_, rfl, rfl⟩
          rw [count_take lim hlt, ← HY.out, ← HXE.out, ← HL.out, if_neg (by omega), Nat.add_zero]
    · go_wp2
      go_ret
      have hk' : k = T.length := by omega
      refine ⟨?_, _, rfl⟩
      have hy3 := HY.out
      rw [hk', List.take_length] at hy3
      simp [hy3]

theorem refLeft_any {W : World} {d B : Nat} {m wd now : Int} {v : Value} {T : List Int} (h : Rf W d B m wd now v T) (x : Int) (hl : m - Pl.count (now - wd) T = x) (hT : T.length ≤ 1000) (hx : ∀ x ∈ T, 0 ≤ x ∧ x ≤ 1000000)
    (m1 : 0 ≤ m) (m2 : m ≤ 1000) (w1 : 0 ≤ wd) (w2 : wd ≤ 1000) (n1 : 0 ≤ now) (n2 : now ≤ 1000000) :
    Calls Try.prog 13 #[.pointer (some ⟨d, 0, none⟩)] W fun e W' => e = .returned (.int .i64 x) ∧ ∃ n, W' = W.drewN n := by
  subst hl
  have hh := hid (refleft_any h (t := 0) (lim := now - wd) (by omega) hT hx m1 m2 w1 w2 n1 n2 (by omega) (by omega))
  clear h hx
  go_enter Try.func13, Try.ntmps13
  go_wp2_with (go_at_call 22; refine hh.out.mono ?_; rintro e w' ⟨rfl, n, rfl⟩)
  go_ret
  exact ⟨rfl, _, rfl⟩

theorem refTake_no {W : World} {d B : Nat} {m wd now : Int} {v : Value} {T : List Int} (h : Rf W d B m wd now v T) (hl : m - Pl.count (now - wd) T ≤ 0) (hT : T.length ≤ 1000) (hx : ∀ x ∈ T, 0 ≤ x ∧ x ≤ 1000000)
    (m1 : 0 ≤ m) (m2 : m ≤ 1000) (w1 : 0 ≤ wd) (w2 : wd ≤ 1000) (n1 : 0 ≤ now) (n2 : now ≤ 1000000) :
    Calls Try.prog 11 #[.pointer (some ⟨d, 0, none⟩)] W fun e W' => e = .returned (.int .i64 10) ∧ ∃ n, W' = W.drewN n := by
  obtain ⟨l, hle⟩ : ∃ l, m - Pl.count (now - wd) T = l := ⟨_, rfl⟩
  have hh := hid (refLeft_any h l hle hT hx m1 m2 w1 w2 n1 n2)
  rw [hle] at hl
  clear h hx hle
  go_enter Try.func11, Try.ntmps11
  go_wp2_with (go_at_call 13; refine hh.out.mono ?_; rintro e w' ⟨rfl, n, rfl⟩)
  go_ret
  exact ⟨rfl, _, rfl⟩

set_option maxHeartbeats 400000 in
theorem refTake_yes {W : World} {d B : Nat} {m wd now : Int} {v : Value} {T : List Int} (h : Rf W d B m wd now v T) (hB : B ≤ W.heap.size) (hl : 0 < m - Pl.count (now - wd) T) (hT : T.length ≤ 1000) (hx : ∀ x ∈ T, 0 ≤ x ∧ x ≤ 1000000)
    (m1 : 0 ≤ m) (m2 : m ≤ 1000) (w1 : 0 ≤ wd) (w2 : wd ≤ 1000) (n1 : 0 ≤ now) (n2 : now ≤ 1000000) :
    Calls Try.prog 11 #[.pointer (some ⟨d, 0, none⟩)] W fun e W' => e = .returned (.int .i64 0) ∧ (∃ v', Rf W' d B m wd now v' (T ++ [now])) ∧ Only (fun k => k = d ∨ v.ownBlock = some k) W W' := by
  obtain ⟨c0, c1, c2, c3, cf⟩ := h.cells
  obtain ⟨l, hle⟩ : ∃ l, m - Pl.count (now - wd) T = l := ⟨_, rfl⟩
  have hh := hid (refLeft_any h l hle hT hx m1 m2 w1 w2 n1 n2)
  rw [hle] at hl
  have H := hid h
  have hT' : T.length < 1000000 := by omega
  clear h hx hle
  go_enter Try.func11, Try.ntmps11
  go_wp2_with (go_at_call 13; refine hh.out.mono ?_; rintro e w' ⟨rfl, n, rfl⟩)
  have hown0 := fun o => (((H.out.2.drewN n).alloc o).drewN 1)
  have hblk0 := fun o => hid (((H.out.1.drewN n).alloc o).drewN 1)
  have hne : v.ownBlock ≠ some d := H.out.apart
  have hd : d < W.heap.size := H.out.1.lt
  have e3 := ((H.out.1.drewN (n + 1)).alloc (.cells #[.int .i64 now] 3)).cell 3
  simp at e3
  have hcell0 : Hid (((W.drewN (n + 1)).alloc (.cells #[.int .i64 now] 3)).cell? ⟨W.heap.size, 0, none⟩ = some (.int .i64 now)) := (Blk.new (W.drewN (n + 1)) 3 #[.int .i64 now]).cell 0
  go_region_law
    ((refine step_push (by rfl) (.tmp 10) (.tmp 15) (by rfl) B W.heap.size v T now (by rfl) (hown0 _) (by rfl) hcell0.out hT' (by simp; omega) ?_; intro g cap w1 hown1 honly; have hb1 := honly.blk (hblk0 _).out (fun e => hne e); have f3 := hb1.cell 3; have fz := fun i => hb1.frozen i; have HB1 := hid hb1; have HO1 := hid hown1; have HN1 := hid honly; clear hb1 hown1 honly))
  all_goals
    go_wp2
    go_ret
    refine ⟨rfl, ⟨.slice (some ⟨g, 0, none⟩) (T.length + 1) cap, ?_, ?_⟩, ?_⟩
    · have := HB1.out.set_ 3 (.slice (some ⟨g, 0, none⟩) (T.length + 1) cap)
      simpa using this
    · refine Ints.keep HO1.out ((Only.refl (fun k => k = d) _).setCell (.inl rfl) _) (fun g' hg' e => ?_)
      obtain ⟨_, cur, hb⟩ := HO1.out.block hg'
      subst e
      exact Blk.ne_ hb HB1.out (by decide) rfl
    · refine (((Only.refl _ W).drewN (n + 1)).alloc (.cells #[.int .i64 now] 3)).trans ?_
      exact ((HN1.out.mono (fun k _ hk => .inr hk)).setCell (.inl (.inl rfl)) _)

theorem refWait_any {W : World} {d B : Nat} {m wd now : Int} {v : Value} {T : List Int} (h : Rf W d B m wd now v T) (x : Nat) (hx1 : ∀ n : Nat, n < x → m - Pl.count (now + n - wd) T ≤ 0) (hx2 : 0 < m - Pl.count (now + x - wd) T)
    (hT : T.length ≤ 1000) (hx : ∀ x ∈ T, 0 ≤ x ∧ x ≤ 1000000) (m1 : 0 ≤ m) (m2 : m ≤ 1000) (w1 : 0 ≤ wd) (w2 : wd ≤ 1000) (n1 : 0 ≤ now) (n2 : now ≤ 1000000) (hxx : x ≤ 1000) :
    Calls Try.prog 16 #[.pointer (some ⟨d, 0, none⟩)] W fun e W' => e = .returned (.int .i64 x) ∧ ∃ n, W' = W.drewN n := by
  have H := hid h
  have HX1 := hid hx1
  have HX2 := hid hx2
  have HX := hid hx
  clear h hx hx1 hx2
  go_enter Try.func16, Try.ntmps16
  go_wp2_with fail
  go_loopg [3] x (fun g n wr => ∃ k q : Nat, n = .int .i64 k ∧ g + k = x ∧ wr = W.drewN q)
  case atStart => exact ⟨0, 0, rfl, rfl, rfl⟩
  case round =>
    obtain ⟨k, q, rfl, hgk, rfl⟩ := hrel
    have HG := hid hgk
    have hkx : k ≤ x := by omega
    clear hgk
    by_cases hk : k < x
    · obtain ⟨l, hl⟩ : ∃ l, m - Pl.count (now + k - wd) T = l := ⟨_, rfl⟩
      have hl0 : l ≤ 0 := by have := HX1.out k hk; omega
      have HL := hid hl
      clear hl
      go_wp2_with fail
      refine (refleft_any (H.out.drewN q) rfl hT HX.out m1 m2 w1 w2 n1 n2 (by omega) (by omega)).mono ?_
      rintro e w' ⟨rfl, n, rfl⟩
      rw [HL.out]
      go_wp2
      have hg := HG.out
      go_roundg (gk - 1)
      case measure => omega
      case rel => exact ⟨k + 1, q + n, by go_num, by omega, by first | rfl | simp⟩
    · obtain rfl : k = x := by omega
      obtain ⟨l, hl⟩ : ∃ l, m - Pl.count (now + k - wd) T = l := ⟨_, rfl⟩
      have hl0 : ¬ l ≤ 0 := by have := HX2.out; omega
      have HL := hid hl
      clear hl
      go_wp2_with fail
      refine (refleft_any (H.out.drewN q) rfl hT HX.out m1 m2 w1 w2 n1 n2 (by omega) (by omega)).mono ?_
      rintro e w' ⟨rfl, n, rfl⟩
      rw [HL.out]
      go_wp2
      go_ret
      exact ⟨rfl, _, rfl⟩

theorem refNew_bad {W : World} (m wd : Int) (h : m < 1 ∨ 1000 < m ∨ wd < 1 ∨ 1000 < wd) :
    Calls Try.prog 8 #[.int .i64 m, .int .i64 wd] W fun e W' => e = .returned (.tuple #[.pointer none, .int .i64 1]) ∧ W = W' := by
  by_cases h1 : m < 1
  · clear h
    go_enter Try.func8, Try.ntmps8
    go_wp2
    go_ret2
    exact ⟨rfl, rfl⟩
  · by_cases h2 : 1000 < m
    · clear h
      go_enter Try.func8, Try.ntmps8
      go_wp2
      go_ret2
      exact ⟨rfl, rfl⟩
    · by_cases h3 : wd < 1
      · clear h
        go_enter Try.func8, Try.ntmps8
        go_wp2
        go_ret2
        exact ⟨rfl, rfl⟩
      · have h4 : 1000 < wd := by omega
        clear h
        go_enter Try.func8, Try.ntmps8
        go_wp2
        go_ret2
        exact ⟨rfl, rfl⟩

theorem refNew_ok {W : World} (m wd : Int) (B : Nat) (h1 : 1 ≤ m) (h2 : m ≤ 1000) (h3 : 1 ≤ wd) (h4 : wd ≤ 1000) :
    Calls Try.prog 8 #[.int .i64 m, .int .i64 wd] W fun e W' => ∃ d, e = .returned (.tuple #[.pointer (some ⟨d, 0, none⟩), .int .i64 0]) ∧
      Rf W' d B m wd 0 (.slice none 0 0) [] ∧ Only (fun _ => False) W W' ∧ W.heap.size ≤ d := by
  have t1 : ¬ m < 1 := by omega
  have t2 : ¬ 1000 < m := by omega
  go_enter Try.func8, Try.ntmps8
  go_wp2
  go_ret2
  exact ⟨W.heap.size, by simp, ⟨Blk.new W 32 #[.int .i64 m, .int .i64 wd, .int .i64 0, .slice none 0 0], Ints.nil _ _⟩, (Only.refl _ _).alloc _, Nat.le_refl _⟩
end Go.Proofs.Ytokccncaclphhaa
