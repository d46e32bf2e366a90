/-
  What Name and Parse of package mode do, each by a contract.
-/
import Derived.Test.YteenjllcmgfpcaaMode
import Derived.Deep.LoopGhost
open Go Go.RowKit
namespace Go.Proofs.Yteenjllcmgfpcaa

/-- The seven names. -/
def nameS (a : Nat) : ByteArray := match a with | 0 => ⟨#[45]⟩ | 1 => ⟨#[73, 83]⟩ | 2 => ⟨#[73, 88]⟩ | 3 => ⟨#[83]⟩ | 4 => ⟨#[88]⟩ | 5 => ⟨#[82]⟩ | _ => ⟨#[82, 88]⟩

theorem names_any (W : World) : Calls Try.prog 26 #[] W fun e W' => e = .returned (.slice (some ⟨W.heap.size, 0, none⟩) 7 7) ∧
    W' = W.alloc (.cells #[.string ⟨#[45]⟩, .string ⟨#[73, 83]⟩, .string ⟨#[73, 88]⟩, .string ⟨#[83]⟩, .string ⟨#[88]⟩, .string ⟨#[82]⟩, .string ⟨#[82, 88]⟩] 9) := by
  go_enter Try.func26, Try.ntmps26
  go_wp2
  go_ret
  exact ⟨rfl, rfl⟩
theorem names_at {A : Nat} (h : A < 7) (W : World) : (W.alloc (.cells #[.string ⟨#[45]⟩, .string ⟨#[73, 83]⟩, .string ⟨#[73, 88]⟩, .string ⟨#[83]⟩, .string ⟨#[88]⟩, .string ⟨#[82]⟩, .string ⟨#[82, 88]⟩] 9)).cell? ⟨W.heap.size, A, none⟩ = some (.string (nameS A)) := by
  refine ((Blk.new W 9 _).cell A).trans ?_
  have : A = 0 ∨ A = 1 ∨ A = 2 ∨ A = 3 ∨ A = 4 ∨ A = 5 ∨ A = 6 := by omega
  rcases this with rfl | rfl | rfl | rfl | rfl | rfl | rfl <;> rfl

/-- What Name answers. -/
def nameB (m : Int) : ByteArray := if inR m then nameS m.toNat else ⟨#[]⟩

theorem name_any (m : Int) (W : World) : Calls Try.prog 19 #[.int .i64 m] W fun e W' => e = .returned (.string (nameB m)) ∧ Below W.heap.size W W' := by
  rcases inR_cases m with ⟨a0, a1⟩ | ha
  · rw [show nameB m = nameS m.toNat by simp [nameB, inR_yes a0 a1]]
    obtain ⟨A, rfl⟩ : ∃ A : Nat, m = A := ⟨m.toNat, by omega⟩
    have hA : A < 7 := by omega
    have hc := names_at hA W
    have hbl := hid ((Below.refl W.heap.size W).alloc (Nat.le_refl _) (.cells #[.string ⟨#[45]⟩, .string ⟨#[73, 83]⟩, .string ⟨#[73, 88]⟩, .string ⟨#[83]⟩, .string ⟨#[88]⟩, .string ⟨#[82]⟩, .string ⟨#[82, 88]⟩] 9))
    simp only [Int.toNat_natCast]
    generalize hs : nameS A = s at *
    clear hs
    go_enter Try.func19, Try.ntmps19
    go_wp2_with (first
      | (go_at_call 22; ((with_reducible refine (there_yes (by omega) (by omega)).mono ?_)); rintro e w' ⟨rfl, rfl⟩)
      | (go_at_call 26; ((with_reducible refine (names_any _).mono ?_)); rintro e w1 ⟨rfl, rfl⟩; generalize W.alloc (.cells #[.string ⟨#[45]⟩, .string ⟨#[73, 83]⟩, .string ⟨#[73, 88]⟩, .string ⟨#[83]⟩, .string ⟨#[88]⟩, .string ⟨#[82]⟩, .string ⟨#[82, 88]⟩] 9) = W1 at *))
    go_ret
    exact ⟨rfl, hbl.out⟩
  · rw [show nameB m = ⟨#[]⟩ by simp [nameB, inR_no (a := m) (by omega)]]
    have HA := hid ha
    clear ha
    go_enter Try.func19, Try.ntmps19
    go_wp2_with (go_at_call 22; ((with_reducible refine (there_no HA.out).mono ?_)); rintro e w' ⟨rfl, rfl⟩)
    go_ret
    exact ⟨rfl, Below.refl _ _⟩

/-! ### Parse -/
/-- Where a text stands among the names; 7, if it does not. -/
def findS (s : ByteArray) : Nat → Nat → Nat
  | _, 0 => 7
  | k, n + 1 => if (s.toList == (nameS k).toList) = true then k else findS s (k + 1) n
def idxS (s : ByteArray) : Int := if findS s 0 7 = 7 then -1 else findS s 0 7
theorem findS_hit {s : ByteArray} {k : Nat} (n : Nat) (h : (s.toList == (nameS k).toList) = true) : findS s k (n + 1) = k := by
  rw [findS, if_pos h]
theorem findS_miss {s : ByteArray} {k : Nat} (n : Nat) (h : (s.toList == (nameS k).toList) = false) : findS s k (n + 1) = findS s (k + 1) n := by
  rw [findS, if_neg (by rw [h]; simp)]
theorem idxS_hit {s : ByteArray} {k n : Nat} (h1 : findS s 0 7 = findS s k (n + 1)) (hk : k < 7) (h : (s.toList == (nameS k).toList) = true) : idxS s = k := by
  rw [findS_hit n h] at h1
  unfold idxS
  rw [h1, if_neg (by omega)]
theorem findS_le (s : ByteArray) : ∀ (n k : Nat), k + n ≤ 7 → findS s k n ≤ 7 := by
  intro n
  induction n with
  | zero => intro k _; exact Nat.le_refl _
  | succ n ih =>
    intro k hk
    unfold findS
    split
    · omega
    · exact ih (k + 1) (by omega)

theorem index_any (s : ByteArray) (W : World) (g : Nat) (hc : ∀ A, A < 7 → W.cell? ⟨g, A, none⟩ = some (.string (nameS A))) :
    Calls Try.prog 25 #[.slice (some ⟨g, 0, none⟩) 7 7, .string s] W fun e W' => e = .returned (.int .i64 (idxS s)) ∧ W = W' := by
  go_enter Try.func25, Try.ntmps25
  go_wp2_with fail
  go_loopg [8] 7 (fun gg i wr => ∃ k : Nat, i = .int .i64 k ∧ gg + k = 7 ∧ findS s 0 7 = findS s k gg ∧ wr = W)
  case atStart => exact ⟨0, rfl, rfl, rfl, rfl⟩
  case round =>
    obtain ⟨k, rfl, hgk, hf, rfl⟩ := hrel
    have HG := hid hgk
    have HF := hid hf
    have hk7 : k ≤ 7 := by omega
    clear hgk hf
    by_cases hk : k < 7
    · have hck := hc k hk
      obtain ⟨gk, rfl⟩ : ∃ n, gk = n + 1 := ⟨gk - 1, by have := HG.out; omega⟩
      have HC := hid hc
      clear hc
      cases he : (s.toList == (nameS k).toList) with
      | true =>
        have hi : idxS s = k := idxS_hit HF.out hk he
        have HI := hid hi
        clear hi
        go_wp2
        go_ret
        exact ⟨by rw [HI.out]; rfl, rfl⟩
      | false =>
        go_wp2
        have hg := HG.out
        go_roundg gk
        case measure => omega
        case rel =>
          refine ⟨k + 1, by go_num, by omega, ?_, rfl⟩
          rw [HF.out]
          exact findS_miss _ he
    · obtain rfl : k = 7 := by omega
      obtain rfl : gk = 0 := by have := HG.out; omega
      have hi : idxS s = -1 := by
        have h1 := HF.out
        unfold idxS
        rw [h1]
        rfl
      have HI := hid hi
      clear hi hc
      go_wp2
      go_ret
      exact ⟨by rw [HI.out]; rfl, rfl⟩

/-- What Parse answers. -/
def parseB (s : ByteArray) : Int := if findS s 0 7 = 7 then 0 else findS s 0 7
def perrB (s : ByteArray) : Int := if findS s 0 7 = 7 then 4 else 0

theorem parse_any (s : ByteArray) (W : World) : Calls Try.prog 13 #[.string s] W fun e W' => e = .returned (.tuple #[.int .i64 (parseB s), .int .i64 (perrB s)]) ∧ Below W.heap.size W W' := by
  have hix := hid (fun (W1 : World) (g : Nat) hc => index_any s W1 g hc)
  have hle := findS_le s 7 0 (by omega)
  have hnames := hid (fun (A : Nat) (h : A < 7) => names_at h W)
  have hbl := hid ((Below.refl W.heap.size W).alloc (Nat.le_refl _) (.cells #[.string ⟨#[45]⟩, .string ⟨#[73, 83]⟩, .string ⟨#[73, 88]⟩, .string ⟨#[83]⟩, .string ⟨#[88]⟩, .string ⟨#[82]⟩, .string ⟨#[82, 88]⟩] 9))
  by_cases hf : findS s 0 7 = 7
  · have e1 : idxS s = -1 := by unfold idxS; rw [if_pos hf]
    have e2 : parseB s = 0 := by unfold parseB; rw [if_pos hf]
    have e3 : perrB s = 4 := by unfold perrB; rw [if_pos hf]
    rw [e2, e3]
    have E1 := hid e1
    clear e1 e2 e3 hf hle
    go_enter Try.func13, Try.ntmps13
    go_wp2_with (first
      | (go_at_call 26; ((with_reducible refine (names_any _).mono ?_)); rintro e w1 ⟨rfl, rfl⟩; generalize W.alloc (.cells #[.string ⟨#[45]⟩, .string ⟨#[73, 83]⟩, .string ⟨#[73, 88]⟩, .string ⟨#[83]⟩, .string ⟨#[88]⟩, .string ⟨#[82]⟩, .string ⟨#[82, 88]⟩] 9) = W1 at *)
      | (go_at_call 25; ((with_reducible refine (hix.out _ _ hnames.out).mono ?_)); rintro e w1 ⟨rfl, rfl⟩; rw [E1.out]))
    go_ret2
    exact ⟨rfl, hbl.out⟩
  · have e1 : idxS s = (findS s 0 7 : Nat) := by unfold idxS; rw [if_neg hf]
    have e2 : parseB s = (findS s 0 7 : Nat) := by unfold parseB; rw [if_neg hf]
    have e3 : perrB s = 0 := by unfold perrB; rw [if_neg hf]
    rw [e2, e3]
    generalize findS s 0 7 = n at *
    have E1 := hid e1
    clear e1 e2 e3 hf
    go_enter Try.func13, Try.ntmps13
    go_wp2_with (first
      | (go_at_call 26; ((with_reducible refine (names_any _).mono ?_)); rintro e w1 ⟨rfl, rfl⟩; generalize W.alloc (.cells #[.string ⟨#[45]⟩, .string ⟨#[73, 83]⟩, .string ⟨#[73, 88]⟩, .string ⟨#[83]⟩, .string ⟨#[88]⟩, .string ⟨#[82]⟩, .string ⟨#[82, 88]⟩] 9) = W1 at *)
      | (go_at_call 25; ((with_reducible refine (hix.out _ _ hnames.out).mono ?_)); rintro e w1 ⟨rfl, rfl⟩; rw [E1.out]))
    go_ret2
    exact ⟨rfl, hbl.out⟩
end Go.Proofs.Yteenjllcmgfpcaa
