/-
  The fixed calls of the shelf's statements.
-/
import Derived.Test.YtcblkdocbmpkeaaSx
import Derived.Test.YtcblkdocbmpkeaaRi
open Go Go.RowKit
namespace Go.Proofs.Ytcblkdocbmpkeaa

def zeroB : ByteArray := ⟨(List.replicate 253 (0 : UInt8)).toArray⟩
theorem zeroB_size : zeroB.size = 253 := by decide +kernel
theorem Sh.beside {w w' : World} {B' S' p' mb' mb : Nat} {v v' : Value} {M' : Mt} (h' : Sh w B' S' p' mb' v' M') (ho : Only (ShO v mb) w w') (hn : mb < B' ∧ ∀ k, v.ownBlock = some k → k < B') : Sh w' B' S' p' mb' v' M' := by
  have hlt : ∀ k, ShO v mb k → k < B' := fun k e => by
    rcases e with rfl | e
    · exact hn.1
    · exact hn.2 k e
  refine h'.keep ho (fun e => ?_) (fun e => ?_) (fun k hk e => ?_)
  · have := hlt _ e; have := h'.b1; omega
  · have := hlt _ e; have := h'.bt.base; omega
  · have h1 := hlt _ e
    rcases hk with rfl | hk
    · have := h'.b2; omega
    · have := (h'.bt.row.block hk).1; omega
theorem Sh.small {w : World} {B S p mb : Nat} {v : Value} {M : Mt} (h : Sh w B S p mb v M) : mb < w.heap.size ∧ ∀ k, v.ownBlock = some k → k < w.heap.size :=
  ⟨h.mp.lt, fun _ e => (h.bt.row.block e).2.elim fun _ hc => hc.lt⟩
section
variable {W : World} {B S p mb : Nat} {v : Value}
theorem fx0 (h : Sh W B S p mb v [none, none]) : Calls Try.prog 8 #[.pointer (some ⟨S, 0, none⟩)] W fun e W' => e = .returned (.tuple #[.int .i64 0, .int .i64 0]) ∧ Sh W' B S p mb v [some (⟨#[]⟩ : ByteArray), none] ∧ Only (ShO v mb) W W' := by
  have := take_s h
  rw [show takeMX [none, none] = 0 by decide +kernel] at this
  rw [show takeME [none, none] = 0 by decide +kernel] at this
  rw [show takeM [none, none] = [some (⟨#[]⟩ : ByteArray), none] by decide +kernel] at this
  exact this
theorem fx1 (h : Sh W B S p mb v [some (⟨#[]⟩ : ByteArray), none]) : Calls Try.prog 8 #[.pointer (some ⟨S, 0, none⟩)] W fun e W' => e = .returned (.tuple #[.int .i64 1, .int .i64 0]) ∧ Sh W' B S p mb v [some (⟨#[]⟩ : ByteArray), some (⟨#[]⟩ : ByteArray)] ∧ Only (ShO v mb) W W' := by
  have := take_s h
  rw [show takeMX [some (⟨#[]⟩ : ByteArray), none] = 1 by decide +kernel] at this
  rw [show takeME [some (⟨#[]⟩ : ByteArray), none] = 0 by decide +kernel] at this
  rw [show takeM [some (⟨#[]⟩ : ByteArray), none] = [some (⟨#[]⟩ : ByteArray), some (⟨#[]⟩ : ByteArray)] by decide +kernel] at this
  exact this
theorem fx2 (h : Sh W B S p mb v [some (⟨#[]⟩ : ByteArray), some (⟨#[]⟩ : ByteArray)]) : Calls Try.prog 8 #[.pointer (some ⟨S, 0, none⟩)] W fun e W' => e = .returned (.tuple #[.int .i64 0, .int .i64 6]) ∧ Sh W' B S p mb v [some (⟨#[]⟩ : ByteArray), some (⟨#[]⟩ : ByteArray)] ∧ Only (ShO v mb) W W' := by
  have := take_s h
  rw [show takeMX [some (⟨#[]⟩ : ByteArray), some (⟨#[]⟩ : ByteArray)] = 0 by decide +kernel] at this
  rw [show takeME [some (⟨#[]⟩ : ByteArray), some (⟨#[]⟩ : ByteArray)] = 6 by decide +kernel] at this
  rw [show takeM [some (⟨#[]⟩ : ByteArray), some (⟨#[]⟩ : ByteArray)] = [some (⟨#[]⟩ : ByteArray), some (⟨#[]⟩ : ByteArray)] by decide +kernel] at this
  exact this
theorem fx3 (h : Sh W B S p mb v [some (⟨#[]⟩ : ByteArray), some (⟨#[]⟩ : ByteArray)]) : Calls Try.prog 11 #[.pointer (some ⟨S, 0, none⟩), .int .i64 0, .string (⟨#[120]⟩ : ByteArray)] W fun e W' => e = .returned (.int .i64 0) ∧ Sh W' B S p mb v [some (⟨#[120]⟩ : ByteArray), some (⟨#[]⟩ : ByteArray)] ∧ Only (ShO v mb) W W' := by
  have := write_s h 0 (⟨#[120]⟩ : ByteArray)
  rw [show writeE [some (⟨#[]⟩ : ByteArray), some (⟨#[]⟩ : ByteArray)] 0 (⟨#[120]⟩ : ByteArray) = 0 by decide +kernel] at this
  rw [show writeM [some (⟨#[]⟩ : ByteArray), some (⟨#[]⟩ : ByteArray)] 0 (⟨#[120]⟩ : ByteArray) = [some (⟨#[120]⟩ : ByteArray), some (⟨#[]⟩ : ByteArray)] by decide +kernel] at this
  exact this
theorem fx4 (h : Sh W B S p mb v [some (⟨#[120]⟩ : ByteArray), some (⟨#[]⟩ : ByteArray)]) : Calls Try.prog 11 #[.pointer (some ⟨S, 0, none⟩), .int .i64 1, .string (⟨#[121]⟩ : ByteArray)] W fun e W' => e = .returned (.int .i64 0) ∧ Sh W' B S p mb v [some (⟨#[120]⟩ : ByteArray), some (⟨#[121]⟩ : ByteArray)] ∧ Only (ShO v mb) W W' := by
  have := write_s h 1 (⟨#[121]⟩ : ByteArray)
  rw [show writeE [some (⟨#[120]⟩ : ByteArray), some (⟨#[]⟩ : ByteArray)] 1 (⟨#[121]⟩ : ByteArray) = 0 by decide +kernel] at this
  rw [show writeM [some (⟨#[120]⟩ : ByteArray), some (⟨#[]⟩ : ByteArray)] 1 (⟨#[121]⟩ : ByteArray) = [some (⟨#[120]⟩ : ByteArray), some (⟨#[121]⟩ : ByteArray)] by decide +kernel] at this
  exact this
theorem fx5 (h : Sh W B S p mb v [some (⟨#[120]⟩ : ByteArray), some (⟨#[121]⟩ : ByteArray)]) : Calls Try.prog 12 #[.pointer (some ⟨S, 0, none⟩), .int .i64 0, .int .i64 1] W fun e W' => e = .returned (.int .i64 0) ∧ Sh W' B S p mb v [some (⟨#[121]⟩ : ByteArray), some (⟨#[120]⟩ : ByteArray)] ∧ Only (ShO v mb) W W' := by
  have := swap_s h 0 1
  rw [show swapE [some (⟨#[120]⟩ : ByteArray), some (⟨#[121]⟩ : ByteArray)] 0 1 = 0 by decide +kernel] at this
  rw [show swapM [some (⟨#[120]⟩ : ByteArray), some (⟨#[121]⟩ : ByteArray)] 0 1 = [some (⟨#[121]⟩ : ByteArray), some (⟨#[120]⟩ : ByteArray)] by decide +kernel] at this
  exact this
theorem fx6 (h : Sh W B S p mb v [some (⟨#[121]⟩ : ByteArray), some (⟨#[120]⟩ : ByteArray)]) : Calls Try.prog 13 #[.pointer (some ⟨S, 0, none⟩), .int .i64 0] W fun e W' => e = .returned (.tuple #[.string (⟨#[121]⟩ : ByteArray), .int .i64 0]) ∧ W' = W := by
  have := read_s h 0
  rw [show readS [some (⟨#[121]⟩ : ByteArray), some (⟨#[120]⟩ : ByteArray)] 0 = (⟨#[121]⟩ : ByteArray) by decide +kernel] at this
  rw [show readE [some (⟨#[121]⟩ : ByteArray), some (⟨#[120]⟩ : ByteArray)] 0 = 0 by decide +kernel] at this
  exact this
theorem fx8 (h : Sh W B S p mb v [some (⟨#[121]⟩ : ByteArray), some (⟨#[120]⟩ : ByteArray)]) : Calls Try.prog 10 #[.pointer (some ⟨S, 0, none⟩), .int .i64 0] W fun e W' => e = .returned (.int .i64 0) ∧ Sh W' B S p mb v [none, some (⟨#[120]⟩ : ByteArray)] ∧ Only (ShO v mb) W W' := by
  have := give_s h 0
  rw [show giveE (tks [some (⟨#[121]⟩ : ByteArray), some (⟨#[120]⟩ : ByteArray)]) 0 = 0 by decide +kernel] at this
  rw [show giveM [some (⟨#[121]⟩ : ByteArray), some (⟨#[120]⟩ : ByteArray)] 0 = [none, some (⟨#[120]⟩ : ByteArray)] by decide +kernel] at this
  exact this
theorem fx9 (h : Sh W B S p mb v [none, some (⟨#[120]⟩ : ByteArray)]) : Calls Try.prog 10 #[.pointer (some ⟨S, 0, none⟩), .int .i64 0] W fun e W' => e = .returned (.int .i64 7) ∧ Sh W' B S p mb v [none, some (⟨#[120]⟩ : ByteArray)] ∧ Only (ShO v mb) W W' := by
  have := give_s h 0
  rw [show giveE (tks [none, some (⟨#[120]⟩ : ByteArray)]) 0 = 7 by decide +kernel] at this
  rw [show giveM [none, some (⟨#[120]⟩ : ByteArray)] 0 = [none, some (⟨#[120]⟩ : ByteArray)] by decide +kernel] at this
  exact this
theorem fx10 (h : Sh W B S p mb v [none, some (⟨#[120]⟩ : ByteArray)]) : Calls Try.prog 13 #[.pointer (some ⟨S, 0, none⟩), .int .i64 0] W fun e W' => e = .returned (.tuple #[.string (⟨#[]⟩ : ByteArray), .int .i64 7]) ∧ W' = W := by
  have := read_s h 0
  rw [show readS [none, some (⟨#[120]⟩ : ByteArray)] 0 = (⟨#[]⟩ : ByteArray) by decide +kernel] at this
  rw [show readE [none, some (⟨#[120]⟩ : ByteArray)] 0 = 7 by decide +kernel] at this
  exact this
theorem fx11 (h : Sh W B S p mb v [none, some (⟨#[120]⟩ : ByteArray)]) : Calls Try.prog 13 #[.pointer (some ⟨S, 0, none⟩), .int .i64 2] W fun e W' => e = .returned (.tuple #[.string (⟨#[]⟩ : ByteArray), .int .i64 1]) ∧ W' = W := by
  have := read_s h 2
  rw [show readS [none, some (⟨#[120]⟩ : ByteArray)] 2 = (⟨#[]⟩ : ByteArray) by decide +kernel] at this
  rw [show readE [none, some (⟨#[120]⟩ : ByteArray)] 2 = 1 by decide +kernel] at this
  exact this
theorem fx13 (h : Sh W B S p mb v [none, some (⟨#[120]⟩ : ByteArray)]) : Calls Try.prog 11 #[.pointer (some ⟨S, 0, none⟩), .int .i64 1, .string zeroB] W fun e W' => e = .returned (.int .i64 2) ∧ Sh W' B S p mb v [none, some (⟨#[120]⟩ : ByteArray)] ∧ Only (ShO v mb) W W' := by
  have := write_s h 1 zeroB
  rw [show writeE [none, some (⟨#[120]⟩ : ByteArray)] 1 zeroB = 2 by decide +kernel] at this
  rw [show writeM [none, some (⟨#[120]⟩ : ByteArray)] 1 zeroB = [none, some (⟨#[120]⟩ : ByteArray)] by decide +kernel] at this
  exact this
theorem fx14 (h : Sh W B S p mb v [none, some (⟨#[120]⟩ : ByteArray)]) : Calls Try.prog 9 #[.pointer (some ⟨S, 0, none⟩), .int .i64 1] W fun e W' => e = .returned (.int .i64 8) ∧ Sh W' B S p mb v [none, some (⟨#[120]⟩ : ByteArray)] ∧ Only (ShO v mb) W W' := by
  have := takeAt_s h 1
  rw [show takeE (tks [none, some (⟨#[120]⟩ : ByteArray)]) 1 = 8 by decide +kernel] at this
  rw [show takeAtM [none, some (⟨#[120]⟩ : ByteArray)] 1 = [none, some (⟨#[120]⟩ : ByteArray)] by decide +kernel] at this
  exact this
theorem fx15 (h : Sh W B S p mb v [none, some (⟨#[120]⟩ : ByteArray)]) : Calls Try.prog 12 #[.pointer (some ⟨S, 0, none⟩), .int .i64 1, .int .i64 0] W fun e W' => e = .returned (.int .i64 7) ∧ Sh W' B S p mb v [none, some (⟨#[120]⟩ : ByteArray)] ∧ Only (ShO v mb) W W' := by
  have := swap_s h 1 0
  rw [show swapE [none, some (⟨#[120]⟩ : ByteArray)] 1 0 = 7 by decide +kernel] at this
  rw [show swapM [none, some (⟨#[120]⟩ : ByteArray)] 1 0 = [none, some (⟨#[120]⟩ : ByteArray)] by decide +kernel] at this
  exact this
theorem fx16 (h : Sh W B S p mb v [none, some (⟨#[120]⟩ : ByteArray)]) : Calls Try.prog 9 #[.pointer (some ⟨S, 0, none⟩), .int .i64 0] W fun e W' => e = .returned (.int .i64 0) ∧ Sh W' B S p mb v [some (⟨#[]⟩ : ByteArray), some (⟨#[120]⟩ : ByteArray)] ∧ Only (ShO v mb) W W' := by
  have := takeAt_s h 0
  rw [show takeE (tks [none, some (⟨#[120]⟩ : ByteArray)]) 0 = 0 by decide +kernel] at this
  rw [show takeAtM [none, some (⟨#[120]⟩ : ByteArray)] 0 = [some (⟨#[]⟩ : ByteArray), some (⟨#[120]⟩ : ByteArray)] by decide +kernel] at this
  exact this
theorem fx17 (h : Sh W B S p mb v [some (⟨#[]⟩ : ByteArray), some (⟨#[120]⟩ : ByteArray)]) : Calls Try.prog 13 #[.pointer (some ⟨S, 0, none⟩), .int .i64 0] W fun e W' => e = .returned (.tuple #[.string (⟨#[]⟩ : ByteArray), .int .i64 0]) ∧ W' = W := by
  have := read_s h 0
  rw [show readS [some (⟨#[]⟩ : ByteArray), some (⟨#[120]⟩ : ByteArray)] 0 = (⟨#[]⟩ : ByteArray) by decide +kernel] at this
  rw [show readE [some (⟨#[]⟩ : ByteArray), some (⟨#[120]⟩ : ByteArray)] 0 = 0 by decide +kernel] at this
  exact this
theorem fx18 (h : Sh W B S p mb v [some (⟨#[121]⟩ : ByteArray), some (⟨#[120]⟩ : ByteArray)]) : Calls Try.prog 13 #[.pointer (some ⟨S, 0, none⟩), .int .i64 0] W fun e W' => e = .returned (.tuple #[.string (⟨#[121]⟩ : ByteArray), .int .i64 0]) ∧ W' = W := by
  have := read_s h 0
  rw [show readS [some (⟨#[121]⟩ : ByteArray), some (⟨#[120]⟩ : ByteArray)] 0 = (⟨#[121]⟩ : ByteArray) by decide +kernel] at this
  rw [show readE [some (⟨#[121]⟩ : ByteArray), some (⟨#[120]⟩ : ByteArray)] 0 = 0 by decide +kernel] at this
  exact this
end
end Go.Proofs.Ytcblkdocbmpkeaa
