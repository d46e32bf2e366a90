/-
  Plain laws of a byte of eight bits; a row of bytes of the call's own; a set of pages as bits.
-/
import Derived.Test.YtcblkdocbmpkeaaMem
import Derived.Test.YtcblkdocbmpkeaaProg
import Derived.Maps.AppendAt
import Derived.Deep.AppendLies
import Derived.KernelRfl
import Derived.Laws.BitsAllLaws
open Go Go.RowKit
namespace Go.Proofs.Ytcblkdocbmpkeaa

/-- Eight bits as a number. -/
def valF (f : Nat → Bool) : Nat :=
  (if f 0 then 1 else 0) + (if f 1 then 2 else 0) + (if f 2 then 4 else 0) + (if f 3 then 8 else 0) + (if f 4 then 16 else 0) + (if f 5 then 32 else 0) + (if f 6 then 64 else 0) + (if f 7 then 128 else 0)
def valB (a b c d e f g h : Bool) : Nat :=
  (if a then 1 else 0) + (if b then 2 else 0) + (if c then 4 else 0) + (if d then 8 else 0) + (if e then 16 else 0) + (if f then 32 else 0) + (if g then 64 else 0) + (if h then 128 else 0)
theorem valF_B (f : Nat → Bool) : valF f = valB (f 0) (f 1) (f 2) (f 3) (f 4) (f 5) (f 6) (f 7) := rfl
theorem valF_lt (f : Nat → Bool) : valF f < 256 := by
  unfold valF
  split <;> split <;> split <;> split <;> split <;> split <;> split <;> split <;> omega
theorem eight {k : Nat} (h : k < 8) : k = 0 ∨ k = 1 ∨ k = 2 ∨ k = 3 ∨ k = 4 ∨ k = 5 ∨ k = 6 ∨ k = 7 := by omega
theorem and_all : ∀ a b c d e f g h : Bool, valB a b c d e f g h &&& 1 = (if a then 1 else 0) ∧ valB a b c d e f g h &&& 2 = (if b then 2 else 0) ∧ valB a b c d e f g h &&& 4 = (if c then 4 else 0) ∧ valB a b c d e f g h &&& 8 = (if d then 8 else 0) ∧
    valB a b c d e f g h &&& 16 = (if e then 16 else 0) ∧ valB a b c d e f g h &&& 32 = (if f then 32 else 0) ∧ valB a b c d e f g h &&& 64 = (if g then 64 else 0) ∧ valB a b c d e f g h &&& 128 = (if h then 128 else 0) := by decide +kernel
theorem or_all : ∀ a b c d e f g h : Bool, valB a b c d e f g h ||| 1 = valB true b c d e f g h ∧ valB a b c d e f g h ||| 2 = valB a true c d e f g h ∧ valB a b c d e f g h ||| 4 = valB a b true d e f g h ∧ valB a b c d e f g h ||| 8 = valB a b c true e f g h ∧
    valB a b c d e f g h ||| 16 = valB a b c d true f g h ∧ valB a b c d e f g h ||| 32 = valB a b c d e true g h ∧ valB a b c d e f g h ||| 64 = valB a b c d e f true h ∧ valB a b c d e f g h ||| 128 = valB a b c d e f g true := by decide +kernel
theorem andNot_all : ∀ a b c d e f g h : Bool, valB a b c d e f g h &&& (255 - 1) = valB false b c d e f g h ∧ valB a b c d e f g h &&& (255 - 2) = valB a false c d e f g h ∧ valB a b c d e f g h &&& (255 - 4) = valB a b false d e f g h ∧ valB a b c d e f g h &&& (255 - 8) = valB a b c false e f g h ∧
    valB a b c d e f g h &&& (255 - 16) = valB a b c d false f g h ∧ valB a b c d e f g h &&& (255 - 32) = valB a b c d e false g h ∧ valB a b c d e f g h &&& (255 - 64) = valB a b c d e f false h ∧ valB a b c d e f g h &&& (255 - 128) = valB a b c d e f g false := by decide +kernel
theorem valF_and (f : Nat → Bool) {k : Nat} (hk : k < 8) : valF f &&& 2 ^ k = if f k then 2 ^ k else 0 := by
  obtain ⟨h0, h1, h2, h3, h4, h5, h6, h7⟩ := and_all (f 0) (f 1) (f 2) (f 3) (f 4) (f 5) (f 6) (f 7)
  rw [valF_B]
  rcases eight hk with rfl | rfl | rfl | rfl | rfl | rfl | rfl | rfl <;> assumption
theorem valF_or (f : Nat → Bool) {k : Nat} (hk : k < 8) : valF f ||| 2 ^ k = valF (fun m => if m = k then true else f m) := by
  obtain ⟨h0, h1, h2, h3, h4, h5, h6, h7⟩ := or_all (f 0) (f 1) (f 2) (f 3) (f 4) (f 5) (f 6) (f 7)
  rw [valF_B, valF_B]
  rcases eight hk with rfl | rfl | rfl | rfl | rfl | rfl | rfl | rfl <;> assumption
theorem valF_andNot (f : Nat → Bool) {k : Nat} (hk : k < 8) : valF f &&& (255 - 2 ^ k) = valF (fun m => if m = k then false else f m) := by
  obtain ⟨h0, h1, h2, h3, h4, h5, h6, h7⟩ := andNot_all (f 0) (f 1) (f 2) (f 3) (f 4) (f 5) (f 6) (f 7)
  rw [valF_B, valF_B]
  rcases eight hk with rfl | rfl | rfl | rfl | rfl | rfl | rfl | rfl <;> assumption

/-- The bytes of a set of pages. -/
def tk (T : List Bool) (i : Nat) : Bool := T[i]?.getD false
def byteOf (T : List Bool) (j : Nat) : Nat := valF fun k => tk T (8 * j + k)
def bytesOf (T : List Bool) : List Nat := (List.range ((T.length + 7) / 8)).map (byteOf T)
theorem bytesOf_len (T : List Bool) : (bytesOf T).length = (T.length + 7) / 8 := by simp [bytesOf]
theorem bytesOf_at {T : List Bool} {i : Nat} (h : i < T.length) : (bytesOf T)[i / 8]? = some (byteOf T (i / 8)) := by
  unfold bytesOf
  rw [List.getElem?_map, List.getElem?_range (by omega)]
  rfl
theorem byteOf_lt (T : List Bool) (j : Nat) : byteOf T j < 256 := valF_lt _
theorem byteOf_and (T : List Bool) (i : Nat) : byteOf T (i / 8) &&& 2 ^ (i % 8) = if tk T i then 2 ^ (i % 8) else 0 := by
  unfold byteOf
  rw [valF_and _ (Nat.mod_lt _ (by omega)), show 8 * (i / 8) + i % 8 = i by omega]
theorem tk_set {T : List Bool} {i : Nat} (h : i < T.length) (b : Bool) (m : Nat) : tk (T.set i b) m = if m = i then b else tk T m := by
  unfold tk
  rw [List.getElem?_set]
  by_cases e : i = m
  · subst e
    simp [h]
  · rw [if_neg e, if_neg (fun e' => e e'.symm)]
theorem byteOf_set {T : List Bool} {i : Nat} (h : i < T.length) (b : Bool) (j : Nat) : byteOf (T.set i b) j = if j = i / 8 then valF (fun m => if m = i % 8 then b else tk T (8 * j + m)) else byteOf T j := by
  unfold byteOf
  split
  · rename_i e
    subst e
    congr 1
    funext m
    rw [tk_set h]
    by_cases hm : m = i % 8
    · rw [if_pos hm, if_pos (by omega)]
    · rw [if_neg hm, if_neg (by omega)]
  · rename_i e
    rw [valF_B, valF_B]
    have hs : ∀ k, k < 8 → tk (T.set i b) (8 * j + k) = tk T (8 * j + k) := fun k hk => by rw [tk_set h, if_neg (by omega)]
    rw [hs 0 (by omega), hs 1 (by omega), hs 2 (by omega), hs 3 (by omega), hs 4 (by omega), hs 5 (by omega), hs 6 (by omega), hs 7 (by omega)]
theorem bytesOf_set {T : List Bool} {i : Nat} (h : i < T.length) (b : Bool) : bytesOf (T.set i b) = (bytesOf T).set (i / 8) (valF (fun m => if m = i % 8 then b else tk T (8 * (i / 8) + m))) := by
  apply List.ext_getElem?
  intro j
  rw [List.getElem?_set]
  unfold bytesOf
  simp only [List.length_set, List.length_map, List.length_range, List.getElem?_map]
  rcases Nat.lt_or_ge j ((T.length + 7) / 8) with hj | hj
  · rw [List.getElem?_range hj]
    simp only [Option.map_some, byteOf_set h]
    by_cases e : i / 8 = j
    · subst e
      simp
      omega
    · rw [if_neg e, if_neg (fun e' => e e'.symm)]
  · rw [List.getElem?_eq_none (by simpa using hj)]
    have : ¬ i / 8 = j := by omega
    rw [if_neg this]
    rfl
theorem bytesOf_or {T : List Bool} {i : Nat} (h : i < T.length) : bytesOf (T.set i true) = (bytesOf T).set (i / 8) (byteOf T (i / 8) ||| 2 ^ (i % 8)) := by
  rw [bytesOf_set h, byteOf, valF_or _ (Nat.mod_lt _ (by omega))]
theorem bytesOf_andNot {T : List Bool} {i : Nat} (h : i < T.length) : bytesOf (T.set i false) = (bytesOf T).set (i / 8) (byteOf T (i / 8) &&& (255 - 2 ^ (i % 8))) := by
  rw [bytesOf_set h, byteOf, valF_andNot _ (Nat.mod_lt _ (by omega))]
theorem pow_lt {i : Nat} : 2 ^ (i % 8) < 256 := by
  rcases eight (show i % 8 < 8 from Nat.mod_lt _ (by omega)) with h | h | h | h | h | h | h | h <;> rw [h] <;> decide
theorem pow_pos {i : Nat} : 0 < 2 ^ (i % 8) := Nat.two_pow_pos _

theorem u8_info : (Try.prog.info? 5).map (fun i => (i.zero, i.size, i.bytes)) = some (some (.int .u8 0), 1, 1) := by kernel_rfl

/-- The slice value v owns a row of the bytes D. -/
def Byts (w : World) (B : Nat) (v : Value) (D : List Nat) : Prop := w.ownsRow B 5 1 v D.length (D.map fun (x : Nat) => Value.int .u8 (x : Int))

section
variable {w w' : World} {B : Nat} {v : Value} {D : List Nat}
theorem Byts.form (h : Byts w B v D) (hn : 0 < D.length) : ∃ g cap, v = .slice (some ⟨g, 0, none⟩) D.length cap ∧ B ≤ g ∧ g < w.heap.size :=
  World.ownsRow.form h hn
theorem Byts.shape (h : Byts w B v D) : ∃ a cap, v = .slice a D.length cap := by
  rcases h.2 with ⟨h', h0⟩ | ⟨g, cap, cur, h', _⟩
  · exact ⟨none, 0, by rw [h', h0]⟩
  · exact ⟨_, _, h'⟩
theorem Byts.cap (h : Byts w B v D) {a : Option Addr} {n cap : Nat} (e : v = .slice a n cap) : n ≤ cap ∧ cap ≤ maxLen := by
  rcases h.2 with ⟨h', h0⟩ | ⟨g, cap', cur, h', _, _, h1, h2, _⟩
  · rw [h'] at e; simp at e; omega
  · rw [h'] at e; simp at e; omega
theorem Byts.block (h : Byts w B v D) {g : Nat} (hg : v.ownBlock = some g) : B ≤ g ∧ ∃ cur : Array Value, Blk w g 5 cur := by
  rcases h.2 with ⟨h', _⟩ | ⟨g', cap', cur, h', hb, hh, _⟩
  · rw [h'] at hg; simp [Value.ownBlock] at hg
  · rw [h'] at hg
    simp [Value.ownBlock] at hg
    subst hg
    exact ⟨hb, cur, hh⟩
theorem Byts.alloc (h : Byts w B v D) (o : Obj) : Byts (w.alloc o) B v D := World.ownsRow.alloc h o
theorem Byts.drewN (h : Byts w B v D) (n : Nat) : Byts (w.drewN n) B v D := h
theorem Byts.keep {S : Nat → Prop} (h : Byts w B v D) (ho : Only S w w') (hn : ∀ g, v.ownBlock = some g → ¬ S g) : Byts w' B v D := ho.own h hn
theorem Byts.len {a : Option Addr} {n cap : Nat} (h : Byts w B (.slice a n cap) D) : n = D.length := by
  rcases h.2 with ⟨h', h0⟩ | ⟨g', cap', cur, h', _⟩
  · simp at h'; omega
  · simp at h'; exact h'.2.1
theorem Byts.cell {g n cap i : Nat} (h : Byts w B (.slice (some ⟨g, 0, none⟩) n cap) D) {d : Nat} (hd : D[i]? = some d) : w.cell? ⟨g, i, none⟩ = some (.int .u8 (d : Int)) := by
  have hi : i < D.length := by
    rcases Nat.lt_or_ge i D.length with h1 | h1
    · exact h1
    · rw [List.getElem?_eq_none h1] at hd; cases hd
  have hn := h.len
  subst hn
  have := World.ownsRow.cellAt h i (by omega)
  rw [this]
  simp [hd]
theorem Byts.frozen {g n cap : Nat} (h : Byts w B (.slice (some ⟨g, 0, none⟩) n cap) D) (i : Nat) : w.frozen? ⟨g, i, none⟩ = false := by
  have hn := h.len
  subst hn
  exact World.ownsRow.frozenAt h i
theorem Byts.store {g n cap : Nat} (h : Byts w B (.slice (some ⟨g, 0, none⟩) n cap) D) (i : Nat) (d : Nat) :
    Byts (w.setCell ⟨g, i, none⟩ (.int .u8 (d : Int))) B (.slice (some ⟨g, 0, none⟩) n cap) (D.set i d) := by
  have hn := h.len
  subst hn
  have := (World.ownsRow.stored h i (.int .u8 (d : Int))).1
  unfold Byts
  rw [List.length_set, List.map_set]
  exact this
end
end Go.Proofs.Ytcblkdocbmpkeaa
