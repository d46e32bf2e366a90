/-
  A row of units of the call's own (type t: the package's own Unit, or the document's).
-/
import Derived.Test.YtgnhfipmeljffaaAft
open Go Go.RowKit
namespace Go.Proofs.Ytgnhfipmeljffaa

theorem unit_info : (Try.prog.info? 38).map (fun i => (i.zero, i.size, i.bytes)) = some (some (.agg #[.int .i64 0, .int .i64 0]), 2, 16) := by kernel_rfl
theorem unitR_info : (Try.prog.info? 47).map (fun i => (i.zero, i.size, i.bytes)) = some (some (.agg #[.int .i64 0, .int .i64 0]), 2, 16) := by kernel_rfl

def ucells (U : List (Int × Int)) : List Value := U.flatMap fun u => [.int .i64 u.1, .int .i64 u.2]
theorem ucells_snoc (U : List (Int × Int)) (u : Int × Int) : ucells (U ++ [u]) = ucells U ++ [.int .i64 u.1, .int .i64 u.2] := by simp [ucells]
theorem ucells_len (U : List (Int × Int)) : (ucells U).length = U.length * 2 := by
  induction U with
  | nil => rfl
  | cons u r ih => simp [ucells] at ih ⊢; omega
theorem ucells_at : ∀ (U : List (Int × Int)) (i : Nat) (u : Int × Int), U[i]? = some u → (ucells U)[i * 2]? = some (.int .i64 u.1) ∧ (ucells U)[i * 2 + 1]? = some (.int .i64 u.2) := by
  intro U
  induction U with
  | nil => intro i u h; simp at h
  | cons x r ih =>
    intro i u h
    cases i with
    | zero => simp at h; subst h; exact ⟨rfl, rfl⟩
    | succ i =>
      have e : (i + 1) * 2 = i * 2 + 1 + 1 := by omega
      rw [e]
      exact ih i u (by simpa using h)

/-- The slice value v owns a row of the units U, of type t. -/
def Uns (t : TypeId) (w : World) (B : Nat) (v : Value) (U : List (Int × Int)) : Prop := w.ownsRow B t 2 v U.length (ucells U)

section
variable {t : TypeId} {w w' : World} {B : Nat} {v : Value} {U : List (Int × Int)}
theorem Uns.nil (w : World) (B : Nat) : Uns t w B (.slice none 0 0) [] := World.ownsRow_nil w B _ 2
theorem Uns.empty {B : Nat} (h : B ≤ w.heap.size) : Uns t (w.alloc (.cells #[] t)) B (.slice (some ⟨w.heap.size, 0, none⟩) 0 0) [] := World.ownsRow_lit w #[] 0 h (by unfold maxLen; omega) (by simp)
theorem Uns.shape (h : Uns t w B v U) : ∃ a cap, v = .slice a U.length cap := by
  rcases h.2 with ⟨h', h0⟩ | ⟨g, cap, cur, h', _⟩
  · exact ⟨none, 0, by rw [h', h0]⟩
  · exact ⟨_, _, h'⟩
theorem Uns.block (h : Uns t w B v U) {g : Nat} (hg : v.ownBlock = some g) : B ≤ g ∧ ∃ cur : Array Value, Blk w g t cur := by
  rcases h.2 with ⟨h', _⟩ | ⟨g', cap', cur, h', hb, hh, _⟩
  · rw [h'] at hg; simp [Value.ownBlock] at hg
  · rw [h'] at hg
    simp [Value.ownBlock] at hg
    subst hg
    exact ⟨hb, cur, hh⟩
theorem Uns.alloc (h : Uns t w B v U) (o : Obj) : Uns t (w.alloc o) B v U := World.ownsRow.alloc h o
theorem Uns.keep {S : Nat → Prop} (h : Uns t w B v U) (ho : Only S w w') (hn : ∀ g, v.ownBlock = some g → ¬ S g) : Uns t w' B v U := ho.own h hn
theorem RdU.of_own (h : Uns t w B v U) : RdU w w.heap.size v U := by
  rcases h.2 with ⟨h', h0⟩ | ⟨g, cap, cur, h', hb, hh, hn, hm, _⟩
  · have hD : U = [] := List.eq_nil_of_length_eq_zero h0
    subst hD
    rw [h']
    exact ⟨none, 0, rfl, Nat.le_refl _, by unfold maxLen; omega, fun h => absurd h (by simp)⟩
  · refine ⟨_, _, h', hn, hm, fun hp => ⟨g, 0, rfl, ?_, fun i u hu => ?_⟩⟩
    · rcases Nat.lt_or_ge g w.heap.size with h | h
      · exact h
      · rw [Array.getElem?_eq_none h] at hh; cases hh
    · rw [h'] at h
      have hi : i < U.length := by
        rcases Nat.lt_or_ge i U.length with h1 | h1
        · exact h1
        · rw [List.getElem?_eq_none h1] at hu; cases hu
      obtain ⟨k1, k2⟩ := ucells_at U i u hu
      have c1 := World.ownsRow.cellAt h (i * 2) (by omega)
      have c2 := World.ownsRow.cellAt h (i * 2 + 1) (by omega)
      rw [k1] at c1
      rw [k2] at c2
      simp only [Nat.zero_add]
      exact ⟨c1, c2⟩
end

/-- append(v, u): v owns a row; u lies in a literal of one unit that has just been made. -/
theorem wpList_pushU {w : World} {ops : Array Oper} {rest : List Oper} {o : Oper} {a : Act} {Q : Exit → Act → World → Prop} (st t : TypeId)
    (hinf : (Try.prog.info? t).map (fun i => (i.zero, i.size, i.bytes)) = some (some (.agg #[.int .i64 0, .int .i64 0]), 2, 16)) (hund : Try.prog.underlying st = some (.slice t)) (hgd : o.guard = none) (s x : Operand)
    (ho : o.op = .call { callee := .builtin .append, args := #[s, x], argTypes := #[st, st] })
    (B : Nat) (v : Value) (U : List (Int × Int)) (u : Int × Int) (hs : a.eval s = v) (hown : Uns t w B v U) (hx : a.eval x = .slice (some ⟨w.heap.size, 0, none⟩) 1 1)
    (hlen : U.length < 1000000) (hbase : B ≤ w.heap.size)
    (h : ∀ v' w', Uns t w' B v' (U ++ [u]) → Only (fun k => v.ownBlock = some k) w w' → wpList Try.prog ops Q rest (a.put o.dst v') w') :
    wpList Try.prog ops Q (o :: rest) a (w.alloc (.cells #[.int .i64 u.1, .int .i64 u.2] t)) := by
  obtain ⟨i0, hi, hz0, hz1, hz2⟩ := info_parts hinf
  refine wpList_append_own _ hgd s x st ho B t i0 (.agg #[.int .i64 0, .int .i64 0]) 2 16 hund hi hz0 hz1 hz2 rfl (by decide) v U.length (ucells U) hs (hown.alloc _)
    ⟨w.heap.size, 0, none⟩ 1 1 [.int .i64 u.1, .int .i64 u.2] hx rfl ?_ (by simp [Value.oneCell']) (by unfold maxLen; omega) (by omega) (by simp; omega) ?_
  · intro j y hy
    have hb := Blk.new w t #[.int .i64 u.1, .int .i64 u.2]
    match j, hy with
    | 0, hy => simp at hy; subst hy; exact hb.cell 0
    | 1, hy => simp at hy; subst hy; exact hb.cell 1
    | j + 2, hy => simp at hy
  intro v' w' hown' hgrow _
  refine h v' w' (by unfold Uns; rw [ucells_snoc]; simpa using hown') ?_
  exact (((Only.refl _ w).alloc _).grown hgrow (fun k hk => .inl hk))
end Go.Proofs.Ytgnhfipmeljffaa
