/-
  A slice value that reads as a list of ints, wherever it lies (nil let in): cut, read, appended onto a row of the call's own.
-/
import Derived.Test.YtcblkdocbmpkeaaInts
import Derived.Laws.Slices
open Go Go.RowKit
namespace Go.Proofs.Ytcblkdocbmpkeaa

/-- The slice value v reads as the ints D; it lies below block B. -/
def RdI (w : World) (B : Nat) (v : Value) (D : List Int) : Prop :=
  ∃ a cap, v = .slice a D.length cap ∧ D.length ≤ cap ∧ cap ≤ maxLen ∧ (0 < D.length → ∃ g off, a = some ⟨g, off, none⟩ ∧ g < B ∧ ∀ (i : Nat) (d : Int), D[i]? = some d → w.cell? ⟨g, off + i, none⟩ = some (.int .i64 d))

section
variable {w w' : World} {B B' : Nat} {v : Value} {D E : List Int}
theorem RdI.nil_ (w : World) (B : Nat) : RdI w B (.slice none 0 0) [] := ⟨none, 0, rfl, Nat.le_refl _, by unfold maxLen; omega, fun h => absurd h (by simp)⟩
theorem RdI.keep (h : RdI w B v D) (hk : ∀ g off, g < B → w'.cell? ⟨g, off, none⟩ = w.cell? ⟨g, off, none⟩) : RdI w' B v D := by
  obtain ⟨a, cap, h1, h2, h3, h4⟩ := h
  refine ⟨a, cap, h1, h2, h3, fun hn => ?_⟩
  obtain ⟨g, off, e, hg, hc⟩ := h4 hn
  exact ⟨g, off, e, hg, fun i d hd => (hk g _ hg).trans (hc i d hd)⟩
theorem RdI.below (h : RdI w B v D) (hb : Below B w w') : RdI w' B v D := h.keep fun g off hg => hb.cell (p := ⟨g, off, none⟩) hg
theorem RdI.more (h : RdI w B v D) (hB : B ≤ B') : RdI w B' v D := by
  obtain ⟨a, cap, h1, h2, h3, h4⟩ := h
  refine ⟨a, cap, h1, h2, h3, fun hn => ?_⟩
  obtain ⟨g, off, e, hg, hc⟩ := h4 hn
  exact ⟨g, off, e, by omega, hc⟩
theorem RdI.at_ {a : Option Addr} {n cap i : Nat} (h : RdI w B (.slice a n cap) D) {d : Int} (hd : D[i]? = some d) :
    ∃ g off, a = some ⟨g, off, none⟩ ∧ g < B ∧ w.cell? ⟨g, off + i, none⟩ = some (.int .i64 d) := by
  obtain ⟨a', cap', h1, h2, h3, h4⟩ := h
  have hi : i < D.length := by
    rcases Nat.lt_or_ge i D.length with h | h
    · exact h
    · rw [List.getElem?_eq_none h] at hd; cases hd
  simp only [Value.slice.injEq] at h1
  obtain ⟨rfl, rfl, rfl⟩ := h1
  obtain ⟨g, off, e, hg, hc⟩ := h4 (by omega)
  exact ⟨g, off, e, hg, hc i d hd⟩
theorem RdI.shape (h : RdI w B v D) : ∃ a cap, v = .slice a D.length cap ∧ D.length ≤ cap ∧ cap ≤ maxLen := by
  obtain ⟨a', cap', h1, h2, h3, _⟩ := h
  exact ⟨a', cap', h1, h2, h3⟩
theorem RdI.of_own (h : Ints w B v D) : RdI w w.heap.size v D := by
  rcases h.2 with ⟨h', h0⟩ | ⟨g, cap, cur, h', hb, hh, hn, hm, _⟩
  · have hD : D = [] := List.eq_nil_of_length_eq_zero h0
    subst hD
    rw [h']
    exact RdI.nil_ _ _
  · refine ⟨_, _, h', hn, hm, fun hp => ⟨g, 0, rfl, ?_, fun i d hd => ?_⟩⟩
    · rcases Nat.lt_or_ge g w.heap.size with h | h
      · exact h
      · rw [Array.getElem?_eq_none h] at hh; cases hh
    · rw [h'] at h
      have := h.cell hd
      simpa using this

theorem size_int : ∀ W, (sizeOf 3).run Try.prog W = .ok 1 W := by
  obtain ⟨i0, hi, hz0, hz1, hz2⟩ := info_parts int_info
  intro W
  simp [sizeOf, typeInfo, hi, hz1]

theorem rd_sliced {a : Option Addr} {n cap : Nat} (h : RdI w B (.slice a n cap) D) (lo hi mx : Nat) (h1 : lo ≤ hi) (h2 : hi ≤ D.length) (h3 : hi ≤ mx) (h4 : mx ≤ cap) : RdI w B (sliced a lo hi mx 1) ((D.take hi).drop lo) := by
  obtain ⟨a', cap', e1, e2, e3, e4⟩ := h
  simp only [Value.slice.injEq] at e1
  obtain ⟨rfl, rfl, rfl⟩ := e1
  have hl : ((D.take hi).drop lo).length = hi - lo := by simp; omega
  refine ⟨_, _, by rw [hl]; rfl, by rw [hl]; omega, by omega, fun hp => ?_⟩
  rw [hl] at hp
  obtain ⟨g, off, rfl, hg, hc⟩ := e4 (by omega)
  have hne : ¬ mx = lo := by omega
  refine ⟨g, off + lo, ?_, hg, fun i d hd => ?_⟩
  · simp only [hne, if_false, Option.map_some, Nat.mul_one, Addr.add]
    by_cases h0 : lo = 0
    · simp [h0]
    · simp [h0]
  · rw [List.getElem?_drop, List.getElem?_take] at hd
    split at hd
    · have := hc _ d hd
      rw [Nat.add_assoc]
      exact this
    · cases hd

/-- A cut of such a slice. -/
theorem run_sub {a : Option Addr} {n cap : Nat} (h : RdI w B (.slice a n cap) D) (lo hi : Nat) (h1 : lo ≤ hi) (h2 : hi ≤ D.length) :
    ∃ v', (∀ W, (Instr.slice 52 (.slice a n cap) (some (.int .i64 (lo : Int))) (some (.int .i64 (hi : Int))) none).run Try.prog W = .ok v' W) ∧ RdI w B v' ((D.take hi).drop lo) := by
  have hs := h.shape
  obtain ⟨a', cap', e, e2, e3⟩ := hs
  simp only [Value.slice.injEq] at e
  obtain ⟨rfl, rfl, rfl⟩ := e
  refine ⟨_, fun W => ?_, rd_sliced h lo hi cap h1 h2 (by omega) (Nat.le_refl _)⟩
  rw [run_slice_lh W 52 a D.length cap (by kernel_rfl) .i64 .i64 lo hi (by omega) (by omega) (by omega)]
  have he : Try.prog.elem 52 = 3 := by kernel_rfl
  rw [he, size_int]
  simp

/-- The rest of such a slice. -/
theorem run_from {a : Option Addr} {n cap : Nat} (h : RdI w B (.slice a n cap) D) (lo : Nat) (h1 : lo ≤ D.length) :
    ∃ v', (∀ W, (Instr.slice 52 (.slice a n cap) (some (.int .i64 (lo : Int))) none none).run Try.prog W = .ok v' W) ∧ RdI w B v' (D.drop lo) := by
  have hs := h.shape
  obtain ⟨a', cap', e, e2, e3⟩ := hs
  simp only [Value.slice.injEq] at e
  obtain ⟨rfl, rfl, rfl⟩ := e
  refine ⟨sliced a lo D.length cap 1, fun W => ?_, by simpa using rd_sliced h lo D.length cap h1 (Nat.le_refl _) e2 (Nat.le_refl _)⟩
  rw [run_slice_l W 52 a D.length cap (by kernel_rfl) .i64 lo (by omega) (by omega)]
  have he : Try.prog.elem 52 = 3 := by kernel_rfl
  rw [he, size_int]
  simp

/-- The head of such a slice. -/
theorem run_upto {a : Option Addr} {n cap : Nat} (h : RdI w B (.slice a n cap) D) (hi : Nat) (h1 : hi ≤ D.length) :
    ∃ v', (∀ W, (Instr.slice 52 (.slice a n cap) none (some (.int .i64 (hi : Int))) none).run Try.prog W = .ok v' W) ∧ RdI w B v' (D.take hi) := by
  have hs := h.shape
  obtain ⟨a', cap', e, e2, e3⟩ := hs
  simp only [Value.slice.injEq] at e
  obtain ⟨rfl, rfl, rfl⟩ := e
  refine ⟨sliced a 0 hi cap 1, fun W => ?_, by simpa using rd_sliced h 0 hi cap (Nat.zero_le _) h1 (by omega) (Nat.le_refl _)⟩
  rw [run_slice_h W 52 a D.length cap (by kernel_rfl) .i64 hi (by omega) (by omega)]
  have he : Try.prog.elem 52 = 3 := by kernel_rfl
  rw [he, size_int]
  simp

/-- append(v, x...): v owns a row, x reads as the ints E. -/
theorem wpList_pushAll {ops : Array Oper} {rest : List Oper} {o : Oper} {a : Act} {Q : Exit → Act → World → Prop} (hgd : o.guard = none) (s x : Operand)
    (ho : o.op = .call { callee := .builtin .append, args := #[s, x], argTypes := #[52, 52] })
    (B B' : Nat) (v y : Value) (D E : List Int) (hs : a.eval s = v) (hown : Ints w B v D) (hx : a.eval x = y) (hrd : RdI w B' y E)
    (hlen : D.length + E.length < 1000000) (hbase : B ≤ w.heap.size)
    (h : ∀ v' w', Ints w' B v' (D ++ E) → Only (fun k => v.ownBlock = some k) w w' → wpList Try.prog ops Q rest (a.put o.dst v') w') : wpList Try.prog ops Q (o :: rest) a w := by
  obtain ⟨i0, hi, hz0, hz1, hz2⟩ := info_parts int_info
  obtain ⟨ad, cap, rfl, e2, e3, e4⟩ := hrd
  rcases ad with _ | ad
  · have hE : E = [] := by
      refine List.eq_nil_of_length_eq_zero ?_
      rcases Nat.eq_zero_or_pos E.length with h0 | hp
      · exact h0
      · obtain ⟨g, off, h, _⟩ := e4 hp
        cases h
    subst hE
    have hrun : ∀ ty, (Builtin.append_ #[52, 52] ty #[v, .slice none 0 cap]).run Try.prog w = .ok v w := by
      intro ty
      rcases hown.2 with ⟨rfl, h00⟩ | ⟨g, cap', cur, rfl, _, _, hnc, _⟩
      · simp [Builtin.append_, run_underlying Try.underlying52, sizeOf, typeInfo, hi, Builtin.lenOf, Builtin.firstCells]
      · simp [Builtin.append_, run_underlying Try.underlying52, sizeOf, typeInfo, hi, Builtin.lenOf, Builtin.firstCells, hnc, storeCells]
    refine wpList_plain hgd fun K hK => ?_
    unfold Oper.wp execOp
    have hr := hrun o.type
    simp only [List.length_nil] at hx
    simp only [ho, resolve, invoke, builtin, Sem.run_bind, Sem.run_pure, Result.andThen_ok, List.map_toArray, List.map_cons, List.map_nil, hs, hx, hr]
    exact hK _ _ (h v w (by simpa using hown) (Only.refl _ _))
  · refine wpList_append_own _ hgd s x 52 ho B 3 i0 (.int .i64 0) 1 8 Try.underlying52 hi hz0 hz1 hz2 rfl (by decide) v D.length (D.map (Value.int .i64)) hs hown
      ad E.length cap (E.map (Value.int .i64)) hx (by simp) (fun j u hu => ?_) (by simp [Value.oneCell']) (by unfold maxLen; omega) (by omega) hbase ?_
    · rw [List.getElem?_map] at hu
      cases hd : E[j]? with
      | none => rw [hd] at hu; cases hu
      | some d =>
        rw [hd] at hu
        injection hu with hu
        subst hu
        have hjl : j < E.length := by
          rcases Nat.lt_or_ge j E.length with h | h
          · exact h
          · rw [List.getElem?_eq_none h] at hd; cases hd
        obtain ⟨g, off, hg0, hg, hc⟩ := e4 (by omega)
        injection hg0 with hg0
        subst hg0
        have := hc j d hd
        rw [← this]
        congr 1
        unfold Addr.add
        split
        · rename_i h0; subst h0; rfl
        · rfl
    · intro v' w' hown' hgrow _
      exact h v' w' (by unfold Ints; simpa using hown') ((Only.refl _ w).grown hgrow (fun k hk => .inl hk))
end
end Go.Proofs.Ytcblkdocbmpkeaa
