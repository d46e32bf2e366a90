/-
  Rows of elements of s cells each: read wherever they lie, cut, owned, appended onto.
-/
import Derived.Test.YtcblkdocbmpkeaaSl
open Go Go.RowKit
namespace Go.Proofs.Ytcblkdocbmpkeaa

/-- The slice value v reads as the elements L, of s cells each; it lies below block B. -/
def RdV (s : Nat) (w : World) (B : Nat) (v : Value) (L : List (List Value)) : Prop :=
  ∃ a cap, v = .slice a L.length cap ∧ L.length ≤ cap ∧ cap ≤ maxLen ∧ (0 < L.length → ∃ g off, a = some ⟨g, off, none⟩ ∧ g < B ∧ ∀ (i : Nat) (x : List Value), L[i]? = some x → ∀ (j : Nat) (u : Value), x[j]? = some u → w.cell? ⟨g, off + i * s + j, none⟩ = some u)
/-- The slice value v owns a row of the elements L, of type t. -/
def OwV (t : TypeId) (s : Nat) (w : World) (B : Nat) (v : Value) (L : List (List Value)) : Prop := w.ownsRow B t s v L.length L.flatten ∧ ∀ x ∈ L, x.length = s

theorem flatten_len {s : Nat} : ∀ {L : List (List Value)}, (∀ x ∈ L, x.length = s) → L.flatten.length = L.length * s := by
  intro L
  induction L with
  | nil => intro _; simp
  | cons x r ih =>
    intro h
    rw [List.flatten_cons, List.length_append, ih (fun y hy => h y (by simp [hy])), h x (by simp), List.length_cons, Nat.add_mul]
    omega
theorem flatten_at {s : Nat} : ∀ {L : List (List Value)}, (∀ x ∈ L, x.length = s) → ∀ (i : Nat) (x : List Value), L[i]? = some x → ∀ (j : Nat) (u : Value), x[j]? = some u → L.flatten[i * s + j]? = some u := by
  intro L
  induction L with
  | nil => intro _ i x h; simp at h
  | cons y r ih =>
    intro hl i x h j u hu
    cases i with
    | zero =>
      simp at h
      subst h
      rw [List.flatten_cons, Nat.zero_mul, Nat.zero_add, List.getElem?_append_left (List.getElem?_eq_some_iff.1 hu).1]
      exact hu
    | succ i =>
      have hy := hl y (by simp)
      rw [List.flatten_cons, List.getElem?_append_right (by rw [hy, Nat.add_mul]; omega), hy, show (i + 1) * s + j - s = i * s + j by rw [Nat.add_mul]; omega]
      exact ih (fun z hz => hl z (by simp [hz])) i x (by simpa using h) j u hu

section
variable {s : Nat} {t : TypeId} {w w' : World} {B B' : Nat} {v : Value} {L : List (List Value)}
theorem RdV.nil_ (w : World) (B : Nat) : RdV s w B (.slice none 0 0) [] := ⟨none, 0, rfl, Nat.le_refl _, by unfold maxLen; omega, fun h => absurd h (by simp)⟩
theorem RdV.keep (h : RdV s w B v L) (hk : ∀ g off, g < B → w'.cell? ⟨g, off, none⟩ = w.cell? ⟨g, off, none⟩) : RdV s w' B v L := by
  obtain ⟨a, cap, h1, h2, h3, h4⟩ := h
  refine ⟨a, cap, h1, h2, h3, fun hn => ?_⟩
  obtain ⟨g, off, e, hg, hc⟩ := h4 hn
  exact ⟨g, off, e, hg, fun i x hx j u hu => (hk g _ hg).trans (hc i x hx j u hu)⟩
theorem RdV.below (h : RdV s w B v L) (hb : Below B w w') : RdV s w' B v L := h.keep fun g off hg => hb.cell (p := ⟨g, off, none⟩) hg
theorem RdV.more (h : RdV s w B v L) (hB : B ≤ B') : RdV s w B' v L := by
  obtain ⟨a, cap, h1, h2, h3, h4⟩ := h
  refine ⟨a, cap, h1, h2, h3, fun hn => ?_⟩
  obtain ⟨g, off, e, hg, hc⟩ := h4 hn
  exact ⟨g, off, e, by omega, hc⟩
theorem RdV.shape (h : RdV s w B v L) : ∃ a cap, v = .slice a L.length cap ∧ L.length ≤ cap ∧ cap ≤ maxLen := by
  obtain ⟨a', cap', h1, h2, h3, _⟩ := h
  exact ⟨a', cap', h1, h2, h3⟩
theorem RdV.at_ {a : Option Addr} {n cap i : Nat} (h : RdV s w B (.slice a n cap) L) {x : List Value} (hx : L[i]? = some x) :
    ∃ g off, a = some ⟨g, off, none⟩ ∧ g < B ∧ ∀ (j : Nat) (u : Value), x[j]? = some u → w.cell? ⟨g, off + i * s + j, none⟩ = some u := by
  obtain ⟨a', cap', h1, h2, h3, h4⟩ := h
  have hi : i < L.length := (List.getElem?_eq_some_iff.1 hx).1
  simp only [Value.slice.injEq] at h1
  obtain ⟨rfl, rfl, rfl⟩ := h1
  obtain ⟨g, off, e, hg, hc⟩ := h4 (by omega)
  exact ⟨g, off, e, hg, hc i x hx⟩
theorem rd_slicedV {a : Option Addr} {n cap : Nat} (h : RdV s w B (.slice a n cap) L) (lo hi mx : Nat) (h1 : lo ≤ hi) (h2 : hi ≤ L.length) (h3 : hi ≤ mx) (h4 : mx ≤ cap) : RdV s w B (sliced a lo hi mx s) ((L.take hi).drop lo) := by
  obtain ⟨a', cap', e1, e2, e3, e4⟩ := h
  simp only [Value.slice.injEq] at e1
  obtain ⟨rfl, rfl, rfl⟩ := e1
  have hl : ((L.take hi).drop lo).length = hi - lo := by simp; omega
  refine ⟨_, _, by rw [hl]; rfl, by rw [hl]; omega, by omega, fun hp => ?_⟩
  rw [hl] at hp
  obtain ⟨g, off, rfl, hg, hc⟩ := e4 (by omega)
  have hne : ¬ mx = lo := by omega
  refine ⟨g, off + lo * s, ?_, hg, fun i x hx j u hu => ?_⟩
  · simp only [hne, if_false, Option.map_some, Addr.add]
    by_cases h0 : lo * s = 0
    · simp [h0]
    · simp [h0]
  · rw [List.getElem?_drop, List.getElem?_take] at hx
    split at hx
    · have := hc _ x hx j u hu
      rw [show off + lo * s + i * s + j = off + (lo + i) * s + j by rw [Nat.add_mul]; omega]
      exact this
    · cases hx

theorem OwV.nil (w : World) (B : Nat) : OwV t s w B (.slice none 0 0) [] := ⟨World.ownsRow_nil w B _ s, fun x hx => by simp at hx⟩
theorem OwV.empty {B : Nat} (h : B ≤ w.heap.size) : OwV t s (w.alloc (.cells #[] t)) B (.slice (some ⟨w.heap.size, 0, none⟩) 0 0) [] := ⟨World.ownsRow_lit w #[] 0 h (by unfold maxLen; omega) (by simp), fun x hx => by simp at hx⟩
theorem OwV.shape (h : OwV t s w B v L) : ∃ a cap, v = .slice a L.length cap := by
  rcases h.1.2 with ⟨h', h0⟩ | ⟨g, cap, cur, h', _⟩
  · exact ⟨none, 0, by rw [h', h0]⟩
  · exact ⟨_, _, h'⟩
theorem OwV.form (h : OwV t s w B v L) (hn : L ≠ []) : ∃ g cap, v = .slice (some ⟨g, 0, none⟩) L.length cap ∧ B ≤ g ∧ g < w.heap.size :=
  World.ownsRow.form h.1 (by cases L with | nil => exact absurd rfl hn | cons a r => simp)
theorem OwV.block (h : OwV t s w B v L) {g : Nat} (hg : v.ownBlock = some g) : B ≤ g ∧ ∃ cur : Array Value, Blk w g t cur := by
  rcases h.1.2 with ⟨h', _⟩ | ⟨g', cap', cur, h', hb, hh, _⟩
  · rw [h'] at hg; simp [Value.ownBlock] at hg
  · rw [h'] at hg
    simp [Value.ownBlock] at hg
    subst hg
    exact ⟨hb, cur, hh⟩
theorem OwV.alloc (h : OwV t s w B v L) (o : Obj) : OwV t s (w.alloc o) B v L := ⟨World.ownsRow.alloc h.1 o, h.2⟩
theorem OwV.keep {S : Nat → Prop} (h : OwV t s w B v L) (ho : Only S w w') (hn : ∀ g, v.ownBlock = some g → ¬ S g) : OwV t s w' B v L := ⟨ho.own h.1 hn, h.2⟩
theorem OwV.base (h : OwV t s w B v L) (hB : B' ≤ B) : OwV t s w B' v L := by
  obtain ⟨⟨h1, h2⟩, h3⟩ := h
  refine ⟨⟨h1, ?_⟩, h3⟩
  rcases h2 with h2 | ⟨g, cap, cur, a1, a2, a3⟩
  · exact .inl h2
  · exact .inr ⟨g, cap, cur, a1, by omega, a3⟩
theorem RdV.of_own (h : OwV t s w B v L) : RdV s w w.heap.size v L := by
  have hall := h.2
  rcases h.1.2 with ⟨h', h0⟩ | ⟨g, cap, cur, h', hb, hh, hn, hm, _⟩
  · have hD : L = [] := List.eq_nil_of_length_eq_zero h0
    subst hD
    rw [h']
    exact RdV.nil_ _ _
  · refine ⟨_, _, h', hn, hm, fun hp => ⟨g, 0, rfl, ?_, fun i x hx j u hu => ?_⟩⟩
    · rcases Nat.lt_or_ge g w.heap.size with h | h
      · exact h
      · rw [Array.getElem?_eq_none h] at hh; cases hh
    · have h1 := h.1
      rw [h'] at h1
      have hi : i < L.length := (List.getElem?_eq_some_iff.1 hx).1
      have hxl : x.length = s := hall x (List.mem_of_getElem? hx)
      have hj : j < s := by rw [← hxl]; exact (List.getElem?_eq_some_iff.1 hu).1
      have hb : i * s + j < L.length * s := by
        have := Nat.mul_le_mul_right s (show i + 1 ≤ L.length from hi)
        rw [Nat.add_mul] at this
        omega
      have := World.ownsRow.cellAt h1 (i * s + j) hb
      rw [flatten_at hall i x hx j u hu] at this
      simpa using this
end

/-- The rest of such a slice; its head, with no room behind. -/
theorem run_fromV {s bytes : Nat} {z : Value} {w : World} {B : Nat} {L : List (List Value)} (st t : TypeId) (hinf : (Try.prog.info? t).map (fun i => (i.zero, i.size, i.bytes)) = some (some z, s, bytes)) (hund : Try.prog.underlying st = some (.slice (Try.prog.elem st))) (he : Try.prog.elem st = t)
    {a : Option Addr} {n cap : Nat} (h : RdV s w B (.slice a n cap) L) (lo : Nat) (h1 : lo ≤ L.length) :
    ∃ v', (∀ W, (Instr.slice st (.slice a n cap) (some (.int .i64 (lo : Int))) none none).run Try.prog W = .ok v' W) ∧ RdV s w B v' (L.drop lo) := by
  obtain ⟨i0, hi, hz0, hz1, hz2⟩ := info_parts hinf
  have hs := h.shape
  obtain ⟨a', cap', e, e2, e3⟩ := hs
  simp only [Value.slice.injEq] at e
  obtain ⟨rfl, rfl, rfl⟩ := e
  refine ⟨sliced a lo L.length cap s, fun W => ?_, by simpa using rd_slicedV h lo L.length cap h1 (Nat.le_refl _) e2 (Nat.le_refl _)⟩
  rw [run_slice_l W st a L.length cap hund .i64 lo (by omega) (by omega), he]
  simp [sizeOf, typeInfo, hi, hz1]
theorem run_headV {s bytes : Nat} {z : Value} {w : World} {B : Nat} {L : List (List Value)} (st t : TypeId) (hinf : (Try.prog.info? t).map (fun i => (i.zero, i.size, i.bytes)) = some (some z, s, bytes)) (hund : Try.prog.underlying st = some (.slice (Try.prog.elem st))) (he : Try.prog.elem st = t)
    {a : Option Addr} {n cap : Nat} (h : RdV s w B (.slice a n cap) L) (hi' : Nat) (h1 : hi' ≤ L.length) :
    ∃ v', (∀ W, (Instr.slice st (.slice a n cap) none (some (.int .i64 (hi' : Int))) (some (.int .i64 (hi' : Int)))).run Try.prog W = .ok v' W) ∧ RdV s w B v' (L.take hi') := by
  obtain ⟨i0, hi, hz0, hz1, hz2⟩ := info_parts hinf
  have hs := h.shape
  obtain ⟨a', cap', e, e2, e3⟩ := hs
  simp only [Value.slice.injEq] at e
  obtain ⟨rfl, rfl, rfl⟩ := e
  refine ⟨sliced a 0 hi' hi' s, fun W => ?_, by simpa using rd_slicedV h 0 hi' hi' (Nat.zero_le _) h1 (Nat.le_refl _) (by omega)⟩
  rw [run_slice_hm W st a L.length cap hund .i64 .i64 hi' hi' (by omega) (by omega) (by omega), he]
  simp [sizeOf, typeInfo, hi, hz1]

/-- append(v, x): v owns a row; x lies in a literal of one element that has just been made. -/
theorem wpList_pushV {w : World} {ops : Array Oper} {rest : List Oper} {o : Oper} {a : Act} {Q : Exit → Act → World → Prop} (st t : TypeId) (s bytes : Nat) (z : Value)
    (hinf : (Try.prog.info? t).map (fun i => (i.zero, i.size, i.bytes)) = some (some z, s, bytes)) (hzs : z.cells.size = s) (hs0 : 0 < s) (hby : bytes ≤ 1000) (hund : Try.prog.underlying st = some (.slice t)) (hgd : o.guard = none) (sl x : Operand)
    (ho : o.op = .call { callee := .builtin .append, args := #[sl, x], argTypes := #[st, st] })
    (B : Nat) (v : Value) (L : List (List Value)) (cs : Array Value) (hs : a.eval sl = v) (hown : OwV t s w B v L) (hx : a.eval x = .slice (some ⟨w.heap.size, 0, none⟩) 1 1)
    (hlen : L.length < 1000000) (hbase : B ≤ w.heap.size) (hcs : cs.size = s) (hone : ∀ u ∈ cs.toList, u.oneCell' = true)
    (h : ∀ v' w', OwV t s w' B v' (L ++ [cs.toList]) → Only (fun k => v.ownBlock = some k) w w' → wpList Try.prog ops Q rest (a.put o.dst v') w') :
    wpList Try.prog ops Q (o :: rest) a (w.alloc (.cells cs t)) := by
  obtain ⟨i0, hi, hz0, hz1, hz2⟩ := info_parts hinf
  have hbytes : (L.length + 1) * bytes ≤ 140737488355328 := Nat.le_trans (Nat.mul_le_mul (show L.length + 1 ≤ 1000000 by omega) hby) (by omega)
  refine wpList_append_own _ hgd sl x st ho B t i0 z s bytes hund hi hz0 hz1 hz2 hzs hs0 v L.length L.flatten hs (hown.alloc _).1
    ⟨w.heap.size, 0, none⟩ 1 1 cs.toList hx (by simp [hcs]) ?_ hone (by unfold maxLen; omega) hbytes (by simp; omega) ?_
  · intro j y hy
    have hb := (Blk.new w t cs).cell j
    rw [show (Addr.add ⟨w.heap.size, 0, none⟩ j) = ⟨w.heap.size, j, none⟩ by unfold Addr.add; split <;> simp_all, hb]
    simpa using hy
  intro v' w' hown' hgrow _
  refine h v' w' ⟨by simpa using hown', fun y hy => ?_⟩ ?_
  · rw [List.mem_append] at hy
    rcases hy with hy | hy
    · exact hown.2 y hy
    · simp at hy; subst hy; simpa using hcs
  · exact (((Only.refl _ w).alloc _).grown hgrow (fun k hk => .inl hk))

/-- The same as a step of a region that draws its order. -/
theorem step_pushV {w : World} {ops : Array Oper} {o : Oper} {a : Act} {K : Act → World → Prop} {Q : Exit → Act → World → Prop} {E : Prop} (st t : TypeId) (s bytes : Nat) (z : Value)
    (hinf : (Try.prog.info? t).map (fun i => (i.zero, i.size, i.bytes)) = some (some z, s, bytes)) (hzs : z.cells.size = s) (hs0 : 0 < s) (hby : bytes ≤ 1000) (hund : Try.prog.underlying st = some (.slice t)) (hgd : o.guard = none) (sl x : Operand)
    (ho : o.op = .call { callee := .builtin .append, args := #[sl, x], argTypes := #[st, st] })
    (B H : Nat) (v : Value) (L : List (List Value)) (cs : Array Value) (hs : a.eval sl = v) (hown : OwV t s w B v L) (hx : a.eval x = .slice (some ⟨H, 0, none⟩) 1 1)
    (hcell : ∀ j u, cs.toList[j]? = some u → w.cell? ⟨H, j, none⟩ = some u) (hlen : L.length < 1000000) (hbase : B ≤ w.heap.size) (hcs : cs.size = s) (hone : ∀ u ∈ cs.toList, u.oneCell' = true)
    (h : ∀ g cap w', OwV t s w' B (.slice (some ⟨g, 0, none⟩) (L.length + 1) cap) (L ++ [cs.toList]) → Only (fun k => v.ownBlock = some k) w w' → K (a.put o.dst (.slice (some ⟨g, 0, none⟩) (L.length + 1) cap)) w') :
    if Region.wanted o (yielded ops a.tmps) = true then Oper.wp Try.prog o a w K Q else E := by
  obtain ⟨i0, hi, hz0, hz1, hz2⟩ := info_parts hinf
  have hbytes : (L.length + 1) * bytes ≤ 140737488355328 := Nat.le_trans (Nat.mul_le_mul (show L.length + 1 ≤ 1000000 by omega) hby) (by omega)
  refine step_append_lies w hgd sl x st ho B t i0 z s bytes hund hi hz0 hz1 hz2 hzs hs0 v L.length L.flatten hs hown.1
    ⟨H, 0, none⟩ 1 1 cs.toList hx (by simp [hcs]) (fun j y hy => ?_) hone (by decide) (by unfold maxLen; omega) hbytes hbase w.heap.size rfl ?_
  · rw [show (Addr.add ⟨H, 0, none⟩ j) = ⟨H, j, none⟩ by unfold Addr.add; split <;> simp_all]
    exact hcell j y hy
  · intro g cap w' hown' hgrow _ _
    refine h g cap w' ⟨by simpa using hown', fun y hy => ?_⟩ ((Only.refl _ w).grown hgrow (fun k hk => .inl hk))
    rw [List.mem_append] at hy
    rcases hy with hy | hy
    · exact hown.2 y hy
    · simp at hy; subst hy; simpa using hcs
end Go.Proofs.Ytcblkdocbmpkeaa
