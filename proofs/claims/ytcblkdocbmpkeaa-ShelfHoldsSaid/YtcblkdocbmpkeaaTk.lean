/-
  What Take of package bits does, by a contract.
-/
import Derived.Test.YtcblkdocbmpkeaaIt
namespace Go.Proofs.Ytcblkdocbmpkeaa
open Go Go.RowKit Go.Shelf

attribute [local go_sem] Oper.semAt_some

theorem keeps_of_only {S : Nat → Prop} {A B : World} (h : Only S A B) (hS : ∀ k, S k → ∃ cs t fr, A.heap[k]? = some (.cells cs t fr)) : KeepsOthers A B := by
  refine ⟨h.size, fun k o hk ho => ?_⟩
  by_cases hs : S k
  · obtain ⟨cs, t, fr, hc⟩ := hS k hs
    rw [hc] at hk
    cases hk
    simp [Obj.isCells] at ho
  · exact (h.block k (Array.getElem?_eq_some_iff.1 hk).1 hs).trans hk
theorem keeps_drewN (W : World) (m : Nat) : KeepsOthers W (W.drewN m) := ⟨Nat.le_refl _, fun _ _ h _ => h⟩
theorem Bt.cells {w : World} {B p : Nat} {v : Value} {T : List Bool} (h : Bt w B p v T) : ∀ k, v.ownBlock = some k → ∃ cs t fr, w.heap[k]? = some (.cells cs t fr) := fun k e => by
  obtain ⟨_, cur, hc⟩ := h.row.block e
  exact ⟨_, _, _, hc⟩
theorem Bt.lt {w : World} {B p : Nat} {v : Value} {T : List Bool} (h : Bt w B p v T) {k : Nat} (e : v.ownBlock = some k) : k < w.heap.size := by
  obtain ⟨_, cur, hc⟩ := h.row.block e
  exact hc.lt

/-- What a range over a function keeps of a set of pages that lay ahead of it. -/
theorem Bt.kept {A C : World} {B p M : Nat} {v : Value} {T : List Bool} {row : Option Nat} (h : Bt A B p v T) (hp : p < M) (hv : ∀ k, v.ownBlock = some k → k < M) (hg : A.grownBy C row) (hr : ∀ r, row = some r → M ≤ r) : Bt C B p v T :=
  h.keep ((Only.refl (fun k => row = some k) A).grown hg (fun k e => .inl e)) (fun e => by have := hr _ e; omega) (fun k e e' => by have := hr _ e'; have := hv k e; omega)
theorem Only.kept {S : Nat → Prop} {W A C : World} {M : Nat} {row : Option Nat} (h : Only S W A) (hM : W.heap.size ≤ M) (hg : A.grownBy C row) (hr : ∀ r, row = some r → M ≤ r) : Only S W C :=
  h.grown hg (fun k e => .inr (by have := hr _ e; omega))

/-- Between two rounds of Take. -/
structure TkI (W : World) (B p : Nat) (v : Value) (T : List Bool) (S : Nat) (pre : List Int) (w : World) : Prop where
  all : ∀ y ∈ pre, isB T y = true
  bt : Bt w B p v T
  b0 : Blk w S 60 #[.pointer (some ⟨p, 0, none⟩)]
  b1 : Blk w (S + 1) 3 #[.int .i64 0]
  b2 : Blk w (S + 1 + 1) 24 #[.int .i64 0]
  only : Only (fun k => v.ownBlock = some k) W w
structure TkX (W : World) (B p : Nat) (v : Value) (T : List Bool) (S : Nat) (c : Code) (pre : List Int) (w : World) : Prop where
  code : c = .ret
  ex : ∃ q x, pre = q ++ [x] ∧ (∀ y ∈ q, isB T y = true) ∧ isB T x = false ∧ Bt w B p v (takeT T x) ∧ Blk w (S + 1) 3 #[.int .i64 x] ∧ Blk w (S + 1 + 1) 24 #[.int .i64 (takeE T x)]
  only : Only (fun k => v.ownBlock = some k) W w
theorem Blk.kept {A C : World} {g : Nat} {t : TypeId} {cs : Array Value} {row : Option Nat} (h : Blk A g t cs) (hg : A.grownBy C row) (hr : ∀ r, row = some r → ∃ o : Obj, A.heap[r]? = some o ∧ o.isCells = false) : Blk C g t cs :=
  h.grown hg (fun e => by
    obtain ⟨o, ho, hc⟩ := hr g e.symm
    unfold Blk at h
    rw [h] at ho
    cases ho
    simp [Obj.isCells] at hc)
theorem tkI_own {W : World} {B p M : Nat} {v : Value} {T : List Bool} {S : Nat} (hM : W.heap.size ≤ M) (hp : p < M) (hv : ∀ k, v.ownBlock = some k → k < M) : OwnFrom M (TkI W B p v T S) :=
  fun _ _ _ _ hs hg hr => ⟨hs.all, hs.bt.kept hp hv hg (fun r e => (hr r e).1), hs.b0.kept hg (fun r e => (hr r e).2), hs.b1.kept hg (fun r e => (hr r e).2), hs.b2.kept hg (fun r e => (hr r e).2), hs.only.kept hM hg (fun r e => (hr r e).1)⟩
theorem tkX_own {W : World} {B p M : Nat} {v : Value} {T : List Bool} {S : Nat} (hM : W.heap.size ≤ M) (hp : p < M) (hv : ∀ k, v.ownBlock = some k → k < M) (c : Code) : OwnFrom M (TkX W B p v T S c) :=
  fun _ _ _ _ hs hg hr => ⟨hs.code, by
    obtain ⟨q, x, h1, h2, h3, h4, h5, h6⟩ := hs.ex
    exact ⟨q, x, h1, h2, h3, h4.kept hp hv hg (fun r e => (hr r e).1), h5.kept hg (fun r e => (hr r e).2), h6.kept hg (fun r e => (hr r e).2)⟩, hs.only.kept hM hg (fun r e => (hr r e).1)⟩

/-- What Take answers, and which pages are taken then. -/
def freeX (T : List Bool) (b : Nat) : Option Int := (upto (rnd b T.length) T.length).find? fun x => !isB T x
def takeRX (T : List Bool) (b : Int) : Int := if hasB T b then (match freeX T b.toNat with | some x => x | none => 0) else 0
def takeRE (T : List Bool) (b : Int) : Int := if hasB T b then (match freeX T b.toNat with | some _ => 0 | none => 6) else 1
def takeRT (T : List Bool) (b : Int) : List Bool := if hasB T b then (match freeX T b.toNat with | some x => T.set x.toNat true | none => T) else T

set_option maxRecDepth 100000 in
set_option maxHeartbeats 2000000 in
theorem take_yes {W : World} {B p : Nat} {v : Value} {T : List Bool} (h : Bt W B p v T) (b : Nat) (hb : hasB T (b : Int) = true) :
    Calls Try.prog 29 #[.pointer (some ⟨p, 0, none⟩), .int .i64 (b : Int)] W fun e W' =>
      ((e = .returned (.tuple #[.int .i64 0, .int .i64 6]) ∧ (∀ y ∈ upto (rnd b T.length) T.length, isB T y = true) ∧ Bt W' B p v T) ∨
       (∃ q x k, upto (rnd b T.length) k = q ++ [x] ∧ k ≤ T.length ∧ (∀ y ∈ q, isB T y = true) ∧ isB T x = false ∧ e = .returned (.tuple #[.int .i64 x, .int .i64 (takeE T x)]) ∧ Bt W' B p v (takeT T x))) ∧ Only (fun k => v.ownBlock = some k) W W' := by
  have hb' := hb
  simp only [hasB, Bool.and_eq_true, decide_eq_true_eq] at hb'
  have hN1 := h.len1
  have hN2 := h.len2
  have HH := fun w h => hid (hb ▸ @has_any w B p v T h b)
  refine (callsIn_wide (n := 4)).1 ?_
  refine callsIn_of_wp_marks Try.func29 rfl trivial ?_ rfl
  simp only [Try.ntmps29, List.size_toArray, List.length_cons, List.length_nil, Nat.reduceAdd, Nat.reduceSub, Array.replicate_succ, Array.replicate_zero, List.push_toArray, List.append_toArray, List.nil_append, List.cons_append]
  obtain ⟨W3, hW3⟩ : ∃ W3, ((W.alloc (.cells #[.pointer (some ⟨p, 0, none⟩)] 60)).alloc (.cells #[.int .i64 0] 3)).alloc (.cells #[.int .i64 0] 24) = W3 := ⟨_, rfl⟩
  have hsz : W3.heap.size = W.heap.size + 1 + 1 + 1 := by rw [← hW3]; simp
  have hI0 : TkI W B p v T W.heap.size [] W3 := by
    rw [← hW3]
    refine ⟨fun y hy => by simp at hy, ((h.alloc _).alloc _).alloc _, ((Blk.new W _ _).alloc _).alloc _, ?_, ?_, (((Only.refl _ W).alloc _).alloc _).alloc _⟩
    · have := (Blk.new (W.alloc (.cells #[.pointer (some ⟨p, 0, none⟩)] 60)) 3 #[.int .i64 0]).alloc (.cells #[.int .i64 0] 24)
      simpa using this
    · have := Blk.new ((W.alloc (.cells #[.pointer (some ⟨p, 0, none⟩)] 60)).alloc (.cells #[.int .i64 0] 3)) 24 #[.int .i64 0]
      simpa using this
  have HI0 := hid hI0
  have hp : p < W.heap.size := h.blk.lt
  have hv : ∀ k, v.ownBlock = some k → k < W.heap.size := fun k e => h.lt e
  have c0 : W3.cell? ⟨W.heap.size, 0, none⟩ = some (.pointer (some ⟨p, 0, none⟩)) := hI0.b0.cell 0
  clear hI0
  gi_wp2
  clear hW3
  refine ⟨trivial, (callsIn_wide.2 (HH _ HI0.out.bt).out).mono ?_⟩
  rintro e W4 ⟨rfl, rfl⟩
  gi_wp2
  refine ⟨trivial, (callsIn_wide.2 (round_any ⟨p, 0, none⟩ (b : Int))).mono ?_⟩
  rintro e w' ⟨rfl, rfl⟩
  gi_wp2
  have r0 := (Blk.new W4 60 #[.pointer (some ⟨p, 0, none⟩)]).alloc (.cells #[.int .i64 (b : Int)] 3)
  have r1 := Blk.new (W4.alloc (.cells #[.pointer (some ⟨p, 0, none⟩)] 60)) 3 #[.int .i64 (b : Int)]
  simp only [World.size_alloc] at r1
  rw [hsz] at r0 r1
  have hI5 := hid (((tkI_own (W := W) (B := B) (p := p) (v := v) (T := T) (S := W.heap.size) (M := W.heap.size) (Nat.le_refl _) hp hv).alloc (.cells #[.int .i64 (b : Int)] 3) ((tkI_own (Nat.le_refl _) hp hv).alloc (.cells #[.pointer (some ⟨p, 0, none⟩)] 60) HI0.out)))
  have hsz5 : ((W4.alloc (.cells #[.pointer (some ⟨p, 0, none⟩)] 60)).alloc (.cells #[.int .i64 (b : Int)] 3)).heap.size = W.heap.size + 1 + 1 + 1 + 1 + 1 := by simp [hsz]
  generalize (W4.alloc (.cells #[.pointer (some ⟨p, 0, none⟩)] 60)).alloc (.cells #[.int .i64 (b : Int)] 3) = W5 at *
  have hbt5 := hI5.out.bt.blk.cell 1
  refine wpIn_rangeFunc_ownF rfl (by decide) (gf := 56) (lb := #[.pointer (some ⟨W.heap.size + 1 + 1 + 1, 0, none⟩), .pointer (some ⟨W.heap.size + 1 + 1 + 1 + 1, 0, none⟩)]) rfl trivial (enters_of Try.func56 (by kernel_rfl) rfl)
    (round_stops _ (by decide) (W.heap.size + 1 + 1 + 1) (W.heap.size + 1 + 1 + 1 + 1) p b T.length (by omega) hN1 hN2 W5 (r0.cell 0) (r1.cell 0) hbt5) (fun {A B C} h k => h.trans k)
    (fun W l o o' hl _ _ _ => Kr.put (B := W5.heap.size) (by omega) (by omega) (by omega) W l o' hl) (Below.refl _ _) (fun _ => rfl)
    (TkI W B p v T W.heap.size) (TkX W B p v T W.heap.size) (tkI_own (by omega) (by omega) (fun k e => by have := hv k e; omega)) (fun c => tkX_own (by omega) (by omega) (fun k e => by have := hv k e; omega) c) hI5.out
    (fun x => { tmps := #[.pointer (some ⟨p, 0, none⟩), .int .i64 (b : Int), .pointer (some ⟨W.heap.size, 0, none⟩), undef, .pointer (some ⟨W.heap.size + 1, 0, none⟩), .pointer (some ⟨W.heap.size + 1 + 1, 0, none⟩), .int .i64 x, .pointer (some ⟨p, 0, none⟩), .int .i64 (b : Int), .bool true, .bool false, .pointer (some ⟨p, 0, none⟩), .int .i64 (b : Int),
      .func (.func 56) #[] #[.pointer (some ⟨W.heap.size + 1 + 1 + 1, 0, none⟩), .pointer (some ⟨W.heap.size + 1 + 1 + 1 + 1, 0, none⟩)], .int .i64 x, undef, undef, undef, undef, undef, undef, undef, undef], defers := [] }) ?assign ?body ?done ?stop
  case assign =>
    intro l x W K hK
    gi_wp2
    exact hK
  case body =>
    intro l pre x W6 hI hlt
    have d0 := hI.b0.cell 0
    simp only [List.getElem?_toArray, List.getElem?_cons_zero] at d0
    have HI := hid hI
    have h1 : 1 ≤ 4 - 1 - 1 := by decide
    have hlts : W.heap.size + 1 + 1 < W6.heap.size := hI.b2.lt
    cases hx : isB T x with
    | true =>
      have HIS := hid (hx ▸ is_any hI.bt x)
      clear hI
      gi_wp2
      refine ⟨trivial, (CallsIn.inRound l (callsIn_wide.2 HIS.out)).mono ?_⟩
      rintro e w' ⟨rfl, m, rfl⟩
      gi_wp2
      refine ⟨keeps_drewN _ _, ⟨rfl, rfl, rfl⟩, ⟨fun y hy => ?_, HI.out.bt.drewN m, HI.out.b0.drewN m, HI.out.b1.drewN m, HI.out.b2.drewN m, HI.out.only.drewN m⟩⟩
      rcases List.mem_append.1 hy with hy | hy
      · exact HI.out.all y hy
      · simp at hy; subst hy; exact hx
    | false =>
      have HX := hid hx
      have HIS := hid (hx ▸ is_any hI.bt x)
      clear hI hx
      gi_wp2
      refine ⟨trivial, (CallsIn.inRound l (callsIn_wide.2 HIS.out)).mono ?_⟩
      rintro e w' ⟨rfl, m, rfl⟩
      gi_wp2
      refine ⟨trivial, (CallsIn.inRound l (callsIn_wide.2 (takeAt_any (HI.out.bt.drewN m) x))).mono ?_⟩
      rintro e w7 ⟨rfl, hb7, ho7⟩
      have k1 := ho7.blk (HI.out.b1.drewN m) (fun e => by have := hv _ e; omega)
      have k2 := ho7.blk (HI.out.b2.drewN m) (fun e => by have := hv _ e; omega)
      have e1 := k1.cell 0
      have e2 := k2.cell 0
      have z1 := k1.frozen 0
      have z2 := k2.frozen 0
      simp only [List.getElem?_toArray, List.getElem?_cons_zero] at e1 e2
      have HB7 := hid hb7
      have HO7 := hid ho7
      have HK1 := hid k1
      have HK2 := hid k2
      clear hb7 ho7 k1 k2
      gi_wp2
      have hne : ¬ W.heap.size + 1 = W.heap.size + 1 + 1 := by omega
      have hset : Only (fun k => k = W.heap.size + 1 ∨ k = W.heap.size + 1 + 1) w7 ((w7.setCell ⟨W.heap.size + 1, 0, none⟩ (.int .i64 x)).setCell ⟨W.heap.size + 1 + 1, 0, none⟩ (.int .i64 (takeE T x))) := ((Only.refl _ w7).setCell (.inl (.inl rfl)) _).setCell (.inl (.inr rfl)) _
      refine ⟨((keeps_drewN W6 m).trans (keeps_of_only HO7.out (HI.out.bt.drewN m).cells)).trans ((KeepsOthers.setCell _ _ _).trans (KeepsOthers.setCell _ _ _)), rfl, ⟨pre, x, rfl, HI.out.all, HX.out, HB7.out.keep hset (fun e => by omega) (fun k e e' => by have := hv k e; omega), ?_, ?_⟩, ?_⟩
      · have := (HK1.out.set_ 0 (.int .i64 x)).far (p := ⟨W.heap.size + 1 + 1, 0, none⟩) hne (.int .i64 (takeE T x))
        simpa using this
      · have := (HK2.out.far (p := ⟨W.heap.size + 1, 0, none⟩) (fun e => hne e.symm) (.int .i64 x)).set_ 0 (.int .i64 (takeE T x))
        simpa using this
      · exact (((HI.out.only.drewN m).trans (HO7.out.mono (fun _ _ h => h))).setCell (.inr (by simp)) _).setCell (.inr (by simp; omega)) _
  case done =>
    rintro D ys W7 hD rfl hI hK
    have e1 := hI.b1.cell 0
    have e2 := hI.b2.cell 0
    have z1 := hI.b1.frozen 0
    have z2 := hI.b2.frozen 0
    simp only [List.getElem?_toArray, List.getElem?_cons_zero] at e1 e2
    have HI := hid hI
    have HKD := hid hK
    clear hI hK
    gi_wp2
    have hne : ¬ W.heap.size + 1 = W.heap.size + 1 + 1 := by omega
    have hset : Only (fun k => k = W.heap.size + 1 ∨ k = W.heap.size + 1 + 1) W7 ((W7.setCell ⟨W.heap.size + 1, 0, none⟩ (.int .i64 0)).setCell ⟨W.heap.size + 1 + 1, 0, none⟩ (.int .i64 6)) := ((Only.refl _ W7).setCell (.inl (.inl rfl)) _).setCell (.inl (.inr rfl)) _
    have n1 := (HI.out.b1.set_ 0 (.int .i64 0)).far (p := ⟨W.heap.size + 1 + 1, 0, none⟩) hne (.int .i64 6)
    have n2 := (HI.out.b2.far (p := ⟨W.heap.size + 1, 0, none⟩) (fun e => hne e.symm) (.int .i64 0)).set_ 0 (.int .i64 6)
    have nb := HI.out.bt.keep hset (fun e => by omega) (fun k e e' => by have := hv k e; omega)
    have no := (HI.out.only.setCell (p := ⟨W.heap.size + 1, 0, none⟩) (.inr (by simp)) (.int .i64 0)).setCell (p := ⟨W.heap.size + 1 + 1, 0, none⟩) (.inr (by simp; omega)) (.int .i64 6)
    have nk := ((KeepsOthers.setCell W7 ⟨W.heap.size + 1, 0, none⟩ (.int .i64 0)).trans (KeepsOthers.setCell _ ⟨W.heap.size + 1 + 1, 0, none⟩ (.int .i64 6))).same D _ HKD.out rfl
    generalize (W7.setCell ⟨W.heap.size + 1, 0, none⟩ (.int .i64 0)).setCell ⟨W.heap.size + 1 + 1, 0, none⟩ (.int .i64 6) = W8 at *
    refine ⟨by simp, .inl ⟨_, _, rfl, run_takeDeferred nk, ?_⟩⟩
    have hr : ∀ r, some D = some r → ∃ o : Obj, W8.heap[r]? = some o ∧ o.isCells = false := fun r e => by cases e; exact ⟨_, nk, rfl⟩
    have y1 := (n1.kept (grownBy_putObj' W8 D (.deferred none)) hr).cell 0
    have y2 := (n2.kept (grownBy_putObj' W8 D (.deferred none)) hr).cell 0
    simp only [List.getElem?_toArray, List.getElem?_cons_zero, List.setIfInBounds_toArray, List.set_cons_zero] at y1 y2
    refine ⟨.tuple #[.int .i64 0, .int .i64 6], ?_, .inl ⟨rfl, HI.out.all, nb.kept (M := W5.heap.size) (by omega) (fun k e => by have := hv k e; omega) (grownBy_putObj' W8 D (.deferred none)) (fun r e => by cases e; exact hD)⟩, no.kept (M := W5.heap.size) (by omega) (grownBy_putObj' W8 D (.deferred none)) (fun r e => by cases e; exact hD)⟩
    simp [results, Try.f29, go_sem, y1, y2]
  case stop =>
    rintro D c pre W7 hD ⟨k, hk, rfl⟩ hX hK
    obtain ⟨hc, ⟨q, x, q1, q2, q3, q4, q5, q6⟩, ho⟩ := hX
    subst hc
    gi_wp2
    refine ⟨by simp, .inl ⟨_, _, rfl, run_takeDeferred hK, ?_⟩⟩
    have hr : ∀ r, some D = some r → ∃ o : Obj, W7.heap[r]? = some o ∧ o.isCells = false := fun r e => by cases e; exact ⟨_, hK, rfl⟩
    have y1 := (q5.kept (grownBy_putObj' W7 D (.deferred none)) hr).cell 0
    have y2 := (q6.kept (grownBy_putObj' W7 D (.deferred none)) hr).cell 0
    simp only [List.getElem?_toArray, List.getElem?_cons_zero] at y1 y2
    refine ⟨.tuple #[.int .i64 x, .int .i64 (takeE T x)], ?_, .inr ⟨q, x, k, q1, hk, q2, q3, rfl, q4.kept (M := W5.heap.size) (by omega) (fun k e => by have := hv k e; omega) (grownBy_putObj' W7 D (.deferred none)) (fun r e => by cases e; exact hD)⟩, ho.kept (M := W5.heap.size) (by omega) (grownBy_putObj' W7 D (.deferred none)) (fun r e => by cases e; exact hD)⟩
    simp [results, Try.f29, go_sem, y1, y2]
end Go.Proofs.Ytcblkdocbmpkeaa
