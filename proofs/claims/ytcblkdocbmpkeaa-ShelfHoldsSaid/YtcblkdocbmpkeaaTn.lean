/-
  What Taken and Free of package bits do, by contracts.
-/
import Derived.Test.YtcblkdocbmpkeaaTk
import Derived.Test.YtcblkdocbmpkeaaInts
namespace Go.Proofs.Ytcblkdocbmpkeaa
open Go Go.RowKit Go.Shelf

attribute [local go_sem] Oper.semAt_some

/-- append(v, y) inside a round: v owns a row; y lies in a literal of one element that has just been made. -/
theorem wpListIn_push {F : Fence} {n : Nat} {w : World} {ops : Array Oper} {rest : List Oper} {o : Oper} {a : Act} {Q : Exit → Act → World → Prop} (hgd : o.guard = none) (s x : Operand)
    (ho : o.op = .call { callee := .builtin .append, args := #[s, x], argTypes := #[52, 52] })
    (B : Nat) (v : Value) (D : List Int) (y : Int) (hs : a.eval s = v) (hown : Ints w B v D) (hx : a.eval x = .slice (some ⟨w.heap.size, 0, none⟩) 1 1)
    (hlen : D.length < 1000000) (hbase : B ≤ w.heap.size)
    (h : ∀ v' w', Ints w' B v' (D ++ [y]) → Only (fun k => v.ownBlock = some k) w w' → w.grownBy w' v.ownBlock → wpListIn F n Try.prog ops Q rest (a.put o.dst v') w') :
    wpListIn F n Try.prog ops Q (o :: rest) a (w.alloc (.cells #[.int .i64 y] 3)) := by
  obtain ⟨i0, hi, hz0, hz1, hz2⟩ := info_parts int_info
  refine wpListIn_append_own _ hgd s x 52 ho B 3 i0 (.int .i64 0) 1 8 Try.underlying52 hi hz0 hz1 hz2 rfl (by decide) v D.length (D.map (Value.int .i64)) hs (hown.alloc _)
    ⟨w.heap.size, 0, none⟩ 1 1 [.int .i64 y] hx rfl (cell_one_new _ _ _) (by simp [Value.oneCell']) (by unfold maxLen; omega) (by omega) (by simp; omega) ?_
  intro v' w' hown' hgrow _
  refine h v' w' (by unfold Ints; simpa using hown') ?_ ?_
  · exact (((Only.refl _ w).alloc _).grown hgrow (fun k hk => .inl hk))
  · exact ⟨hgrow.os, hgrow.tape, hgrow.output, Nat.le_trans (by simp) hgrow.size, fun k hk hn => (hgrow.block k (by simp; omega) hn).trans (Below.heap_alloc _ _ _ hk)⟩

theorem Ints.base {w : World} {B B' : Nat} {v : Value} {D : List Int} (h : Ints w B v D) (hB : B' ≤ B) : Ints w B' v D := by
  obtain ⟨h1, h2⟩ := h
  refine ⟨h1, ?_⟩
  rcases h2 with h2 | ⟨g, cap, cur, a1, a2, a3⟩
  · exact .inl h2
  · exact .inr ⟨g, cap, cur, a1, by omega, a3⟩

/-- Between two rounds of Taken. -/
structure TnI (W : World) (B p : Nat) (v : Value) (T : List Bool) (S : Nat) (pre : List Int) (w : World) : Prop where
  bt : Bt w B p v T
  b0 : Blk w S 60 #[.pointer (some ⟨p, 0, none⟩)]
  out : ∃ vo, Blk w (S + 1) 52 #[vo] ∧ Ints w (S + 1 + 1 + 1 + 1) vo (pre.filter (isB T))
  below : Below S W w
theorem Ints.kept {A C : World} {B : Nat} {v : Value} {D : List Int} {row : Option Nat} (h : Ints A B v D) (hg : A.grownBy C row) (hr : ∀ r, row = some r → ∃ o : Obj, A.heap[r]? = some o ∧ o.isCells = false) : Ints C B v D :=
  h.keep ((Only.refl (fun k => row = some k) A).grown hg (fun k e => .inl e)) (fun g e e' => by
    obtain ⟨_, cur, hc⟩ := h.block e
    obtain ⟨o, ho, hcc⟩ := hr g e'
    unfold Blk at hc
    rw [hc] at ho
    cases ho
    simp [Obj.isCells] at hcc)
theorem tnI_own {W : World} {B p M : Nat} {v : Value} {T : List Bool} {S : Nat} (hS : S ≤ W.heap.size) (hM : S ≤ M) (hp : p < M) (hv : ∀ k, v.ownBlock = some k → k < M) : OwnFrom M (TnI W B p v T S) :=
  fun _ _ _ _ hs hg hr => ⟨hs.bt.kept hp hv hg (fun r e => (hr r e).1), hs.b0.kept hg (fun r e => (hr r e).2), by
    obtain ⟨vo, h1, h2⟩ := hs.out
    exact ⟨vo, h1.kept hg (fun r e => (hr r e).2), h2.kept hg (fun r e => (hr r e).2)⟩, hs.below.grown hg (Nat.le_trans hS hs.below.size) (fun k e => Nat.le_trans hM (hr k e).1)⟩

/-- The pages that are taken, in order. -/
def takenL (T : List Bool) : List Int := (upto (rnd 0 T.length) T.length).filter (isB T)

set_option maxRecDepth 100000 in
set_option maxHeartbeats 2000000 in
theorem taken_any {W : World} {B p : Nat} {v : Value} {T : List Bool} (h : Bt W B p v T) :
    Calls Try.prog 43 #[.pointer (some ⟨p, 0, none⟩)] W fun e W' => ∃ vo, e = .returned vo ∧ Ints W' W.heap.size vo (takenL T) ∧ Below W.heap.size W W' := by
  have hN1 := h.len1
  have hN2 := h.len2
  have hp : p < W.heap.size := h.blk.lt
  have hv : ∀ k, v.ownBlock = some k → k < W.heap.size := fun k e => h.lt e
  refine (callsIn_wide (n := 4)).1 ?_
  refine callsIn_of_wp_marks Try.func43 rfl trivial ?_ rfl
  simp only [Try.ntmps43, List.size_toArray, List.length_cons, List.length_nil, Nat.reduceAdd, Nat.reduceSub, Array.replicate_succ, Array.replicate_zero, List.push_toArray, List.append_toArray, List.nil_append, List.cons_append]
  obtain ⟨W3, hW3⟩ : ∃ W3, (W.alloc (.cells #[.pointer (some ⟨p, 0, none⟩)] 60)).alloc (.cells #[.slice none 0 0] 52) = W3 := ⟨_, rfl⟩
  have hsz : W3.heap.size = W.heap.size + 1 + 1 := by rw [← hW3]; simp
  have hI0 : TnI W B p v T W.heap.size [] W3 := by
    rw [← hW3]
    refine ⟨(h.alloc _).alloc _, (Blk.new W _ _).alloc _, ⟨.slice none 0 0, ?_, Ints.nil _ _⟩, ((Below.refl _ W).alloc (Nat.le_refl _) _).alloc (by simp) _⟩
    have := Blk.new (W.alloc (.cells #[.pointer (some ⟨p, 0, none⟩)] 60)) 52 #[.slice none 0 0]
    simpa using this
  have HI0 := hid hI0
  have c0 : W3.cell? ⟨W.heap.size, 0, none⟩ = some (.pointer (some ⟨p, 0, none⟩)) := hI0.b0.cell 0
  clear hI0
  gi_wp2
  clear hW3
  refine ⟨trivial, (callsIn_wide.2 (round_any ⟨p, 0, none⟩ ((0 : Nat) : Int))).mono ?_⟩
  rintro e w' ⟨rfl, rfl⟩
  gi_wp2
  have r0 := (Blk.new W3 60 #[.pointer (some ⟨p, 0, none⟩)]).alloc (.cells #[.int .i64 0] 3)
  have r1 := Blk.new (W3.alloc (.cells #[.pointer (some ⟨p, 0, none⟩)] 60)) 3 #[.int .i64 0]
  simp only [World.size_alloc] at r1
  rw [hsz] at r0 r1
  have hI5 := hid (((tnI_own (W := W) (B := B) (p := p) (v := v) (T := T) (S := W.heap.size) (M := W.heap.size) (Nat.le_refl _) (Nat.le_refl _) hp hv).alloc (.cells #[.int .i64 0] 3) ((tnI_own (Nat.le_refl _) (Nat.le_refl _) hp hv).alloc (.cells #[.pointer (some ⟨p, 0, none⟩)] 60) HI0.out)))
  have hsz5 : ((W3.alloc (.cells #[.pointer (some ⟨p, 0, none⟩)] 60)).alloc (.cells #[.int .i64 0] 3)).heap.size = W.heap.size + 1 + 1 + 1 + 1 := by simp [hsz]
  generalize (W3.alloc (.cells #[.pointer (some ⟨p, 0, none⟩)] 60)).alloc (.cells #[.int .i64 0] 3) = W5 at *
  have hbt5 := hI5.out.bt.blk.cell 1
  refine wpIn_rangeFunc_ownF rfl (by decide) (gf := 56) (lb := #[.pointer (some ⟨W.heap.size + 1 + 1, 0, none⟩), .pointer (some ⟨W.heap.size + 1 + 1 + 1, 0, none⟩)]) rfl trivial (enters_of Try.func56 (by kernel_rfl) rfl)
    (round_stops _ (by decide) (W.heap.size + 1 + 1) (W.heap.size + 1 + 1 + 1) p 0 T.length (by omega) hN1 hN2 W5 (r0.cell 0) (r1.cell 0) hbt5) (fun {A B C} h k => h.trans k)
    (fun W l o o' hl _ _ _ => Kr.put (B := W5.heap.size) (by omega) (by omega) (by omega) W l o' hl) (Below.refl _ _) (fun _ => rfl)
    (fun pre w => TnI W B p v T W.heap.size pre w ∧ W.heap.size + 1 + 1 + 1 < w.heap.size) (fun _ _ _ => False) (OwnFrom.and (tnI_own (Nat.le_refl _) (by omega) (by omega) (fun k e => by have := hv k e; omega)) (fun _ _ _ _ hs hg _ => Nat.lt_of_lt_of_le hs hg.size)) (fun _ => fun _ _ _ _ hs _ _ => hs) ⟨hI5.out, by omega⟩
    (fun x => { tmps := #[.pointer (some ⟨p, 0, none⟩), .pointer (some ⟨W.heap.size, 0, none⟩), .slice none 0 0, .pointer (some ⟨W.heap.size + 1, 0, none⟩), .int .i64 x, .pointer (some ⟨p, 0, none⟩),
      .func (.func 56) #[] #[.pointer (some ⟨W.heap.size + 1 + 1, 0, none⟩), .pointer (some ⟨W.heap.size + 1 + 1 + 1, 0, none⟩)], .int .i64 x, undef, undef, undef, undef, undef, undef, undef, undef], defers := [] }) ?assign ?body ?done ?stop
  case assign =>
    intro l x W K hK
    gi_wp2
    exact hK
  case body =>
    rintro l pre x W6 ⟨hI, hlts⟩ hlt
    have d0 := hI.b0.cell 0
    simp only [List.getElem?_toArray, List.getElem?_cons_zero] at d0
    have HI := hid hI
    have h1 : 1 ≤ 4 - 1 - 1 := by decide
    cases hx : isB T x with
    | false =>
      have HX := hid hx
      have HIS := hid (hx ▸ is_any hI.bt x)
      clear hI hx
      gi_wp2
      refine ⟨trivial, (CallsIn.inRound l (callsIn_wide.2 HIS.out)).mono ?_⟩
      rintro e w' ⟨rfl, m, rfl⟩
      gi_wp2
      refine ⟨keeps_drewN _ _, ⟨rfl, rfl, rfl⟩, ⟨HI.out.bt.drewN m, HI.out.b0.drewN m, ?_, ⟨HI.out.below.os, HI.out.below.tape, HI.out.below.output, HI.out.below.size, HI.out.below.block⟩⟩, hlts⟩
      obtain ⟨vo, o1, o2⟩ := HI.out.out
      exact ⟨vo, o1.drewN m, by rw [List.filter_append]; simpa [HX.out] using o2.drewN m⟩
    | true =>
      have HX := hid hx
      have HIS := hid (hx ▸ is_any hI.bt x)
      obtain ⟨vo, o1, o2⟩ := hI.out
      have hvo := hid (show ∀ g, vo.ownBlock = some g → W.heap.size + 1 + 1 + 1 + 1 ≤ g from fun g e => (o2.block e).1)
      have hvc := hid (show ∀ k, vo.ownBlock = some k → ∃ cs t fr, W6.heap[k]? = some (.cells cs t fr) from fun k e => by
        obtain ⟨_, cur, hc⟩ := o2.block e
        exact ⟨_, _, _, hc⟩)
      have e1 := o1.cell 0
      have z1 := o1.frozen 0
      simp only [List.getElem?_toArray, List.getElem?_cons_zero] at e1
      have HO1 := hid o1
      have HO2 := hid o2
      have hlen := hid (show (pre.filter (isB T)).length < 1000000 by have := List.length_filter_le (isB T) pre; omega)
      have hbase : W.heap.size + 1 + 1 + 1 + 1 ≤ W6.heap.size := by omega
      clear hI hx o1 o2
      gi_wp2
      refine ⟨trivial, (CallsIn.inRound l (callsIn_wide.2 HIS.out)).mono ?_⟩
      rintro e w' ⟨rfl, m, rfl⟩
      gi_wp2_with (gi_at_builtin; refine wpListIn_push (w := W6.drewN m) rfl (.tmp 11) (.tmp 13) rfl (W.heap.size + 1 + 1 + 1 + 1) vo (pre.filter (isB T)) x rfl (HO2.out.drewN m) rfl hlen.out hbase ?_; intro v' w2 hown2 honly2 hgrow2; obtain ⟨g', cap', rfl, _⟩ := hown2.form (by simp); have k1 := honly2.blk (HO1.out.drewN m) (fun e => by have := hvo.out _ e; omega); have e2 := k1.cell 0; have z2 := k1.frozen 0; simp only [List.getElem?_toArray, List.getElem?_cons_zero] at e2; have HK1 := hid k1; have HW2 := hid hown2; have HL2 := hid honly2; clear k1 hown2 honly2 hgrow2)
      obtain ⟨nv, hnv⟩ : ∃ nv, Value.slice (some ⟨g', 0, none⟩) ((pre.filter (isB T)).length + 1) cap' = nv := ⟨_, rfl⟩
      have hW2 := HW2.out
      simp only [List.length_append, List.length_cons, List.length_nil, Nat.zero_add] at hW2
      rw [hnv] at hW2 ⊢
      have hset : Only (fun k => vo.ownBlock = some k ∨ k = W.heap.size + 1) (W6.drewN m) (w2.setCell ⟨W.heap.size + 1, 0, none⟩ nv) := (HL2.out.mono (fun _ _ h => .inl h)).setCell (.inl (.inr rfl)) _
      refine ⟨((keeps_drewN W6 m).trans (keeps_of_only HL2.out hvc.out)).trans (KeepsOthers.setCell _ _ _), ?_, ⟨(HI.out.bt.drewN m).keep hset (fun e => ?_) (fun k e e' => ?_), hset.blk (HI.out.b0.drewN m) (fun e => ?_), ⟨nv, ?_, ?_⟩, ?_⟩, ?_⟩
      · exact Kr.of_only (A := W6.drewN m) hset (fun e => by rcases e with e | e; have := hvo.out _ e; omega; omega) (fun e => by rcases e with e | e; have := hvo.out _ e; omega; omega) (fun e => by rcases e with e | e; have := hvo.out _ e; omega; omega) (by show _ < W6.heap.size; omega) (by show _ < W6.heap.size; omega) (by show _ < W6.heap.size; omega)
      · rcases e with e | e
        · have := hvo.out _ e; omega
        · omega
      · have := hv k e
        rcases e' with e' | e'
        · have := hvo.out _ e'; omega
        · omega
      · rcases e with e | e
        · have := hvo.out _ e; omega
        · omega
      · have := HK1.out.set_ 0 nv
        simpa using this
      · rw [List.filter_append]
        simp only [List.filter_cons, HX.out, if_true, List.filter_nil]
        exact hW2.keep ((Only.refl (fun k => k = W.heap.size + 1) w2).setCell (.inl rfl) _) (fun g e e' => by have := (hW2.block e).1; omega)
      · refine (HI.out.below.trans (Below.trans (b := W6.drewN m) ⟨rfl, rfl, rfl, Nat.le_refl _, fun _ _ => rfl⟩ ((hset.below (by show _ ≤ W6.heap.size; omega) (fun k hk e => ?_)))))
        rcases e with e | e
        · have := hvo.out _ e; omega
        · omega
      · have := hset.size
        exact Nat.lt_of_lt_of_le (show W.heap.size + 1 + 1 + 1 < (W6.drewN m).heap.size from hlts) this
  case done =>
    rintro D ys W7 hD rfl ⟨hI, _⟩ hK
    obtain ⟨vo, o1, o2⟩ := hI.out
    have e1 := o1.cell 0
    simp only [List.getElem?_toArray, List.getElem?_cons_zero] at e1
    have HB := hid hI.below
    have HK := hid hK
    have HO := hid o2
    clear hI o1 o2 hK
    gi_wp2
    refine ⟨by simp, .inl ⟨_, _, rfl, run_takeDeferred HK.out, ?_⟩⟩
    refine ⟨_, results_tmp rfl _ _ _, vo, rfl, ?_, ?_⟩
    · exact (HO.out.base (by omega)).kept (grownBy_putObj' W7 D (.deferred none)) (fun r e => by cases e; exact ⟨_, HK.out, rfl⟩)
    · exact HB.out.grown (grownBy_putObj' W7 D (.deferred none)) HB.out.size (fun k e => by cases e; omega)
  case stop =>
    rintro D c pre W _ _ h _
    exact h.elim
end Go.Proofs.Ytcblkdocbmpkeaa
