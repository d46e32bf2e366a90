/-
  What Run of package bits does, by a contract.
-/
import Derived.Test.YtcblkdocbmpkeaaTf
namespace Go.Proofs.Ytcblkdocbmpkeaa
open Go Go.RowKit Go.Shelf

attribute [local go_sem] Oper.semAt_some

theorem only_set (w : World) (g j : Nat) (u : Value) : Only (fun k => k = g) w (w.setCell ⟨g, j, none⟩ u) := Only.setCell (S := fun k => k = g) (p := ⟨g, j, none⟩) (Only.refl _ w) (.inl rfl) u

/-- How many free ones stand side by side behind some pages; none: so many once did. -/
def runStep (T : List Bool) (m : Int) (acc : Option Nat) (x : Int) : Option Nat :=
  match acc with
  | none => none
  | some s => if isB T x then some 0 else if ((s + 1 : Nat) : Int) = m then none else some (s + 1)
def runTo (T : List Bool) (m : Int) (l : List Int) : Option Nat := l.foldl (runStep T m) (some 0)
theorem runTo_snoc (T : List Bool) (m : Int) (l : List Int) (x : Int) : runTo T m (l ++ [x]) = runStep T m (runTo T m l) x := by simp [runTo, List.foldl_append]

structure RnI (W : World) (B p : Nat) (v : Value) (T : List Bool) (m : Int) (S : Nat) (pre : List Int) (w : World) : Prop where
  bt : Bt w B p v T
  b0 : Blk w S 60 #[.pointer (some ⟨p, 0, none⟩)]
  b1 : Blk w (S + 1) 3 #[.int .i64 m]
  b2 : Blk w (S + 1 + 1) 3 #[.int .i64 0]
  b3 : Blk w (S + 1 + 1 + 1) 4 #[.bool false]
  side : ∃ s : Nat, runTo T m pre = some s ∧ s ≤ pre.length ∧ Blk w (S + 1 + 1 + 1 + 1) 3 #[.int .i64 (s : Int)]
  below : Below S W w
  size : S + 1 + 1 + 1 + 1 + 1 + 1 ≤ w.heap.size
structure RnX (W : World) (B p : Nat) (v : Value) (T : List Bool) (m : Int) (S : Nat) (c : Code) (pre : List Int) (w : World) : Prop where
  code : c = .ret
  bt : Bt w B p v T
  ex : ∃ q x s, pre = q ++ [x] ∧ runTo T m q = some s ∧ isB T x = false ∧ ((s + 1 : Nat) : Int) = m ∧ Blk w (S + 1 + 1) 3 #[.int .i64 (wrap64 (wrap64 (x - m) + 1))] ∧ Blk w (S + 1 + 1 + 1) 4 #[.bool true]
  below : Below S W w
theorem rnI_own {W : World} {B p M : Nat} {v : Value} {T : List Bool} {m : Int} {S : Nat} (hS : S ≤ W.heap.size) (hM : S ≤ M) (hp : p < M) (hv : ∀ k, v.ownBlock = some k → k < M) : OwnFrom M (RnI W B p v T m S) :=
  fun _ _ _ _ hs hg hr => ⟨hs.bt.kept hp hv hg (fun r e => (hr r e).1), hs.b0.kept hg (fun r e => (hr r e).2), hs.b1.kept hg (fun r e => (hr r e).2), hs.b2.kept hg (fun r e => (hr r e).2), hs.b3.kept hg (fun r e => (hr r e).2), by
    obtain ⟨s, h1, h2, h3⟩ := hs.side
    exact ⟨s, h1, h2, h3.kept hg (fun r e => (hr r e).2)⟩, hs.below.grown hg (Nat.le_trans hS hs.below.size) (fun k e => Nat.le_trans hM (hr k e).1), Nat.le_trans hs.size hg.size⟩
theorem rnX_own {W : World} {B p M : Nat} {v : Value} {T : List Bool} {m : Int} {S : Nat} (hS : S ≤ W.heap.size) (hM : S ≤ M) (hp : p < M) (hv : ∀ k, v.ownBlock = some k → k < M) (c : Code) : OwnFrom M (RnX W B p v T m S c) :=
  fun _ _ _ _ hs hg hr => ⟨hs.code, hs.bt.kept hp hv hg (fun r e => (hr r e).1), by
    obtain ⟨q, x, s, h1, h2, h3, h4, h5, h6⟩ := hs.ex
    exact ⟨q, x, s, h1, h2, h3, h4, h5.kept hg (fun r e => (hr r e).2), h6.kept hg (fun r e => (hr r e).2)⟩, hs.below.grown hg (Nat.le_trans hS hs.below.size) (fun k e => Nat.le_trans hM (hr k e).1)⟩

theorem rn_next {W A C : World} {B p : Nat} {v : Value} {T : List Bool} {m : Int} {S s : Nat} {pre pre' : List Int} (hI : RnI W B p v T m S pre A) (hlt : S + 1 + 1 + 1 + 1 + 1 + 1 < A.heap.size) (ho : Only (fun k => k = S + 1 + 1 + 1 + 1) A C) (hb : Blk C (S + 1 + 1 + 1 + 1) 3 #[.int .i64 (s : Int)])
    (hr : runTo T m pre' = some s) (hs : s ≤ pre'.length) (hp : p < S) (hv : ∀ k, v.ownBlock = some k → k < S) :
    KeepsOthers A C ∧ Kr (S + 1 + 1 + 1 + 1 + 1) (S + 1 + 1 + 1 + 1 + 1 + 1) p A C ∧ RnI W B p v T m S pre' C ∧ S + 1 + 1 + 1 + 1 + 1 + 1 < C.heap.size := by
  obtain ⟨s0, _, _, b4⟩ := hI.side
  refine ⟨keeps_of_only ho (fun k e => ?_), Kr.of_only ho (by omega) (by omega) (by omega) (by omega) (by omega) (by omega),
    ⟨hI.bt.keep ho (by omega) (fun k e e' => by have := hv k e; omega), ho.blk hI.b0 (by omega), ho.blk hI.b1 (by omega), ho.blk hI.b2 (by omega), ho.blk hI.b3 (by omega), ⟨s, hr, hs, hb⟩, ?_, Nat.le_trans hI.size ho.size⟩, Nat.lt_of_lt_of_le hlt ho.size⟩
  · subst e
    exact ⟨_, _, _, b4⟩
  · exact hI.below.trans (ho.below (by omega) (fun k hk e => by omega))

set_option maxRecDepth 100000 in
set_option maxHeartbeats 2000000 in
theorem run_yes {W : World} {B p : Nat} {v : Value} {T : List Bool} (h : Bt W B p v T) (m : Int) (hm : 1 ≤ m) :
    Calls Try.prog 44 #[.pointer (some ⟨p, 0, none⟩), .int .i64 m] W fun e W' =>
      ((e = .returned (.tuple #[.int .i64 0, .bool false]) ∧ ∃ s, runTo T m (upto (rnd 0 T.length) T.length) = some s) ∨
       (∃ q x k s, upto (rnd 0 T.length) k = q ++ [x] ∧ k ≤ T.length ∧ runTo T m q = some s ∧ isB T x = false ∧ ((s + 1 : Nat) : Int) = m ∧ e = .returned (.tuple #[.int .i64 (wrap64 (wrap64 (x - m) + 1)), .bool true]))) ∧ Below W.heap.size W W' := by
  have hN1 := h.len1
  have hN2 := h.len2
  have hp : p < W.heap.size := h.blk.lt
  have hv : ∀ k, v.ownBlock = some k → k < W.heap.size := fun k e => h.lt e
  refine (callsIn_wide (n := 4)).1 ?_
  refine callsIn_of_wp_marks Try.func44 rfl trivial ?_ rfl
  simp only [Try.ntmps44, List.size_toArray, List.length_cons, List.length_nil, Nat.reduceAdd, Nat.reduceSub, Array.replicate_succ, Array.replicate_zero, List.push_toArray, List.append_toArray, List.nil_append, List.cons_append]
  obtain ⟨W4, hW4⟩ : ∃ W4, (((W.alloc (.cells #[.pointer (some ⟨p, 0, none⟩)] 60)).alloc (.cells #[.int .i64 m] 3)).alloc (.cells #[.int .i64 0] 3)).alloc (.cells #[.bool false] 4) = W4 := ⟨_, rfl⟩
  have hsz : W4.heap.size = W.heap.size + 1 + 1 + 1 + 1 := by rw [← hW4]; simp
  have g0 : Blk W4 W.heap.size 60 #[.pointer (some ⟨p, 0, none⟩)] := by rw [← hW4]; exact (((Blk.new W _ _).alloc _).alloc _).alloc _
  have g1 : Blk W4 (W.heap.size + 1) 3 #[.int .i64 m] := by
    rw [← hW4]
    have := ((Blk.new (W.alloc (.cells #[.pointer (some ⟨p, 0, none⟩)] 60)) 3 #[.int .i64 m]).alloc (.cells #[.int .i64 0] 3)).alloc (.cells #[.bool false] 4)
    simpa using this
  have g2 : Blk W4 (W.heap.size + 1 + 1) 3 #[.int .i64 0] := by
    rw [← hW4]
    have := (Blk.new ((W.alloc (.cells #[.pointer (some ⟨p, 0, none⟩)] 60)).alloc (.cells #[.int .i64 m] 3)) 3 #[.int .i64 0]).alloc (.cells #[.bool false] 4)
    simpa using this
  have g3 : Blk W4 (W.heap.size + 1 + 1 + 1) 4 #[.bool false] := by
    rw [← hW4]
    have := Blk.new (((W.alloc (.cells #[.pointer (some ⟨p, 0, none⟩)] 60)).alloc (.cells #[.int .i64 m] 3)).alloc (.cells #[.int .i64 0] 3)) 4 #[.bool false]
    simpa using this
  have gb : Bt W4 B p v T := by rw [← hW4]; exact (((h.alloc _).alloc _).alloc _).alloc _
  have gw : Below W.heap.size W W4 := by rw [← hW4]; exact ((((Below.refl _ W).alloc (Nat.le_refl _) _).alloc (by simp) _).alloc (by simp; omega) _).alloc (by simp; omega) _
  have c0 := g0.cell 0
  have c1 := g1.cell 0
  simp only [List.getElem?_toArray, List.getElem?_cons_zero] at c0 c1
  have G0 := hid g0
  have G1 := hid g1
  have G2 := hid g2
  have G3 := hid g3
  have GB := hid gb
  have GW := hid gw
  have hm' : ¬ m < 1 := by omega
  clear g0 g1 g2 g3 gb gw h
  gi_wp2
  clear hW4
  have r4 := Blk.new W4 3 #[.int .i64 0]
  rw [hsz] at r4
  refine ⟨trivial, (callsIn_wide.2 (round_any ⟨p, 0, none⟩ ((0 : Nat) : Int))).mono ?_⟩
  rintro e w' ⟨rfl, rfl⟩
  gi_wp2
  have r5 := (Blk.new (W4.alloc (.cells #[.int .i64 0] 3)) 60 #[.pointer (some ⟨p, 0, none⟩)]).alloc (.cells #[.int .i64 0] 3)
  have r6 := Blk.new ((W4.alloc (.cells #[.int .i64 0] 3)).alloc (.cells #[.pointer (some ⟨p, 0, none⟩)] 60)) 3 #[.int .i64 0]
  simp only [World.size_alloc] at r5 r6
  rw [hsz] at r5 r6
  have hsz7 : (((W4.alloc (.cells #[.int .i64 0] 3)).alloc (.cells #[.pointer (some ⟨p, 0, none⟩)] 60)).alloc (.cells #[.int .i64 0] 3)).heap.size = W.heap.size + 1 + 1 + 1 + 1 + 1 + 1 + 1 := by simp [hsz]
  have hI5 : Hid (RnI W B p v T m W.heap.size [] (((W4.alloc (.cells #[.int .i64 0] 3)).alloc (.cells #[.pointer (some ⟨p, 0, none⟩)] 60)).alloc (.cells #[.int .i64 0] 3))) :=
    ⟨((GB.out.alloc _).alloc _).alloc _, ((G0.out.alloc _).alloc _).alloc _, ((G1.out.alloc _).alloc _).alloc _, ((G2.out.alloc _).alloc _).alloc _, ((G3.out.alloc _).alloc _).alloc _, ⟨0, rfl, Nat.zero_le _, (r4.alloc _).alloc _⟩, ((GW.out.alloc (by omega) _).alloc (by simp; omega) _).alloc (by simp; omega) _, by rw [hsz7]; omega⟩
  generalize ((W4.alloc (.cells #[.int .i64 0] 3)).alloc (.cells #[.pointer (some ⟨p, 0, none⟩)] 60)).alloc (.cells #[.int .i64 0] 3) = W5 at *
  have hbt5 := hI5.out.bt.blk.cell 1
  refine wpIn_rangeFunc_ownF rfl (by decide) (gf := 56) (lb := #[.pointer (some ⟨W.heap.size + 1 + 1 + 1 + 1 + 1, 0, none⟩), .pointer (some ⟨W.heap.size + 1 + 1 + 1 + 1 + 1 + 1, 0, none⟩)]) rfl trivial (enters_of Try.func56 (by kernel_rfl) rfl)
    (round_stops _ (by decide) (W.heap.size + 1 + 1 + 1 + 1 + 1) (W.heap.size + 1 + 1 + 1 + 1 + 1 + 1) p 0 T.length (by omega) hN1 hN2 W5 (r5.cell 0) (r6.cell 0) hbt5) (fun {A B C} h k => h.trans k)
    (fun W l o o' hl _ _ _ => Kr.put (B := W5.heap.size) (by omega) (by omega) (by omega) W l o' hl) (Below.refl _ _) (fun _ => rfl)
    (fun pre w => RnI W B p v T m W.heap.size pre w ∧ W.heap.size + 1 + 1 + 1 + 1 + 1 + 1 < w.heap.size) (RnX W B p v T m W.heap.size) (OwnFrom.and (rnI_own (Nat.le_refl _) (by omega) (by omega) (fun k e => by have := hv k e; omega)) (fun _ _ _ _ hs hg _ => Nat.lt_of_lt_of_le hs hg.size)) (fun c => rnX_own (Nat.le_refl _) (by omega) (by omega) (fun k e => by have := hv k e; omega) c) ⟨hI5.out, by omega⟩
    (fun x => { tmps := #[.pointer (some ⟨p, 0, none⟩), .int .i64 m, .pointer (some ⟨W.heap.size, 0, none⟩), .pointer (some ⟨W.heap.size + 1, 0, none⟩), .pointer (some ⟨W.heap.size + 1 + 1, 0, none⟩), .pointer (some ⟨W.heap.size + 1 + 1 + 1, 0, none⟩), .pointer (some ⟨W.heap.size + 1 + 1 + 1 + 1, 0, none⟩), .int .i64 x, .int .i64 m, .bool false, .pointer (some ⟨p, 0, none⟩),
      .func (.func 56) #[] #[.pointer (some ⟨W.heap.size + 1 + 1 + 1 + 1 + 1, 0, none⟩), .pointer (some ⟨W.heap.size + 1 + 1 + 1 + 1 + 1 + 1, 0, none⟩)], .int .i64 x, undef, undef, undef, undef, undef, undef, undef, undef, undef, undef, undef, undef], defers := [] }) ?assign ?body ?done ?stop
  case assign =>
    intro l x W K hK
    gi_wp2
    exact hK
  case body =>
    rintro l pre x W6 ⟨hI, hlts⟩ hlt
    obtain ⟨s, s1, s2, b4⟩ := hI.side
    have d0 := hI.b0.cell 0
    have d1 := hI.b1.cell 0
    have d2 := hI.b2.cell 0
    have d3 := hI.b3.cell 0
    have d4 := b4.cell 0
    have z2 := hI.b2.frozen 0
    have z3 := hI.b3.frozen 0
    have z4 := b4.frozen 0
    simp only [List.getElem?_toArray, List.getElem?_cons_zero] at d0 d1 d2 d3 d4
    have HI := hid hI
    have HS1 := hid s1
    have HB4 := hid b4
    have h1 : 1 ≤ 4 - 1 - 1 := by decide
    have hs0 : (s : Int) ≤ 1024 := by omega
    have hsi : (0 : Int) ≤ (s : Int) := by omega
    have hset1 : Only (fun k => k = W.heap.size + 1 + 1 + 1 + 1) W6 (W6.setCell ⟨W.heap.size + 1 + 1 + 1 + 1, 0, none⟩ (.int .i64 ((s : Int) + 1))) := only_set _ _ _ _
    have HBT1 := hid (hI.bt.keep hset1 (fun e => by omega) (fun k e e' => by have := hv k e; omega))
    have HSET := hid hset1
    cases hx : isB T x with
    | true =>
      have HX := hid hx
      have HIS := hid (hx ▸ is_any HBT1.out x)
      clear hI hx s1 b4 hset1
      have hm0 : ¬ (0 : Int) = m := by omega
      gi_wp2
      refine ⟨trivial, (CallsIn.inRound l (callsIn_wide.2 HIS.out)).mono ?_⟩
      rintro e w' ⟨rfl, mm, rfl⟩
      gi_wp2
      refine (fun q => ⟨q.1, q.2.1, q.2.2⟩) (rn_next (s := 0) HI.out hlts (Only.setCell (S := fun k => k = W.heap.size + 1 + 1 + 1 + 1) (p := ⟨W.heap.size + 1 + 1 + 1 + 1, 0, none⟩) (HSET.out.drewN mm) (.inl rfl) _) ?_ ?_ (Nat.zero_le _) hp hv)
      · have := ((HB4.out.set_ 0 (.int .i64 ((s : Int) + 1))).drewN mm).set_ 0 (.int .i64 0)
        simpa using this
      · rw [runTo_snoc, HS1.out]
        simp [runStep, HX.out]
    | false =>
      have HX := hid hx
      have HIS := hid (hx ▸ is_any HBT1.out x)
      clear hI hx s1 b4 hset1
      gi_wp2
      refine ⟨trivial, (CallsIn.inRound l (callsIn_wide.2 HIS.out)).mono ?_⟩
      rintro e w' ⟨rfl, mm, rfl⟩
      by_cases hsm : (s : Int) + 1 = m
      · have hbe : (((s : Int) + 1) == m) = true := by simp [hsm]
        have HSM := hid hsm
        clear hsm
        gi_wp2
        obtain ⟨y, hy⟩ : ∃ y, wrap64 (wrap64 (x - m) + 1) = y := ⟨_, rfl⟩
        rw [hy]
        have hne : ¬ W.heap.size + 1 + 1 = W.heap.size + 1 + 1 + 1 := by omega
        have hne4 : ¬ W.heap.size + 1 + 1 = W.heap.size + 1 + 1 + 1 + 1 := by omega
        have hne5 : ¬ W.heap.size + 1 + 1 + 1 = W.heap.size + 1 + 1 + 1 + 1 := by omega
        have n2 := (((HI.out.b2.far (p := ⟨W.heap.size + 1 + 1 + 1 + 1, 0, none⟩) hne4 (.int .i64 ((s : Int) + 1))).drewN mm).set_ 0 (.int .i64 y)).far (p := ⟨W.heap.size + 1 + 1 + 1, 0, none⟩) hne (.bool true)
        have n3 := (((HI.out.b3.far (p := ⟨W.heap.size + 1 + 1 + 1 + 1, 0, none⟩) hne5 (.int .i64 ((s : Int) + 1))).drewN mm).far (p := ⟨W.heap.size + 1 + 1, 0, none⟩) (fun e => hne e.symm) (.int .i64 y)).set_ 0 (.bool true)
        have hset : Only (fun k => W.heap.size ≤ k) W6 ((((W6.setCell ⟨W.heap.size + 1 + 1 + 1 + 1, 0, none⟩ (.int .i64 ((s : Int) + 1))).drewN mm).setCell ⟨W.heap.size + 1 + 1, 0, none⟩ (.int .i64 y)).setCell ⟨W.heap.size + 1 + 1 + 1, 0, none⟩ (.bool true)) :=
          Only.setCell (p := ⟨W.heap.size + 1 + 1 + 1, 0, none⟩) (Only.setCell (p := ⟨W.heap.size + 1 + 1, 0, none⟩) (((HSET.out.mono (T := fun k => W.heap.size ≤ k) (fun k _ e => by omega))).drewN mm) (.inl (by simp; omega)) _) (.inl (by simp; omega)) _
        refine ⟨((KeepsOthers.setCell W6 _ _).trans (keeps_drewN _ mm)).trans ((KeepsOthers.setCell _ _ _).trans (KeepsOthers.setCell _ _ _)), rfl, HI.out.bt.keep hset (fun e => by omega) (fun k e e' => by have := hv k e; omega), ⟨pre, x, s, rfl, HS1.out, HX.out, by have := HSM.out; omega, ?_, ?_⟩, HI.out.below.trans (hset.below (by omega) (fun k hk e => by omega))⟩
        · rw [hy]; simpa using n2
        · simpa using n3
      · have hbe : (((s : Int) + 1) == m) = false := by simp [hsm]
        gi_wp2
        refine (fun q => ⟨q.1, q.2.1, q.2.2⟩) (rn_next (s := s + 1) HI.out hlts (HSET.out.drewN mm) ?_ ?_ (by simp; omega) hp hv)
        · have := (HB4.out.set_ 0 (.int .i64 ((s : Int) + 1))).drewN mm
          simpa using this
        · rw [runTo_snoc, HS1.out]
          have : ¬ ((s + 1 : Nat) : Int) = m := by omega
          simp [runStep, HX.out, hsm]
  case done =>
    rintro D ys W7 hD rfl ⟨hI, hlts⟩ hK
    have e2 := hI.b2.cell 0
    have e3 := hI.b3.cell 0
    have z2 := hI.b2.frozen 0
    have z3 := hI.b3.frozen 0
    simp only [List.getElem?_toArray, List.getElem?_cons_zero] at e2 e3
    have HI := hid hI
    have HK := hid hK
    clear hI hK
    gi_wp2
    have hne : ¬ W.heap.size + 1 + 1 = W.heap.size + 1 + 1 + 1 := by omega
    have n2 := (HI.out.b2.set_ 0 (.int .i64 0)).far (p := ⟨W.heap.size + 1 + 1 + 1, 0, none⟩) hne (.bool false)
    have n3 := (HI.out.b3.far (p := ⟨W.heap.size + 1 + 1, 0, none⟩) (fun e => hne e.symm) (.int .i64 0)).set_ 0 (.bool false)
    have nw := (HI.out.below.setCell (p := ⟨W.heap.size + 1 + 1, 0, none⟩) (by simp; omega) (.int .i64 0)).setCell (p := ⟨W.heap.size + 1 + 1 + 1, 0, none⟩) (by simp; omega) (.bool false)
    have nk := ((KeepsOthers.setCell W7 ⟨W.heap.size + 1 + 1, 0, none⟩ (.int .i64 0)).trans (KeepsOthers.setCell _ ⟨W.heap.size + 1 + 1 + 1, 0, none⟩ (.bool false))).same D _ HK.out rfl
    generalize (W7.setCell ⟨W.heap.size + 1 + 1, 0, none⟩ (.int .i64 0)).setCell ⟨W.heap.size + 1 + 1 + 1, 0, none⟩ (.bool false) = W8 at *
    refine ⟨by simp, .inl ⟨_, _, rfl, run_takeDeferred nk, ?_⟩⟩
    have hr : ∀ r, some D = some r → ∃ o : Obj, W8.heap[r]? = some o ∧ o.isCells = false := fun r e => by cases e; exact ⟨_, nk, rfl⟩
    have y1 := (n2.kept (grownBy_putObj' W8 D (.deferred none)) hr).cell 0
    have y2 := (n3.kept (grownBy_putObj' W8 D (.deferred none)) hr).cell 0
    simp only [List.getElem?_toArray, List.getElem?_cons_zero, List.setIfInBounds_toArray, List.set_cons_zero] at y1 y2
    obtain ⟨s, s1, _, _⟩ := HI.out.side
    refine ⟨.tuple #[.int .i64 0, .bool false], ?_, .inl ⟨rfl, s, s1⟩, nw.grown (grownBy_putObj' W8 D (.deferred none)) nw.size (fun k e => by cases e; omega)⟩
    simp [results, Try.f44, go_sem, y1, y2]
  case stop =>
    rintro D c pre W7 hD ⟨k, hk, rfl⟩ hX hK
    obtain ⟨hc, hbt, ⟨q, x, s, q1, q2, q3, q4, q5, q6⟩, hw⟩ := hX
    subst hc
    gi_wp2
    refine ⟨by simp, .inl ⟨_, _, rfl, run_takeDeferred hK, ?_⟩⟩
    have hr : ∀ r, some D = some r → ∃ o : Obj, W7.heap[r]? = some o ∧ o.isCells = false := fun r e => by cases e; exact ⟨_, hK, rfl⟩
    have y1 := (q5.kept (grownBy_putObj' W7 D (.deferred none)) hr).cell 0
    have y2 := (q6.kept (grownBy_putObj' W7 D (.deferred none)) hr).cell 0
    simp only [List.getElem?_toArray, List.getElem?_cons_zero] at y1 y2
    refine ⟨.tuple #[.int .i64 (wrap64 (wrap64 (x - m) + 1)), .bool true], ?_, .inr ⟨q, x, k, s, q1, hk, q2, q3, q4, rfl⟩, hw.grown (grownBy_putObj' W7 D (.deferred none)) hw.size (fun k e => by cases e; omega)⟩
    simp [results, Try.f44, go_sem, y1, y2]
end Go.Proofs.Ytcblkdocbmpkeaa
