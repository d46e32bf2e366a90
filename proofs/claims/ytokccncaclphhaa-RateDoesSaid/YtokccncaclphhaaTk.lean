/-
  What Take, Tick and Wait of a Rate do, each by a contract.
-/
import Derived.Test.YtokccncaclphhaaRt
import Derived.Deep.DeepCutAuto
import Derived.Deep.CutRange
import Derived.Deep.CutBlock
open Go Go.RowKit Go.Conc
namespace Go.Proofs.Ytokccncaclphhaa

theorem take_yes {W : World} {b c m : Nat} {wd now all first : Int} {q P : List Int} (h : Rt W b c m wd now all first q) (hp : Held first q P) (hm : m ≤ 1000) (hl : P.length < m)
    (a0 : 0 ≤ all) (a1 : all ≤ 1000000) :
    Calls Try.prog 10 #[.pointer (some ⟨b, 0, none⟩)] W fun e W' => e = .returned (.int .i64 0) ∧ Rt W' b c m wd now (all + 1) first (q ++ [now]) ∧ Only (fun k => k = b ∨ k = c) W W' := by
  have hh := hid (may_any h hp hm (by omega))
  have e1 := hid (show decide (P.length < m) = true by simp; omega)
  have hq : q.length < m := by
    rcases hp with ⟨_, rfl⟩ | ⟨_, rfl⟩
    · exact hl
    · simp at hl; omega
  have h2 := h.set2 (all + 1)
  have h3 := fun s r => h2.setChan (q ++ [now]) s r
  have o2 : Only (fun k => k = b ∨ k = c) W (W.setCell ⟨b, 2, none⟩ (.int .i64 (all + 1))) := (Only.refl _ _).setCell (.inl (.inl rfl)) _
  obtain ⟨d0, d1, d2, d3, d4, _⟩ := h2.cells
  obtain ⟨c0, c1, c2, c3, c4, fz⟩ := h.cells
  obtain ⟨_, s, r, hc⟩ := h2
  have h3 := h3 (s + 1) r
  have o3 := o2.trans ((only_setChan (W.setCell ⟨b, 2, none⟩ (.int .i64 (all + 1))) c m ((q ++ [now]).map (Value.int .i64)).toArray (s + 1) r).mono (fun k _ hk => .inr hk))
  clear h hp hl o2
  simp only [List.map_append, List.map_cons, List.map_nil] at h3 o3
  refine calls_of_wpN Try.func10 rfl ?_
  simp only [Try.ntmps10, List.size_toArray, List.length_cons, List.length_nil, Nat.reduceAdd, Nat.reduceSub, Array.replicate_succ,
     Array.replicate_zero, List.push_toArray, List.append_toArray, List.nil_append, List.cons_append]
  refine wpN_seq (WpN.of ?_)
  go_wp2
  refine wpN_seq (WpN.of ?_)
  go_wp2_with (go_at_call 14; refine hh.out.mono ?_; rintro e w' ⟨rfl, rfl⟩; rw [e1.out])
  refine wpN_seq (WpN.of ?_)
  go_wp2
  refine wpN_seq (WpN.of ?_)
  go_wp2
  refine wpN_seq (wpN_send_room (c := c) (v := .int .i64 now) (z := .int .i64 0) rfl (by simp [go_sem, execOp, scase, Act.eval]) (buf := q.map (Value.int .i64)) (by simpa using hc) (by simpa using hq) ?_)
  go_wp2
  refine WpN.of ?_
  go_wp2
  go_ret
  exact ⟨rfl, h3, o3⟩

/-! ### Tick -/
/-- The state at the head of Tick's loop: the oldest time has been taken out of the channel, if there is one. -/
def Primed (W₀ W : World) (b c m : Nat) (wd now all lim : Int) (P P' : List Int) : Prop :=
  ∃ first q, Rt W b c m wd now all first q ∧ ((first = -1 ∧ q = [] ∧ P' = []) ∨ (0 ≤ first ∧ P' = first :: q)) ∧ (∀ t ∈ P', 0 ≤ t) ∧ Pl.drops lim P' = Pl.drops lim P ∧ Only (fun k => k = b ∨ k = c) W₀ W

theorem Primed.nil {W₀ W : World} {b c m : Nat} {wd now all lim : Int} {P : List Int} (h : Primed W₀ W b c m wd now all lim P []) :
    Rt W b c m wd now all (-1) [] ∧ Pl.drops lim P = [] ∧ Only (fun k => k = b ∨ k = c) W₀ W := by
  obtain ⟨first, q, h1, h2, _, h4, h5⟩ := h
  rcases h2 with ⟨rfl, rfl, _⟩ | ⟨_, h2⟩
  · exact ⟨h1, h4.symm, h5⟩
  · cases h2
theorem Primed.cons {W₀ W : World} {b c m : Nat} {wd now all lim t : Int} {P r : List Int} (h : Primed W₀ W b c m wd now all lim P (t :: r)) :
    Rt W b c m wd now all t r ∧ (∀ x ∈ t :: r, 0 ≤ x) ∧ Pl.drops lim (t :: r) = Pl.drops lim P ∧ Only (fun k => k = b ∨ k = c) W₀ W := by
  obtain ⟨first, q, h1, h2, h3, h4, h5⟩ := h
  rcases h2 with ⟨_, _, h2⟩ | ⟨_, h2⟩
  · cases h2
  · injection h2 with e1 e2
    subst e1 e2
    exact ⟨h1, h3, h4, h5⟩

theorem Primed.end_ {W₀ W : World} {b c m : Nat} {wd now all lim : Int} {P P' : List Int} (h : Primed W₀ W b c m wd now all lim P P') (hd : Pl.drops lim P' = P') :
    (∃ first' q', Rt W b c m wd now all first' q' ∧ Held first' q' (Pl.drops lim P)) ∧ Only (fun k => k = b ∨ k = c) W₀ W := by
  obtain ⟨first, q, h1, h2, _, h4, h5⟩ := h
  refine ⟨⟨first, q, h1, ?_⟩, h5⟩
  rw [← h4, hd]
  rcases h2 with ⟨rfl, rfl, rfl⟩ | ⟨h0, rfl⟩
  · exact .inl ⟨rfl, rfl⟩
  · exact .inr ⟨h0, rfl⟩

/-- What Tick leaves. -/
def Ticked (W₀ W : World) (b c m : Nat) (wd now all lim : Int) (P : List Int) : Prop :=
  (∃ first' q', Rt W b c m wd now all first' q' ∧ Held first' q' (Pl.drops lim P)) ∧ Only (fun k => k = b ∨ k = c) W₀ W

theorem Primed.next {W₀ W W' : World} {b c m : Nat} {wd now all lim t u : Int} {P r : List Int} (h : Primed W₀ W b c m wd now all lim P (t :: u :: r)) (hle : t ≤ lim)
    (hr : Rt W' b c m wd now all t r) (ho : Only (· = c) W W') : Primed W₀ (W'.setCell ⟨b, 4, none⟩ (.int .i64 u)) b c m wd now all lim P (u :: r) := by
  obtain ⟨_, h3, h4, h5⟩ := h.cons
  refine ⟨u, r, hr.set4 u, .inr ⟨h3 u (by simp), rfl⟩, fun x hx => h3 x (by simp at hx ⊢; exact .inr hx), ?_, (h5.trans (ho.mono fun k _ hk => .inr hk)).setCell (.inl (.inl rfl)) _⟩
  rw [← h4]
  conv => rhs; simp only [Pl.drops, if_pos hle]
  simp [Pl.drops]
theorem Primed.last {W₀ W : World} {b c m : Nat} {wd now all lim t : Int} {P : List Int} (h : Primed W₀ W b c m wd now all lim P [t]) (hle : t ≤ lim) :
    Primed W₀ (W.setCell ⟨b, 4, none⟩ (.int .i64 (-1))) b c m wd now all lim P [] := by
  obtain ⟨h1, h3, h4, h5⟩ := h.cons
  refine ⟨-1, [], h1.set4 _, .inl ⟨rfl, rfl, rfl⟩, fun x hx => by simp at hx, ?_, h5.setCell (.inl (.inl rfl)) _⟩
  rw [← h4]
  simp [Pl.drops, hle]
theorem Primed.drewN {W₀ W : World} {b c m : Nat} {wd now all lim : Int} {P P' : List Int} (h : Primed W₀ W b c m wd now all lim P P') (n : Nat) : Primed W₀ (W.drewN n) b c m wd now all lim P P' := by
  obtain ⟨first, q, h1, h2, h3, h4, h5⟩ := h
  exact ⟨first, q, h1.drewN n, h2, h3, h4, h5.drewN n⟩

set_option maxHeartbeats 400000 in
theorem tick_any {W : World} {b c m : Nat} {wd now all first : Int} {q P : List Int} (h : Rt W b c m wd now all first q) (hp : Held first q P) (hpos : ∀ t ∈ P, 0 ≤ t)
    (n0 : 0 ≤ now) (n1 : now ≤ 1000000) (w0 : 1 ≤ wd) (w1 : wd ≤ 1000) :
    Calls Try.prog 9 #[.pointer (some ⟨b, 0, none⟩)] W fun e W' => e = .returned (.tuple #[]) ∧ Ticked W W' b c m wd (now + 1) all (now + 1 - wd) P := by
  obtain ⟨c0, c1, c2, c3, c4, fz⟩ := h.cells
  have h1 := h.set1 (now + 1)
  have o1 : Only (fun k => k = b ∨ k = c) W (W.setCell ⟨b, 1, none⟩ (.int .i64 (now + 1))) := (Only.refl _ _).setCell (.inl (.inl rfl)) _
  obtain ⟨d0, d1, d2, d3, d4, fy⟩ := h1.cells
  have hway : (first = -1 ∧ q = [] ∧ Hid (P = [])) ∨ (∃ t r, first = -1 ∧ q = t :: r ∧ Hid (P = t :: r)) ∨ (0 ≤ first ∧ Hid (P = first :: q)) := by
    rcases hp with ⟨rfl, rfl⟩ | h
    · cases q with
      | nil => exact .inl ⟨rfl, rfl, rfl⟩
      | cons t r => exact .inr (.inl ⟨t, r, rfl, rfl, rfl⟩)
    · exact .inr (.inr h)
  have hps := hid hpos
  have H1 := hid h1
  have O1 := hid o1
  have H0 := hid h
  clear h hp hpos h1 o1
  rcases hway with ⟨rfl, rfl, HP⟩ | ⟨t, r, rfl, rfl, HP⟩ | ⟨hf, HP⟩
  · go_enter Try.func9, Try.ntmps9
    go_wp2_with (go_at_call 20; refine (next_none H1.out).mono ?_; rintro e w' ⟨rfl, rfl⟩)
    go_loopg [] P.length (fun k wr => ∃ P', k = P'.length ∧ Primed W wr b c m wd (now + 1) all (now + 1 - wd) P P')
    case atStart =>
      have hP := HP.out
      have hps := hps.out
      have h1 := H1.out
      have o1 := O1.out
      subst hP
      exact ⟨[], rfl, -1, [], h1.set4 _, .inl ⟨rfl, rfl, rfl⟩, fun x hx => by simp at hx, rfl, o1.setCell (.inl (.inl rfl)) _⟩
    case round =>
      obtain ⟨P', rfl, hP⟩ := hrel
      cases P' with
      | nil =>
        obtain ⟨hr, _⟩ := hP.nil
        obtain ⟨e0, e1, e2, e3, e4, fe⟩ := hr.cells
        go_wp2_with fail
        go_quiet (fail)
        go_wp2
        go_end0
        exact ⟨rfl, (hP.drewN _).end_ rfl⟩
      | cons t r =>
        obtain ⟨hr, ht0, _⟩ := hP.cons
        obtain ⟨e0, e1, e2, e3, e4, fe⟩ := hr.cells
        have ht := ht0 t (by simp)
        have hne : (t != -1) = true := by rw [bne_iff_ne]; omega
        clear ht0
        by_cases hle : t ≤ now + 1 - wd
        · cases r with
          | nil =>
            go_wp2_with fail
            go_quiet (fail)
            go_wp2_with (go_at_call 20; refine (next_none (hr.drewN _)).mono ?_; rintro e w' ⟨rfl, rfl⟩)
            go_roundg 0
            case measure => simp
            case rel => exact ⟨[], rfl, (hP.drewN _).last hle⟩
          | cons u r =>
            have nx := fun n => hid (next_some (hr.drewN n))
            go_wp2_with fail
            go_quiet (fail)
            go_wp2_with (go_at_call 20; refine (nx _).out.mono ?_; rintro e w' ⟨rfl, hr', ho'⟩; obtain ⟨g0, g1, g2, g3, g4, gz⟩ := hr'.cells; have HR := hid hr'; have HO := hid ho'; clear hr' ho')
            go_roundg (u :: r).length
            case measure => simp
            case rel => exact ⟨u :: r, rfl, (hP.drewN _).next hle HR.out HO.out⟩
        · have hgt : decide (t ≤ now + 1 - wd) = false := by simp; omega
          go_wp2_with fail
          go_quiet (fail)
          go_wp2
          go_end0
          exact ⟨rfl, (hP.drewN _).end_ (by rw [Pl.drops, if_neg (by omega)])⟩
  · go_enter Try.func9, Try.ntmps9
    go_wp2_with (go_at_call 20; refine (next_some H1.out).mono ?_; rintro e w' ⟨rfl, hr', ho'⟩; obtain ⟨g0, g1, g2, g3, g4, gz⟩ := hr'.cells; have HR := hid hr'; have HO := hid ho'; clear hr' ho')
    go_loopg [] P.length (fun k wr => ∃ P', k = P'.length ∧ Primed W wr b c m wd (now + 1) all (now + 1 - wd) P P')
    case atStart =>
      have hP := HP.out
      have hps := hps.out
      have h1 := H1.out
      have o1 := O1.out
      subst hP
      exact ⟨t :: r, rfl, t, r, HR.out.set4 _, .inr ⟨hps t (by simp), rfl⟩, hps, rfl, (o1.trans (HO.out.mono fun k _ hk => .inr hk)).setCell (.inl (.inl rfl)) _⟩
    case round =>
      obtain ⟨P', rfl, hP⟩ := hrel
      cases P' with
      | nil =>
        obtain ⟨hr, _⟩ := hP.nil
        obtain ⟨e0, e1, e2, e3, e4, fe⟩ := hr.cells
        go_wp2_with fail
        go_quiet (fail)
        go_wp2
        go_end0
        exact ⟨rfl, (hP.drewN _).end_ rfl⟩
      | cons t r =>
        obtain ⟨hr, ht0, _⟩ := hP.cons
        obtain ⟨e0, e1, e2, e3, e4, fe⟩ := hr.cells
        have ht := ht0 t (by simp)
        have hne : (t != -1) = true := by rw [bne_iff_ne]; omega
        clear ht0
        by_cases hle : t ≤ now + 1 - wd
        · cases r with
          | nil =>
            go_wp2_with fail
            go_quiet (fail)
            go_wp2_with (go_at_call 20; refine (next_none (hr.drewN _)).mono ?_; rintro e w' ⟨rfl, rfl⟩)
            go_roundg 0
            case measure => simp
            case rel => exact ⟨[], rfl, (hP.drewN _).last hle⟩
          | cons u r =>
            have nx := fun n => hid (next_some (hr.drewN n))
            go_wp2_with fail
            go_quiet (fail)
            go_wp2_with (go_at_call 20; refine (nx _).out.mono ?_; rintro e w' ⟨rfl, hr', ho'⟩; obtain ⟨g0, g1, g2, g3, g4, gz⟩ := hr'.cells; have HR := hid hr'; have HO := hid ho'; clear hr' ho')
            go_roundg (u :: r).length
            case measure => simp
            case rel => exact ⟨u :: r, rfl, (hP.drewN _).next hle HR.out HO.out⟩
        · have hgt : decide (t ≤ now + 1 - wd) = false := by simp; omega
          go_wp2_with fail
          go_quiet (fail)
          go_wp2
          go_end0
          exact ⟨rfl, (hP.drewN _).end_ (by rw [Pl.drops, if_neg (by omega)])⟩
  · have hne1 : (first == -1) = false := by rw [beq_eq_false_iff_ne]; omega
    go_enter Try.func9, Try.ntmps9
    go_wp2_with fail
    go_loopg [] P.length (fun k wr => ∃ P', k = P'.length ∧ Primed W wr b c m wd (now + 1) all (now + 1 - wd) P P')
    case atStart =>
      have hP := HP.out
      have hps := hps.out
      have h1 := H1.out
      have o1 := O1.out
      subst hP
      exact ⟨first :: q, rfl, first, q, h1, .inr ⟨hf, rfl⟩, hps, rfl, o1⟩
    case round =>
      obtain ⟨P', rfl, hP⟩ := hrel
      cases P' with
      | nil =>
        obtain ⟨hr, _⟩ := hP.nil
        obtain ⟨e0, e1, e2, e3, e4, fe⟩ := hr.cells
        go_wp2_with fail
        go_quiet (fail)
        go_wp2
        go_end0
        exact ⟨rfl, (hP.drewN _).end_ rfl⟩
      | cons t r =>
        obtain ⟨hr, ht0, _⟩ := hP.cons
        obtain ⟨e0, e1, e2, e3, e4, fe⟩ := hr.cells
        have ht := ht0 t (by simp)
        have hne : (t != -1) = true := by rw [bne_iff_ne]; omega
        clear ht0
        by_cases hle : t ≤ now + 1 - wd
        · cases r with
          | nil =>
            go_wp2_with fail
            go_quiet (fail)
            go_wp2_with (go_at_call 20; refine (next_none (hr.drewN _)).mono ?_; rintro e w' ⟨rfl, rfl⟩)
            go_roundg 0
            case measure => simp
            case rel => exact ⟨[], rfl, (hP.drewN _).last hle⟩
          | cons u r =>
            have nx := fun n => hid (next_some (hr.drewN n))
            go_wp2_with fail
            go_quiet (fail)
            go_wp2_with (go_at_call 20; refine (nx _).out.mono ?_; rintro e w' ⟨rfl, hr', ho'⟩; obtain ⟨g0, g1, g2, g3, g4, gz⟩ := hr'.cells; have HR := hid hr'; have HO := hid ho'; clear hr' ho')
            go_roundg (u :: r).length
            case measure => simp
            case rel => exact ⟨u :: r, rfl, (hP.drewN _).next hle HR.out HO.out⟩
        · have hgt : decide (t ≤ now + 1 - wd) = false := by simp; omega
          go_wp2_with fail
          go_quiet (fail)
          go_wp2
          go_end0
          exact ⟨rfl, (hP.drewN _).end_ (by rw [Pl.drops, if_neg (by omega)])⟩
end Go.Proofs.Ytokccncaclphhaa
