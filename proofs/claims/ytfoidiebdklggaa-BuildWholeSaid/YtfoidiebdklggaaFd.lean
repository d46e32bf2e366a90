/-
  The fixed calls of the statements about package build: the walk.
-/
import Derived.Test.YtfoidiebdklggaaFb
open Go Go.RowKit
namespace Go.Proofs.Ytfoidiebdklggaa

set_option maxRecDepth 100000 in
set_option maxHeartbeats 6400000 in
theorem fixed_any (W : World) : Calls Try.prog 20 #[] W fun e W' => e = .returned (.bool true) ∧ Below W.heap.size W W' := by
  have N1 := hid (groups_any (W := W) ((14 : Nat) : Int) ((13 : Nat) : Int))
  go_enter Try.func20, Try.ntmps20
  go_wp2_with fail
  refine N1.out.mono ?_
  rintro e w1 hp
  obtain ⟨gv, rfl, hg, hb⟩ := hp.get (by omega) (by omega)
  obtain ⟨g1, g2, g3, rfl⟩ := ints_slice hg
  rw [fx_groups.1] at hg
  have HG1 := hid hg
  have HB1 := hid hb
  clear hp hg hb N1
  go_wp2_with fail
  refine (groups_any ((8 : Nat) : Int) ((3 : Nat) : Int)).mono ?_
  rintro e w2 hp
  obtain ⟨hv, rfl, hg, hb⟩ := hp.get (by omega) (by omega)
  obtain ⟨h1, h2, h3, rfl⟩ := ints_slice hg
  rw [fx_groups.2.1] at hg
  have HG2 := hid (HG1.out.below hb)
  have HH2 := hid (hg.base_ HB1.out.size)
  have HB2 := hid (HB1.out.trans (hb.mono HB1.out.size))
  clear hp hg hb HG1 HB1
  go_wp2_with fail
  refine (groups_any 0 3).mono ?_
  rintro e w3 hp
  obtain ⟨rfl, rfl⟩ := hp.no (by omega)
  clear hp
  go_wp2_with fail
  refine (groups_any 5 14).mono ?_
  rintro e w3 hp
  obtain ⟨rfl, rfl⟩ := hp.no (by omega)
  clear hp
  go_wp2_with fail
  refine (need_any ((14 : Nat) : Int) ((13 : Nat) : Int)).mono ?_
  rintro e w4 hp
  obtain ⟨rfl, hb⟩ := hp.get (by omega) (by omega)
  rw [fx_groups.2.2.2.1]
  have HG4 := hid (HG2.out.below hb)
  have HH4 := hid (HH2.out.below hb)
  have HB4 := hid (HB2.out.trans (hb.mono HB2.out.size))
  clear hp hb HG2 HH2 HB2
  go_wp2_with fail
  refine (need_any ((1 : Nat) : Int) ((2 : Nat) : Int)).mono ?_
  rintro e w5 hp
  obtain ⟨rfl, hb⟩ := hp.get (by omega) (by omega)
  rw [fx_groups.2.2.2.2]
  have HG5 := hid (HG4.out.below hb)
  have HH5 := hid (HH4.out.below hb)
  have HB5 := hid (HB4.out.trans (hb.mono HB4.out.size))
  clear hp hb HG4 HH4 HB4
  go_upto_region 8 with fail
  have HG6 := hid (HG5.out.below (below_al w5 (.cells #[.string ⟨#[]⟩, .int .i64 4, .string ⟨#[98]⟩, .int .i64 2, .string ⟨#[100]⟩, .int .i64 9] 57)))
  have HH6 := hid (HH5.out.below (below_al w5 (.cells #[.string ⟨#[]⟩, .int .i64 4, .string ⟨#[98]⟩, .int .i64 2, .string ⟨#[100]⟩, .int .i64 9] 57)))
  have HB6 := hid (HB5.out.alloc HB5.out.size (.cells #[.string ⟨#[]⟩, .int .i64 4, .string ⟨#[98]⟩, .int .i64 2, .string ⟨#[100]⟩, .int .i64 9] 57))
  have HK6 : Hid (OwV 57 2 (w5.alloc (.cells #[.string ⟨#[]⟩, .int .i64 4, .string ⟨#[98]⟩, .int .i64 2, .string ⟨#[100]⟩, .int .i64 9] 57)) W.heap.size (.slice (some ⟨w5.heap.size, 0, none⟩) 3 3) (kidsF.map kcells)) :=
    ⟨World.ownsRow_lit w5 #[.string ⟨#[]⟩, .int .i64 4, .string ⟨#[98]⟩, .int .i64 2, .string ⟨#[100]⟩, .int .i64 9] 3 HB5.out.size (by unfold maxLen; omega) (by rfl), by simp [kidsF, kcells]⟩
  generalize w5.alloc (.cells #[.string ⟨#[]⟩, .int .i64 4, .string ⟨#[98]⟩, .int .i64 2, .string ⟨#[100]⟩, .int .i64 9] 57) = w6 at *
  generalize w5.heap.size = kk at *
  clear HG5 HH5 HB5
  have L56 := hid (fun w : World => (Ints.lit (Nat.le_refl _) [5, 6] (by decide) : Ints (w.alloc (.cells #[.int .i64 5, .int .i64 6] 3)) w.heap.size (.slice (some ⟨w.heap.size, 0, none⟩) 2 2) [5, 6]))
  have L5 := hid (fun w : World => (Ints.lit (Nat.le_refl _) [5] (by decide) : Ints (w.alloc (.cells #[.int .i64 5] 3)) w.heap.size (.slice (some ⟨w.heap.size, 0, none⟩) 1 1) [5]))
  go_wp2_with fail
  refine (level_any (K := kidsF) (P := [5, 6]) (RdK.more (RdK.below (RdV.of_own HK6.out) (below_al w6 _)) (below_al w6 _).size) (RdI.of_own (L56.out w6)) 2).mono ?_
  rintro e w7 hp
  obtain ⟨xv, rfl, hx, hb⟩ := hp.yes fx_can.1
  rw [fx_level.1] at hx
  have hb6 : Below w6.heap.size w6 w7 := (below_al w6 _).trans (hb.mono (below_al w6 _).size)
  have HG7 := hid (HG6.out.below hb6)
  have HH7 := hid (HH6.out.below hb6)
  have HK7 := hid (HK6.out.below hb6)
  have HX7 := hid (hx.base_ (show W.heap.size ≤ _ from Nat.le_trans HB6.out.size (below_al w6 _).size))
  have HB7 := hid (HB6.out.trans (hb6.mono HB6.out.size))
  obtain ⟨x1, x2, x3, rfl⟩ : ∃ a n c, xv = .slice a n c := by
    obtain ⟨X, hX, _⟩ := hx
    exact owV_slice hX
  clear hp hx hb hb6 HG6 HH6 HK6 HB6
  go_wp2_with fail
  refine (up_any (K := kidsF) (P := [5, 6]) (RdK.more (RdK.below (RdV.of_own HK7.out) (below_al w7 _)) (below_al w7 _).size) (RdI.of_own (L56.out w7)) 2).mono ?_
  rintro e w8 hp
  obtain ⟨uv, rfl, hu, hb⟩ := hp.yes fx_can.1
  rw [fx_level.2] at hu
  have hb6 : Below w7.heap.size w7 w8 := (below_al w7 _).trans (hb.mono (below_al w7 _).size)
  have HF8 : Hid (Fx W (.slice g1 g2 g3) (.slice h1 h2 h3) (.slice (some ⟨kk, 0, none⟩) 3 3) (.slice x1 x2 x3) uv w8) :=
    ⟨HG7.out.below hb6, HH7.out.below hb6, HK7.out.below hb6, HX7.out.below hb6, hu.base (show W.heap.size ≤ _ from Nat.le_trans HB7.out.size (below_al w7 _).size), HB7.out.trans (hb6.mono HB7.out.size)⟩
  obtain ⟨u1, u2, u3, rfl⟩ := owV_slice hu
  clear hp hu hb hb6 HG7 HH7 HK7 HX7 HB7
  go_wp2_with fail
  refine (level_any (K := kidsF) (P := [5]) (RdK.more (RdK.below (RdV.of_own HF8.out.k) (below_al w8 _)) (below_al w8 _).size) (RdI.of_own (L5.out w8)) 2).mono ?_
  rintro e w9 hp
  obtain ⟨rfl, hb⟩ := hp.no fx_can.2
  have HF9 := hid (HF8.out.on ((below_al w8 _).trans (hb.mono (below_al w8 _).size)))
  clear hp hb HF8
  obtain ⟨X, hX, hXl, hXi⟩ := HF9.out.x
  obtain ⟨s0, q0, hX0, hs0, hq0⟩ := hXi 0 pgA rfl
  obtain ⟨s1, q1, hX1, hs1, hq1⟩ := hXi 1 pgB rfl
  have hXe : X = [icells s0 q0 pgA, icells s1 q1 pgB] := by
    match X, hXl, hX0, hX1 with
    | [a, b], _, h0, h1 => simp at h0 h1; rw [h0, h1]
  subst hXe
  obtain ⟨gx, cx, hxv, _, _⟩ := hX.form (by simp)
  simp only [Value.slice.injEq, List.length_cons, List.length_nil] at hxv
  obtain ⟨rfl, rfl, rfl⟩ := hxv
  obtain ⟨gu, cu, huv, _, _⟩ := HF9.out.u.form (by simp)
  simp only [Value.slice.injEq, List.length_cons, List.length_nil, List.length_map] at huv
  obtain ⟨rfl, rfl, rfl⟩ := huv
  obtain ⟨s0a, s0n, s0c, rfl⟩ := owV_slice hs0
  obtain ⟨s1a, s1n, s1c, rfl⟩ := owV_slice hs1
  obtain ⟨q0a, q0n, q0c, rfl⟩ := ints_slice hq0
  obtain ⟨q1a, q1n, q1c, rfl⟩ := ints_slice hq1
  have HX := hid hX
  have HS0 := hid hs0
  have HS1 := hid hs1
  have HQ0 := hid hq0
  have HQ1 := hid hq1
  clear hX hXl hXi hX0 hX1 hs0 hs1 hq0 hq1
  have hbA : Below w9.heap.size w9 (((w9.alloc (.cells #[.string ⟨#[98]⟩] 9)).alloc (.cells #[.int .i64 4, .int .i64 2] 3)).alloc (.cells #[.slice (some ⟨w9.heap.size, 0, none⟩) 1 1, .slice (some ⟨w9.heap.size + 1, 0, none⟩) 2 2, .string ⟨#[100]⟩, .int .i64 7] 44)) :=
    ((below_al w9 _).alloc (by simp) _).alloc (by simp; omega) _
  have HY10 : Hid (Fy W (.slice g1 g2 g3) (.slice h1 h2 h3) (.slice (some ⟨kk, 0, none⟩) 3 3) (.slice (some ⟨gu, 0, none⟩) 2 u3) (.slice s0a s0n s0c) (.slice q0a q0n q0c) (.slice s1a s1n s1c) (.slice q1a q1n q1c) (.slice (some ⟨w9.heap.size, 0, none⟩) 1 1) (.slice (some ⟨w9.heap.size + 1, 0, none⟩) 2 2) gx x3 gu u3 (w9.heap.size + 1 + 1)
      (((w9.alloc (.cells #[.string ⟨#[98]⟩] 9)).alloc (.cells #[.int .i64 4, .int .i64 2] 3)).alloc (.cells #[.slice (some ⟨w9.heap.size, 0, none⟩) 1 1, .slice (some ⟨w9.heap.size + 1, 0, none⟩) 2 2, .string ⟨#[100]⟩, .int .i64 7] 44))) := by
    have f := HF9.out.on hbA
    have hWs := HF9.out.below.size
    refine ⟨f.g, f.h, f.k, HX.out.below hbA, f.u, HS0.out.below hbA, HQ0.out.below hbA, HS1.out.below hbA, HQ1.out.below hbA, ?_, ?_, ?_, f.below⟩
    · refine OwV.alloc (OwV.alloc ?_ _) _
      exact ⟨World.ownsRow_lit w9 #[.string ⟨#[98]⟩] 1 hWs (by unfold maxLen; omega) rfl, by simp [pgA, scell]⟩
    · refine Ints.alloc ?_ _
      have := Ints.lit (B := W.heap.size) (w := w9.alloc (.cells #[.string ⟨#[98]⟩] 9)) (by simp; omega) [4, 2] (by decide)
      have h2 : Ints ((w9.alloc (.cells #[.string ⟨#[98]⟩] 9)).alloc (.cells #[.int .i64 4, .int .i64 2] 3)) W.heap.size (.slice (some ⟨w9.heap.size + 1, 0, none⟩) 2 2) [4, 2] := by simpa using this
      exact h2
    · have := Blk.new ((w9.alloc (.cells #[.string ⟨#[98]⟩] 9)).alloc (.cells #[.int .i64 4, .int .i64 2] 3)) 44 #[.slice (some ⟨w9.heap.size, 0, none⟩) 1 1, .slice (some ⟨w9.heap.size + 1, 0, none⟩) 2 2, .string ⟨#[100]⟩, .int .i64 7]
      simp only [World.size_alloc] at this
      exact this
  go_upto_region 14 with fail
  generalize ((w9.alloc (.cells #[.string ⟨#[98]⟩] 9)).alloc (.cells #[.int .i64 4, .int .i64 2] 3)).alloc (.cells #[.slice (some ⟨w9.heap.size, 0, none⟩) 1 1, .slice (some ⟨w9.heap.size + 1, 0, none⟩) 2 2, .string ⟨#[100]⟩, .int .i64 7] 44) = w10 at *
  generalize w9.heap.size + 1 + 1 = pa at *
  generalize w9.heap.size + 1 = pk at *
  generalize w9.heap.size = ps at *
  have hS10 := HY10.out.cells
  have hs2 := rest_run kk
  clear HF9 HX HS0 HS1 HQ0 HQ1 hbA
  simp only [List.append_eq, List.cons_append, List.nil_append]
  refine wp_region_noPanic ?_
  refine wp_region_held_drew (S := (fun w' => w'.cell? ⟨pa, 0, none⟩ = some (.slice (some ⟨ps, 0, none⟩) 1 1) ∧ w'.cell? ⟨pa, 1, none⟩ = some (.slice (some ⟨pk, 0, none⟩) 2 2) ∧ w'.cell? ⟨pa, 2, none⟩ = some (.string ⟨#[100]⟩) ∧ w'.cell? ⟨pa, 3, none⟩ = some (.int .i64 7) ∧ w'.cell? ⟨gx, 0, none⟩ = some (.slice s0a s0n s0c) ∧ w'.cell? ⟨gx, 1, none⟩ = some (.slice q0a q0n q0c) ∧ w'.cell? ⟨gx, 2, none⟩ = some (.string ⟨#[100]⟩) ∧ w'.cell? ⟨gx, 3, none⟩ = some (.int .i64 7) ∧ w'.cell? ⟨gx, 4, none⟩ = some (.slice s1a s1n s1c) ∧ w'.cell? ⟨gx, 5, none⟩ = some (.slice q1a q1n q1c) ∧ w'.cell? ⟨gx, 6, none⟩ = some (.string ⟨#[]⟩) ∧ w'.cell? ⟨gx, 7, none⟩ = some (.int .i64 0) ∧ w'.cell? ⟨gu, 0, none⟩ = some (.string ⟨#[]⟩) ∧ w'.cell? ⟨gu, 1, none⟩ = some (.int .i64 5) ∧ w'.cell? ⟨gu, 2, none⟩ = some (.string ⟨#[100]⟩) ∧ w'.cell? ⟨gu, 3, none⟩ = some (.int .i64 6))) (by kernel_rfl) ?_ (fun hHeld0 => ?_)
  · (try dsimp only)
    first | go_keep | assumption
  refine wpAnyH_take (i := 0) (oi := ?o1) (v := ?v1) ?hi1 (by kernel_rfl) (by kernel_rfl) (by kernel_rfl) (fun _ _ _ h => h) ?hy1 (by assumption) ?rest1
  case hi1 => simp only [List.getElem?_toArray, List.getElem?_cons_zero]; rfl
  case hy1 =>
    refine Or.inl ⟨by rfl, ?_⟩
    intro w hSw
    (try dsimp only at hSw)
    go_simp
    all_goals with_reducible rfl
  try simp only [Act.put, List.setIfInBounds_toArray, List.set_cons_zero, List.set_cons_succ]
  refine wpAnyH_ready (rs := [1]) (by kernel_rfl) (by simp) ?_
  refine AllReadyH.cons (o := ?o2) ?ho2 (fun K hK => ?step2) AllReadyH.nil
  case ho2 => simp only [List.getElem?_toArray, List.getElem?_cons_zero, List.getElem?_cons_succ]; rfl
  go_simp
  refine hK.out _ _ ?_ (fun hHeld1 => ?_)
  · (try dsimp only)
    first | go_keep | assumption
  clear hK K
  try simp only [Act.put, List.setIfInBounds_toArray, List.set_cons_zero, List.set_cons_succ]
  refine wpAnyH_ready (rs := [2]) (by kernel_rfl) (by simp) ?_
  refine AllReadyH.cons (o := ?o3) ?ho3 (fun K hK => ?step3) AllReadyH.nil
  case ho3 => simp only [List.getElem?_toArray, List.getElem?_cons_zero, List.getElem?_cons_succ]; rfl
  go_simp
  go_at_call 25
  (with_reducible refine (cmp77 HY10.out.g).mono ?_)
  rintro e w11 ⟨rfl, hb⟩
  have HY11 := hid (HY10.out.on hb); have hS11 := HY11.out.cells; clear hb hS10
  try (go_wp2_with fail)
  refine hK.out _ _ ?_ (fun hHeld2 => ?_)
  · (try dsimp only)
    first | go_keep | assumption
  clear hK K
  try simp only [Act.put, List.setIfInBounds_toArray, List.set_cons_zero, List.set_cons_succ]
  refine wpAnyH_take (i := 3) (oi := ?o4) (v := ?v4) ?hi4 (by kernel_rfl) (by kernel_rfl) (by kernel_rfl) (fun _ _ _ h => h) ?hy4 (by assumption) ?rest4
  case hi4 => simp only [List.getElem?_toArray, List.getElem?_cons_zero, List.getElem?_cons_succ]; rfl
  case hy4 =>
    refine Or.inl ⟨by rfl, ?_⟩
    intro w hSw
    (try dsimp only at hSw)
    go_simp
    all_goals with_reducible rfl
  try simp only [Act.put, List.setIfInBounds_toArray, List.set_cons_zero, List.set_cons_succ]
  refine wpAnyH_take (i := 4) (oi := ?o5) (v := ?v5) ?hi5 (by kernel_rfl) (by kernel_rfl) (by kernel_rfl) (fun _ _ _ h => h) ?hy5 (by assumption) ?rest5
  case hi5 => simp only [List.getElem?_toArray, List.getElem?_cons_zero, List.getElem?_cons_succ]; rfl
  case hy5 =>
    refine Or.inl ⟨by rfl, ?_⟩
    intro w hSw
    (try dsimp only at hSw)
    go_simp
    all_goals with_reducible rfl
  try simp only [Act.put, List.setIfInBounds_toArray, List.set_cons_zero, List.set_cons_succ]
  as_aux_lemma =>
    refine wpAnyH_take (i := 5) (oi := ?o6) (v := ?v6) ?hi6 (by kernel_rfl) (by kernel_rfl) (by kernel_rfl) (fun _ _ _ h => h) ?hy6 (by assumption) ?rest6
    case hi6 => simp only [List.getElem?_toArray, List.getElem?_cons_zero, List.getElem?_cons_succ]; rfl
    case hy6 =>
      refine Or.inl ⟨by rfl, ?_⟩
      intro w hSw
      (try dsimp only at hSw)
      go_simp
      all_goals with_reducible rfl
    try simp only [Act.put, List.setIfInBounds_toArray, List.set_cons_zero, List.set_cons_succ]
    refine wpAnyH_take (i := 6) (oi := ?o7) (v := ?v7) ?hi7 (by kernel_rfl) (by kernel_rfl) (by kernel_rfl) (fun _ _ _ h => h) ?hy7 (by assumption) ?rest7
    case hi7 => simp only [List.getElem?_toArray, List.getElem?_cons_zero, List.getElem?_cons_succ]; rfl
    case hy7 =>
      refine Or.inl ⟨by rfl, ?_⟩
      intro w hSw
      (try dsimp only at hSw)
      go_simp
      all_goals with_reducible rfl
    try simp only [Act.put, List.setIfInBounds_toArray, List.set_cons_zero, List.set_cons_succ]
    refine wpAnyH_take (i := 7) (oi := ?o8) (v := ?v8) ?hi8 (by kernel_rfl) (by kernel_rfl) (by kernel_rfl) (fun _ _ _ h => h) ?hy8 (by assumption) ?rest8
    case hi8 => simp only [List.getElem?_toArray, List.getElem?_cons_zero, List.getElem?_cons_succ]; rfl
    case hy8 =>
      refine Or.inl ⟨by rfl, ?_⟩
      intro w hSw
      (try dsimp only at hSw)
      go_simp
      all_goals with_reducible rfl
    try simp only [Act.put, List.setIfInBounds_toArray, List.set_cons_zero, List.set_cons_succ]
    refine wpAnyH_take (i := 8) (oi := ?o9) (v := ?v9) ?hi9 (by kernel_rfl) (by kernel_rfl) (by kernel_rfl) (fun _ _ _ h => h) ?hy9 (by assumption) ?rest9
    case hi9 => simp only [List.getElem?_toArray, List.getElem?_cons_zero, List.getElem?_cons_succ]; rfl
    case hy9 =>
      refine Or.inl ⟨by rfl, ?_⟩
      intro w hSw
      (try dsimp only at hSw)
      go_simp
      all_goals with_reducible rfl
    try simp only [Act.put, List.setIfInBounds_toArray, List.set_cons_zero, List.set_cons_succ]
    refine wpAnyH_ready (rs := [9]) (by kernel_rfl) (by simp) ?_
    refine AllReadyH.cons (o := ?o10) ?ho10 (fun K hK => ?step10) AllReadyH.nil
    case ho10 => simp only [List.getElem?_toArray, List.getElem?_cons_zero, List.getElem?_cons_succ]; rfl
    go_simp
    refine hK.out _ _ ?_ (fun hHeld3 => ?_)
    · (try dsimp only)
      first | go_keep | assumption
    clear hK K
    try simp only [Act.put, List.setIfInBounds_toArray, List.set_cons_zero, List.set_cons_succ]
    refine wpAnyH_ready (rs := [10]) (by kernel_rfl) (by simp) ?_
    refine AllReadyH.cons (o := ?o11) ?ho11 (fun K hK => ?step11) AllReadyH.nil
    case ho11 => simp only [List.getElem?_toArray, List.getElem?_cons_zero, List.getElem?_cons_succ]; rfl
    go_simp
    go_at_call 25
    (with_reducible refine (cmp332 HY11.out.h).mono ?_)
    rintro e w12 ⟨rfl, hb⟩
    have HY12 := hid (HY11.out.on hb); have hS12 := HY12.out.cells; clear hb hS11
    try (go_wp2_with fail)
    refine hK.out _ _ ?_ (fun hHeld4 => ?_)
    · (try dsimp only)
      first | go_keep | assumption
    clear hK K
    try simp only [Act.put, List.setIfInBounds_toArray, List.set_cons_zero, List.set_cons_succ]
    as_aux_lemma =>
      refine wpAnyH_take (i := 11) (oi := ?o12) (v := ?v12) ?hi12 (by kernel_rfl) (by kernel_rfl) (by kernel_rfl) (fun _ _ _ h => h) ?hy12 (by assumption) ?rest12
      case hi12 => simp only [List.getElem?_toArray, List.getElem?_cons_zero, List.getElem?_cons_succ]; rfl
      case hy12 =>
        refine Or.inl ⟨by rfl, ?_⟩
        intro w hSw
        (try dsimp only at hSw)
        go_simp
        all_goals with_reducible rfl
      try simp only [Act.put, List.setIfInBounds_toArray, List.set_cons_zero, List.set_cons_succ]
      refine wpAnyH_take (i := 12) (oi := ?o13) (v := ?v13) ?hi13 (by kernel_rfl) (by kernel_rfl) (by kernel_rfl) (fun _ _ _ h => h) ?hy13 (by assumption) ?rest13
      case hi13 => simp only [List.getElem?_toArray, List.getElem?_cons_zero, List.getElem?_cons_succ]; rfl
      case hy13 =>
        refine Or.inl ⟨by rfl, ?_⟩
        intro w hSw
        (try dsimp only at hSw)
        go_simp
        all_goals with_reducible rfl
      try simp only [Act.put, List.setIfInBounds_toArray, List.set_cons_zero, List.set_cons_succ]
      refine wpAnyH_take (i := 13) (oi := ?o14) (v := ?v14) ?hi14 (by kernel_rfl) (by kernel_rfl) (by kernel_rfl) (fun _ _ _ h => h) ?hy14 (by assumption) ?rest14
      case hi14 => simp only [List.getElem?_toArray, List.getElem?_cons_zero, List.getElem?_cons_succ]; rfl
      case hy14 =>
        refine Or.inl ⟨by rfl, ?_⟩
        intro w hSw
        (try dsimp only at hSw)
        go_simp
        all_goals with_reducible rfl
      try simp only [Act.put, List.setIfInBounds_toArray, List.set_cons_zero, List.set_cons_succ]
      refine wpAnyH_take (i := 14) (oi := ?o15) (v := ?v15) ?hi15 (by kernel_rfl) (by kernel_rfl) (by kernel_rfl) (fun _ _ _ h => h) ?hy15 (by assumption) ?rest15
      case hi15 => simp only [List.getElem?_toArray, List.getElem?_cons_zero, List.getElem?_cons_succ]; rfl
      case hy15 =>
        refine Or.inl ⟨by rfl, ?_⟩
        intro w hSw
        (try dsimp only at hSw)
        go_simp
        all_goals with_reducible rfl
      try simp only [Act.put, List.setIfInBounds_toArray, List.set_cons_zero, List.set_cons_succ]
      refine wpAnyH_take (i := 15) (oi := ?o16) (v := ?v16) ?hi16 (by kernel_rfl) (by kernel_rfl) (by kernel_rfl) (fun _ _ _ h => h) ?hy16 (by assumption) ?rest16
      case hi16 => simp only [List.getElem?_toArray, List.getElem?_cons_zero, List.getElem?_cons_succ]; rfl
      case hy16 =>
        refine Or.inl ⟨by rfl, ?_⟩
        intro w hSw
        (try dsimp only at hSw)
        go_simp
        all_goals with_reducible rfl
      try simp only [Act.put, List.setIfInBounds_toArray, List.set_cons_zero, List.set_cons_succ]
      refine wpAnyH_take (i := 16) (oi := ?o17) (v := ?v17) ?hi17 (by kernel_rfl) (by kernel_rfl) (by kernel_rfl) (fun _ _ _ h => h) ?hy17 (by assumption) ?rest17
      case hi17 => simp only [List.getElem?_toArray, List.getElem?_cons_zero, List.getElem?_cons_succ]; rfl
      case hy17 =>
        refine Or.inl ⟨by rfl, ?_⟩
        intro w hSw
        (try dsimp only at hSw)
        go_simp
        all_goals with_reducible rfl
      try simp only [Act.put, List.setIfInBounds_toArray, List.set_cons_zero, List.set_cons_succ]
      as_aux_lemma =>
        refine wpAnyH_take (i := 17) (oi := ?o18) (v := ?v18) ?hi18 (by kernel_rfl) (by kernel_rfl) (by kernel_rfl) (fun _ _ _ h => h) ?hy18 (by assumption) ?rest18
        case hi18 => simp only [List.getElem?_toArray, List.getElem?_cons_zero, List.getElem?_cons_succ]; rfl
        case hy18 =>
          refine Or.inl ⟨by rfl, ?_⟩
          intro w hSw
          (try dsimp only at hSw)
          go_simp
          all_goals with_reducible rfl
        try simp only [Act.put, List.setIfInBounds_toArray, List.set_cons_zero, List.set_cons_succ]
        refine wpAnyH_take (i := 18) (oi := ?o19) (v := ?v19) ?hi19 (by kernel_rfl) (by kernel_rfl) (by kernel_rfl) (fun _ _ _ h => h) ?hy19 (by assumption) ?rest19
        case hi19 => simp only [List.getElem?_toArray, List.getElem?_cons_zero, List.getElem?_cons_succ]; rfl
        case hy19 =>
          refine Or.inl ⟨by rfl, ?_⟩
          intro w hSw
          (try dsimp only at hSw)
          go_simp
          all_goals with_reducible rfl
        try simp only [Act.put, List.setIfInBounds_toArray, List.set_cons_zero, List.set_cons_succ]
        refine wpAnyH_take (i := 19) (oi := ?o20) (v := ?v20) ?hi20 (by kernel_rfl) (by kernel_rfl) (by kernel_rfl) (fun _ _ _ h => h) ?hy20 (by assumption) ?rest20
        case hi20 => simp only [List.getElem?_toArray, List.getElem?_cons_zero, List.getElem?_cons_succ]; rfl
        case hy20 =>
          refine Or.inl ⟨by rfl, ?_⟩
          intro w hSw
          (try dsimp only at hSw)
          go_simp
          all_goals with_reducible rfl
        try simp only [Act.put, List.setIfInBounds_toArray, List.set_cons_zero, List.set_cons_succ]
        refine wpAnyH_take (i := 20) (oi := ?o21) (v := ?v21) ?hi21 (by kernel_rfl) (by kernel_rfl) (by kernel_rfl) (fun _ _ _ h => h) ?hy21 (by assumption) ?rest21
        case hi21 => simp only [List.getElem?_toArray, List.getElem?_cons_zero, List.getElem?_cons_succ]; rfl
        case hy21 =>
          refine Or.inl ⟨by rfl, ?_⟩
          intro w hSw
          (try dsimp only at hSw)
          go_simp
          all_goals with_reducible rfl
        try simp only [Act.put, List.setIfInBounds_toArray, List.set_cons_zero, List.set_cons_succ]
        refine wpAnyH_take (i := 21) (oi := ?o22) (v := ?v22) ?hi22 (by kernel_rfl) (by kernel_rfl) (by kernel_rfl) (fun _ _ _ h => h) ?hy22 (by assumption) ?rest22
        case hi22 => simp only [List.getElem?_toArray, List.getElem?_cons_zero, List.getElem?_cons_succ]; rfl
        case hy22 =>
          refine Or.inl ⟨by rfl, ?_⟩
          intro w hSw
          (try dsimp only at hSw)
          go_simp
          all_goals with_reducible rfl
        try simp only [Act.put, List.setIfInBounds_toArray, List.set_cons_zero, List.set_cons_succ]
        refine wpAnyH_take (i := 22) (oi := ?o23) (v := ?v23) ?hi23 (by kernel_rfl) (by kernel_rfl) (by kernel_rfl) (fun _ _ _ h => h) ?hy23 (by assumption) ?rest23
        case hi23 => simp only [List.getElem?_toArray, List.getElem?_cons_zero, List.getElem?_cons_succ]; rfl
        case hy23 =>
          refine Or.inl ⟨by rfl, ?_⟩
          intro w hSw
          (try dsimp only at hSw)
          go_simp
          all_goals with_reducible rfl
        try simp only [Act.put, List.setIfInBounds_toArray, List.set_cons_zero, List.set_cons_succ]
        as_aux_lemma =>
          refine wpAnyH_take (i := 23) (oi := ?o24) (v := ?v24) ?hi24 (by kernel_rfl) (by kernel_rfl) (by kernel_rfl) (fun _ _ _ h => h) ?hy24 (by assumption) ?rest24
          case hi24 => simp only [List.getElem?_toArray, List.getElem?_cons_zero, List.getElem?_cons_succ]; rfl
          case hy24 =>
            refine Or.inl ⟨by rfl, ?_⟩
            intro w hSw
            (try dsimp only at hSw)
            go_simp
            all_goals with_reducible rfl
          try simp only [Act.put, List.setIfInBounds_toArray, List.set_cons_zero, List.set_cons_succ]
          refine wpAnyH_take (i := 24) (oi := ?o25) (v := ?v25) ?hi25 (by kernel_rfl) (by kernel_rfl) (by kernel_rfl) (fun _ _ _ h => h) ?hy25 (by assumption) ?rest25
          case hi25 => simp only [List.getElem?_toArray, List.getElem?_cons_zero, List.getElem?_cons_succ]; rfl
          case hy25 =>
            refine Or.inl ⟨by rfl, ?_⟩
            intro w hSw
            (try dsimp only at hSw)
            go_simp
            all_goals with_reducible rfl
          try simp only [Act.put, List.setIfInBounds_toArray, List.set_cons_zero, List.set_cons_succ]
          refine wpAnyH_take (i := 25) (oi := ?o26) (v := ?v26) ?hi26 (by kernel_rfl) (by kernel_rfl) (by kernel_rfl) (fun _ _ _ h => h) ?hy26 (by assumption) ?rest26
          case hi26 => simp only [List.getElem?_toArray, List.getElem?_cons_zero, List.getElem?_cons_succ]; rfl
          case hy26 =>
            refine Or.inl ⟨by rfl, ?_⟩
            intro w hSw
            (try dsimp only at hSw)
            go_simp
            all_goals with_reducible rfl
          try simp only [Act.put, List.setIfInBounds_toArray, List.set_cons_zero, List.set_cons_succ]
          refine wpAnyH_take (i := 26) (oi := ?o27) (v := ?v27) ?hi27 (by kernel_rfl) (by kernel_rfl) (by kernel_rfl) (fun _ _ _ h => h) ?hy27 (by assumption) ?rest27
          case hi27 => simp only [List.getElem?_toArray, List.getElem?_cons_zero, List.getElem?_cons_succ]; rfl
          case hy27 =>
            refine Or.inl ⟨by rfl, ?_⟩
            intro w hSw
            (try dsimp only at hSw)
            go_simp
            all_goals with_reducible rfl
          try simp only [Act.put, List.setIfInBounds_toArray, List.set_cons_zero, List.set_cons_succ]
          refine wpAnyH_take (i := 27) (oi := ?o28) (v := ?v28) ?hi28 (by kernel_rfl) (by kernel_rfl) (by kernel_rfl) (fun _ _ _ h => h) ?hy28 (by assumption) ?rest28
          case hi28 => simp only [List.getElem?_toArray, List.getElem?_cons_zero, List.getElem?_cons_succ]; rfl
          case hy28 =>
            refine Or.inl ⟨by rfl, ?_⟩
            intro w hSw
            (try dsimp only at hSw)
            go_simp
            all_goals with_reducible rfl
          try simp only [Act.put, List.setIfInBounds_toArray, List.set_cons_zero, List.set_cons_succ]
          refine wpAnyH_take (i := 28) (oi := ?o29) (v := ?v29) ?hi29 (by kernel_rfl) (by kernel_rfl) (by kernel_rfl) (fun _ _ _ h => h) ?hy29 (by assumption) ?rest29
          case hi29 => simp only [List.getElem?_toArray, List.getElem?_cons_zero, List.getElem?_cons_succ]; rfl
          case hy29 =>
            refine Or.inl ⟨by rfl, ?_⟩
            intro w hSw
            (try dsimp only at hSw)
            go_simp
            all_goals with_reducible rfl
          try simp only [Act.put, List.setIfInBounds_toArray, List.set_cons_zero, List.set_cons_succ]
          as_aux_lemma =>
            refine wpAnyH_take (i := 29) (oi := ?o30) (v := ?v30) ?hi30 (by kernel_rfl) (by kernel_rfl) (by kernel_rfl) (fun _ _ _ h => h) ?hy30 (by assumption) ?rest30
            case hi30 => simp only [List.getElem?_toArray, List.getElem?_cons_zero, List.getElem?_cons_succ]; rfl
            case hy30 =>
              refine Or.inl ⟨by rfl, ?_⟩
              intro w hSw
              (try dsimp only at hSw)
              go_simp
              all_goals with_reducible rfl
            try simp only [Act.put, List.setIfInBounds_toArray, List.set_cons_zero, List.set_cons_succ]
            refine wpAnyH_take (i := 30) (oi := ?o31) (v := ?v31) ?hi31 (by kernel_rfl) (by kernel_rfl) (by kernel_rfl) (fun _ _ _ h => h) ?hy31 (by assumption) ?rest31
            case hi31 => simp only [List.getElem?_toArray, List.getElem?_cons_zero, List.getElem?_cons_succ]; rfl
            case hy31 =>
              refine Or.inl ⟨by rfl, ?_⟩
              intro w hSw
              (try dsimp only at hSw)
              go_simp
              all_goals with_reducible rfl
            try simp only [Act.put, List.setIfInBounds_toArray, List.set_cons_zero, List.set_cons_succ]
            refine wpAnyH_take (i := 31) (oi := ?o32) (v := ?v32) ?hi32 (by kernel_rfl) (by kernel_rfl) (by kernel_rfl) (fun _ _ _ h => h) ?hy32 (by assumption) ?rest32
            case hi32 => simp only [List.getElem?_toArray, List.getElem?_cons_zero, List.getElem?_cons_succ]; rfl
            case hy32 =>
              refine Or.inl ⟨by rfl, ?_⟩
              intro w hSw
              (try dsimp only at hSw)
              go_simp
              all_goals with_reducible rfl
            try simp only [Act.put, List.setIfInBounds_toArray, List.set_cons_zero, List.set_cons_succ]
            refine wpAnyH_take (i := 32) (oi := ?o33) (v := ?v33) ?hi33 (by kernel_rfl) (by kernel_rfl) (by kernel_rfl) (fun _ _ _ h => h) ?hy33 (by assumption) ?rest33
            case hi33 => simp only [List.getElem?_toArray, List.getElem?_cons_zero, List.getElem?_cons_succ]; rfl
            case hy33 =>
              refine Or.inl ⟨by rfl, ?_⟩
              intro w hSw
              (try dsimp only at hSw)
              go_simp
              all_goals with_reducible rfl
            try simp only [Act.put, List.setIfInBounds_toArray, List.set_cons_zero, List.set_cons_succ]
            refine wpAnyH_take (i := 33) (oi := ?o34) (v := ?v34) ?hi34 (by kernel_rfl) (by kernel_rfl) (by kernel_rfl) (fun _ _ _ h => h) ?hy34 (by assumption) ?rest34
            case hi34 => simp only [List.getElem?_toArray, List.getElem?_cons_zero, List.getElem?_cons_succ]; rfl
            case hy34 =>
              refine Or.inl ⟨by rfl, ?_⟩
              intro w hSw
              (try dsimp only at hSw)
              go_simp
              all_goals with_reducible rfl
            try simp only [Act.put, List.setIfInBounds_toArray, List.set_cons_zero, List.set_cons_succ]
            refine wpAnyH_take (i := 34) (oi := ?o35) (v := ?v35) ?hi35 (by kernel_rfl) (by kernel_rfl) (by kernel_rfl) (fun _ _ _ h => h) ?hy35 (by assumption) ?rest35
            case hi35 => simp only [List.getElem?_toArray, List.getElem?_cons_zero, List.getElem?_cons_succ]; rfl
            case hy35 =>
              refine Or.inl ⟨by rfl, ?_⟩
              intro w hSw
              (try dsimp only at hSw)
              go_simp
              all_goals with_reducible rfl
            try simp only [Act.put, List.setIfInBounds_toArray, List.set_cons_zero, List.set_cons_succ]
            as_aux_lemma =>
              refine wpAnyH_take (i := 35) (oi := ?o36) (v := ?v36) ?hi36 (by kernel_rfl) (by kernel_rfl) (by kernel_rfl) (fun _ _ _ h => h) ?hy36 (by assumption) ?rest36
              case hi36 => simp only [List.getElem?_toArray, List.getElem?_cons_zero, List.getElem?_cons_succ]; rfl
              case hy36 =>
                refine Or.inl ⟨by rfl, ?_⟩
                intro w hSw
                (try dsimp only at hSw)
                go_simp
                all_goals with_reducible rfl
              try simp only [Act.put, List.setIfInBounds_toArray, List.set_cons_zero, List.set_cons_succ]
              refine wpAnyH_take (i := 36) (oi := ?o37) (v := ?v37) ?hi37 (by kernel_rfl) (by kernel_rfl) (by kernel_rfl) (fun _ _ _ h => h) ?hy37 (by assumption) ?rest37
              case hi37 => simp only [List.getElem?_toArray, List.getElem?_cons_zero, List.getElem?_cons_succ]; rfl
              case hy37 =>
                refine Or.inl ⟨by rfl, ?_⟩
                intro w hSw
                (try dsimp only at hSw)
                go_simp
                all_goals with_reducible rfl
              try simp only [Act.put, List.setIfInBounds_toArray, List.set_cons_zero, List.set_cons_succ]
              refine wpAnyH_take (i := 37) (oi := ?o38) (v := ?v38) ?hi38 (by kernel_rfl) (by kernel_rfl) (by kernel_rfl) (fun _ _ _ h => h) ?hy38 (by assumption) ?rest38
              case hi38 => simp only [List.getElem?_toArray, List.getElem?_cons_zero, List.getElem?_cons_succ]; rfl
              case hy38 =>
                refine Or.inl ⟨by rfl, ?_⟩
                intro w hSw
                (try dsimp only at hSw)
                go_simp
                all_goals with_reducible rfl
              try simp only [Act.put, List.setIfInBounds_toArray, List.set_cons_zero, List.set_cons_succ]
              refine wpAnyH_take (i := 38) (oi := ?o39) (v := ?v39) ?hi39 (by kernel_rfl) (by kernel_rfl) (by kernel_rfl) (fun _ _ _ h => h) ?hy39 (by assumption) ?rest39
              case hi39 => simp only [List.getElem?_toArray, List.getElem?_cons_zero, List.getElem?_cons_succ]; rfl
              case hy39 =>
                refine Or.inl ⟨by rfl, ?_⟩
                intro w hSw
                (try dsimp only at hSw)
                go_simp
                all_goals with_reducible rfl
              try simp only [Act.put, List.setIfInBounds_toArray, List.set_cons_zero, List.set_cons_succ]
              refine wpAnyH_take (i := 39) (oi := ?o40) (v := ?v40) ?hi40 (by kernel_rfl) (by kernel_rfl) (by kernel_rfl) (fun _ _ _ h => h) ?hy40 (by assumption) ?rest40
              case hi40 => simp only [List.getElem?_toArray, List.getElem?_cons_zero, List.getElem?_cons_succ]; rfl
              case hy40 =>
                refine Or.inl ⟨by rfl, ?_⟩
                intro w hSw
                (try dsimp only at hSw)
                go_simp
                all_goals with_reducible rfl
              try simp only [Act.put, List.setIfInBounds_toArray, List.set_cons_zero, List.set_cons_succ]
              refine wpAnyH_take (i := 40) (oi := ?o41) (v := ?v41) ?hi41 (by kernel_rfl) (by kernel_rfl) (by kernel_rfl) (fun _ _ _ h => h) ?hy41 (by assumption) ?rest41
              case hi41 => simp only [List.getElem?_toArray, List.getElem?_cons_zero, List.getElem?_cons_succ]; rfl
              case hy41 =>
                refine Or.inl ⟨by rfl, ?_⟩
                intro w hSw
                (try dsimp only at hSw)
                go_simp
                all_goals with_reducible rfl
              try simp only [Act.put, List.setIfInBounds_toArray, List.set_cons_zero, List.set_cons_succ]
              as_aux_lemma =>
                refine wpAnyH_take (i := 41) (oi := ?o42) (v := ?v42) ?hi42 (by kernel_rfl) (by kernel_rfl) (by kernel_rfl) (fun _ _ _ h => h) ?hy42 (by assumption) ?rest42
                case hi42 => simp only [List.getElem?_toArray, List.getElem?_cons_zero, List.getElem?_cons_succ]; rfl
                case hy42 =>
                  refine Or.inl ⟨by rfl, ?_⟩
                  intro w hSw
                  (try dsimp only at hSw)
                  go_simp
                  all_goals with_reducible rfl
                try simp only [Act.put, List.setIfInBounds_toArray, List.set_cons_zero, List.set_cons_succ]
                refine wpAnyH_take (i := 42) (oi := ?o43) (v := ?v43) ?hi43 (by kernel_rfl) (by kernel_rfl) (by kernel_rfl) (fun _ _ _ h => h) ?hy43 (by assumption) ?rest43
                case hi43 => simp only [List.getElem?_toArray, List.getElem?_cons_zero, List.getElem?_cons_succ]; rfl
                case hy43 =>
                  refine Or.inl ⟨by rfl, ?_⟩
                  intro w hSw
                  (try dsimp only at hSw)
                  go_simp
                  all_goals with_reducible rfl
                try simp only [Act.put, List.setIfInBounds_toArray, List.set_cons_zero, List.set_cons_succ]
                refine wpAnyH_take (i := 43) (oi := ?o44) (v := ?v44) ?hi44 (by kernel_rfl) (by kernel_rfl) (by kernel_rfl) (fun _ _ _ h => h) ?hy44 (by assumption) ?rest44
                case hi44 => simp only [List.getElem?_toArray, List.getElem?_cons_zero, List.getElem?_cons_succ]; rfl
                case hy44 =>
                  refine Or.inl ⟨by rfl, ?_⟩
                  intro w hSw
                  (try dsimp only at hSw)
                  go_simp
                  all_goals with_reducible rfl
                try simp only [Act.put, List.setIfInBounds_toArray, List.set_cons_zero, List.set_cons_succ]
                refine wpAnyH_take (i := 44) (oi := ?o45) (v := ?v45) ?hi45 (by kernel_rfl) (by kernel_rfl) (by kernel_rfl) (fun _ _ _ h => h) ?hy45 (by assumption) ?rest45
                case hi45 => simp only [List.getElem?_toArray, List.getElem?_cons_zero, List.getElem?_cons_succ]; rfl
                case hy45 =>
                  refine Or.inl ⟨by rfl, ?_⟩
                  intro w hSw
                  (try dsimp only at hSw)
                  go_simp
                  all_goals with_reducible rfl
                try simp only [Act.put, List.setIfInBounds_toArray, List.set_cons_zero, List.set_cons_succ]
                refine wpAnyH_take (i := 45) (oi := ?o46) (v := ?v46) ?hi46 (by kernel_rfl) (by kernel_rfl) (by kernel_rfl) (fun _ _ _ h => h) ?hy46 (by assumption) ?rest46
                case hi46 => simp only [List.getElem?_toArray, List.getElem?_cons_zero, List.getElem?_cons_succ]; rfl
                case hy46 =>
                  refine Or.inl ⟨by rfl, ?_⟩
                  intro w hSw
                  (try dsimp only at hSw)
                  go_simp
                  all_goals with_reducible rfl
                try simp only [Act.put, List.setIfInBounds_toArray, List.set_cons_zero, List.set_cons_succ]
                refine wpAnyH_take (i := 46) (oi := ?o47) (v := ?v47) ?hi47 (by kernel_rfl) (by kernel_rfl) (by kernel_rfl) (fun _ _ _ h => h) ?hy47 (by assumption) ?rest47
                case hi47 => simp only [List.getElem?_toArray, List.getElem?_cons_zero, List.getElem?_cons_succ]; rfl
                case hy47 =>
                  refine Or.inl ⟨by rfl, ?_⟩
                  intro w hSw
                  (try dsimp only at hSw)
                  go_simp
                  all_goals with_reducible rfl
                try simp only [Act.put, List.setIfInBounds_toArray, List.set_cons_zero, List.set_cons_succ]
                as_aux_lemma =>
                  refine wpAnyH_take (i := 47) (oi := ?o48) (v := ?v48) ?hi48 (by kernel_rfl) (by kernel_rfl) (by kernel_rfl) (fun _ _ _ h => h) ?hy48 (by assumption) ?rest48
                  case hi48 => simp only [List.getElem?_toArray, List.getElem?_cons_zero, List.getElem?_cons_succ]; rfl
                  case hy48 =>
                    refine Or.inl ⟨by rfl, ?_⟩
                    intro w hSw
                    (try dsimp only at hSw)
                    go_simp
                    all_goals with_reducible rfl
                  try simp only [Act.put, List.setIfInBounds_toArray, List.set_cons_zero, List.set_cons_succ]
                  refine wpAnyH_take (i := 48) (oi := ?o49) (v := ?v49) ?hi49 (by kernel_rfl) (by kernel_rfl) (by kernel_rfl) (fun _ _ _ h => h) ?hy49 (by assumption) ?rest49
                  case hi49 => simp only [List.getElem?_toArray, List.getElem?_cons_zero, List.getElem?_cons_succ]; rfl
                  case hy49 =>
                    refine Or.inl ⟨by rfl, ?_⟩
                    intro w hSw
                    (try dsimp only at hSw)
                    go_simp
                    all_goals with_reducible rfl
                  try simp only [Act.put, List.setIfInBounds_toArray, List.set_cons_zero, List.set_cons_succ]
                  refine wpAnyH_take (i := 49) (oi := ?o50) (v := ?v50) ?hi50 (by kernel_rfl) (by kernel_rfl) (by kernel_rfl) (fun _ _ _ h => h) ?hy50 (by assumption) ?rest50
                  case hi50 => simp only [List.getElem?_toArray, List.getElem?_cons_zero, List.getElem?_cons_succ]; rfl
                  case hy50 =>
                    refine Or.inl ⟨by rfl, ?_⟩
                    intro w hSw
                    (try dsimp only at hSw)
                    go_simp
                    all_goals with_reducible rfl
                  try simp only [Act.put, List.setIfInBounds_toArray, List.set_cons_zero, List.set_cons_succ]
                  refine wpAnyH_take (i := 50) (oi := ?o51) (v := ?v51) ?hi51 (by kernel_rfl) (by kernel_rfl) (by kernel_rfl) (fun _ _ _ h => h) ?hy51 (by assumption) ?rest51
                  case hi51 => simp only [List.getElem?_toArray, List.getElem?_cons_zero, List.getElem?_cons_succ]; rfl
                  case hy51 =>
                    refine Or.inl ⟨by rfl, ?_⟩
                    intro w hSw
                    (try dsimp only at hSw)
                    go_simp
                    all_goals with_reducible rfl
                  try simp only [Act.put, List.setIfInBounds_toArray, List.set_cons_zero, List.set_cons_succ]
                  refine wpAnyH_take (i := 51) (oi := ?o52) (v := ?v52) ?hi52 (by kernel_rfl) (by kernel_rfl) (by kernel_rfl) (fun _ _ _ h => h) ?hy52 (by assumption) ?rest52
                  case hi52 => simp only [List.getElem?_toArray, List.getElem?_cons_zero, List.getElem?_cons_succ]; rfl
                  case hy52 =>
                    refine Or.inl ⟨by rfl, ?_⟩
                    intro w hSw
                    (try dsimp only at hSw)
                    go_simp
                    all_goals with_reducible rfl
                  try simp only [Act.put, List.setIfInBounds_toArray, List.set_cons_zero, List.set_cons_succ]
                  refine wpAnyH_take (i := 52) (oi := ?o53) (v := ?v53) ?hi53 (by kernel_rfl) (by kernel_rfl) (by kernel_rfl) (fun _ _ _ h => h) ?hy53 (by assumption) ?rest53
                  case hi53 => simp only [List.getElem?_toArray, List.getElem?_cons_zero, List.getElem?_cons_succ]; rfl
                  case hy53 =>
                    refine Or.inl ⟨by rfl, ?_⟩
                    intro w hSw
                    (try dsimp only at hSw)
                    go_simp
                    all_goals with_reducible rfl
                  try simp only [Act.put, List.setIfInBounds_toArray, List.set_cons_zero, List.set_cons_succ]
                  as_aux_lemma =>
                    refine wpAnyH_take (i := 53) (oi := ?o54) (v := ?v54) ?hi54 (by kernel_rfl) (by kernel_rfl) (by kernel_rfl) (fun _ _ _ h => h) ?hy54 (by assumption) ?rest54
                    case hi54 => simp only [List.getElem?_toArray, List.getElem?_cons_zero, List.getElem?_cons_succ]; rfl
                    case hy54 =>
                      refine Or.inl ⟨by rfl, ?_⟩
                      intro w hSw
                      (try dsimp only at hSw)
                      go_simp
                      all_goals with_reducible rfl
                    try simp only [Act.put, List.setIfInBounds_toArray, List.set_cons_zero, List.set_cons_succ]
                    refine wpAnyH_take (i := 54) (oi := ?o55) (v := ?v55) ?hi55 (by kernel_rfl) (by kernel_rfl) (by kernel_rfl) (fun _ _ _ h => h) ?hy55 (by assumption) ?rest55
                    case hi55 => simp only [List.getElem?_toArray, List.getElem?_cons_zero, List.getElem?_cons_succ]; rfl
                    case hy55 =>
                      refine Or.inl ⟨by rfl, ?_⟩
                      intro w hSw
                      (try dsimp only at hSw)
                      go_simp
                      all_goals with_reducible rfl
                    try simp only [Act.put, List.setIfInBounds_toArray, List.set_cons_zero, List.set_cons_succ]
                    refine wpAnyH_take (i := 55) (oi := ?o56) (v := ?v56) ?hi56 (by kernel_rfl) (by kernel_rfl) (by kernel_rfl) (fun _ _ _ h => h) ?hy56 (by assumption) ?rest56
                    case hi56 => simp only [List.getElem?_toArray, List.getElem?_cons_zero, List.getElem?_cons_succ]; rfl
                    case hy56 =>
                      refine Or.inl ⟨by rfl, ?_⟩
                      intro w hSw
                      (try dsimp only at hSw)
                      go_simp
                      all_goals with_reducible rfl
                    try simp only [Act.put, List.setIfInBounds_toArray, List.set_cons_zero, List.set_cons_succ]
                    refine wpAnyH_take (i := 57) (oi := ?o57) (v := ?v57) ?hi57 (by kernel_rfl) (by kernel_rfl) (by kernel_rfl) (fun _ _ _ h => h) ?hy57 (by assumption) ?rest57
                    case hi57 => simp only [List.getElem?_toArray, List.getElem?_cons_zero, List.getElem?_cons_succ]; rfl
                    case hy57 =>
                      refine Or.inl ⟨by rfl, ?_⟩
                      intro w hSw
                      (try dsimp only at hSw)
                      go_simp
                      all_goals with_reducible rfl
                    try simp only [Act.put, List.setIfInBounds_toArray, List.set_cons_zero, List.set_cons_succ]
                    refine wpAnyH_ready (rs := [56]) (by kernel_rfl) (by simp) ?_
                    refine AllReadyH.cons (o := ?o58) ?ho58 (fun K hK => ?step58) AllReadyH.nil
                    case ho58 => simp only [List.getElem?_toArray, List.getElem?_cons_zero, List.getElem?_cons_succ]; rfl
                    go_simp
                    go_at_call 19
                    (with_reducible refine (HY12.out.ref0).mono ?_)
                    rintro e w13 ⟨rfl, hb⟩
                    have HY13 := hid (HY12.out.on hb); have hS13 := HY13.out.cells; clear hb hS12
                    try (go_wp2_with fail)
                    refine hK.out _ _ ?_ (fun hHeld5 => ?_)
                    · (try dsimp only)
                      first | go_keep | assumption
                    clear hK K
                    try simp only [Act.put, List.setIfInBounds_toArray, List.set_cons_zero, List.set_cons_succ]
                    refine wpAnyH_ready (rs := [58]) (by kernel_rfl) (by simp) ?_
                    refine AllReadyH.cons (o := ?o59) ?ho59 (fun K hK => ?step59) AllReadyH.nil
                    case ho59 => simp only [List.getElem?_toArray, List.getElem?_cons_zero, List.getElem?_cons_succ]; rfl
                    go_simp
                    go_at_call 18
                    (with_reducible refine (HY13.out.same0).mono ?_)
                    rintro e w14 ⟨rfl, hb⟩
                    have HY14 := hid (HY13.out.on hb); have hS14 := HY14.out.cells; clear hb hS13
                    try (go_wp2_with fail)
                    refine hK.out _ _ ?_ (fun hHeld6 => ?_)
                    · (try dsimp only)
                      first | go_keep | assumption
                    clear hK K
                    try simp only [Act.put, List.setIfInBounds_toArray, List.set_cons_zero, List.set_cons_succ]
                    as_aux_lemma =>
                      refine wpAnyH_take (i := 59) (oi := ?o60) (v := ?v60) ?hi60 (by kernel_rfl) (by kernel_rfl) (by kernel_rfl) (fun _ _ _ h => h) ?hy60 (by assumption) ?rest60
                      case hi60 => simp only [List.getElem?_toArray, List.getElem?_cons_zero, List.getElem?_cons_succ]; rfl
                      case hy60 =>
                        refine Or.inl ⟨by rfl, ?_⟩
                        intro w hSw
                        (try dsimp only at hSw)
                        go_simp
                        all_goals with_reducible rfl
                      try simp only [Act.put, List.setIfInBounds_toArray, List.set_cons_zero, List.set_cons_succ]
                      refine wpAnyH_take (i := 60) (oi := ?o61) (v := ?v61) ?hi61 (by kernel_rfl) (by kernel_rfl) (by kernel_rfl) (fun _ _ _ h => h) ?hy61 (by assumption) ?rest61
                      case hi61 => simp only [List.getElem?_toArray, List.getElem?_cons_zero, List.getElem?_cons_succ]; rfl
                      case hy61 =>
                        refine Or.inl ⟨by rfl, ?_⟩
                        intro w hSw
                        (try dsimp only at hSw)
                        go_simp
                        all_goals with_reducible rfl
                      try simp only [Act.put, List.setIfInBounds_toArray, List.set_cons_zero, List.set_cons_succ]
                      refine wpAnyH_take (i := 61) (oi := ?o62) (v := ?v62) ?hi62 (by kernel_rfl) (by kernel_rfl) (by kernel_rfl) (fun _ _ _ h => h) ?hy62 (by assumption) ?rest62
                      case hi62 => simp only [List.getElem?_toArray, List.getElem?_cons_zero, List.getElem?_cons_succ]; rfl
                      case hy62 =>
                        refine Or.inl ⟨by rfl, ?_⟩
                        intro w hSw
                        (try dsimp only at hSw)
                        go_simp
                        all_goals with_reducible rfl
                      try simp only [Act.put, List.setIfInBounds_toArray, List.set_cons_zero, List.set_cons_succ]
                      refine wpAnyH_take (i := 62) (oi := ?o63) (v := ?v63) ?hi63 (by kernel_rfl) (by kernel_rfl) (by kernel_rfl) (fun _ _ _ h => h) ?hy63 (by assumption) ?rest63
                      case hi63 => simp only [List.getElem?_toArray, List.getElem?_cons_zero, List.getElem?_cons_succ]; rfl
                      case hy63 =>
                        refine Or.inl ⟨by rfl, ?_⟩
                        intro w hSw
                        (try dsimp only at hSw)
                        go_simp
                        all_goals with_reducible rfl
                      try simp only [Act.put, List.setIfInBounds_toArray, List.set_cons_zero, List.set_cons_succ]
                      refine wpAnyH_take (i := 63) (oi := ?o64) (v := ?v64) ?hi64 (by kernel_rfl) (by kernel_rfl) (by kernel_rfl) (fun _ _ _ h => h) ?hy64 (by assumption) ?rest64
                      case hi64 => simp only [List.getElem?_toArray, List.getElem?_cons_zero, List.getElem?_cons_succ]; rfl
                      case hy64 =>
                        refine Or.inl ⟨by rfl, ?_⟩
                        intro w hSw
                        (try dsimp only at hSw)
                        go_simp
                        all_goals with_reducible rfl
                      try simp only [Act.put, List.setIfInBounds_toArray, List.set_cons_zero, List.set_cons_succ]
                      refine wpAnyH_ready (rs := [64, 65]) (by kernel_rfl) (by simp) ?_
                      refine AllReadyH.cons (o := ?o65) ?ho65 (fun K hK => ?step65) ?more65
                      case ho65 => simp only [List.getElem?_toArray, List.getElem?_cons_zero, List.getElem?_cons_succ]; rfl
                      case more65 =>
                        refine AllReadyH.cons (o := ?o66) ?ho66 (fun K hK => ?step66) AllReadyH.nil
                        case ho66 => simp only [List.getElem?_toArray, List.getElem?_cons_zero, List.getElem?_cons_succ]; rfl
                        as_aux_lemma =>
                          go_simp
                          refine hK.out _ _ ?_ (fun hHeld7 => ?_)
                          · (try dsimp only)
                            first | go_keep | assumption
                          clear hK K
                          try simp only [Act.put, List.setIfInBounds_toArray, List.set_cons_zero, List.set_cons_succ]
                          refine wpAnyH_take (i := 66) (oi := ?o67) (v := ?v67) ?hi67 (by kernel_rfl) (by kernel_rfl) (by kernel_rfl) (fun _ _ _ h => h) ?hy67 (by assumption) ?rest67
                          case hi67 => simp only [List.getElem?_toArray, List.getElem?_cons_zero, List.getElem?_cons_succ]; rfl
                          case hy67 =>
                            refine Or.inl ⟨by rfl, ?_⟩
                            intro w hSw
                            (try dsimp only at hSw)
                            go_simp
                            all_goals with_reducible rfl
                          try simp only [Act.put, List.setIfInBounds_toArray, List.set_cons_zero, List.set_cons_succ]
                          as_aux_lemma =>
                            refine wpAnyH_ready (rs := [64]) (by kernel_rfl) (by simp) ?_
                            refine AllReadyH.cons (o := ?o68) ?ho68 (fun K hK => ?step68) AllReadyH.nil
                            case ho68 => simp only [List.getElem?_toArray, List.getElem?_cons_zero, List.getElem?_cons_succ]; rfl
                            go_simp
                            go_at_call 19
                            (with_reducible refine (HY14.out.ref1b).mono ?_)
                            rintro e w15 ⟨rfl, hb, hl9⟩
                            have HY15 := hid (HY14.out.on hb); have hS15 := HY15.out.cells; clear hb hS14; have HL9 := hid hl9; clear hl9
                            try (go_wp2_with fail)
                            refine hK.out _ _ ?_ (fun hHeld8 => ?_)
                            · (try dsimp only)
                              first | go_keep | assumption
                            clear hK K
                            try simp only [Act.put, List.setIfInBounds_toArray, List.set_cons_zero, List.set_cons_succ]
                            refine wpAnyH_ready (rs := [67]) (by kernel_rfl) (by simp) ?_
                            refine AllReadyH.cons (o := ?o69) ?ho69 (fun K hK => ?step69) AllReadyH.nil
                            case ho69 => simp only [List.getElem?_toArray, List.getElem?_cons_zero, List.getElem?_cons_succ]; rfl
                            go_simp
                            go_at_call 18
                            (with_reducible refine (HY15.out.same1b HL9.out).mono ?_)
                            rintro e w16 ⟨rfl, hb⟩
                            have HY16 := hid (HY15.out.on hb); have hS16 := HY16.out.cells; clear hb hS15
                            try (go_wp2_with fail)
                            refine hK.out _ _ ?_ (fun hHeld9 => ?_)
                            · (try dsimp only)
                              first | go_keep | assumption
                            clear hK K
                            try simp only [Act.put, List.setIfInBounds_toArray, List.set_cons_zero, List.set_cons_succ]
                            refine wpAnyH_take (i := 68) (oi := ?o70) (v := ?v70) ?hi70 (by kernel_rfl) (by kernel_rfl) (by kernel_rfl) (fun _ _ _ h => h) ?hy70 (by assumption) ?rest70
                            case hi70 => simp only [List.getElem?_toArray, List.getElem?_cons_zero, List.getElem?_cons_succ]; rfl
                            case hy70 =>
                              refine Or.inl ⟨by rfl, ?_⟩
                              intro w hSw
                              (try dsimp only at hSw)
                              go_simp
                              all_goals with_reducible rfl
                            try simp only [Act.put, List.setIfInBounds_toArray, List.set_cons_zero, List.set_cons_succ]
                            refine wpAnyH_take (i := 69) (oi := ?o71) (v := ?v71) ?hi71 (by kernel_rfl) (by kernel_rfl) (by kernel_rfl) (fun _ _ _ h => h) ?hy71 (by assumption) ?rest71
                            case hi71 => simp only [List.getElem?_toArray, List.getElem?_cons_zero, List.getElem?_cons_succ]; rfl
                            case hy71 =>
                              refine Or.inl ⟨by rfl, ?_⟩
                              intro w hSw
                              (try dsimp only at hSw)
                              go_simp
                              all_goals with_reducible rfl
                            try simp only [Act.put, List.setIfInBounds_toArray, List.set_cons_zero, List.set_cons_succ]
                            refine wpAnyH_take (i := 70) (oi := ?o72) (v := ?v72) ?hi72 (by kernel_rfl) (by kernel_rfl) (by kernel_rfl) (fun _ _ _ h => h) ?hy72 (by assumption) ?rest72
                            case hi72 => simp only [List.getElem?_toArray, List.getElem?_cons_zero, List.getElem?_cons_succ]; rfl
                            case hy72 =>
                              refine Or.inl ⟨by rfl, ?_⟩
                              intro w hSw
                              (try dsimp only at hSw)
                              go_simp
                              all_goals with_reducible rfl
                            try simp only [Act.put, List.setIfInBounds_toArray, List.set_cons_zero, List.set_cons_succ]
                            refine wpAnyH_take (i := 71) (oi := ?o73) (v := ?v73) ?hi73 (by kernel_rfl) (by kernel_rfl) (by kernel_rfl) (fun _ _ _ h => h) ?hy73 (by assumption) ?rest73
                            case hi73 => simp only [List.getElem?_toArray, List.getElem?_cons_zero, List.getElem?_cons_succ]; rfl
                            case hy73 =>
                              refine Or.inl ⟨by rfl, ?_⟩
                              intro w hSw
                              (try dsimp only at hSw)
                              go_simp
                              all_goals with_reducible rfl
                            try simp only [Act.put, List.setIfInBounds_toArray, List.set_cons_zero, List.set_cons_succ]
                            as_aux_lemma =>
                              refine wpAnyH_take (i := 72) (oi := ?o74) (v := ?v74) ?hi74 (by kernel_rfl) (by kernel_rfl) (by kernel_rfl) (fun _ _ _ h => h) ?hy74 (by assumption) ?rest74
                              case hi74 => simp only [List.getElem?_toArray, List.getElem?_cons_zero, List.getElem?_cons_succ]; rfl
                              case hy74 =>
                                refine Or.inl ⟨by rfl, ?_⟩
                                intro w hSw
                                (try dsimp only at hSw)
                                go_simp
                                all_goals with_reducible rfl
                              try simp only [Act.put, List.setIfInBounds_toArray, List.set_cons_zero, List.set_cons_succ]
                              refine wpAnyH_take (i := 73) (oi := ?o75) (v := ?v75) ?hi75 (by kernel_rfl) (by kernel_rfl) (by kernel_rfl) (fun _ _ _ h => h) ?hy75 (by assumption) ?rest75
                              case hi75 => simp only [List.getElem?_toArray, List.getElem?_cons_zero, List.getElem?_cons_succ]; rfl
                              case hy75 =>
                                refine Or.inl ⟨by rfl, ?_⟩
                                intro w hSw
                                (try dsimp only at hSw)
                                go_simp
                                all_goals with_reducible rfl
                              try simp only [Act.put, List.setIfInBounds_toArray, List.set_cons_zero, List.set_cons_succ]
                              refine wpAnyH_take (i := 74) (oi := ?o76) (v := ?v76) ?hi76 (by kernel_rfl) (by kernel_rfl) (by kernel_rfl) (fun _ _ _ h => h) ?hy76 (by assumption) ?rest76
                              case hi76 => simp only [List.getElem?_toArray, List.getElem?_cons_zero, List.getElem?_cons_succ]; rfl
                              case hy76 =>
                                refine Or.inl ⟨by rfl, ?_⟩
                                intro w hSw
                                (try dsimp only at hSw)
                                go_simp
                                all_goals with_reducible rfl
                              try simp only [Act.put, List.setIfInBounds_toArray, List.set_cons_zero, List.set_cons_succ]
                              refine wpAnyH_take (i := 75) (oi := ?o77) (v := ?v77) ?hi77 (by kernel_rfl) (by kernel_rfl) (by kernel_rfl) (fun _ _ _ h => h) ?hy77 (by assumption) ?rest77
                              case hi77 => simp only [List.getElem?_toArray, List.getElem?_cons_zero, List.getElem?_cons_succ]; rfl
                              case hy77 =>
                                refine Or.inl ⟨by rfl, ?_⟩
                                intro w hSw
                                (try dsimp only at hSw)
                                go_simp
                                all_goals with_reducible rfl
                              try simp only [Act.put, List.setIfInBounds_toArray, List.set_cons_zero, List.set_cons_succ]
                              refine wpAnyH_take (i := 76) (oi := ?o78) (v := ?v78) ?hi78 (by kernel_rfl) (by kernel_rfl) (by kernel_rfl) (fun _ _ _ h => h) ?hy78 (by assumption) ?rest78
                              case hi78 => simp only [List.getElem?_toArray, List.getElem?_cons_zero, List.getElem?_cons_succ]; rfl
                              case hy78 =>
                                refine Or.inl ⟨by rfl, ?_⟩
                                intro w hSw
                                (try dsimp only at hSw)
                                go_simp
                                all_goals with_reducible rfl
                              try simp only [Act.put, List.setIfInBounds_toArray, List.set_cons_zero, List.set_cons_succ]
                              refine wpAnyH_take (i := 77) (oi := ?o79) (v := ?v79) ?hi79 (by kernel_rfl) (by kernel_rfl) (by kernel_rfl) (fun _ _ _ h => h) ?hy79 (by assumption) ?rest79
                              case hi79 => simp only [List.getElem?_toArray, List.getElem?_cons_zero, List.getElem?_cons_succ]; rfl
                              case hy79 =>
                                refine Or.inl ⟨by rfl, ?_⟩
                                intro w hSw
                                (try dsimp only at hSw)
                                go_simp
                                all_goals with_reducible rfl
                              try simp only [Act.put, List.setIfInBounds_toArray, List.set_cons_zero, List.set_cons_succ]
                              as_aux_lemma =>
                                refine wpAnyH_take (i := 78) (oi := ?o80) (v := ?v80) ?hi80 (by kernel_rfl) (by kernel_rfl) (by kernel_rfl) (fun _ _ _ h => h) ?hy80 (by assumption) ?rest80
                                case hi80 => simp only [List.getElem?_toArray, List.getElem?_cons_zero, List.getElem?_cons_succ]; rfl
                                case hy80 =>
                                  refine Or.inl ⟨by rfl, ?_⟩
                                  intro w hSw
                                  (try dsimp only at hSw)
                                  go_simp
                                  all_goals with_reducible rfl
                                try simp only [Act.put, List.setIfInBounds_toArray, List.set_cons_zero, List.set_cons_succ]
                                refine wpAnyH_take (i := 79) (oi := ?o81) (v := ?v81) ?hi81 (by kernel_rfl) (by kernel_rfl) (by kernel_rfl) (fun _ _ _ h => h) ?hy81 (by assumption) ?rest81
                                case hi81 => simp only [List.getElem?_toArray, List.getElem?_cons_zero, List.getElem?_cons_succ]; rfl
                                case hy81 =>
                                  refine Or.inl ⟨by rfl, ?_⟩
                                  intro w hSw
                                  (try dsimp only at hSw)
                                  go_simp
                                  all_goals with_reducible rfl
                                try simp only [Act.put, List.setIfInBounds_toArray, List.set_cons_zero, List.set_cons_succ]
                                refine wpAnyH_take (i := 80) (oi := ?o82) (v := ?v82) ?hi82 (by kernel_rfl) (by kernel_rfl) (by kernel_rfl) (fun _ _ _ h => h) ?hy82 (by assumption) ?rest82
                                case hi82 => simp only [List.getElem?_toArray, List.getElem?_cons_zero, List.getElem?_cons_succ]; rfl
                                case hy82 =>
                                  refine Or.inl ⟨by rfl, ?_⟩
                                  intro w hSw
                                  (try dsimp only at hSw)
                                  go_simp
                                  all_goals with_reducible rfl
                                try simp only [Act.put, List.setIfInBounds_toArray, List.set_cons_zero, List.set_cons_succ]
                                refine wpAnyH_take (i := 81) (oi := ?o83) (v := ?v83) ?hi83 (by kernel_rfl) (by kernel_rfl) (by kernel_rfl) (fun _ _ _ h => h) ?hy83 (by assumption) ?rest83
                                case hi83 => simp only [List.getElem?_toArray, List.getElem?_cons_zero, List.getElem?_cons_succ]; rfl
                                case hy83 =>
                                  refine Or.inl ⟨by rfl, ?_⟩
                                  intro w hSw
                                  (try dsimp only at hSw)
                                  go_simp
                                  all_goals with_reducible rfl
                                try simp only [Act.put, List.setIfInBounds_toArray, List.set_cons_zero, List.set_cons_succ]
                                refine wpAnyH_take (i := 82) (oi := ?o84) (v := ?v84) ?hi84 (by kernel_rfl) (by kernel_rfl) (by kernel_rfl) (fun _ _ _ h => h) ?hy84 (by assumption) ?rest84
                                case hi84 => simp only [List.getElem?_toArray, List.getElem?_cons_zero, List.getElem?_cons_succ]; rfl
                                case hy84 =>
                                  refine Or.inl ⟨by rfl, ?_⟩
                                  intro w hSw
                                  (try dsimp only at hSw)
                                  go_simp
                                  all_goals with_reducible rfl
                                try simp only [Act.put, List.setIfInBounds_toArray, List.set_cons_zero, List.set_cons_succ]
                                refine wpAnyH_take (i := 83) (oi := ?o85) (v := ?v85) ?hi85 (by kernel_rfl) (by kernel_rfl) (by kernel_rfl) (fun _ _ _ h => h) ?hy85 (by assumption) ?rest85
                                case hi85 => simp only [List.getElem?_toArray, List.getElem?_cons_zero, List.getElem?_cons_succ]; rfl
                                case hy85 =>
                                  refine Or.inl ⟨by rfl, ?_⟩
                                  intro w hSw
                                  (try dsimp only at hSw)
                                  go_simp
                                  all_goals with_reducible rfl
                                try simp only [Act.put, List.setIfInBounds_toArray, List.set_cons_zero, List.set_cons_succ]
                                as_aux_lemma =>
                                  refine wpAnyH_take (i := 84) (oi := ?o86) (v := ?v86) ?hi86 (by kernel_rfl) (by kernel_rfl) (by kernel_rfl) (fun _ _ _ h => h) ?hy86 (by assumption) ?rest86
                                  case hi86 => simp only [List.getElem?_toArray, List.getElem?_cons_zero, List.getElem?_cons_succ]; rfl
                                  case hy86 =>
                                    refine Or.inl ⟨by rfl, ?_⟩
                                    intro w hSw
                                    (try dsimp only at hSw)
                                    go_simp
                                    all_goals with_reducible rfl
                                  try simp only [Act.put, List.setIfInBounds_toArray, List.set_cons_zero, List.set_cons_succ]
                                  refine wpAnyH_take (i := 85) (oi := ?o87) (v := ?v87) ?hi87 (by kernel_rfl) (by kernel_rfl) (by kernel_rfl) (fun _ _ _ h => h) ?hy87 (by assumption) ?rest87
                                  case hi87 => simp only [List.getElem?_toArray, List.getElem?_cons_zero, List.getElem?_cons_succ]; rfl
                                  case hy87 =>
                                    refine Or.inl ⟨by rfl, ?_⟩
                                    intro w hSw
                                    (try dsimp only at hSw)
                                    go_simp
                                    all_goals with_reducible rfl
                                  try simp only [Act.put, List.setIfInBounds_toArray, List.set_cons_zero, List.set_cons_succ]
                                  refine wpAnyH_take (i := 86) (oi := ?o88) (v := ?v88) ?hi88 (by kernel_rfl) (by kernel_rfl) (by kernel_rfl) (fun _ _ _ h => h) ?hy88 (by assumption) ?rest88
                                  case hi88 => simp only [List.getElem?_toArray, List.getElem?_cons_zero, List.getElem?_cons_succ]; rfl
                                  case hy88 =>
                                    refine Or.inl ⟨by rfl, ?_⟩
                                    intro w hSw
                                    (try dsimp only at hSw)
                                    go_simp
                                    all_goals with_reducible rfl
                                  try simp only [Act.put, List.setIfInBounds_toArray, List.set_cons_zero, List.set_cons_succ]
                                  refine wpAnyH_take (i := 87) (oi := ?o89) (v := ?v89) ?hi89 (by kernel_rfl) (by kernel_rfl) (by kernel_rfl) (fun _ _ _ h => h) ?hy89 (by assumption) ?rest89
                                  case hi89 => simp only [List.getElem?_toArray, List.getElem?_cons_zero, List.getElem?_cons_succ]; rfl
                                  case hy89 =>
                                    refine Or.inl ⟨by rfl, ?_⟩
                                    intro w hSw
                                    (try dsimp only at hSw)
                                    go_simp
                                    all_goals with_reducible rfl
                                  try simp only [Act.put, List.setIfInBounds_toArray, List.set_cons_zero, List.set_cons_succ]
                                  refine wpAnyH_take (i := 88) (oi := ?o90) (v := ?v90) ?hi90 (by kernel_rfl) (by kernel_rfl) (by kernel_rfl) (fun _ _ _ h => h) ?hy90 (by assumption) ?rest90
                                  case hi90 => simp only [List.getElem?_toArray, List.getElem?_cons_zero, List.getElem?_cons_succ]; rfl
                                  case hy90 =>
                                    refine Or.inl ⟨by rfl, ?_⟩
                                    intro w hSw
                                    (try dsimp only at hSw)
                                    go_simp
                                    all_goals with_reducible rfl
                                  try simp only [Act.put, List.setIfInBounds_toArray, List.set_cons_zero, List.set_cons_succ]
                                  refine wpAnyH_take (i := 89) (oi := ?o91) (v := ?v91) ?hi91 (by kernel_rfl) (by kernel_rfl) (by kernel_rfl) (fun _ _ _ h => h) ?hy91 (by assumption) ?rest91
                                  case hi91 => simp only [List.getElem?_toArray, List.getElem?_cons_zero, List.getElem?_cons_succ]; rfl
                                  case hy91 =>
                                    refine Or.inl ⟨by rfl, ?_⟩
                                    intro w hSw
                                    (try dsimp only at hSw)
                                    go_simp
                                    all_goals with_reducible rfl
                                  try simp only [Act.put, List.setIfInBounds_toArray, List.set_cons_zero, List.set_cons_succ]
                                  as_aux_lemma =>
                                    refine wpAnyH_take (i := 90) (oi := ?o92) (v := ?v92) ?hi92 (by kernel_rfl) (by kernel_rfl) (by kernel_rfl) (fun _ _ _ h => h) ?hy92 (by assumption) ?rest92
                                    case hi92 => simp only [List.getElem?_toArray, List.getElem?_cons_zero, List.getElem?_cons_succ]; rfl
                                    case hy92 =>
                                      refine Or.inl ⟨by rfl, ?_⟩
                                      intro w hSw
                                      (try dsimp only at hSw)
                                      go_simp
                                      all_goals with_reducible rfl
                                    try simp only [Act.put, List.setIfInBounds_toArray, List.set_cons_zero, List.set_cons_succ]
                                    refine wpAnyH_take (i := 91) (oi := ?o93) (v := ?v93) ?hi93 (by kernel_rfl) (by kernel_rfl) (by kernel_rfl) (fun _ _ _ h => h) ?hy93 (by assumption) ?rest93
                                    case hi93 => simp only [List.getElem?_toArray, List.getElem?_cons_zero, List.getElem?_cons_succ]; rfl
                                    case hy93 =>
                                      refine Or.inl ⟨by rfl, ?_⟩
                                      intro w hSw
                                      (try dsimp only at hSw)
                                      go_simp
                                      all_goals with_reducible rfl
                                    try simp only [Act.put, List.setIfInBounds_toArray, List.set_cons_zero, List.set_cons_succ]
                                    refine wpAnyH_ready (rs := [92]) (by kernel_rfl) (by simp) ?_
                                    refine AllReadyH.cons (o := ?o94) ?ho94 (fun K hK => ?step94) AllReadyH.nil
                                    case ho94 => simp only [List.getElem?_toArray, List.getElem?_cons_zero, List.getElem?_cons_succ]; rfl
                                    go_simp
                                    go_at_call 27
                                    (with_reducible refine least_any.mono ?_)
                                    rintro e w17 ⟨rfl, hw17⟩
                                    obtain rfl : w16 = w17 := hw17.symm
                                    try (go_wp2_with fail)
                                    refine hK.out _ _ ?_ (fun hHeld10 => ?_)
                                    · (try dsimp only)
                                      first | go_keep | assumption
                                    clear hK K
                                    try simp only [Act.put, List.setIfInBounds_toArray, List.set_cons_zero, List.set_cons_succ]
                                    refine wpAnyH_take (i := 93) (oi := ?o95) (v := ?v95) ?hi95 (by kernel_rfl) (by kernel_rfl) (by kernel_rfl) (fun _ _ _ h => h) ?hy95 (by assumption) ?rest95
                                    case hi95 => simp only [List.getElem?_toArray, List.getElem?_cons_zero, List.getElem?_cons_succ]; rfl
                                    case hy95 =>
                                      refine Or.inl ⟨by rfl, ?_⟩
                                      intro w hSw
                                      (try dsimp only at hSw)
                                      go_simp
                                      all_goals with_reducible rfl
                                    try simp only [Act.put, List.setIfInBounds_toArray, List.set_cons_zero, List.set_cons_succ]
                                    refine wpAnyH_take (i := 94) (oi := ?o96) (v := ?v96) ?hi96 (by kernel_rfl) (by kernel_rfl) (by kernel_rfl) (fun _ _ _ h => h) ?hy96 (by assumption) ?rest96
                                    case hi96 => simp only [List.getElem?_toArray, List.getElem?_cons_zero, List.getElem?_cons_succ]; rfl
                                    case hy96 =>
                                      refine Or.inl ⟨by rfl, ?_⟩
                                      intro w hSw
                                      (try dsimp only at hSw)
                                      go_simp
                                      all_goals with_reducible rfl
                                    try simp only [Act.put, List.setIfInBounds_toArray, List.set_cons_zero, List.set_cons_succ]
                                    refine wpAnyH_take (i := 95) (oi := ?o97) (v := ?v97) ?hi97 (by kernel_rfl) (by kernel_rfl) (by kernel_rfl) (fun _ _ _ h => h) ?hy97 (by assumption) ?rest97
                                    case hi97 => simp only [List.getElem?_toArray, List.getElem?_cons_zero, List.getElem?_cons_succ]; rfl
                                    case hy97 =>
                                      refine Or.inl ⟨by rfl, ?_⟩
                                      intro w hSw
                                      (try dsimp only at hSw)
                                      go_simp
                                      all_goals with_reducible rfl
                                    try simp only [Act.put, List.setIfInBounds_toArray, List.set_cons_zero, List.set_cons_succ]
                                    as_aux_lemma =>
                                      refine wpAnyH_take (i := 96) (oi := ?o98) (v := ?v98) ?hi98 (by kernel_rfl) (by kernel_rfl) (by kernel_rfl) (fun _ _ _ h => h) ?hy98 (by assumption) ?rest98
                                      case hi98 => simp only [List.getElem?_toArray, List.getElem?_cons_zero, List.getElem?_cons_succ]; rfl
                                      case hy98 =>
                                        refine Or.inl ⟨by rfl, ?_⟩
                                        intro w hSw
                                        (try dsimp only at hSw)
                                        go_simp
                                        all_goals with_reducible rfl
                                      try simp only [Act.put, List.setIfInBounds_toArray, List.set_cons_zero, List.set_cons_succ]
                                      refine wpAnyH_ready (rs := [97]) (by kernel_rfl) (by simp) ?_
                                      refine AllReadyH.cons (o := ?o99) ?ho99 (fun K hK => ?step99) AllReadyH.nil
                                      case ho99 => simp only [List.getElem?_toArray, List.getElem?_cons_zero, List.getElem?_cons_succ]; rfl
                                      go_simp
                                      go_at_call 16
                                      (with_reducible refine (HY16.out.right0).mono ?_)
                                      rintro e w18 ⟨rfl, hb⟩
                                      have HY18 := hid (HY16.out.on hb); have hS18 := HY18.out.cells; clear hb hS16
                                      try (go_wp2_with fail)
                                      refine hK.out _ _ ?_ (fun hHeld11 => ?_)
                                      · (try dsimp only)
                                        first | go_keep | assumption
                                      clear hK K
                                      try simp only [Act.put, List.setIfInBounds_toArray, List.set_cons_zero, List.set_cons_succ]
                                      refine wpAnyH_take (i := 98) (oi := ?o100) (v := ?v100) ?hi100 (by kernel_rfl) (by kernel_rfl) (by kernel_rfl) (fun _ _ _ h => h) ?hy100 (by assumption) ?rest100
                                      case hi100 => simp only [List.getElem?_toArray, List.getElem?_cons_zero, List.getElem?_cons_succ]; rfl
                                      case hy100 =>
                                        refine Or.inl ⟨by rfl, ?_⟩
                                        intro w hSw
                                        (try dsimp only at hSw)
                                        go_simp
                                        all_goals with_reducible rfl
                                      try simp only [Act.put, List.setIfInBounds_toArray, List.set_cons_zero, List.set_cons_succ]
                                      refine wpAnyH_take (i := 99) (oi := ?o101) (v := ?v101) ?hi101 (by kernel_rfl) (by kernel_rfl) (by kernel_rfl) (fun _ _ _ h => h) ?hy101 (by assumption) ?rest101
                                      case hi101 => simp only [List.getElem?_toArray, List.getElem?_cons_zero, List.getElem?_cons_succ]; rfl
                                      case hy101 =>
                                        refine Or.inl ⟨by rfl, ?_⟩
                                        intro w hSw
                                        (try dsimp only at hSw)
                                        go_simp
                                        all_goals with_reducible rfl
                                      try simp only [Act.put, List.setIfInBounds_toArray, List.set_cons_zero, List.set_cons_succ]
                                      refine wpAnyH_take (i := 100) (oi := ?o102) (v := ?v102) ?hi102 (by kernel_rfl) (by kernel_rfl) (by kernel_rfl) (fun _ _ _ h => h) ?hy102 (by assumption) ?rest102
                                      case hi102 => simp only [List.getElem?_toArray, List.getElem?_cons_zero, List.getElem?_cons_succ]; rfl
                                      case hy102 =>
                                        refine Or.inl ⟨by rfl, ?_⟩
                                        intro w hSw
                                        (try dsimp only at hSw)
                                        go_simp
                                        all_goals with_reducible rfl
                                      try simp only [Act.put, List.setIfInBounds_toArray, List.set_cons_zero, List.set_cons_succ]
                                      refine wpAnyH_take (i := 101) (oi := ?o103) (v := ?v103) ?hi103 (by kernel_rfl) (by kernel_rfl) (by kernel_rfl) (fun _ _ _ h => h) ?hy103 (by assumption) ?rest103
                                      case hi103 => simp only [List.getElem?_toArray, List.getElem?_cons_zero, List.getElem?_cons_succ]; rfl
                                      case hy103 =>
                                        refine Or.inl ⟨by rfl, ?_⟩
                                        intro w hSw
                                        (try dsimp only at hSw)
                                        go_simp
                                        all_goals with_reducible rfl
                                      try simp only [Act.put, List.setIfInBounds_toArray, List.set_cons_zero, List.set_cons_succ]
                                      as_aux_lemma =>
                                        refine wpAnyH_ready (rs := [102]) (by kernel_rfl) (by simp) ?_
                                        refine AllReadyH.cons (o := ?o104) ?ho104 (fun K hK => ?step104) AllReadyH.nil
                                        case ho104 => simp only [List.getElem?_toArray, List.getElem?_cons_zero, List.getElem?_cons_succ]; rfl
                                        go_simp
                                        go_at_call 16
                                        (with_reducible refine (HY18.out.right1).mono ?_)
                                        rintro e w19 ⟨rfl, hb⟩
                                        have HY19 := hid (HY18.out.on hb); have hS19 := HY19.out.cells; clear hb hS18
                                        try (go_wp2_with fail)
                                        refine hK.out _ _ ?_ (fun hHeld12 => ?_)
                                        · (try dsimp only)
                                          first | go_keep | assumption
                                        clear hK K
                                        try simp only [Act.put, List.setIfInBounds_toArray, List.set_cons_zero, List.set_cons_succ]
                                        refine wpAnyH_take (i := 103) (oi := ?o105) (v := ?v105) ?hi105 (by kernel_rfl) (by kernel_rfl) (by kernel_rfl) (fun _ _ _ h => h) ?hy105 (by assumption) ?rest105
                                        case hi105 => simp only [List.getElem?_toArray, List.getElem?_cons_zero, List.getElem?_cons_succ]; rfl
                                        case hy105 =>
                                          refine Or.inl ⟨by rfl, ?_⟩
                                          intro w hSw
                                          (try dsimp only at hSw)
                                          go_simp
                                          all_goals with_reducible rfl
                                        try simp only [Act.put, List.setIfInBounds_toArray, List.set_cons_zero, List.set_cons_succ]
                                        refine wpAnyH_take (i := 104) (oi := ?o106) (v := ?v106) ?hi106 (by kernel_rfl) (by kernel_rfl) (by kernel_rfl) (fun _ _ _ h => h) ?hy106 (by assumption) ?rest106
                                        case hi106 => simp only [List.getElem?_toArray, List.getElem?_cons_zero, List.getElem?_cons_succ]; rfl
                                        case hy106 =>
                                          refine Or.inl ⟨by rfl, ?_⟩
                                          intro w hSw
                                          (try dsimp only at hSw)
                                          go_simp
                                          all_goals with_reducible rfl
                                        try simp only [Act.put, List.setIfInBounds_toArray, List.set_cons_zero, List.set_cons_succ]
                                        refine wpAnyH_take (i := 105) (oi := ?o107) (v := ?v107) ?hi107 (by kernel_rfl) (by kernel_rfl) (by kernel_rfl) (fun _ _ _ h => h) ?hy107 (by assumption) ?rest107
                                        case hi107 => simp only [List.getElem?_toArray, List.getElem?_cons_zero, List.getElem?_cons_succ]; rfl
                                        case hy107 =>
                                          refine Or.inl ⟨by rfl, ?_⟩
                                          intro w hSw
                                          (try dsimp only at hSw)
                                          go_simp
                                          all_goals with_reducible rfl
                                        try simp only [Act.put, List.setIfInBounds_toArray, List.set_cons_zero]
                                        refine wpAnyH_done (by kernel_rfl) ?_ _
                                        refine NoPanic.normal ?_
                                        go_wp2_with fail
                                        go_ret
                                        first | exact ⟨rfl, HY19.out.below⟩ | exact ⟨rfl, below_dN HY19.out.below _⟩
                      as_aux_lemma =>
                        go_simp
                        go_at_call 19
                        (with_reducible refine (HY14.out.ref1).mono ?_)
                        rintro e w15 ⟨rfl, hb⟩
                        have HY15 := hid (HY14.out.on hb); have hS15 := HY15.out.cells; clear hb hS14
                        try (go_wp2_with fail)
                        refine hK.out _ _ ?_ (fun hHeld13 => ?_)
                        · (try dsimp only)
                          first | go_keep | assumption
                        clear hK K
                        try simp only [Act.put, List.setIfInBounds_toArray, List.set_cons_zero, List.set_cons_succ]
                        refine wpAnyH_ready (rs := [65]) (by kernel_rfl) (by simp) ?_
                        refine AllReadyH.cons (o := ?o108) ?ho108 (fun K hK => ?step108) AllReadyH.nil
                        case ho108 => simp only [List.getElem?_toArray, List.getElem?_cons_zero, List.getElem?_cons_succ]; rfl
                        go_simp
                        refine hK.out _ _ ?_ (fun hHeld14 => ?_)
                        · (try dsimp only)
                          first | go_keep | assumption
                        clear hK K
                        try simp only [Act.put, List.setIfInBounds_toArray, List.set_cons_zero, List.set_cons_succ]
                        refine wpAnyH_take (i := 66) (oi := ?o109) (v := ?v109) ?hi109 (by kernel_rfl) (by kernel_rfl) (by kernel_rfl) (fun _ _ _ h => h) ?hy109 (by assumption) ?rest109
                        case hi109 => simp only [List.getElem?_toArray, List.getElem?_cons_zero, List.getElem?_cons_succ]; rfl
                        case hy109 =>
                          refine Or.inl ⟨by rfl, ?_⟩
                          intro w hSw
                          (try dsimp only at hSw)
                          go_simp
                          all_goals with_reducible rfl
                        try simp only [Act.put, List.setIfInBounds_toArray, List.set_cons_zero, List.set_cons_succ]
                        as_aux_lemma =>
                          refine wpAnyH_ready (rs := [67]) (by kernel_rfl) (by simp) ?_
                          refine AllReadyH.cons (o := ?o110) ?ho110 (fun K hK => ?step110) AllReadyH.nil
                          case ho110 => simp only [List.getElem?_toArray, List.getElem?_cons_zero, List.getElem?_cons_succ]; rfl
                          go_simp
                          go_at_call 18
                          (with_reducible refine (HY15.out.same1).mono ?_)
                          rintro e w16 ⟨rfl, hb⟩
                          have HY16 := hid (HY15.out.on hb); have hS16 := HY16.out.cells; clear hb hS15
                          try (go_wp2_with fail)
                          refine hK.out _ _ ?_ (fun hHeld15 => ?_)
                          · (try dsimp only)
                            first | go_keep | assumption
                          clear hK K
                          try simp only [Act.put, List.setIfInBounds_toArray, List.set_cons_zero, List.set_cons_succ]
                          refine wpAnyH_take (i := 68) (oi := ?o111) (v := ?v111) ?hi111 (by kernel_rfl) (by kernel_rfl) (by kernel_rfl) (fun _ _ _ h => h) ?hy111 (by assumption) ?rest111
                          case hi111 => simp only [List.getElem?_toArray, List.getElem?_cons_zero, List.getElem?_cons_succ]; rfl
                          case hy111 =>
                            refine Or.inl ⟨by rfl, ?_⟩
                            intro w hSw
                            (try dsimp only at hSw)
                            go_simp
                            all_goals with_reducible rfl
                          try simp only [Act.put, List.setIfInBounds_toArray, List.set_cons_zero, List.set_cons_succ]
                          refine wpAnyH_take (i := 69) (oi := ?o112) (v := ?v112) ?hi112 (by kernel_rfl) (by kernel_rfl) (by kernel_rfl) (fun _ _ _ h => h) ?hy112 (by assumption) ?rest112
                          case hi112 => simp only [List.getElem?_toArray, List.getElem?_cons_zero, List.getElem?_cons_succ]; rfl
                          case hy112 =>
                            refine Or.inl ⟨by rfl, ?_⟩
                            intro w hSw
                            (try dsimp only at hSw)
                            go_simp
                            all_goals with_reducible rfl
                          try simp only [Act.put, List.setIfInBounds_toArray, List.set_cons_zero, List.set_cons_succ]
                          refine wpAnyH_take (i := 70) (oi := ?o113) (v := ?v113) ?hi113 (by kernel_rfl) (by kernel_rfl) (by kernel_rfl) (fun _ _ _ h => h) ?hy113 (by assumption) ?rest113
                          case hi113 => simp only [List.getElem?_toArray, List.getElem?_cons_zero, List.getElem?_cons_succ]; rfl
                          case hy113 =>
                            refine Or.inl ⟨by rfl, ?_⟩
                            intro w hSw
                            (try dsimp only at hSw)
                            go_simp
                            all_goals with_reducible rfl
                          try simp only [Act.put, List.setIfInBounds_toArray, List.set_cons_zero, List.set_cons_succ]
                          refine wpAnyH_take (i := 71) (oi := ?o114) (v := ?v114) ?hi114 (by kernel_rfl) (by kernel_rfl) (by kernel_rfl) (fun _ _ _ h => h) ?hy114 (by assumption) ?rest114
                          case hi114 => simp only [List.getElem?_toArray, List.getElem?_cons_zero, List.getElem?_cons_succ]; rfl
                          case hy114 =>
                            refine Or.inl ⟨by rfl, ?_⟩
                            intro w hSw
                            (try dsimp only at hSw)
                            go_simp
                            all_goals with_reducible rfl
                          try simp only [Act.put, List.setIfInBounds_toArray, List.set_cons_zero, List.set_cons_succ]
                          refine wpAnyH_take (i := 72) (oi := ?o115) (v := ?v115) ?hi115 (by kernel_rfl) (by kernel_rfl) (by kernel_rfl) (fun _ _ _ h => h) ?hy115 (by assumption) ?rest115
                          case hi115 => simp only [List.getElem?_toArray, List.getElem?_cons_zero, List.getElem?_cons_succ]; rfl
                          case hy115 =>
                            refine Or.inl ⟨by rfl, ?_⟩
                            intro w hSw
                            (try dsimp only at hSw)
                            go_simp
                            all_goals with_reducible rfl
                          try simp only [Act.put, List.setIfInBounds_toArray, List.set_cons_zero, List.set_cons_succ]
                          as_aux_lemma =>
                            refine wpAnyH_take (i := 73) (oi := ?o116) (v := ?v116) ?hi116 (by kernel_rfl) (by kernel_rfl) (by kernel_rfl) (fun _ _ _ h => h) ?hy116 (by assumption) ?rest116
                            case hi116 => simp only [List.getElem?_toArray, List.getElem?_cons_zero, List.getElem?_cons_succ]; rfl
                            case hy116 =>
                              refine Or.inl ⟨by rfl, ?_⟩
                              intro w hSw
                              (try dsimp only at hSw)
                              go_simp
                              all_goals with_reducible rfl
                            try simp only [Act.put, List.setIfInBounds_toArray, List.set_cons_zero, List.set_cons_succ]
                            refine wpAnyH_take (i := 74) (oi := ?o117) (v := ?v117) ?hi117 (by kernel_rfl) (by kernel_rfl) (by kernel_rfl) (fun _ _ _ h => h) ?hy117 (by assumption) ?rest117
                            case hi117 => simp only [List.getElem?_toArray, List.getElem?_cons_zero, List.getElem?_cons_succ]; rfl
                            case hy117 =>
                              refine Or.inl ⟨by rfl, ?_⟩
                              intro w hSw
                              (try dsimp only at hSw)
                              go_simp
                              all_goals with_reducible rfl
                            try simp only [Act.put, List.setIfInBounds_toArray, List.set_cons_zero, List.set_cons_succ]
                            refine wpAnyH_take (i := 75) (oi := ?o118) (v := ?v118) ?hi118 (by kernel_rfl) (by kernel_rfl) (by kernel_rfl) (fun _ _ _ h => h) ?hy118 (by assumption) ?rest118
                            case hi118 => simp only [List.getElem?_toArray, List.getElem?_cons_zero, List.getElem?_cons_succ]; rfl
                            case hy118 =>
                              refine Or.inl ⟨by rfl, ?_⟩
                              intro w hSw
                              (try dsimp only at hSw)
                              go_simp
                              all_goals with_reducible rfl
                            try simp only [Act.put, List.setIfInBounds_toArray, List.set_cons_zero, List.set_cons_succ]
                            refine wpAnyH_take (i := 76) (oi := ?o119) (v := ?v119) ?hi119 (by kernel_rfl) (by kernel_rfl) (by kernel_rfl) (fun _ _ _ h => h) ?hy119 (by assumption) ?rest119
                            case hi119 => simp only [List.getElem?_toArray, List.getElem?_cons_zero, List.getElem?_cons_succ]; rfl
                            case hy119 =>
                              refine Or.inl ⟨by rfl, ?_⟩
                              intro w hSw
                              (try dsimp only at hSw)
                              go_simp
                              all_goals with_reducible rfl
                            try simp only [Act.put, List.setIfInBounds_toArray, List.set_cons_zero, List.set_cons_succ]
                            refine wpAnyH_take (i := 77) (oi := ?o120) (v := ?v120) ?hi120 (by kernel_rfl) (by kernel_rfl) (by kernel_rfl) (fun _ _ _ h => h) ?hy120 (by assumption) ?rest120
                            case hi120 => simp only [List.getElem?_toArray, List.getElem?_cons_zero, List.getElem?_cons_succ]; rfl
                            case hy120 =>
                              refine Or.inl ⟨by rfl, ?_⟩
                              intro w hSw
                              (try dsimp only at hSw)
                              go_simp
                              all_goals with_reducible rfl
                            try simp only [Act.put, List.setIfInBounds_toArray, List.set_cons_zero, List.set_cons_succ]
                            refine wpAnyH_take (i := 78) (oi := ?o121) (v := ?v121) ?hi121 (by kernel_rfl) (by kernel_rfl) (by kernel_rfl) (fun _ _ _ h => h) ?hy121 (by assumption) ?rest121
                            case hi121 => simp only [List.getElem?_toArray, List.getElem?_cons_zero, List.getElem?_cons_succ]; rfl
                            case hy121 =>
                              refine Or.inl ⟨by rfl, ?_⟩
                              intro w hSw
                              (try dsimp only at hSw)
                              go_simp
                              all_goals with_reducible rfl
                            try simp only [Act.put, List.setIfInBounds_toArray, List.set_cons_zero, List.set_cons_succ]
                            as_aux_lemma =>
                              refine wpAnyH_take (i := 79) (oi := ?o122) (v := ?v122) ?hi122 (by kernel_rfl) (by kernel_rfl) (by kernel_rfl) (fun _ _ _ h => h) ?hy122 (by assumption) ?rest122
                              case hi122 => simp only [List.getElem?_toArray, List.getElem?_cons_zero, List.getElem?_cons_succ]; rfl
                              case hy122 =>
                                refine Or.inl ⟨by rfl, ?_⟩
                                intro w hSw
                                (try dsimp only at hSw)
                                go_simp
                                all_goals with_reducible rfl
                              try simp only [Act.put, List.setIfInBounds_toArray, List.set_cons_zero, List.set_cons_succ]
                              refine wpAnyH_take (i := 80) (oi := ?o123) (v := ?v123) ?hi123 (by kernel_rfl) (by kernel_rfl) (by kernel_rfl) (fun _ _ _ h => h) ?hy123 (by assumption) ?rest123
                              case hi123 => simp only [List.getElem?_toArray, List.getElem?_cons_zero, List.getElem?_cons_succ]; rfl
                              case hy123 =>
                                refine Or.inl ⟨by rfl, ?_⟩
                                intro w hSw
                                (try dsimp only at hSw)
                                go_simp
                                all_goals with_reducible rfl
                              try simp only [Act.put, List.setIfInBounds_toArray, List.set_cons_zero, List.set_cons_succ]
                              refine wpAnyH_take (i := 81) (oi := ?o124) (v := ?v124) ?hi124 (by kernel_rfl) (by kernel_rfl) (by kernel_rfl) (fun _ _ _ h => h) ?hy124 (by assumption) ?rest124
                              case hi124 => simp only [List.getElem?_toArray, List.getElem?_cons_zero, List.getElem?_cons_succ]; rfl
                              case hy124 =>
                                refine Or.inl ⟨by rfl, ?_⟩
                                intro w hSw
                                (try dsimp only at hSw)
                                go_simp
                                all_goals with_reducible rfl
                              try simp only [Act.put, List.setIfInBounds_toArray, List.set_cons_zero, List.set_cons_succ]
                              refine wpAnyH_take (i := 82) (oi := ?o125) (v := ?v125) ?hi125 (by kernel_rfl) (by kernel_rfl) (by kernel_rfl) (fun _ _ _ h => h) ?hy125 (by assumption) ?rest125
                              case hi125 => simp only [List.getElem?_toArray, List.getElem?_cons_zero, List.getElem?_cons_succ]; rfl
                              case hy125 =>
                                refine Or.inl ⟨by rfl, ?_⟩
                                intro w hSw
                                (try dsimp only at hSw)
                                go_simp
                                all_goals with_reducible rfl
                              try simp only [Act.put, List.setIfInBounds_toArray, List.set_cons_zero, List.set_cons_succ]
                              refine wpAnyH_take (i := 83) (oi := ?o126) (v := ?v126) ?hi126 (by kernel_rfl) (by kernel_rfl) (by kernel_rfl) (fun _ _ _ h => h) ?hy126 (by assumption) ?rest126
                              case hi126 => simp only [List.getElem?_toArray, List.getElem?_cons_zero, List.getElem?_cons_succ]; rfl
                              case hy126 =>
                                refine Or.inl ⟨by rfl, ?_⟩
                                intro w hSw
                                (try dsimp only at hSw)
                                go_simp
                                all_goals with_reducible rfl
                              try simp only [Act.put, List.setIfInBounds_toArray, List.set_cons_zero, List.set_cons_succ]
                              refine wpAnyH_take (i := 84) (oi := ?o127) (v := ?v127) ?hi127 (by kernel_rfl) (by kernel_rfl) (by kernel_rfl) (fun _ _ _ h => h) ?hy127 (by assumption) ?rest127
                              case hi127 => simp only [List.getElem?_toArray, List.getElem?_cons_zero, List.getElem?_cons_succ]; rfl
                              case hy127 =>
                                refine Or.inl ⟨by rfl, ?_⟩
                                intro w hSw
                                (try dsimp only at hSw)
                                go_simp
                                all_goals with_reducible rfl
                              try simp only [Act.put, List.setIfInBounds_toArray, List.set_cons_zero, List.set_cons_succ]
                              as_aux_lemma =>
                                refine wpAnyH_take (i := 85) (oi := ?o128) (v := ?v128) ?hi128 (by kernel_rfl) (by kernel_rfl) (by kernel_rfl) (fun _ _ _ h => h) ?hy128 (by assumption) ?rest128
                                case hi128 => simp only [List.getElem?_toArray, List.getElem?_cons_zero, List.getElem?_cons_succ]; rfl
                                case hy128 =>
                                  refine Or.inl ⟨by rfl, ?_⟩
                                  intro w hSw
                                  (try dsimp only at hSw)
                                  go_simp
                                  all_goals with_reducible rfl
                                try simp only [Act.put, List.setIfInBounds_toArray, List.set_cons_zero, List.set_cons_succ]
                                refine wpAnyH_take (i := 86) (oi := ?o129) (v := ?v129) ?hi129 (by kernel_rfl) (by kernel_rfl) (by kernel_rfl) (fun _ _ _ h => h) ?hy129 (by assumption) ?rest129
                                case hi129 => simp only [List.getElem?_toArray, List.getElem?_cons_zero, List.getElem?_cons_succ]; rfl
                                case hy129 =>
                                  refine Or.inl ⟨by rfl, ?_⟩
                                  intro w hSw
                                  (try dsimp only at hSw)
                                  go_simp
                                  all_goals with_reducible rfl
                                try simp only [Act.put, List.setIfInBounds_toArray, List.set_cons_zero, List.set_cons_succ]
                                refine wpAnyH_take (i := 87) (oi := ?o130) (v := ?v130) ?hi130 (by kernel_rfl) (by kernel_rfl) (by kernel_rfl) (fun _ _ _ h => h) ?hy130 (by assumption) ?rest130
                                case hi130 => simp only [List.getElem?_toArray, List.getElem?_cons_zero, List.getElem?_cons_succ]; rfl
                                case hy130 =>
                                  refine Or.inl ⟨by rfl, ?_⟩
                                  intro w hSw
                                  (try dsimp only at hSw)
                                  go_simp
                                  all_goals with_reducible rfl
                                try simp only [Act.put, List.setIfInBounds_toArray, List.set_cons_zero, List.set_cons_succ]
                                refine wpAnyH_take (i := 88) (oi := ?o131) (v := ?v131) ?hi131 (by kernel_rfl) (by kernel_rfl) (by kernel_rfl) (fun _ _ _ h => h) ?hy131 (by assumption) ?rest131
                                case hi131 => simp only [List.getElem?_toArray, List.getElem?_cons_zero, List.getElem?_cons_succ]; rfl
                                case hy131 =>
                                  refine Or.inl ⟨by rfl, ?_⟩
                                  intro w hSw
                                  (try dsimp only at hSw)
                                  go_simp
                                  all_goals with_reducible rfl
                                try simp only [Act.put, List.setIfInBounds_toArray, List.set_cons_zero, List.set_cons_succ]
                                refine wpAnyH_take (i := 89) (oi := ?o132) (v := ?v132) ?hi132 (by kernel_rfl) (by kernel_rfl) (by kernel_rfl) (fun _ _ _ h => h) ?hy132 (by assumption) ?rest132
                                case hi132 => simp only [List.getElem?_toArray, List.getElem?_cons_zero, List.getElem?_cons_succ]; rfl
                                case hy132 =>
                                  refine Or.inl ⟨by rfl, ?_⟩
                                  intro w hSw
                                  (try dsimp only at hSw)
                                  go_simp
                                  all_goals with_reducible rfl
                                try simp only [Act.put, List.setIfInBounds_toArray, List.set_cons_zero, List.set_cons_succ]
                                refine wpAnyH_take (i := 90) (oi := ?o133) (v := ?v133) ?hi133 (by kernel_rfl) (by kernel_rfl) (by kernel_rfl) (fun _ _ _ h => h) ?hy133 (by assumption) ?rest133
                                case hi133 => simp only [List.getElem?_toArray, List.getElem?_cons_zero, List.getElem?_cons_succ]; rfl
                                case hy133 =>
                                  refine Or.inl ⟨by rfl, ?_⟩
                                  intro w hSw
                                  (try dsimp only at hSw)
                                  go_simp
                                  all_goals with_reducible rfl
                                try simp only [Act.put, List.setIfInBounds_toArray, List.set_cons_zero, List.set_cons_succ]
                                as_aux_lemma =>
                                  refine wpAnyH_take (i := 91) (oi := ?o134) (v := ?v134) ?hi134 (by kernel_rfl) (by kernel_rfl) (by kernel_rfl) (fun _ _ _ h => h) ?hy134 (by assumption) ?rest134
                                  case hi134 => simp only [List.getElem?_toArray, List.getElem?_cons_zero, List.getElem?_cons_succ]; rfl
                                  case hy134 =>
                                    refine Or.inl ⟨by rfl, ?_⟩
                                    intro w hSw
                                    (try dsimp only at hSw)
                                    go_simp
                                    all_goals with_reducible rfl
                                  try simp only [Act.put, List.setIfInBounds_toArray, List.set_cons_zero, List.set_cons_succ]
                                  refine wpAnyH_ready (rs := [92]) (by kernel_rfl) (by simp) ?_
                                  refine AllReadyH.cons (o := ?o135) ?ho135 (fun K hK => ?step135) AllReadyH.nil
                                  case ho135 => simp only [List.getElem?_toArray, List.getElem?_cons_zero, List.getElem?_cons_succ]; rfl
                                  go_simp
                                  go_at_call 27
                                  (with_reducible refine least_any.mono ?_)
                                  rintro e w17 ⟨rfl, hw17⟩
                                  obtain rfl : w16 = w17 := hw17.symm
                                  try (go_wp2_with fail)
                                  refine hK.out _ _ ?_ (fun hHeld16 => ?_)
                                  · (try dsimp only)
                                    first | go_keep | assumption
                                  clear hK K
                                  try simp only [Act.put, List.setIfInBounds_toArray, List.set_cons_zero, List.set_cons_succ]
                                  refine wpAnyH_take (i := 93) (oi := ?o136) (v := ?v136) ?hi136 (by kernel_rfl) (by kernel_rfl) (by kernel_rfl) (fun _ _ _ h => h) ?hy136 (by assumption) ?rest136
                                  case hi136 => simp only [List.getElem?_toArray, List.getElem?_cons_zero, List.getElem?_cons_succ]; rfl
                                  case hy136 =>
                                    refine Or.inl ⟨by rfl, ?_⟩
                                    intro w hSw
                                    (try dsimp only at hSw)
                                    go_simp
                                    all_goals with_reducible rfl
                                  try simp only [Act.put, List.setIfInBounds_toArray, List.set_cons_zero, List.set_cons_succ]
                                  refine wpAnyH_take (i := 94) (oi := ?o137) (v := ?v137) ?hi137 (by kernel_rfl) (by kernel_rfl) (by kernel_rfl) (fun _ _ _ h => h) ?hy137 (by assumption) ?rest137
                                  case hi137 => simp only [List.getElem?_toArray, List.getElem?_cons_zero, List.getElem?_cons_succ]; rfl
                                  case hy137 =>
                                    refine Or.inl ⟨by rfl, ?_⟩
                                    intro w hSw
                                    (try dsimp only at hSw)
                                    go_simp
                                    all_goals with_reducible rfl
                                  try simp only [Act.put, List.setIfInBounds_toArray, List.set_cons_zero, List.set_cons_succ]
                                  refine wpAnyH_take (i := 95) (oi := ?o138) (v := ?v138) ?hi138 (by kernel_rfl) (by kernel_rfl) (by kernel_rfl) (fun _ _ _ h => h) ?hy138 (by assumption) ?rest138
                                  case hi138 => simp only [List.getElem?_toArray, List.getElem?_cons_zero, List.getElem?_cons_succ]; rfl
                                  case hy138 =>
                                    refine Or.inl ⟨by rfl, ?_⟩
                                    intro w hSw
                                    (try dsimp only at hSw)
                                    go_simp
                                    all_goals with_reducible rfl
                                  try simp only [Act.put, List.setIfInBounds_toArray, List.set_cons_zero, List.set_cons_succ]
                                  refine wpAnyH_take (i := 96) (oi := ?o139) (v := ?v139) ?hi139 (by kernel_rfl) (by kernel_rfl) (by kernel_rfl) (fun _ _ _ h => h) ?hy139 (by assumption) ?rest139
                                  case hi139 => simp only [List.getElem?_toArray, List.getElem?_cons_zero, List.getElem?_cons_succ]; rfl
                                  case hy139 =>
                                    refine Or.inl ⟨by rfl, ?_⟩
                                    intro w hSw
                                    (try dsimp only at hSw)
                                    go_simp
                                    all_goals with_reducible rfl
                                  try simp only [Act.put, List.setIfInBounds_toArray, List.set_cons_zero, List.set_cons_succ]
                                  as_aux_lemma =>
                                    refine wpAnyH_ready (rs := [97]) (by kernel_rfl) (by simp) ?_
                                    refine AllReadyH.cons (o := ?o140) ?ho140 (fun K hK => ?step140) AllReadyH.nil
                                    case ho140 => simp only [List.getElem?_toArray, List.getElem?_cons_zero, List.getElem?_cons_succ]; rfl
                                    go_simp
                                    go_at_call 16
                                    (with_reducible refine (HY16.out.right0).mono ?_)
                                    rintro e w18 ⟨rfl, hb⟩
                                    have HY18 := hid (HY16.out.on hb); have hS18 := HY18.out.cells; clear hb hS16
                                    try (go_wp2_with fail)
                                    refine hK.out _ _ ?_ (fun hHeld17 => ?_)
                                    · (try dsimp only)
                                      first | go_keep | assumption
                                    clear hK K
                                    try simp only [Act.put, List.setIfInBounds_toArray, List.set_cons_zero, List.set_cons_succ]
                                    refine wpAnyH_take (i := 98) (oi := ?o141) (v := ?v141) ?hi141 (by kernel_rfl) (by kernel_rfl) (by kernel_rfl) (fun _ _ _ h => h) ?hy141 (by assumption) ?rest141
                                    case hi141 => simp only [List.getElem?_toArray, List.getElem?_cons_zero, List.getElem?_cons_succ]; rfl
                                    case hy141 =>
                                      refine Or.inl ⟨by rfl, ?_⟩
                                      intro w hSw
                                      (try dsimp only at hSw)
                                      go_simp
                                      all_goals with_reducible rfl
                                    try simp only [Act.put, List.setIfInBounds_toArray, List.set_cons_zero, List.set_cons_succ]
                                    refine wpAnyH_take (i := 99) (oi := ?o142) (v := ?v142) ?hi142 (by kernel_rfl) (by kernel_rfl) (by kernel_rfl) (fun _ _ _ h => h) ?hy142 (by assumption) ?rest142
                                    case hi142 => simp only [List.getElem?_toArray, List.getElem?_cons_zero, List.getElem?_cons_succ]; rfl
                                    case hy142 =>
                                      refine Or.inl ⟨by rfl, ?_⟩
                                      intro w hSw
                                      (try dsimp only at hSw)
                                      go_simp
                                      all_goals with_reducible rfl
                                    try simp only [Act.put, List.setIfInBounds_toArray, List.set_cons_zero, List.set_cons_succ]
                                    refine wpAnyH_take (i := 100) (oi := ?o143) (v := ?v143) ?hi143 (by kernel_rfl) (by kernel_rfl) (by kernel_rfl) (fun _ _ _ h => h) ?hy143 (by assumption) ?rest143
                                    case hi143 => simp only [List.getElem?_toArray, List.getElem?_cons_zero, List.getElem?_cons_succ]; rfl
                                    case hy143 =>
                                      refine Or.inl ⟨by rfl, ?_⟩
                                      intro w hSw
                                      (try dsimp only at hSw)
                                      go_simp
                                      all_goals with_reducible rfl
                                    try simp only [Act.put, List.setIfInBounds_toArray, List.set_cons_zero, List.set_cons_succ]
                                    refine wpAnyH_take (i := 101) (oi := ?o144) (v := ?v144) ?hi144 (by kernel_rfl) (by kernel_rfl) (by kernel_rfl) (fun _ _ _ h => h) ?hy144 (by assumption) ?rest144
                                    case hi144 => simp only [List.getElem?_toArray, List.getElem?_cons_zero, List.getElem?_cons_succ]; rfl
                                    case hy144 =>
                                      refine Or.inl ⟨by rfl, ?_⟩
                                      intro w hSw
                                      (try dsimp only at hSw)
                                      go_simp
                                      all_goals with_reducible rfl
                                    try simp only [Act.put, List.setIfInBounds_toArray, List.set_cons_zero, List.set_cons_succ]
                                    refine wpAnyH_ready (rs := [102]) (by kernel_rfl) (by simp) ?_
                                    refine AllReadyH.cons (o := ?o145) ?ho145 (fun K hK => ?step145) AllReadyH.nil
                                    case ho145 => simp only [List.getElem?_toArray, List.getElem?_cons_zero, List.getElem?_cons_succ]; rfl
                                    go_simp
                                    go_at_call 16
                                    (with_reducible refine (HY18.out.right1).mono ?_)
                                    rintro e w19 ⟨rfl, hb⟩
                                    have HY19 := hid (HY18.out.on hb); have hS19 := HY19.out.cells; clear hb hS18
                                    try (go_wp2_with fail)
                                    refine hK.out _ _ ?_ (fun hHeld18 => ?_)
                                    · (try dsimp only)
                                      first | go_keep | assumption
                                    clear hK K
                                    try simp only [Act.put, List.setIfInBounds_toArray, List.set_cons_zero, List.set_cons_succ]
                                    as_aux_lemma =>
                                      refine wpAnyH_take (i := 103) (oi := ?o146) (v := ?v146) ?hi146 (by kernel_rfl) (by kernel_rfl) (by kernel_rfl) (fun _ _ _ h => h) ?hy146 (by assumption) ?rest146
                                      case hi146 => simp only [List.getElem?_toArray, List.getElem?_cons_zero, List.getElem?_cons_succ]; rfl
                                      case hy146 =>
                                        refine Or.inl ⟨by rfl, ?_⟩
                                        intro w hSw
                                        (try dsimp only at hSw)
                                        go_simp
                                        all_goals with_reducible rfl
                                      try simp only [Act.put, List.setIfInBounds_toArray, List.set_cons_zero, List.set_cons_succ]
                                      refine wpAnyH_take (i := 104) (oi := ?o147) (v := ?v147) ?hi147 (by kernel_rfl) (by kernel_rfl) (by kernel_rfl) (fun _ _ _ h => h) ?hy147 (by assumption) ?rest147
                                      case hi147 => simp only [List.getElem?_toArray, List.getElem?_cons_zero, List.getElem?_cons_succ]; rfl
                                      case hy147 =>
                                        refine Or.inl ⟨by rfl, ?_⟩
                                        intro w hSw
                                        (try dsimp only at hSw)
                                        go_simp
                                        all_goals with_reducible rfl
                                      try simp only [Act.put, List.setIfInBounds_toArray, List.set_cons_zero, List.set_cons_succ]
                                      refine wpAnyH_take (i := 105) (oi := ?o148) (v := ?v148) ?hi148 (by kernel_rfl) (by kernel_rfl) (by kernel_rfl) (fun _ _ _ h => h) ?hy148 (by assumption) ?rest148
                                      case hi148 => simp only [List.getElem?_toArray, List.getElem?_cons_zero, List.getElem?_cons_succ]; rfl
                                      case hy148 =>
                                        refine Or.inl ⟨by rfl, ?_⟩
                                        intro w hSw
                                        (try dsimp only at hSw)
                                        go_simp
                                        all_goals with_reducible rfl
                                      try simp only [Act.put, List.setIfInBounds_toArray, List.set_cons_zero]
                                      refine wpAnyH_done (by kernel_rfl) ?_ _
                                      refine NoPanic.normal ?_
                                      go_wp2_with fail
                                      go_ret
                                      first | exact ⟨rfl, HY19.out.below⟩ | exact ⟨rfl, below_dN HY19.out.below _⟩
end Go.Proofs.Ytfoidiebdklggaa
