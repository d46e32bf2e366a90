/-
  RateHolds returns true for every input.
-/
import Derived.Test.YtokccncaclphhaaRate
import Derived.Test.YtokccncaclphhaaTally
import Derived.Test.YtokccncaclphhaaRow
import Derived.Test.YtokccncaclphhaaInts
open Go Go.RowKit Go.Conc
namespace Go.Proofs.Ytokccncaclphhaa.rateHolds

/-- Behind some calls: the last entry of the counts is d. -/
def StH (W w : World) (b c m : Nat) (wd : Int) (v : Value) (k : Nat) : Prop :=
  ∃ all P D d, Ints w W.heap.size v (D ++ [d]) ∧ Rate w b c m wd (D.length : Int) all P ∧ D.length ≤ k ∧ all ≤ k ∧ Pl.Good wd D.length P ∧ Pl.Tally wd (D ++ [d]) P ∧ Below W.heap.size W w

theorem StH.more {W w : World} {b c m k k' : Nat} {wd : Int} {v : Value} (h : StH W w b c m wd v k) (hk : k ≤ k') : StH W w b c m wd v k' := by
  obtain ⟨all, P, D, d, h1, h2, h3, h4, h5⟩ := h
  exact ⟨all, P, D, d, h1, h2, by omega, by omega, h5⟩

theorem ints_ne_rate {w : World} {B g : Nat} {v : Value} {D : List Int} (h : Ints w B v D) (hg : v.ownBlock = some g) {b c m : Nat} {wd now all : Int} {P : List Int}
    (hr : Rate w b c m wd now all P) : ¬ BC b c g := by
  obtain ⟨_, cur, hb⟩ := h.block hg
  obtain ⟨⟨first, q, ⟨hb', s, r, hc⟩, _⟩, _⟩ := hr
  rintro (rfl | rfl)
  · exact Blk.ne_ hb hb' (by decide) rfl
  · unfold Blk at hb
    rw [hb] at hc
    cases hc

/-- The Rate is as it was, where only the counts' block has turned. -/
theorem rate_aside {w w' : World} {B : Nat} {v : Value} {D : List Int} (h : Ints w B v D) {b c m : Nat} {wd now all : Int} {P : List Int}
    (hr : Rate w b c m wd now all P) (ho : Only (fun k => v.ownBlock = some k) w w') : Rate w' b c m wd now all P :=
  hr.keep ho (fun e => ints_ne_rate h e hr (.inl rfl)) (fun e => ints_ne_rate h e hr (.inr rfl))

/-- The counts are as they were, where only the Rate has turned. -/
theorem ints_aside {w w' : World} {B : Nat} {v : Value} {D : List Int} (h : Ints w B v D) {b c m : Nat} {wd now all : Int} {P : List Int}
    (hr : Rate w b c m wd now all P) (ho : Only (BC b c) w w') : Ints w' B v D :=
  h.keep ho (fun _ e => ints_ne_rate h e hr)

set_option maxRecDepth 100000 in
set_option maxHeartbeats 800000 in
theorem walk (a0 : Int) (a1 : Int) (a2 : Option Addr) (len2 cap2 : Nat) (z2 : List Int) (w : World) (w0 : (Lit.int .u8 a0).wf = true) (w1 : (Lit.int .u8 a1).wf = true) (w2 : IsRow .u8 w a2 len2 cap2 z2) :
    Calls Try.prog 4 #[.int .u8 a0, .int .u8 a1, .slice a2 len2 cap2] w fun e w' => e = .returned (.bool true) ∧ Below w.heap.size w w' := by
  obtain ⟨p0, p1⟩ := wf_u8 w0
  obtain ⟨q0, q1⟩ := wf_u8 w1
  have hlen := w2.len_le
  obtain ⟨m, hm⟩ : ∃ m : Nat, 1 + a0 % 10 = (m : Int) := ⟨(1 + a0 % 10).toNat, by omega⟩
  have R2 := hid w2
  have HM := hid hm
  have m1 : 1 ≤ m := by omega
  have m2 : m ≤ 10 := by omega
  clear w0 w1 w2 hm
  go_enter Try.func4, Try.ntmps4
  go_wp2_with fail
  refine (rate_new' _ _ m HM.out m1 (by omega) (by omega) (by omega)).mono ?_
  rintro e w1 ⟨b, c, rfl, r1, b1, hbw, hcw⟩
  have H0 : Hid (StH w (w1.alloc (.cells #[.int .i64 0] 3)) b c m (1 + a1 % 10) (.slice (some ⟨w1.heap.size, 0, none⟩) 1 1) 0) :=
    ⟨0, [], [], 0, Ints.one b1.size 0, r1.keep ((Only.refl (fun _ => False) w1).alloc _) id id, by simp, by omega, Pl.good_nil _ _, Pl.tally_new _, b1.alloc b1.size _⟩
  clear r1 b1
  go_upto_block 0 with fail
  go_cut [11] (fun v wx => StH w wx b c m (1 + a1 % 10) v 200)
  case first =>
    go_wp2_with fail
    go_loopg [11, 12] 200 (fun g v i wr => ∃ k : Nat, i = .int .i64 k ∧ g + k = 200 ∧ StH w wr b c m (1 + a1 % 10) v k)
    case atStart => exact ⟨0, rfl, rfl, H0.out⟩
    case round =>
      obtain ⟨k, rfl, hgk, hst⟩ := hrel
      have HS := hid hst
      have HG := hid hgk
      have hk200 : k ≤ 200 := by omega
      clear hgk hst
      by_cases hl : k < len2
      · by_cases h200 : k < 200
        · obtain ⟨g, off, rfl, hg, hcell, hwf⟩ := R2.out.at_ hl
          obtain ⟨u0, u1⟩ := wf_u8 hwf
          obtain ⟨all, P, D, d, hD, hr, hDk, hall, hgood, htal, hbel⟩ := HS.out
          have hcw' := (hbel.cell (p := ⟨g, off + k, none⟩) hg).trans hcell
          obtain ⟨z, hz⟩ : ∃ z, z = z2.getD k 0 := ⟨_, rfl⟩
          rw [← hz] at hcw' u0 u1
          have HR := hid hr
          have HB := hid hbel
          have HGd := hid hgood
          have HT := hid htal
          have HO := hid hD
          have d0 : (0 : Int) ≤ d ∧ d ≤ 10 := by
            have h1 := Pl.tally_last htal (by omega)
            have h2 : Pl.ceq (D.length : Int) P ≤ P.length := List.length_filter_le _ _
            have h3 := hr.2.2.2.2.1
            omega
          obtain ⟨d1, d2⟩ := d0
          clear hcell hwf hz hr hbel hg hgood htal hD
          go_upto_if 51 with fail
          go_cut [11] (fun v wx => StH w wx b c m (1 + a1 % 10) v (k + 1))
          case first =>
            by_cases hz : z % 4 = 0
            · go_wp2_with fail
              refine (rate_tick HR.out (D.length + 1) _ (by omega) rfl rfl).mono ?_
              rintro e w2 ⟨rfl, hr2, ho2⟩
              have ho2' := hid (ints_aside HO.out HR.out ho2)
              have hr2' := hid hr2
              have hb2 := hid (below_bc HB.out ho2 hbw hcw)
              have hdl : (D ++ [d]).length < 1000000 := by simp; omega
              clear hr2 ho2
              go_wp2_with (at_builtin; refine wpList_push rfl (.tmp 54) (.tmp 55) rfl w.heap.size _ (D ++ [d]) 0 rfl ho2'.out rfl hdl hb2.out.size ?_; intro v' w3 hown3 honly3)
              go_meet
              have hr3 := rate_aside ho2'.out hr2'.out honly3
              have hb3 := hb2.out.trans (honly3.below hb2.out.size (fun x hx e => by have := (ho2'.out.block e).1; omega))
              refine ⟨all, _, D ++ [d], 0, hown3, by simpa using hr3, by simp; omega, by omega, ?_, ?_, hb3⟩
              · have := Pl.good_tick HGd.out
                simpa using this
              · have := Pl.tally_tick HT.out (by simpa using HGd.out) (fun t ht => by have := (HR.out.2.1 t ht).2; simpa using this)
                simpa using this
            · by_cases hp : P.length < m
              · go_wp2_with fail
                refine (rate_take HR.out (all + 1) _ hp (by omega) rfl rfl).mono ?_
                rintro e w2 ⟨rfl, hr2, ho2⟩
                have ho2' := ints_aside HO.out HR.out ho2
                have hr2' := hid hr2
                have hb2 := hid (below_bc HB.out ho2 hbw hcw)
                clear hr2 ho2
                obtain ⟨g2, cap2', rfl, hg2, hg2'⟩ := ho2'.form (by simp)
                have c2 := ho2'.cell (i := D.length) (d := d) (by simp)
                have f2 := ho2'.frozen D.length
                have st2 := hid (ho2'.store D.length (d + 1))
                have ra2 := hid (rate_aside ho2' hr2'.out (w' := w2.setCell ⟨g2, D.length, none⟩ (.int .i64 (d + 1))) (by exact (Only.refl _ _).setCell (.inl (by simp [Value.ownBlock])) _))
                have hb3 := hid (hb2.out.setCell (p := ⟨g2, D.length, none⟩) hg2 (.int .i64 (d + 1)))
                simp only [List.length_append, List.length_cons, List.length_nil, Nat.zero_add] at st2 ⊢
                clear ho2'
                go_wp2
                go_meet
                refine ⟨all + 1, _, D, d + 1, ?_, ra2.out, by omega, by omega, Pl.good_take HGd.out (by omega) (fun t ht => (HR.out.2.1 t ht).2), Pl.tally_take HT.out, hb3.out⟩
                have := st2.out
                simpa using this
              · have hp2 : P.length = m := by have := HR.out.2.2.2.2.1; omega
                have HP2 := hid hp2
                clear hp2
                go_wp2_with fail
                refine (rate_take_no HR.out HP2.out).mono ?_
                rintro e w2 ⟨rfl, rfl⟩
                go_wp2
                go_meet
                exact HS.out.more (by omega)
          case rest =>
            obtain ⟨all, P, D, d, hD, hr, hDk, hall, hgood, htal, hbel⟩ := hcut
            obtain ⟨g3, cap3, rfl, hg3, hg3'⟩ := hD.form (by simp)
            have HR := hid hr
            have HB := hid hbel
            have HGd := hid hgood
            have HT := hid htal
            have HO := hid hD
            have hPm : (P.length : Int) ≤ 1 + a0 % 10 := by have h1 := hr.2.2.2.2.1; have := HM.out; omega
            have hDl : (D ++ [d]).length = D.length + 1 := by simp
            rw [hDl]
            clear hcw' HS hr hbel hgood htal hD hDl
            go_upto_block 2 with fail
            go_cut [13] (fun s wx => s = .int .i64 (P.length : Int) ∧ wx = wc)
            case first =>
              go_wp2_with fail
              go_loopg [13, 14] (D.length + 1) (fun g s i wr2 => ∃ j y : Nat, i = .int .i64 j ∧ g + j = D.length + 1 ∧ (j : Int) ≤ 1 + a1 % 10 ∧ y = Pl.count ((D.length : Int) - j) P ∧ s = .int .i64 y ∧ wr2 = wc)
              case atStart => exact ⟨0, 0, rfl, rfl, by omega, (Pl.count_zero fun t ht => by have := (HR.out.2.1 t ht).2; omega).symm, rfl, rfl⟩
              case round =>
                obtain ⟨j, y, rfl, hgj, hjw, hy, rfl, rfl⟩ := hrel
                have HGj := hid hgj
                have HY := hid hy
                have hjD : j ≤ D.length + 1 := by omega
                have hy10 : y ≤ 10 := by have := Pl.count_le ((D.length : Int) - j) P; omega
                clear hgj hy
                by_cases h1 : (j : Int) < 1 + a1 % 10
                · by_cases h2 : j < D.length + 1
                  · obtain ⟨x, hx⟩ : ∃ x : Nat, x = Pl.ceq ((D.length : Int) - j) P := ⟨_, rfl⟩
                    have hc3 := HO.out.cell (i := D.length - j) (d := (x : Int)) (by
                      have := HT.out (D.length - j) (by simp; omega) (by simp; omega)
                      rw [this, hx]
                      congr 3
                      omega)
                    have hx10 : x ≤ 10 := by
                      have h3 : Pl.ceq ((D.length : Int) - j) P ≤ P.length := List.length_filter_le _ _
                      omega
                    have HX := hid hx
                    clear hx
                    go_wp2
                    have hg2 := HGj.out
                    go_roundg (gk - 1)
                    case measure => omega
                    case rel =>
                      refine ⟨j + 1, y + x, by go_num, by omega, by omega, ?_, by go_num, rfl⟩
                      have h4 := Pl.count_step ((D.length : Int) - j - 1) P
                      have h5 := HY.out
                      have h6 := HX.out
                      rw [show (D.length : Int) - j - 1 + 1 = (D.length : Int) - j by omega] at h4
                      rw [show (D.length : Int) - ((j + 1 : Nat) : Int) = (D.length : Int) - j - 1 by omega]
                      omega
                  · go_wp2
                    go_meet
                    have hyP : y = P.length := by
                      rw [HY.out]
                      exact Pl.count_all fun t ht => by have := (HR.out.2.1 t ht).1; omega
                    exact ⟨by rw [hyP], rfl⟩
                · go_wp2
                  go_meet
                  have hyP : y = P.length := by
                    rw [HY.out]
                    exact Pl.count_all fun t ht => by have := HGd.out.2 t ht; omega
                  exact ⟨by rw [hyP], rfl⟩
            case rest =>
              obtain ⟨rfl, rfl⟩ := hcut
              go_wp2_with fail
              refine (rate_left HR.out ((1 + a0 % 10) - P.length) (by have := HM.out; omega)).mono ?_
              rintro e w5 ⟨rfl, rfl⟩
              go_wp2
              have hg2 := HG.out
              go_roundg (gk - 1)
              case measure => omega
              case rel => exact ⟨k + 1, by go_num, by omega, all, P, D, d, by have h := HO.out; rwa [show (D ++ [d]).length = D.length + 1 by simp] at h, HR.out, hDk, hall, HGd.out, HT.out, HB.out⟩
        · go_wp2
          go_meet
          exact HS.out.more (by omega)
      · go_wp2
        go_meet
        exact HS.out.more (by omega)
  case rest =>
    obtain ⟨all, P, D, d, hD, hr, hDk, hall, hgood, htal, hbel⟩ := hcut
    obtain ⟨g3, cap3, rfl, hg3, hg3'⟩ := hD.form (by simp)
    have HR := hid hr
    have HB := hid hbel
    have hDl : (D ++ [d]).length = D.length + 1 := by simp
    rw [hDl]
    clear hr hbel hgood htal hD hDl
    go_wp2_with fail
    refine (rate_now HR.out).mono ?_
    rintro e w5 ⟨rfl, rfl⟩
    go_wp2_with fail
    refine (fixed_any _).mono ?_
    rintro e w6 ⟨rfl, hb6⟩
    have H6 := hid hb6
    clear hb6
    go_wp2
    go_ret
    exact ⟨rfl, HB.out.trans (H6.out.mono HB.out.size)⟩
end Go.Proofs.Ytokccncaclphhaa.rateHolds
