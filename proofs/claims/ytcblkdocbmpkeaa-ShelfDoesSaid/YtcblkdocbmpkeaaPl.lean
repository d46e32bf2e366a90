/-
  ShelfDoes: one call of both shelves, by a contract.
-/
import Derived.Test.YtcblkdocbmpkeaaRx
import Derived.Test.YtcblkdocbmpkeaaFy
import Derived.Deep.Cut
import Derived.Deep.CutBlock
open Go Go.RowKit
namespace Go.Proofs.Ytcblkdocbmpkeaa

section
variable {w w' : World} {B B' S p mb S' p' : Nat} {vb bv lv : Value} {M N : Mt}
theorem Sh.off {g : Nat} {t : TypeId} {cs : Array Value} (h : Sh w B S p mb vb M) (hc : Blk w g t cs) (ht : t ≠ 5) : ¬ ShO vb mb g := fun e => by
  rcases e with e | e
  · exact h.mp.ne_blk hc e.symm
  · obtain ⟨_, cur, hc'⟩ := h.bt.row.block e
    exact hc.ne_ hc' ht rfl
theorem Rs.off {g : Nat} {t : TypeId} {cs : Array Value} (h : Rs w B S p bv lv M) (hc : Blk w g t cs) (h1 : t ≠ 4) (h2 : t ≠ 9) : ¬ RsO bv lv g := fun e => by
  obtain ⟨L, r1, _⟩ := h.row
  rcases e with e | e
  · obtain ⟨_, cur, hc'⟩ := h.rb.row.block e
    exact hc.ne_ hc' h1 rfl
  · obtain ⟨_, cur, hc'⟩ := r1.block e
    exact hc.ne_ hc' h2 rfl
theorem Rs.side (h : Rs w B' S' p' bv lv N) (hs : Sh w B S p mb vb M) (ho : Only (ShO vb mb) w w') : Rs w' B' S' p' bv lv N := by
  obtain ⟨L, r1, _⟩ := h.row
  refine h.keep ho (hs.off h.blk (by decide)) (hs.off h.rb.blk (by decide)) (fun k hk => ?_)
  rcases hk with e | e
  · obtain ⟨_, cur, hc'⟩ := h.rb.row.block e
    exact hs.off hc' (by decide)
  · obtain ⟨_, cur, hc'⟩ := r1.block e
    exact hs.off hc' (by decide)
theorem Sh.side (h : Sh w B S p mb vb M) (hr : Rs w B' S' p' bv lv N) (ho : Only (RsO bv lv) w w') : Sh w' B S p mb vb M := by
  refine h.keep ho (hr.off h.blk (by decide) (by decide)) (hr.off h.bt.blk (by decide) (by decide)) (fun k hk => ?_)
  rcases hk with rfl | e
  · intro e
    obtain ⟨L, r1, _⟩ := hr.row
    rcases e with e | e
    · obtain ⟨_, cur, hc'⟩ := hr.rb.row.block e
      exact h.mp.ne_blk hc' rfl
    · obtain ⟨_, cur, hc'⟩ := r1.block e
      exact h.mp.ne_blk hc' rfl
  · obtain ⟨_, cur, hc'⟩ := h.bt.row.block e
    exact hr.off hc' (by decide) (by decide)
end
def BoO (vb : Value) (mb : Nat) (bv lv : Value) (k : Nat) : Prop := ShO vb mb k ∨ RsO bv lv k
theorem write_len (M : Mt) (i : Int) (s : ByteArray) : (writeM M i s).length = M.length := by
  unfold writeM
  split
  · rw [List.length_set]
  · rfl
theorem swap_lenM (M : Mt) (a b : Int) : (swapM M a b).length = M.length := by
  unfold swapM
  split
  · rw [List.length_set, List.length_set]
  · rfl
theorem takeAt_len (M : Mt) (i : Int) : (takeAtM M i).length = M.length := by
  unfold takeAtM
  split
  · rw [List.length_set]
  · rfl
theorem take_len (M : Mt) : (takeM M).length = M.length := by
  unfold takeM
  split
  · rw [List.length_set]
  · rfl
def PlP (W : World) (B S p mb : Nat) (vb : Value) (S' p' : Nat) (bv lv : Value) (n : Nat) (e : Ending) (w : World) : Prop :=
  e = .returned (.bool true) ∧ ∃ M', M'.length = n ∧ Sh w B S p mb vb M' ∧ Rs w B S' p' bv lv M' ∧ Only (BoO vb mb bv lv) W w

set_option maxHeartbeats 6400000 in
set_option maxRecDepth 100000 in
theorem play_any {W : World} {B S p mb S' p' : Nat} {vb bv lv : Value} {M : Mt} (h : Sh W B S p mb vb M) (h' : Rs W B S' p' bv lv M) (x y z : Int) (s : ByteArray) :
    Calls Try.prog 19 #[.pointer (some ⟨S, 0, none⟩), .pointer (some ⟨S', 0, none⟩), .agg #[.int .i64 x, .int .i64 y, .int .i64 z, .string s]] W (PlP W B S p mb vb S' p' bv lv M.length) := by
  unfold PlP
  obtain ⟨o, hod⟩ : ∃ o, o = W.heap.size := ⟨_, rfl⟩
  have HOP := hid (Blk.new W 30 #[.int .i64 x, .int .i64 y, .int .i64 z, .string s])
  have HS := hid (h.alloc (.cells #[.int .i64 x, .int .i64 y, .int .i64 z, .string s] 30))
  have HR := hid (h'.alloc (.cells #[.int .i64 x, .int .i64 y, .int .i64 z, .string s] 30))
  have HON := hid ((Only.refl (BoO vb mb bv lv) W).alloc (.cells #[.int .i64 x, .int .i64 y, .int .i64 z, .string s] 30))
  clear h h'
  go_enter Try.func19, Try.ntmps19
  go_upto_region 1 with fail
  generalize W.alloc (.cells #[.int .i64 x, .int .i64 y, .int .i64 z, .string s] 30) = w1 at *
  rw [← hod] at HOP ⊢
  clear hod
  have o0 := HOP.out.cell 0
  have o1 := HOP.out.cell 1
  have o2 := HOP.out.cell 2
  have o3 := HOP.out.cell 3
  simp only [List.getElem?_toArray, List.getElem?_cons_zero, List.getElem?_cons_succ] at o0 o1 o2 o3
  have hzz : ∀ k : Int, (k == k) = true := fun k => by simp
  have HSD := hid (show Sh w1.drew B S p mb vb M from HS.out.drewN 1)
  have HRD := hid (show Rs w1.drew B S' p' bv lv M from HR.out.drewN 1)
  have HOD := hid (show Blk w1.drew o 30 _ from HOP.out.drew)
  have HND := hid HON.out.drew
  by_cases h0 : x = 0
  · have h0b : (x == 0) = true := by simpa using h0
    clear h0
    go_wp2_with fail
    refine (take_s HS.out).mono ?_
    rintro e w2 ⟨rfl, hs, ho⟩
    have HS2 := hid hs
    have HR2 := hid (HR.out.side HS.out ho)
    have HN2 := hid (HON.out.trans (ho.mono (fun k _ e => .inl e)))
    clear hs ho
    go_wp2_with fail
    refine (rtake12 HR2.out).mono ?_
    rintro e w3 ⟨rfl, hr, ho⟩
    have HR3 := hid hr
    have HS3 := hid (HS2.out.side HR2.out ho)
    have HN3 := hid (HN2.out.trans (ho.mono (fun k _ e => .inr e)))
    clear hr ho
    generalize takeMX M = zx at *
    generalize takeME M = ze at *
    go_wp2_with fail
    go_ret
    exact ⟨rfl, _, take_len M, HS3.out, HR3.out, HN3.out⟩
  · have h0b : (x == 0) = false := by simpa using h0
    by_cases h1 : x = 1
    · have h1b : (x == 1) = true := by simpa using h1
      clear h0 h1
      go_wp2_with fail
      go_region_held3 (fun w' => w'.cell? ⟨o, 1, none⟩ = some (.int .i64 y))
        (first | go_keep | assumption)
        (first
        | (go_at_call 9; (with_reducible refine (takeAt_s HSD.out y).mono ?_); rintro e w2 ⟨rfl, hs, ho⟩; have HS2 := hid hs; have HR2 := hid (HRD.out.side HSD.out ho); have HN2 := hid (HND.out.trans (ho.mono (fun k _ e => .inl e))); have HO2 := hid (ho.blk HOD.out (HSD.out.off HOD.out (by decide))); have S2 := (show w2.cell? ⟨o, 1, none⟩ = some (.int .i64 y) from by have k := HO2.out.cell 1; simpa using k); clear hs ho)
        | (go_at_call 39; (with_reducible refine (rtakeAt12 HR2.out y).mono ?_); rintro e w3 ⟨rfl, hr, ho⟩; have HR3 := hid hr; have HS3 := hid (HS2.out.side HR2.out ho); have HN3 := hid (HN2.out.trans (ho.mono (fun k _ e => .inr e))); have HO3 := hid (ho.blk HO2.out (HR2.out.off HO2.out (by decide) (by decide))); have S3 := (show w3.cell? ⟨o, 1, none⟩ = some (.int .i64 y) from by have k := HO3.out.cell 1; simpa using k); clear hr ho)
        | fail)
      all_goals
        generalize takeE (tks M) y = ze at *
        go_wp2_with fail
        go_ret
        exact ⟨rfl, _, takeAt_len M y, HS3.out, HR3.out, HN3.out⟩
    · have h1b : (x == 1) = false := by simpa using h1
      by_cases h2 : x = 2
      · have h2b : (x == 2) = true := by simpa using h2
        clear h0 h1 h2
        go_wp2_with fail
        go_region_held3 (fun w' => w'.cell? ⟨o, 1, none⟩ = some (.int .i64 y))
          (first | go_keep | assumption)
          (first
          | (go_at_call 10; (with_reducible refine (give_s HSD.out y).mono ?_); rintro e w2 ⟨rfl, hs, ho⟩; have HS2 := hid hs; have HR2 := hid (HRD.out.side HSD.out ho); have HN2 := hid (HND.out.trans (ho.mono (fun k _ e => .inl e))); have HO2 := hid (ho.blk HOD.out (HSD.out.off HOD.out (by decide))); have S2 := (show w2.cell? ⟨o, 1, none⟩ = some (.int .i64 y) from by have k := HO2.out.cell 1; simpa using k); clear hs ho)
          | (go_at_call 40; (with_reducible refine (rgive12 HR2.out y).mono ?_); rintro e w3 ⟨rfl, hr, ho⟩; have HR3 := hid hr; have HS3 := hid (HS2.out.side HR2.out ho); have HN3 := hid (HN2.out.trans (ho.mono (fun k _ e => .inr e))); have HO3 := hid (ho.blk HO2.out (HR2.out.off HO2.out (by decide) (by decide))); have S3 := (show w3.cell? ⟨o, 1, none⟩ = some (.int .i64 y) from by have k := HO3.out.cell 1; simpa using k); clear hr ho)
          | fail)
        all_goals
          generalize giveE (tks M) y = ze at *
          go_wp2_with fail
          go_ret
          exact ⟨rfl, _, give_len M y, HS3.out, HR3.out, HN3.out⟩
      · have h2b : (x == 2) = false := by simpa using h2
        by_cases h3 : x = 3
        · have h3b : (x == 3) = true := by simpa using h3
          clear h0 h1 h2 h3
          obtain ⟨q, hqd⟩ : ∃ q : Nat, q = (if s.size ≤ 300 then s.size else 300) := ⟨_, rfl⟩
          have hqs : (q : Int) ≤ (s.size : Int) := by rw [hqd]; split <;> omega
          have hq0 : (0 : Int) ≤ (q : Int) := by omega
          have hmin2 : ∀ (ts : Array TypeId) (t : TypeId) (w : World), (Builtin.min_ ts t #[.int .i64 (s.size : Int), .int .i64 300]).run Try.prog w = .ok (.int .i64 (q : Int)) w := fun ts t w => by
            rw [run_min_int2, hqd]
            congr 2
            split <;> split <;> omega
          clear hqd
          go_upto_region 12 with fail
          generalize s.extract 0 q = s2 at *
          go_region_held3 (fun w' => w'.cell? ⟨o, 1, none⟩ = some (.int .i64 y))
            (first | go_keep | assumption)
            (first
            | (go_at_call 11; (with_reducible refine (write_s HSD.out y s2).mono ?_); rintro e w2 ⟨rfl, hs, ho⟩; have HS2 := hid hs; have HR2 := hid (HRD.out.side HSD.out ho); have HN2 := hid (HND.out.trans (ho.mono (fun k _ e => .inl e))); have HO2 := hid (ho.blk HOD.out (HSD.out.off HOD.out (by decide))); have S2 := (show w2.cell? ⟨o, 1, none⟩ = some (.int .i64 y) from by have k := HO2.out.cell 1; simpa using k); clear hs ho)
            | (go_at_call 41; (with_reducible refine (rwrite12 HR2.out y s2).mono ?_); rintro e w3 ⟨rfl, hr, ho⟩; have HR3 := hid hr; have HS3 := hid (HS2.out.side HR2.out ho); have HN3 := hid (HN2.out.trans (ho.mono (fun k _ e => .inr e))); have HO3 := hid (ho.blk HO2.out (HR2.out.off HO2.out (by decide) (by decide))); have S3 := (show w3.cell? ⟨o, 1, none⟩ = some (.int .i64 y) from by have k := HO3.out.cell 1; simpa using k); clear hr ho)
            | fail)
          all_goals
            generalize writeE M y s2 = ze at *
            go_wp2_with fail
            go_ret
            exact ⟨rfl, _, write_len M y s2, HS3.out, HR3.out, HN3.out⟩
        · have h3b : (x == 3) = false := by simpa using h3
          clear h0 h1 h2 h3
          go_wp2_with fail
          go_region_held3 (fun w' => w'.cell? ⟨o, 1, none⟩ = some (.int .i64 y) ∧ w'.cell? ⟨o, 2, none⟩ = some (.int .i64 z))
            (first | go_keep | assumption)
            (first
            | (go_at_call 12; (with_reducible refine (swap_s HSD.out y z).mono ?_); rintro e w2 ⟨rfl, hs, ho⟩; have HS2 := hid hs; have HR2 := hid (HRD.out.side HSD.out ho); have HN2 := hid (HND.out.trans (ho.mono (fun k _ e => .inl e))); have HO2 := hid (ho.blk HOD.out (HSD.out.off HOD.out (by decide))); have S2 := (show w2.cell? ⟨o, 1, none⟩ = some (.int .i64 y) ∧ w2.cell? ⟨o, 2, none⟩ = some (.int .i64 z) from ⟨by have k := HO2.out.cell 1; simpa using k, by have k := HO2.out.cell 2; simpa using k⟩); clear hs ho)
            | (go_at_call 42; (with_reducible refine (rswap12 HR2.out y z).mono ?_); rintro e w3 ⟨rfl, hr, ho⟩; have HR3 := hid hr; have HS3 := hid (HS2.out.side HR2.out ho); have HN3 := hid (HN2.out.trans (ho.mono (fun k _ e => .inr e))); have HO3 := hid (ho.blk HO2.out (HR2.out.off HO2.out (by decide) (by decide))); have S3 := (show w3.cell? ⟨o, 1, none⟩ = some (.int .i64 y) ∧ w3.cell? ⟨o, 2, none⟩ = some (.int .i64 z) from ⟨by have k := HO3.out.cell 1; simpa using k, by have k := HO3.out.cell 2; simpa using k⟩); clear hr ho)
            | fail)
          all_goals
            generalize swapE M y z = ze at *
            go_wp2_with fail
            go_ret
            exact ⟨rfl, _, swap_lenM M y z, HS3.out, HR3.out, HN3.out⟩
end Go.Proofs.Ytcblkdocbmpkeaa
