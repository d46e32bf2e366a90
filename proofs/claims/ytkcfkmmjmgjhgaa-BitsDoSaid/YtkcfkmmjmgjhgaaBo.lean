/-
  BitsLoad returns true for every input: the walk.
-/
import Derived.Test.YtkcfkmmjmgjhgaaRld
import Derived.Test.YtkcfkmmjmgjhgaaFx
import Derived.Test.YtkcfkmmjmgjhgaaRi
namespace Go.Proofs.Ytkcfkmmjmgjhgaa
open Go Go.RowKit

theorem RLoadPost.get {W w : World} {s : ByteArray} {n : Nat} {T : List Bool} {e : Ending} (h : RLoadPost W s (n : Int) e w) (h1 : 1 ≤ n) (h2 : n ≤ 1024) (hT : loadT (strB s) n = some T) : ∃ p v, e = .returned (.tuple #[.pointer (some ⟨p, 0, none⟩), .int .i64 0]) ∧ Rb w W.heap.size p v T ∧ Below W.heap.size W w := by
  unfold RLoadPost at h
  rw [if_pos ⟨by omega, by omega⟩, Int.toNat_natCast, hT] at h
  obtain ⟨hb, p, v, he, ht⟩ := h
  exact ⟨p, v, he, ht, hb⟩
theorem RLoadPost.no {W w : World} {s : ByteArray} {n : Nat} {e : Ending} (h : RLoadPost W s (n : Int) e w) (h1 : 1 ≤ n) (h2 : n ≤ 1024) (hT : loadT (strB s) n = none) : e = .returned (.tuple #[.pointer none, .int .i64 4]) ∧ Below W.heap.size W w := by
  unfold RLoadPost at h
  rw [if_pos ⟨by omega, by omega⟩, Int.toNat_natCast, hT] at h
  exact ⟨h.2, h.1⟩
theorem RLoadPost.arg {W w : World} {s : ByteArray} {n : Int} {e : Ending} (h : RLoadPost W s n e w) (h1 : ¬ (1 ≤ n ∧ n ≤ 1024)) : e = .returned (.tuple #[.pointer none, .int .i64 1]) ∧ Below W.heap.size W w := by
  unfold RLoadPost at h
  rw [if_neg h1] at h
  exact ⟨h.2, h.1⟩
theorem LoadPost.arg {W w : World} {s : ByteArray} {n : Int} {e : Ending} (h : LoadPost W s n e w) (h1 : ¬ (1 ≤ n ∧ n ≤ 1024)) : e = .returned (.tuple #[.pointer none, .int .i64 1]) ∧ Below W.heap.size W w := by
  unfold LoadPost at h
  rw [if_neg h1] at h
  exact ⟨h.2, h.1⟩

namespace bitsLoad
set_option linter.unusedVariables false in
set_option maxRecDepth 100000 in
set_option maxHeartbeats 3200000 in
theorem walk (a0 : ByteArray) (a1 : Int) (w0 : a0.size ≤ maxLen) {w : World} :
    Calls Try.prog 3 #[.string a0, .int .i64 a1] w fun e w' => e = .returned (.bool true) ∧ Below w.heap.size w w' := by
  have hs := w0
  unfold maxLen at hs
  clear w0
  have h14 : ((140 : Nat) : Int) = 140 := rfl
  by_cases h140 : (a0.size : Int) ≤ 140
  · have HS := hid (show a0.size ≤ 1000000 by omega)
    go_enter Try.func3, Try.ntmps3
    go_wp2_with fail
    clear hs h140 h14
    generalize a0 = t at *
    refine (load_any t HS.out a1).mono ?_
    rintro e w1 hL
    by_cases hn : 1 ≤ a1 ∧ a1 ≤ 1024
    · obtain ⟨m, rfl⟩ : ∃ m : Nat, a1 = m := ⟨a1.toNat, by omega⟩
      obtain ⟨hn1, hn2⟩ := hn
      cases hT : loadT (strB t) m with
      | some T =>
        obtain ⟨p, v, rfl, hbt, hb⟩ := hL.get (by omega) (by omega) hT
        obtain ⟨t1, t2, t3⟩ := loadT_some (strB_lt t) hT
        have HTT := hid hT
        have HT1 := hid t1
        have HT2 := hid t2
        have HBT := hid hbt
        have HB1 := hid hb
        clear hL hbt hb t1 t2 t3 hT
        go_wp2_with fail
        refine (rload_any t HS.out (m : Int)).mono ?_
        rintro e w2 hR
        obtain ⟨p', v', rfl, hrb, hb⟩ := hR.get (by omega) (by omega) HTT.out
        have HBT2 := hid (HBT.out.below_keep hb)
        have HRB2 := hid hrb
        have HB2 := hid (HB1.out.trans (hb.mono HB1.out.size))
        clear hR hrb hb HBT HB1
        go_wp2_with fail
        refine (save_any HBT2.out).mono ?_
        rintro e w3 ⟨rfl, rfl⟩
        have hst := hid (show (⟨((bytesOf T).map UInt8.ofNat).toArray⟩ : ByteArray) = t by
          show bstr (bytesOf T) = t
          rw [HT1.out, bstr_strB])
        rw [hst.out]
        have hss : (t.toList == t.toList) = true := by simp
        go_wp2_with fail
        refine (taken_any HBT2.out).mono ?_
        rintro e w3 ⟨vo, rfl, hvo, hb⟩
        obtain ⟨oa, oc, rfl⟩ := hvo.shape
        have HV := hid hvo
        have HBT3 := hid (HBT2.out.below_keep hb)
        have HRB3 := hid (HRB2.out.below hb)
        have HB3 := hid (HB2.out.trans (hb.mono HB2.out.size))
        clear hvo hb HBT2 HRB2 HB2
        go_wp2_with fail
        refine (rtaken_any HRB3.out).mono ?_
        rintro e w4 ⟨vo', rfl, hvo', hb⟩
        obtain ⟨oa', oc', rfl⟩ := hvo'.shape
        have HV' := hid (RdI.of_own hvo')
        have HV4 := hid ((RdI.of_own HV.out).below hb)
        have HBT4 := hid (HBT3.out.below_keep hb)
        have HB4 := hid (HB3.out.trans (hb.mono HB3.out.size))
        clear hvo' hb HBT3 HRB3 HB3 HV
        go_wp2_with fail
        refine (ints_any HV4.out HV'.out).mono ?_
        rintro e w5 ⟨rfl, q, hw⟩
        have hb : Below w4.heap.size w4 w5 := by rw [hw]; exact below_dN (Below.refl _ _) q
        rw [decide_eq_true rfl]
        have HBT5 := hid (HBT4.out.below_keep hb)
        have HB5 := hid (HB4.out.trans (hb.mono HB4.out.size))
        clear hw hb HBT4 HB4 HV4 HV'
        go_wp2_with fail
        refine (len_any HBT5.out).mono ?_
        rintro e w6 ⟨rfl, rfl⟩
        rw [HT2.out]
        go_wp2_with fail
        refine (fixed_any w6).mono ?_
        rintro e w7 ⟨rfl, hb⟩
        have HB7 := hid (HB5.out.trans (hb.mono HB5.out.size))
        clear hb HBT5 HB5
        go_wp2
        go_ret
        exact ⟨rfl, HB7.out⟩
      | none =>
        obtain ⟨rfl, hb⟩ := hL.no (by omega) (by omega) hT
        have HTT := hid hT
        have HB1 := hid hb
        clear hL hb hT
        go_wp2_with fail
        refine (rload_any t HS.out (m : Int)).mono ?_
        rintro e w2 hR
        obtain ⟨rfl, hb⟩ := hR.no (by omega) (by omega) HTT.out
        have HB2 := hid (HB1.out.trans (hb.mono HB1.out.size))
        clear hR hb HB1
        go_wp2_with fail
        refine (fixed_any w2).mono ?_
        rintro e w7 ⟨rfl, hb⟩
        have HB7 := hid (HB2.out.trans (hb.mono HB2.out.size))
        clear hb HB2
        go_wp2
        go_ret
        exact ⟨rfl, HB7.out⟩
    · have HN := hid hn
      clear hn
      obtain ⟨rfl, hb⟩ := hL.arg HN.out
      have HB1 := hid hb
      clear hL hb
      go_wp2_with fail
      refine (rload_any t HS.out a1).mono ?_
      rintro e w2 hR
      obtain ⟨rfl, hb⟩ := hR.arg HN.out
      have HB2 := hid (HB1.out.trans (hb.mono HB1.out.size))
      clear hR hb HB1
      go_wp2_with fail
      refine (fixed_any w2).mono ?_
      rintro e w7 ⟨rfl, hb⟩
      have HB7 := hid (HB2.out.trans (hb.mono HB2.out.size))
      clear hb HB2
      go_wp2
      go_ret
      exact ⟨rfl, HB7.out⟩
  · have HS := hid (show (a0.extract 0 140).size ≤ 1000000 by rw [ByteArray.size_extract]; omega)
    go_enter Try.func3, Try.ntmps3
    go_wp2_with fail
    clear hs h140 h14
    generalize a0.extract 0 140 = t at *
    refine (load_any t HS.out a1).mono ?_
    rintro e w1 hL
    by_cases hn : 1 ≤ a1 ∧ a1 ≤ 1024
    · obtain ⟨m, rfl⟩ : ∃ m : Nat, a1 = m := ⟨a1.toNat, by omega⟩
      obtain ⟨hn1, hn2⟩ := hn
      cases hT : loadT (strB t) m with
      | some T =>
        obtain ⟨p, v, rfl, hbt, hb⟩ := hL.get (by omega) (by omega) hT
        obtain ⟨t1, t2, t3⟩ := loadT_some (strB_lt t) hT
        have HTT := hid hT
        have HT1 := hid t1
        have HT2 := hid t2
        have HBT := hid hbt
        have HB1 := hid hb
        clear hL hbt hb t1 t2 t3 hT
        go_wp2_with fail
        refine (rload_any t HS.out (m : Int)).mono ?_
        rintro e w2 hR
        obtain ⟨p', v', rfl, hrb, hb⟩ := hR.get (by omega) (by omega) HTT.out
        have HBT2 := hid (HBT.out.below_keep hb)
        have HRB2 := hid hrb
        have HB2 := hid (HB1.out.trans (hb.mono HB1.out.size))
        clear hR hrb hb HBT HB1
        go_wp2_with fail
        refine (save_any HBT2.out).mono ?_
        rintro e w3 ⟨rfl, rfl⟩
        have hst := hid (show (⟨((bytesOf T).map UInt8.ofNat).toArray⟩ : ByteArray) = t by
          show bstr (bytesOf T) = t
          rw [HT1.out, bstr_strB])
        rw [hst.out]
        have hss : (t.toList == t.toList) = true := by simp
        go_wp2_with fail
        refine (taken_any HBT2.out).mono ?_
        rintro e w3 ⟨vo, rfl, hvo, hb⟩
        obtain ⟨oa, oc, rfl⟩ := hvo.shape
        have HV := hid hvo
        have HBT3 := hid (HBT2.out.below_keep hb)
        have HRB3 := hid (HRB2.out.below hb)
        have HB3 := hid (HB2.out.trans (hb.mono HB2.out.size))
        clear hvo hb HBT2 HRB2 HB2
        go_wp2_with fail
        refine (rtaken_any HRB3.out).mono ?_
        rintro e w4 ⟨vo', rfl, hvo', hb⟩
        obtain ⟨oa', oc', rfl⟩ := hvo'.shape
        have HV' := hid (RdI.of_own hvo')
        have HV4 := hid ((RdI.of_own HV.out).below hb)
        have HBT4 := hid (HBT3.out.below_keep hb)
        have HB4 := hid (HB3.out.trans (hb.mono HB3.out.size))
        clear hvo' hb HBT3 HRB3 HB3 HV
        go_wp2_with fail
        refine (ints_any HV4.out HV'.out).mono ?_
        rintro e w5 ⟨rfl, q, hw⟩
        have hb : Below w4.heap.size w4 w5 := by rw [hw]; exact below_dN (Below.refl _ _) q
        rw [decide_eq_true rfl]
        have HBT5 := hid (HBT4.out.below_keep hb)
        have HB5 := hid (HB4.out.trans (hb.mono HB4.out.size))
        clear hw hb HBT4 HB4 HV4 HV'
        go_wp2_with fail
        refine (len_any HBT5.out).mono ?_
        rintro e w6 ⟨rfl, rfl⟩
        rw [HT2.out]
        go_wp2_with fail
        refine (fixed_any w6).mono ?_
        rintro e w7 ⟨rfl, hb⟩
        have HB7 := hid (HB5.out.trans (hb.mono HB5.out.size))
        clear hb HBT5 HB5
        go_wp2
        go_ret
        exact ⟨rfl, HB7.out⟩
      | none =>
        obtain ⟨rfl, hb⟩ := hL.no (by omega) (by omega) hT
        have HTT := hid hT
        have HB1 := hid hb
        clear hL hb hT
        go_wp2_with fail
        refine (rload_any t HS.out (m : Int)).mono ?_
        rintro e w2 hR
        obtain ⟨rfl, hb⟩ := hR.no (by omega) (by omega) HTT.out
        have HB2 := hid (HB1.out.trans (hb.mono HB1.out.size))
        clear hR hb HB1
        go_wp2_with fail
        refine (fixed_any w2).mono ?_
        rintro e w7 ⟨rfl, hb⟩
        have HB7 := hid (HB2.out.trans (hb.mono HB2.out.size))
        clear hb HB2
        go_wp2
        go_ret
        exact ⟨rfl, HB7.out⟩
    · have HN := hid hn
      clear hn
      obtain ⟨rfl, hb⟩ := hL.arg HN.out
      have HB1 := hid hb
      clear hL hb
      go_wp2_with fail
      refine (rload_any t HS.out a1).mono ?_
      rintro e w2 hR
      obtain ⟨rfl, hb⟩ := hR.arg HN.out
      have HB2 := hid (HB1.out.trans (hb.mono HB1.out.size))
      clear hR hb HB1
      go_wp2_with fail
      refine (fixed_any w2).mono ?_
      rintro e w7 ⟨rfl, hb⟩
      have HB7 := hid (HB2.out.trans (hb.mono HB2.out.size))
      clear hb HB2
      go_wp2
      go_ret
      exact ⟨rfl, HB7.out⟩
end bitsLoad
end Go.Proofs.Ytkcfkmmjmgjhgaa
