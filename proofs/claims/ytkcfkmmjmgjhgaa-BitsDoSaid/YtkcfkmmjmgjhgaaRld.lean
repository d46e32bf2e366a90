/-
  What the document's Load does, by a contract.
-/
import Derived.Test.YtkcfkmmjmgjhgaaRsv
import Derived.Test.YtkcfkmmjmgjhgaaLo
import Derived.Laws.Strings
namespace Go.Proofs.Ytkcfkmmjmgjhgaa
open Go Go.RowKit

theorem RNewPost.get {W w : World} {n : Nat} {e : Ending} (h : RNewPost W (n : Int) e w) (h1 : 1 ≤ n) (h2 : n ≤ 1024) : ∃ p v, e = .returned (.tuple #[.pointer (some ⟨p, 0, none⟩), .int .i64 0]) ∧ Rb w W.heap.size p v (List.replicate n false) ∧ Below W.heap.size W w := by
  unfold RNewPost at h
  rw [if_pos (by omega), Int.toNat_natCast] at h
  exact h
theorem RNewPost.no {W w : World} {n : Int} {e : Ending} (h : RNewPost W n e w) (h1 : ¬ (1 ≤ n ∧ n ≤ 1024)) : e = .returned (.tuple #[.pointer none, .int .i64 1]) ∧ Below W.heap.size W w := by
  unfold RNewPost at h
  rw [if_neg h1] at h
  exact h
/-- What the document's Load leaves. -/
def RLoadPost (W : World) (s : ByteArray) (n : Int) (e : Ending) (w : World) : Prop :=
  Below W.heap.size W w ∧
  if 1 ≤ n ∧ n ≤ 1024 then
    match loadT (strB s) n.toNat with
    | some T => ∃ p v, e = .returned (.tuple #[.pointer (some ⟨p, 0, none⟩), .int .i64 0]) ∧ Rb w W.heap.size p v T
    | none => e = .returned (.tuple #[.pointer none, .int .i64 4])
  else e = .returned (.tuple #[.pointer none, .int .i64 1])

theorem bit_div (x : Nat) (hx : x < 256) (k : Nat) (hk : k < 8) : (x / 2 ^ k % 2 = 1) = (x &&& 2 ^ k ≠ 0) := by
  have key : ∀ x : Fin 256, ∀ k : Fin 8, (x.1 / 2 ^ k.1 % 2 = 1) ↔ (x.1 &&& 2 ^ k.1 ≠ 0) := by decide +kernel
  exact propext (key ⟨x, hx⟩ ⟨k, hk⟩)
theorem bstr_strB (s : ByteArray) : bstr (strB s) = s := by
  apply ByteArray.ext
  unfold bstr strB
  rw [List.map_map]
  have : (UInt8.ofNat ∘ UInt8.toNat) = id := by
    funext x
    simp
  rw [this]
  simp
theorem strB_bstr {D : List Nat} (h : ∀ x ∈ D, x < 256) : strB (bstr D) = D := by
  unfold bstr strB
  simp only [List.map_map]
  conv => rhs; rw [← List.map_id D]
  apply List.map_congr_left
  intro x hx
  have := h x hx
  simp only [Function.comp, UInt8.toNat_ofNat', id]
  omega
theorem tk_ext {T : List Bool} {n : Nat} {f : Nat → Bool} (hl : T.length = n) (h : ∀ y, y < n → tk T y = f y) : T = (List.range n).map f := by
  apply List.ext_getElem
  · simp [hl]
  · intro i h1 h2
    simp only [List.getElem_map, List.getElem_range]
    rw [← h i (by omega)]
    unfold tk
    rw [List.getElem?_eq_getElem h1]
    rfl
/-- What the document loads is well-formed when what it saves is the bytes. -/
theorem load_yes {s : ByteArray} {n : Nat} (h : bstr (bytesOf ((List.range n).map (bitS (strB s)))) = s) : loadT (strB s) n = some ((List.range n).map (bitS (strB s))) := by
  have h1 : strB s = bytesOf ((List.range n).map (bitS (strB s))) := by
    conv => lhs; rw [← h]
    exact strB_bstr (bytes_lt _)
  have := loadT_bytes ((List.range n).map (bitS (strB s)))
  rw [← h1, List.length_map, List.length_range] at this
  exact this
theorem load_not {s : ByteArray} {n : Nat} (h : ¬ bstr (bytesOf ((List.range n).map (bitS (strB s)))) = s) : loadT (strB s) n = none := by
  cases hl : loadT (strB s) n with
  | none => rfl
  | some T =>
    exfalso
    obtain ⟨h1, h2, _⟩ := loadT_some (strB_lt s) hl
    have : T = (List.range n).map (bitS (strB s)) := by
      unfold loadT at hl
      split at hl
      · simp at hl; exact hl.symm
      · cases hl
    rw [← this, h1, bstr_strB] at h
    exact h rfl

theorem beq_of_eq {a b : ByteArray} (h : a = b) : (a.toList == b.toList) = true := by rw [h]; simp
theorem beq_of_ne {a b : ByteArray} (h : ¬ a = b) : (a.toList == b.toList) = false := by
  rw [beq_eq_false_iff_ne]
  intro e
  rw [ByteArray.toList_eq, ByteArray.toList_eq] at e
  exact h (ByteArray.ext (Array.toList_inj.1 e))
theorem index_str (s : ByteArray) (j : Nat) (h : j < (strB s).length) (w : World) : (Instr.index 9 (.string s) (.int .i64 (j : Int))).run Try.prog w = .ok (.int .u8 (((strB s)[j] : Nat) : Int)) w := by
  have hs : j < s.size := by rw [← strB_len]; exact h
  rw [run_index_string w 9 s .i64 (j : Int) (by kernel_rfl), dif_pos ⟨by omega, by omega⟩]
  have e : (strB s)[j] = (s.data.toList[j]'(by simpa using hs)).toNat := by
    unfold strB
    exact List.getElem_map _
  rw [e]
  simp only [Int.toNat_natCast]
  rfl
theorem bitS_out {D : List Nat} {y : Nat} (h : 8 * D.length ≤ y) : bitS D y = false := by
  unfold bitS
  rw [List.getElem?_eq_none (by omega)]
  simp

set_option maxHeartbeats 2000000 in
set_option maxRecDepth 100000 in
theorem rload_any {W : World} (s : ByteArray) (hs : s.size ≤ 1000000) (n : Int) : Calls Try.prog 10 #[.string s, .int .i64 n] W (RLoadPost W s n) := by
  by_cases hn : 1 ≤ n ∧ n ≤ 1024
  · obtain ⟨m, rfl⟩ : ∃ m : Nat, n = m := ⟨n.toNat, by omega⟩
    obtain ⟨hn1, hn2⟩ := hn
    have hP : ∀ e w, RLoadPost W s (m : Int) e w = (Below W.heap.size W w ∧ match loadT (strB s) m with
      | some T => ∃ p v, e = .returned (.tuple #[.pointer (some ⟨p, 0, none⟩), .int .i64 0]) ∧ Rb w W.heap.size p v T
      | none => e = .returned (.tuple #[.pointer none, .int .i64 4])) := fun e w => by
      unfold RLoadPost
      rw [if_pos ⟨hn1, hn2⟩, Int.toNat_natCast]
    have HP := hid hP
    clear hP
    have HNW := hid (rnew_any (W := W) (m : Int))
    go_enter Try.func10, Try.ntmps10
    go_wp2_with fail
    refine HNW.out.mono ?_
    rintro e w1 hp
    obtain ⟨p, v, rfl, hbt, hb1⟩ := hp.get (by omega) (by omega)
    obtain ⟨g, cap, rfl, hg, hgs⟩ := hbt.form
    rw [List.length_replicate] at hbt
    have HBT := hid hbt
    have HB1 := hid hb1
    have HSL := hid (strB_len s)
    have HLT := hid (strB_lt s)
    have hsi : (s.size : Int) ≤ 1000000 := by omega
    clear hp hbt hb1
    go_wp2_with fail
    go_loopg [8] m (fun g' i wr => ∃ (j : Nat) (T : List Bool), i = .int .i64 j ∧ g' + j = m ∧ Rb wr W.heap.size p (.slice (some ⟨g, 0, none⟩) m cap) T ∧ T.length = m ∧ (∀ y, tk T y = (decide (y < j) && bitS (strB s) y)) ∧ Below W.heap.size W wr)
    case atStart => exact ⟨0, _, rfl, by omega, HBT.out, by simp, fun y => by simp [tk, List.getElem?_replicate]; split <;> rfl, HB1.out⟩
    case round =>
      obtain ⟨j, T, rfl, hgj, hR, hTl, hT, hB⟩ := hrel
      obtain ⟨go, hgo⟩ : ∃ go, gk = go := ⟨_, rfl⟩
      rw [hgo] at hgj
      have HG := hid hgj
      have HR := hid hR
      have HTl := hid hTl
      have HT := hid hT
      have HB := hid hB
      have hjm : j ≤ m := by omega
      have h1 := hR.blk.cell 0
      simp only [List.getElem?_toArray, List.getElem?_cons_zero] at h1
      have hq : (j : Int).tdiv 8 = ((j / 8 : Nat) : Int) := by rw [Int.tdiv_eq_ediv_of_nonneg (by omega)]; omega
      have hq2 : (j : Int) / 8 = ((j / 8 : Nat) : Int) := by omega
      clear hgj hR hTl hT hB
      by_cases hb : j < m ∧ j / 8 < s.size
      · obtain ⟨hb1, hb2⟩ := hb
        have hi1 : (j : Int) < (m : Int) := by omega
        have hi2 : ((j / 8 : Nat) : Int) < (s.size : Int) := by omega
        have hi0 : (0 : Int) ≤ ((j / 8 : Nat) : Int) := by omega
        have hjl : j / 8 < (strB s).length := by rw [HSL.out]; omega
        have hix := index_str s (j / 8) hjl
        have hxlt : (strB s)[j / 8] < 256 := HLT.out _ (List.getElem_mem hjl)
        have hbs : bitS (strB s) j = decide ((strB s)[j / 8] &&& 2 ^ (j % 8) ≠ 0) := by
          unfold bitS
          rw [List.getElem?_eq_getElem hjl]
          rfl
        simp only [← bit_div _ hxlt (j % 8) (Nat.mod_lt _ (by omega))] at hbs
        have HBS := hid hbs
        clear hbs
        generalize (strB s)[j / 8] = x at *
        have HX := hid hxlt
        have hxi : (x : Int) < 256 := by omega
        have hm8 : (j : Int).tmod 8 = ((j % 8 : Nat) : Int) := by rw [Int.tmod_eq_emod_of_nonneg (by omega)]; omega
        have hm9 : (j : Int) % 8 = ((j % 8 : Nat) : Int) := by omega
        have hr8 : j % 8 < 8 := Nat.mod_lt _ (by omega)
        generalize hrr : j % 8 = r at *
        have HJ := hid hb1
        clear hb2 hb1 hjl hxlt
        generalize hjq : j / 8 = jq at *
        have HRR := hid hrr
        clear hrr hjq
        go_wp2
        go_loopg [9, 10] r (fun g' c k wr' => ∃ t : Nat, c = .int .i64 ((x / 2 ^ t : Nat) : Int) ∧ k = .int .i64 (t : Int) ∧ g' + t = r ∧ wr = wr')
        case atStart => exact ⟨0, by rw [Nat.pow_zero, Nat.div_one], rfl, by omega, rfl⟩
        case round =>
          obtain ⟨t, rfl, rfl, hgt, rfl⟩ := hrel
          have hd : x / 2 ^ t ≤ x := Nat.div_le_self _ _
          have hxx := HX.out
          have hc1 : ((x / 2 ^ t : Nat) : Int) < 256 := by omega
          have hc0 : (0 : Int) ≤ ((x / 2 ^ t : Nat) : Int) := Int.natCast_nonneg _
          have hct : ((x / 2 ^ t : Nat) : Int).tdiv 2 = ((x / 2 ^ (t + 1) : Nat) : Int) := by
            rw [Int.tdiv_eq_ediv_of_nonneg (by omega), Nat.pow_succ, ← Nat.div_div_eq_div_mul]
            omega
          have hct2 : ((x / 2 ^ t : Nat) : Int) / 2 = ((x / 2 ^ (t + 1) : Nat) : Int) := by
            rw [Nat.pow_succ, ← Nat.div_div_eq_div_mul]
            omega
          have hcm : ((x / 2 ^ t : Nat) : Int).tmod 2 = ((x / 2 ^ t % 2 : Nat) : Int) := by
            rw [Int.tmod_eq_emod_of_nonneg (by omega)]
            omega
          have hcm2 : ((x / 2 ^ t : Nat) : Int) % 2 = ((x / 2 ^ t % 2 : Nat) : Int) := by omega
          have hd2 : x / 2 ^ (t + 1) ≤ x := Nat.div_le_self _ _
          have hc3 : ((x / 2 ^ (t + 1) : Nat) : Int) < 256 := by omega
          have hc4 : (0 : Int) ≤ ((x / 2 ^ (t + 1) : Nat) : Int) := Int.natCast_nonneg _
          clear hd hxx hd2
          have HGT := hid hgt
          clear hgt
          by_cases ht : t < r
          · have hti : (t : Int) < (r : Int) := by omega
            have ht8 : (t : Int) ≤ 8 := by omega
            clear hcm hcm2
            generalize ((x / 2 ^ t : Nat) : Int) = c at *
            generalize hcc : ((x / 2 ^ (t + 1) : Nat) : Int) = c2 at *
            have HCC := hid hcc
            clear hcc
            go_wp2
            have hg := HGT.out
            go_roundg (gk - 1)
            case measure => omega
            case rel => exact ⟨t + 1, by rw [HCC.out], by go_num, by omega, rfl⟩
          · have hti : ¬ (t : Int) < (r : Int) := by omega
            have htr : t = r := by have := HGT.out; omega
            have hst := hid (HR.out.stored j (bitS (strB s) j))
            have hf := HR.out.row.frozen j
            have hcell := HR.out.row.cell (i := j) (by rw [HTl.out]; exact HJ.out)
            have hnew := hid (show ∀ y, tk (T.set j (bitS (strB s) j)) y = (decide (y < j + 1) && bitS (strB s) y) by
              intro y
              rw [tk_set (by rw [HTl.out]; exact HJ.out), HT.out y]
              by_cases hy : y = j
              · rw [if_pos hy, hy]; simp
              · rw [if_neg hy]
                congr 1
                exact decide_eq_decide.2 (by omega))
            have hbel := hid (HB.out.trans ((only_own wr g m cap 0 j (u := .bool (bitS (strB s) j))).below HB.out.size (fun k hk e => by
              have : g = k := by simpa [Value.ownBlock] using e
              omega)))
            have hg := HG.out
            have hbit := HBS.out
            rw [← htr] at hbit
            cases hbv : bitS (strB s) j with
            | true =>
              rw [hbv] at hst hbel hbit hnew
              have h1x : x / 2 ^ t % 2 = 1 := by simpa using hbit.symm
              have h1i : ((x / 2 ^ t % 2 : Nat) : Int) = 1 := by omega
              rw [h1i] at hcm hcm2
              clear hbit h1x h1i hct hct2 hc3 hc4
              generalize ((x / 2 ^ t : Nat) : Int) = c at *
              go_wp2
              go_roundg (go - 1)
              case measure => omega
              case rel => exact ⟨j + 1, _, by go_num, by omega, hst.out, by rw [List.length_set]; exact HTl.out, hnew.out, hbel.out⟩
            | false =>
              rw [hbv] at hst hbel hbit hnew
              have h1x : ¬ x / 2 ^ t % 2 = 1 := by simpa using hbit.symm
              have h1i : ((x / 2 ^ t % 2 : Nat) : Int) = 0 := by omega
              rw [h1i] at hcm hcm2
              clear hbit h1x h1i hct hct2 hc3 hc4
              generalize ((x / 2 ^ t : Nat) : Int) = c at *
              go_wp2
              go_roundg (go - 1)
              case measure => omega
              case rel => exact ⟨j + 1, _, by go_num, by omega, hst.out, by rw [List.length_set]; exact HTl.out, hnew.out, hbel.out⟩
      · have HE := hid (show T = (List.range m).map (bitS (strB s)) from tk_ext HTl.out (fun y hy => by
          rw [HT.out y]
          by_cases hyj : y < j
          · rw [decide_eq_true hyj, Bool.true_and]
          · rw [decide_eq_false hyj, Bool.false_and, bitS_out (by rw [HSL.out]; omega)]))
        have HSV := hid (rsave_any HR.out)
        by_cases heq : bstr (bytesOf T) = s
        · have HY := hid (load_yes (s := s) (n := m) (by rw [← HE.out]; exact heq))
          rw [← HE.out] at HY
          have hbe := beq_of_eq heq
          rw [heq] at hbe HSV
          clear heq
          rcases (show ¬ (j : Int) < (m : Int) ∨ ((j : Int) < (m : Int) ∧ ¬ ((j / 8 : Nat) : Int) < (s.size : Int)) by omega) with hi1 | ⟨hi1, hi2⟩
          all_goals
            clear hb
            have hi0 : (0 : Int) ≤ ((j / 8 : Nat) : Int) := by omega
            generalize ((j / 8 : Nat) : Int) = jq at *
            go_wp2_with (go_at_call 29; ((with_reducible refine HSV.out.mono ?_)); rintro e w2 ⟨rfl, hb2⟩)
            go_ret2
            rw [HP.out, HY.out]
            exact ⟨HB.out.trans (hb2.mono HB.out.size), p, _, rfl, HR.out.below hb2⟩
        · have HY := hid (load_not (s := s) (n := m) (by rw [← HE.out]; exact heq))
          have hbe := beq_of_ne heq
          clear heq
          rcases (show ¬ (j : Int) < (m : Int) ∨ ((j : Int) < (m : Int) ∧ ¬ ((j / 8 : Nat) : Int) < (s.size : Int)) by omega) with hi1 | ⟨hi1, hi2⟩
          all_goals
            clear hb
            have hi0 : (0 : Int) ≤ ((j / 8 : Nat) : Int) := by omega
            generalize ((j / 8 : Nat) : Int) = jq at *
            generalize bstr (bytesOf T) = s2 at *
            go_wp2_with (go_at_call 29; ((with_reducible refine HSV.out.mono ?_)); rintro e w2 ⟨rfl, hb2⟩)
            go_ret2
            rw [HP.out, HY.out]
            exact ⟨HB.out.trans (hb2.mono HB.out.size), rfl⟩
  · have hP : ∀ e w, RLoadPost W s n e w = (Below W.heap.size W w ∧ e = .returned (.tuple #[.pointer none, .int .i64 1])) := fun e w => by
      unfold RLoadPost
      rw [if_neg hn]
    have HP := hid hP
    have HN := hid hn
    have HNW := hid (rnew_any (W := W) n)
    clear hP hn
    go_enter Try.func10, Try.ntmps10
    go_wp2_with fail
    refine HNW.out.mono ?_
    rintro e w1 hp
    obtain ⟨rfl, hb1⟩ := hp.no HN.out
    clear hp
    go_wp2
    go_ret2
    rw [HP.out]
    exact ⟨hb1, rfl⟩
end Go.Proofs.Ytkcfkmmjmgjhgaa
