/-
  What the document's Run and Save do, by contracts.
-/
import Derived.Test.YtkcfkmmjmgjhgaaRtn
namespace Go.Proofs.Ytkcfkmmjmgjhgaa
open Go Go.RowKit

set_option maxHeartbeats 2000000 in
set_option maxRecDepth 100000 in
theorem rrun_any {W : World} {B p : Nat} {v : Value} {T : List Bool} (h : Rb W B p v T) (m : Int) (hmm : m ≤ 9223372036854775807) :
    Calls Try.prog 31 #[.pointer (some ⟨p, 0, none⟩), .int .i64 m] W fun e W' => e = .returned (.tuple #[.int .i64 (runX T m), .bool (runOk T m)]) ∧ W' = W := by
  have H := hid h
  have h1 := h.blk.cell 0
  simp only [List.getElem?_toArray, List.getElem?_cons_zero] at h1
  obtain ⟨g, cap, rfl, hg, hgs⟩ := h.form
  have hl2 := h.len2
  clear h
  by_cases hm : 1 ≤ m
  · by_cases hmN : m ≤ T.length
    · obtain ⟨n, rfl⟩ : ∃ n : Nat, m = n := ⟨m.toNat, by omega⟩
      have hn1 : 1 ≤ n := by omega
      have hn2 : n ≤ T.length := by omega
      have HN := hid hn2
      go_enter Try.func31, Try.ntmps31
      go_wp2
      go_loopg [6] (T.length + 1) (fun g' i wr => ∃ j : Nat, i = .int .i64 j ∧ g' + j = T.length + 1 ∧ j ≤ T.length ∧ (∀ y, y < j → ∃ x, y ≤ x ∧ x < y + n ∧ tk T x = true) ∧ W = wr)
      case atStart => exact ⟨0, rfl, by omega, by omega, fun y h => by omega, rfl⟩
      case round =>
        obtain ⟨j, rfl, hgj, hjl, hz, rfl⟩ := hrel
        have HZ := hid hz
        obtain ⟨go, hgo⟩ : ∃ go, gk = go := ⟨_, rfl⟩
        rw [hgo] at hgj
        have HG := hid hgj
        clear hz hgj
        by_cases hj : j + n ≤ T.length
        · have hji : (j : Int) + (n : Int) ≤ (T.length : Int) := by omega
          go_wp2
          go_loopg [7, 8] (n + 1) (fun g' f k wr => ∃ (t : Nat) (b : Bool), f = .bool b ∧ k = .int .i64 ((j + t : Nat) : Int) ∧ g' + t = n + 1 ∧ t ≤ n ∧ (b = true → ∀ y, j ≤ y → y < j + t → tk T y = false) ∧ (b = false → ∃ x, j ≤ x ∧ x < j + n ∧ tk T x = true) ∧ W = wr)
          case atStart => exact ⟨0, true, rfl, by go_num, by omega, by omega, fun _ y h1 h2 => by omega, (fun h => by cases h), rfl⟩
          case round =>
            obtain ⟨t, b, rfl, rfl, hgt, htn, hb1, hb2, rfl⟩ := hrel
            have HB1 := hid hb1
            have HB2 := hid hb2
            have HGT := hid hgt
            clear hb1 hb2 hgt
            cases b with
            | true =>
              have HF := hid (HB1.out rfl)
              clear HB1 HB2
              by_cases ht : t < n
              · have hti : ((j + t : Nat) : Int) < (j : Int) + (n : Int) := by omega
                have hjt : j + t < T.length := by omega
                have hjti : ((j + t : Nat) : Int) < (T.length : Int) := by omega
                have hc := H.out.row.cell hjt
                have HT := hid ht
                have hsucc : ((j + t : Nat) : Int) + 1 = ((j + (t + 1) : Nat) : Int) := by omega
                have hx := hid hjt
                clear ht hjt
                generalize hyy : j + t = y at *
                have hy8 : (y : Int) < 2000 := by omega
                cases hb : tk T y with
                | true =>
                  rw [hb] at hc
                  have HT2 := hid hb
                  have HYY := hid hyy
                  clear hb
                  go_wp2
                  have hg := HGT.out
                  have hT := HT.out
                  go_roundg (gk - 1)
                  case measure => omega
                  case rel => exact ⟨t + 1, false, rfl, by go_num, by omega, by omega, (fun h => by cases h), fun _ => ⟨y, by have := HYY.out; omega, by have := HYY.out; omega, HT2.out⟩, rfl⟩
                | false =>
                  rw [hb] at hc
                  have HT2 := hid hb
                  have HYY := hid hyy
                  clear hb
                  go_wp2
                  have hg := HGT.out
                  have hT := HT.out
                  go_roundg (gk - 1)
                  case measure => omega
                  case rel => exact ⟨t + 1, true, rfl, by go_num, by omega, by omega, fun _ x h1 h2 => by
                    by_cases hx : x = y
                    · rw [hx]; exact HT2.out
                    · exact HF.out x h1 (by have := HYY.out; omega), (fun h => by cases h), rfl⟩
              · have htn2 : t = n := by omega
                have hti : ¬ ((j + t : Nat) : Int) < (j : Int) + (n : Int) := by omega
                rw [htn2] at HF
                have HR := hid (run_hit hn1 hj HF.out HZ.out)
                clear HF
                go_wp2
                go_ret2
                rw [HR.out.1, HR.out.2]
                exact ⟨rfl, rfl⟩
            | false =>
              have HF := hid (HB2.out rfl)
              clear HB1 HB2
              have hyi : (0 : Int) ≤ ((j + t : Nat) : Int) := by omega
              have hg := HG.out
              by_cases ht : t < n
              · have hti : ((j + t : Nat) : Int) < (j : Int) + (n : Int) := by omega
                generalize j + t = y at *
                go_wp2
                go_roundg (go - 1)
                case measure => omega
                case rel => exact ⟨j + 1, by go_num, by omega, by omega, fun x hx => by
                  by_cases hxj : x = j
                  · rw [hxj]; exact HF.out
                  · exact HZ.out x (by omega), rfl⟩
              · have hti : ¬ ((j + t : Nat) : Int) < (j : Int) + (n : Int) := by omega
                generalize j + t = y at *
                go_wp2
                go_roundg (go - 1)
                case measure => omega
                case rel => exact ⟨j + 1, by go_num, by omega, by omega, fun x hx => by
                  by_cases hxj : x = j
                  · rw [hxj]; exact HF.out
                  · exact HZ.out x (by omega), rfl⟩
        · have hji : ¬ (j : Int) + (n : Int) ≤ (T.length : Int) := by omega
          have HR := hid (run_none (T := T) (m := (n : Int)) (fun _ x hx => by
            obtain ⟨y, y1, y2, y3⟩ := HZ.out x (by omega)
            exact ⟨y, y1, by omega, y3⟩))
          go_wp2
          go_ret2
          rw [HR.out.1, HR.out.2]
          exact ⟨rfl, rfl⟩
    · have HR := hid (run_none (T := T) (m := m) (fun _ x hx => by omega))
      have hm0 : ¬ m ≤ (T.length : Int) := hmN
      go_enter Try.func31, Try.ntmps31
      go_wp2
      go_loopg [6] 1 (fun g' i wr => i = .int .i64 0 ∧ W = wr)
      case atStart => exact ⟨rfl, rfl⟩
      case round =>
        obtain ⟨rfl, rfl⟩ := hrel
        go_wp2
        go_ret2
        rw [HR.out.1, HR.out.2]
        exact ⟨rfl, rfl⟩
  · have HR := hid (run_none (T := T) (m := m) (fun h x hx => by omega))
    go_enter Try.func31, Try.ntmps31
    go_wp2
    go_loopg [6] 1 (fun g' i wr => i = .int .i64 0 ∧ W = wr)
    case atStart => exact ⟨rfl, rfl⟩
    case round =>
      obtain ⟨rfl, rfl⟩ := hrel
      go_wp2
      go_ret2
      rw [HR.out.1, HR.out.2]
      exact ⟨rfl, rfl⟩

/-- A byte of eight bits, bit by bit. -/
def valTo (f : Nat → Bool) : Nat → Nat
  | 0 => 0
  | n + 1 => valTo f n + (if f n then 2 ^ n else 0)
theorem valTo_eight (f : Nat → Bool) : valTo f 8 = valF f := by simp [valTo, valF]
theorem valTo_lt (f : Nat → Bool) : ∀ n, valTo f n < 2 ^ n := by
  intro n
  induction n with
  | zero => simp [valTo]
  | succ n ih =>
    rw [valTo, Nat.pow_succ]
    split <;> omega
theorem valTo_rest (f : Nat → Bool) (n : Nat) (h : ∀ t, n ≤ t → f t = false) : ∀ d, valTo f (n + d) = valTo f n := by
  intro d
  induction d with
  | zero => rfl
  | succ d ih => rw [← Nat.add_assoc, valTo, ih, h _ (by omega)]; rfl
/-- Bytes as a string. -/
def bstr (D : List Nat) : ByteArray := ⟨(D.map UInt8.ofNat).toArray⟩
theorem bstr_snoc (D : List Nat) (x : Nat) : bstr D ++ ⟨#[UInt8.ofNat x]⟩ = bstr (D ++ [x]) := by
  apply ByteArray.ext
  simp [bstr, ByteArray.data_append]
theorem bytes_take (T : List Bool) (q : Nat) (h : q < (T.length + 7) / 8) : (bytesOf T).take (q + 1) = (bytesOf T).take q ++ [byteOf T q] := by
  rw [List.take_add_one]
  congr 1
  unfold bytesOf
  rw [List.getElem?_map, List.getElem?_range h]
  rfl
theorem byte_to (T : List Bool) (q t : Nat) (h : t = 8 ∨ T.length ≤ 8 * q + t) (ht : t ≤ 8) : valTo (fun k => tk T (8 * q + k)) t = byteOf T q := by
  unfold byteOf
  rw [← valTo_eight]
  rcases h with h | h
  · rw [h]
  · have := valTo_rest (fun k => tk T (8 * q + k)) t (fun k hk => by
      show tk T (8 * q + k) = false
      unfold tk
      rw [List.getElem?_eq_none (by omega)]
      rfl) (8 - t)
    rw [show t + (8 - t) = 8 by omega] at this
    exact this.symm
theorem conv_one (w : World) (x : Nat) (hx : x < 256) :
    (convert 51 9 (.slice (some ⟨w.heap.size, 0, none⟩) 1 1)).run Try.prog (w.alloc (.cells #[.int .u8 (x : Int)] 5)) = .ok (.string ⟨#[UInt8.ofNat x]⟩) (w.alloc (.cells #[.int .u8 (x : Int)] 5)) := by
  have := run_convert_bytes_back (P := Try.prog) (w.alloc (.cells #[.int .u8 (x : Int)] 5)) 51 9 5 ⟨w.heap.size, 0, none⟩ 1 [UInt8.ofNat x] (by kernel_rfl) (by kernel_rfl) (by kernel_rfl) (fun j hj => by
    have hj0 : j = 0 := by simpa using hj
    subst hj0
    have := (Blk.new w 5 #[.int .u8 (x : Int)]).cell 0
    simp only [List.getElem?_toArray, List.getElem?_cons_zero] at this
    rw [show (Addr.add ⟨w.heap.size, 0, none⟩ 0) = ⟨w.heap.size, 0, none⟩ by simp [Addr.add], this]
    simp only [List.getElem_cons_zero]
    rw [UInt8.toNat_ofNat', Nat.mod_eq_of_lt (by omega)])
  exact this

set_option maxHeartbeats 2000000 in
set_option maxRecDepth 100000 in
theorem rsave_any {W : World} {B p : Nat} {v : Value} {T : List Bool} (h : Rb W B p v T) :
    Calls Try.prog 29 #[.pointer (some ⟨p, 0, none⟩)] W fun e W' => e = .returned (.string (bstr (bytesOf T))) ∧ Below W.heap.size W W' := by
  have H := hid h
  obtain ⟨g, cap, rfl, hg, hgs⟩ := h.form
  have hl2 := h.len2
  clear h
  go_enter Try.func29, Try.ntmps29
  go_wp2
  go_loopg [3, 4] ((T.length + 7) / 8) (fun g' s i wr => ∃ q : Nat, s = .string (bstr ((bytesOf T).take q)) ∧ i = .int .i64 ((8 * q : Nat) : Int) ∧ g' + q = (T.length + 7) / 8 ∧ Below W.heap.size W wr)
  case atStart => exact ⟨0, rfl, rfl, by omega, Below.refl _ _⟩
  case round =>
    obtain ⟨q, rfl, rfl, hgq, hb⟩ := hrel
    obtain ⟨go, hgo⟩ : ∃ go, gk = go := ⟨_, rfl⟩
    rw [hgo] at hgq
    have HG := hid hgq
    have HB := hid hb
    have HR := hid (H.out.below hb)
    have h1 := HR.out.blk.cell 0
    simp only [List.getElem?_toArray, List.getElem?_cons_zero] at h1
    have hq8 : 8 * q ≤ T.length + 7 := by omega
    have HQ := hid hq8
    clear hgq hb
    generalize hss : bstr ((bytesOf T).take q) = s at *
    have HSS := hid hss
    clear hss
    generalize hi8 : 8 * q = i at *
    have HI := hid hi8
    have hi9 : i ≤ 2000 := by omega
    clear hi8
    by_cases hi : i < T.length
    · have hii : (i : Int) < (T.length : Int) := by omega
      have hiI := hid hi
      clear hi
      go_wp2
      go_loopg [5, 6, 7] 8 (fun g' c z k wr' => ∃ t : Nat, c = .int .i64 (valTo (fun k => tk T (i + k)) t : Nat) ∧ z = .int .i64 ((2 ^ t : Nat) : Int) ∧ k = .int .i64 ((i + t : Nat) : Int) ∧ g' + t = 8 ∧ t ≤ 8 ∧ wr = wr')
      case atStart => exact ⟨0, rfl, rfl, by go_num, rfl, by omega, rfl⟩
      case round =>
        obtain ⟨t, rfl, rfl, rfl, hgt, ht8, rfl⟩ := hrel
        have HGT := hid hgt
        clear hgt
        have hv1 := valTo_lt (fun k => tk T (i + k)) t
        have hp1 : 2 ^ t ≤ 2 ^ 8 := Nat.pow_le_pow_right (by omega) ht8
        have hv2 : ((valTo (fun k => tk T (i + k)) t : Nat) : Int) < 256 := by omega
        have hv3 : (0 : Int) ≤ ((valTo (fun k => tk T (i + k)) t : Nat) : Int) := by omega
        have hvn := hid (show valTo (fun k => tk T (i + k)) t < 256 by omega)
        have hz0 : (0 : Int) ≤ ((2 ^ t : Nat) : Int) := by omega
        have hz2 : ((2 ^ t : Nat) : Int) ≤ 256 := by omega
        have HS := hid (show valTo (fun k => tk T (i + k)) (t + 1) = valTo (fun k => tk T (i + k)) t + (if tk T (i + t) then 2 ^ t else 0) from rfl)
        have HP := hid (Nat.pow_succ 2 t)
        clear hv1 hp1
        by_cases hb : t < 8 ∧ i + t < T.length
        · obtain ⟨hb1, hb2⟩ := hb
          have hb3 : ((i + t : Nat) : Int) < (i : Int) + 8 := by omega
          have hb4 : ((i + t : Nat) : Int) < (T.length : Int) := by omega
          have hb5 : (0 : Int) ≤ ((i + t : Nat) : Int) := by omega
          have hsucc : ((i + t : Nat) : Int) + 1 = ((i + (t + 1) : Nat) : Int) := by omega
          have hc := HR.out.row.cell hb2
          have HT8 := hid hb1
          clear hb1 hb2
          cases ht : tk T (i + t) with
          | true =>
            rw [ht] at hc HS
            have HV := hid (show ((valTo (fun k => tk T (i + k)) t : Nat) : Int) + ((2 ^ t : Nat) : Int) = ((valTo (fun k => tk T (i + k)) (t + 1) : Nat) : Int) by have := HS.out; rw [if_pos rfl] at this; omega)
            have HZ := hid (show 2 * ((2 ^ t : Nat) : Int) = ((2 ^ (t + 1) : Nat) : Int) by have := HP.out; omega)
            clear ht HS HP hvn
            generalize ((valTo (fun k => tk T (i + k)) t : Nat) : Int) = c at *
            generalize ((2 ^ t : Nat) : Int) = z at *
            generalize hyy : i + t = y at *
            have HYY := hid hyy
            clear hyy
            go_wp2
            have hg := HGT.out
            have hT := HT8.out
            go_roundg (gk - 1)
            case measure => omega
            case rel =>
              refine ⟨t + 1, ?_, ?_, by go_num, by omega, by omega, rfl⟩
              · rw [← HV.out]
              · rw [← HZ.out]
          | false =>
            rw [ht] at hc HS
            have HV := hid (show ((valTo (fun k => tk T (i + k)) t : Nat) : Int) = ((valTo (fun k => tk T (i + k)) (t + 1) : Nat) : Int) by have := HS.out; rw [if_neg (by simp)] at this; omega)
            have HZ := hid (show 2 * ((2 ^ t : Nat) : Int) = ((2 ^ (t + 1) : Nat) : Int) by have := HP.out; omega)
            clear ht HS HP hvn
            generalize ((valTo (fun k => tk T (i + k)) t : Nat) : Int) = c at *
            generalize ((2 ^ t : Nat) : Int) = z at *
            generalize hyy : i + t = y at *
            have HYY := hid hyy
            clear hyy
            go_wp2
            have hg := HGT.out
            have hT := HT8.out
            go_roundg (gk - 1)
            case measure => omega
            case rel =>
              refine ⟨t + 1, ?_, ?_, by go_num, by omega, by omega, rfl⟩
              · rw [← HV.out]
              · rw [← HZ.out]
        · have HBY := hid (show valTo (fun k => tk T (i + k)) t = byteOf T q by
            rw [← HI.out]
            exact byte_to T q t (by have := HI.out; omega) ht8)
          have hq1 : q < (T.length + 7) / 8 := by have := HI.out; have := hiI.out; omega
          have HTQ := hid (bytes_take T q hq1)
          have hcv := conv_one wr (byteOf T q) (by rw [← HBY.out]; exact hvn.out)
          have HSN := hid (bstr_snoc ((bytesOf T).take q) (byteOf T q))
          rw [HSS.out] at HSN
          have hw8 : IntKind.u8.wrap ((byteOf T q : Nat) : Int) = ((byteOf T q : Nat) : Int) := wraps_u8 _ (by omega) (by have := byteOf_lt T q; omega)
          have hs1 : s.size ≤ 2000 := by
            rw [← HSS.out]
            show (((bytesOf T).take q).map UInt8.ofNat).toArray.size ≤ 2000
            simp
            omega
          have hs2 : s.size + (⟨#[UInt8.ofNat (byteOf T q)]⟩ : ByteArray).size ≤ 9223372036854775807 := by
            show s.size + 1 ≤ _
            omega
          rw [HBY.out] at hv2 hv3 ⊢
          have hg := HG.out
          by_cases ht : t < 8
          · have hb3 : ((i + t : Nat) : Int) < (i : Int) + 8 := by omega
            have hb4 : ¬ ((i + t : Nat) : Int) < (T.length : Int) := by omega
            have hb5 : (0 : Int) ≤ ((i + t : Nat) : Int) := by omega
            clear hb hvn
            generalize byteOf T q = c at *
            generalize ((2 ^ t : Nat) : Int) = z at *
            generalize i + t = y at *
            go_wp2
            go_roundg (go - 1)
            case measure => omega
            case rel => exact ⟨q + 1, by rw [HTQ.out, ← HSN.out], by have := HI.out; go_num, by omega, HB.out.alloc HB.out.size _⟩
          · have hb3 : ¬ ((i + t : Nat) : Int) < (i : Int) + 8 := by omega
            have hb5 : (0 : Int) ≤ ((i + t : Nat) : Int) := by omega
            clear hb hvn
            generalize byteOf T q = c at *
            generalize ((2 ^ t : Nat) : Int) = z at *
            generalize i + t = y at *
            go_wp2
            go_roundg (go - 1)
            case measure => omega
            case rel => exact ⟨q + 1, by rw [HTQ.out, ← HSN.out], by have := HI.out; go_num, by omega, HB.out.alloc HB.out.size _⟩
    · have hii : ¬ (i : Int) < (T.length : Int) := by omega
      go_wp2
      go_ret
      refine ⟨?_, HB.out⟩
      rw [← HSS.out, List.take_of_length_le (by rw [bytesOf_len]; have := HI.out; omega)]
      rfl
end Go.Proofs.Ytkcfkmmjmgjhgaa
