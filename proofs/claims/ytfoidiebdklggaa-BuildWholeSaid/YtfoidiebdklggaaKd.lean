/-
  Kids; what Key of package rec and Right of package build do, by contracts.
-/
import Derived.Test.YtfoidiebdklggaaGr
import Derived.Test.YtfoidiebdklggaaRv
import Derived.Laws.Strings
import Derived.Laws.Cover1
open Go Go.RowKit
namespace Go.Proofs.Ytfoidiebdklggaa

abbrev Kid := ByteArray × Int
def kcells (k : Kid) : List Value := [.string k.1, .int .i64 k.2]
/-- The slice value v reads as the kids K. -/
def RdK (w : World) (B : Nat) (v : Value) (K : List Kid) : Prop := RdV 2 w B v (K.map kcells)
section
variable {w w' : World} {B B' : Nat} {v : Value} {K : List Kid}
theorem RdK.below (h : RdK w B v K) (hb : Below B w w') : RdK w' B v K := RdV.below h hb
theorem RdK.more (h : RdK w B v K) (hB : B ≤ B') : RdK w B' v K := RdV.more h hB
theorem RdK.shape (h : RdK w B v K) : ∃ a cap, v = .slice a K.length cap ∧ K.length ≤ cap ∧ cap ≤ maxLen := by
  have := RdV.shape h
  rwa [List.length_map] at this
theorem RdK.at_ {a : Option Addr} {n cap i : Nat} (h : RdK w B (.slice a n cap) K) {k : Kid} (hk : K[i]? = some k) :
    ∃ g off, a = some ⟨g, off, none⟩ ∧ g < B ∧ w.cell? ⟨g, off + i * 2, none⟩ = some (.string k.1) ∧ w.cell? ⟨g, off + i * 2 + 1, none⟩ = some (.int .i64 k.2) := by
  obtain ⟨g, off, e, hg, hc⟩ := RdV.at_ h (i := i) (x := kcells k) (by rw [List.getElem?_map, hk]; rfl)
  exact ⟨g, off, e, hg, hc 0 _ rfl, hc 1 _ rfl⟩
end

/-- Is a text ahead of another one, or the same? -/
def leB (a b : ByteArray) : Bool := Op.bytesLess a.toList b.toList || a.toList == b.toList
def keyB (s : ByteArray) : Bool := decide (1 ≤ s.size) && decide (s.size ≤ 16)
theorem bytes_nil (s : ByteArray) : (s.toList == []) = decide (s.size = 0) := by
  have hl : s.toList.length = s.size := by rw [ByteArray.toList_eq]; simp
  cases h : s.toList with
  | nil => rw [h] at hl; simp at hl; simp [← hl]
  | cons a r => rw [h] at hl; simp at hl; have : ¬ s.size = 0 := by omega
                simp [this]
theorem key_any {W : World} (s : ByteArray) : Calls Try.prog 35 #[.string s] W fun e W' => e = .returned (.bool (keyB s)) ∧ W' = W := by
  have hn := bytes_nil s
  unfold keyB
  by_cases h : s.size = 0
  · rw [decide_eq_true h] at hn
    rw [decide_eq_false (show ¬ 1 ≤ s.size by omega), Bool.false_and]
    go_enter Try.func35, Try.ntmps35
    go_wp2
    go_ret
    exact ⟨rfl, rfl⟩
  · rw [decide_eq_false h] at hn
    rw [decide_eq_true (show 1 ≤ s.size by omega), Bool.true_and]
    by_cases h2 : s.size ≤ 16
    · have h3 : (s.size : Int) ≤ 16 := by omega
      rw [decide_eq_true h2]
      go_enter Try.func35, Try.ntmps35
      go_wp2
      go_ret
      exact ⟨rfl, rfl⟩
    · have h3 : ¬ (s.size : Int) ≤ 16 := by omega
      rw [decide_eq_false h2]
      go_enter Try.func35, Try.ntmps35
      go_wp2
      go_ret
      exact ⟨rfl, rfl⟩

theorem below_dN {B : Nat} {a w : World} (h : Below B a w) (n : Nat) : Below B a (w.drewN n) := ⟨h.os, h.tape, h.output, h.size, h.block⟩
def lowAt (K : List Kid) (i : Nat) : ByteArray := (K[i]?.map (·.1)).getD ⟨#[]⟩
def pageAt (K : List Kid) (i : Nat) : Int := (K[i]?.map (·.2)).getD 0
def okAt (K : List Kid) (i : Nat) : Bool := pageB (pageAt K i) && (decide (i = 0) || (keyB (lowAt K i) && !leB (lowAt K i) (lowAt K (i - 1))))
/-- May kids be? -/
def rightB (K : List Kid) : Bool := decide (1 ≤ K.length) && decide (K.length ≤ 1024) && decide ((lowAt K 0).size = 0) && (List.range K.length).all (okAt K)
theorem kid_at {K : List Kid} {i : Nat} (h : i < K.length) : K[i]? = some (lowAt K i, pageAt K i) := by
  unfold lowAt pageAt
  rw [List.getElem?_eq_getElem h]
  rfl
theorem right_no {K : List Kid} {i : Nat} (h : i < K.length) (ho : okAt K i = false) : rightB K = false := by
  have : (List.range K.length).all (okAt K) = false := by
    rw [List.all_eq_false]
    exact ⟨i, List.mem_range.2 h, by rw [ho]; simp⟩
  unfold rightB
  rw [this, Bool.and_false]

set_option maxHeartbeats 2000000 in
set_option maxRecDepth 100000 in
theorem right_any {W : World} {v : Value} {K : List Kid} (h : RdK W W.heap.size v K) :
    Calls Try.prog 16 #[v] W fun e W' => e = .returned (.bool (rightB K)) ∧ Below W.heap.size W W' := by
  obtain ⟨ad, cap, rfl, hl, hm⟩ := h.shape
  have HD := hid h
  unfold maxLen at hm
  clear h
  by_cases h0 : K.length = 0
  · have hr : rightB K = false := by unfold rightB; rw [decide_eq_false (show ¬ 1 ≤ K.length by omega)]; rfl
    rw [hr]
    go_enter Try.func16, Try.ntmps16
    go_wp2
    go_ret
    exact ⟨rfl, Below.refl _ _⟩
  · by_cases h1 : (K.length : Int) ≤ 1024
    · obtain ⟨g, off, rfl, hg, hc0, hc1⟩ := HD.out.at_ (kid_at (K := K) (i := 0) (by omega))
      simp only [Nat.zero_mul, Nat.add_zero] at hc0 hc1
      have hn := bytes_nil (lowAt K 0)
      by_cases h2 : (lowAt K 0).size = 0
      · rw [decide_eq_true h2] at hn
        have HR := hid (show rightB K = (List.range K.length).all (okAt K) by
          unfold rightB
          rw [decide_eq_true (show 1 ≤ K.length by omega), decide_eq_true (show K.length ≤ 1024 by omega), decide_eq_true h2]
          rfl)
        clear h2
        have h0i : ((K.length : Int) == 0) = false := by simpa using h0
        have h1i : decide ((1024 : Int) < (K.length : Int)) = false := by simpa using h1
        go_enter Try.func16, Try.ntmps16
        go_wp2
        go_loopg [22] K.length (fun g' i wr => ∃ j : Nat, i = .int .i64 j ∧ g' + j = K.length ∧ (∀ x, x < j → okAt K x = true) ∧ Below W.heap.size W wr)
        case atStart => exact ⟨0, rfl, rfl, fun x h => by omega, Below.refl _ _⟩
        case round =>
          obtain ⟨j, rfl, hgj, hok, hb⟩ := hrel
          have HG := hid hgj
          have HO := hid hok
          have HB := hid hb
          have HB2 := hid (hb.alloc hb.size (.cells #[.string (lowAt K j), .int .i64 (pageAt K j)] 57))
          have hjl : j ≤ K.length := by omega
          clear hgj hok hc0 hc1
          by_cases hj : j < K.length
          · have hji : (j : Int) < (K.length : Int) := by omega
            obtain ⟨g', off', e', hg', hc0, hc1⟩ := HD.out.at_ (kid_at hj)
            simp only [Option.some.injEq, Addr.mk.injEq] at e'
            obtain ⟨rfl, rfl, _⟩ := e'
            have hd0 := (hb.cell (p := ⟨g, off + j * 2, none⟩) hg).trans hc0
            have hd1 := (hb.cell (p := ⟨g, off + j * 2 + 1, none⟩) hg).trans hc1
            have HPG := fun w => hid (page_any (W := w) (pageAt K j))
            have HKY := fun w => hid (key_any (W := w) (lowAt K j))
            have HOK := hid (show okAt K j = (pageB (pageAt K j) && (decide (j = 0) || (keyB (lowAt K j) && !leB (lowAt K j) (lowAt K (j - 1))))) from rfl)
            clear hc0 hc1 hb
            cases hpg : pageB (pageAt K j) with
            | false =>
              rw [hpg] at HPG HOK
              have HNO := hid (right_no hj (by rw [HOK.out]; rfl))
              clear hpg
              go_wp2
              go_quiet (first
                | (go_at_call 34; exact Calls.quiet_of_same (HPG _).out)
                | (go_at_call 35; exact Calls.quiet_of_same (HKY _).out))
              go_wp2
              go_ret
              rw [HNO.out]
              exact ⟨rfl, below_dN HB2.out _⟩
            | true =>
              rw [hpg, Bool.true_and] at HOK
              rw [hpg] at HPG
              clear hpg
              by_cases hj0 : j = 0
              · have hj0i : ¬ (0 : Int) < (j : Int) := by omega
                have hj0b : decide ((0 : Int) < (j : Int)) = false := by simpa using hj0i
                have HT := hid (show okAt K j = true by rw [HOK.out, decide_eq_true hj0]; rfl)
                have hj0c : decide (0 < j) = false := by simpa using hj0
                clear hj0 hj0i hj0b
                go_wp2
                go_quiet (first
                  | (go_at_call 34; exact Calls.quiet_of_same (HPG _).out)
                  | (go_at_call 35; exact Calls.quiet_of_same (HKY _).out))
                go_wp2
                have hg := HG.out
                go_roundg (gk - 1)
                case measure => omega
                case rel => exact ⟨j + 1, by go_num, by omega, fun x hx => by
                  by_cases hxj : x = j
                  · rw [hxj]; exact HT.out
                  · exact HO.out x (by omega), below_dN HB2.out _⟩
              · have hj0i : (0 : Int) < (j : Int) := by omega
                have hj0b : decide ((0 : Int) < (j : Int)) = true := by simpa using hj0i
                obtain ⟨j', rfl⟩ : ∃ j', j = j' + 1 := ⟨j - 1, by omega⟩
                rw [decide_eq_false hj0, Bool.false_or, Nat.add_sub_cancel] at HOK
                obtain ⟨g', off', e', _, hp0, _⟩ := HD.out.at_ (kid_at (K := K) (i := j') (by omega))
                simp only [Option.some.injEq, Addr.mk.injEq] at e'
                obtain ⟨rfl, rfl, _⟩ := e'
                have hq0 := (HB2.out.cell (p := ⟨g, off + j' * 2, none⟩) hg).trans hp0
                have hsub : ((j' + 1 : Nat) : Int) - 1 = (j' : Int) := by omega
                clear hp0
                have HJL := hid hj
                cases hky : keyB (lowAt K (j' + 1)) with
                | false =>
                  rw [hky] at HKY HOK
                  have HNO := hid (right_no hj (by rw [HOK.out]; rfl))
                  clear hky hj0
                  go_wp2
                  go_quiet (first
                    | (go_at_call 34; exact Calls.quiet_of_same (HPG _).out)
                    | (go_at_call 35; exact Calls.quiet_of_same (HKY _).out))
                  go_wp2
                  go_ret
                  rw [HNO.out]
                  exact ⟨rfl, below_dN HB2.out _⟩
                | true =>
                  rw [hky] at HKY HOK
                  clear hky hj0
                  have hle : leB (lowAt K (j' + 1)) (lowAt K j') = (Op.bytesLess (lowAt K (j' + 1)).toList (lowAt K j').toList || (lowAt K (j' + 1)).toList == (lowAt K j').toList) := rfl
                  cases hl : leB (lowAt K (j' + 1)) (lowAt K j') with
                  | true =>
                    rw [hl] at hle HOK
                    have HNO := hid (right_no hj (by rw [HOK.out]; rfl))
                    have hle2 := hle.symm
                    clear hl hle
                    go_wp2
                    go_quiet (first
                      | (go_at_call 34; exact Calls.quiet_of_same (HPG _).out)
                      | (go_at_call 35; exact Calls.quiet_of_same (HKY _).out))
                    go_wp2
                    go_ret
                    rw [HNO.out]
                    exact ⟨rfl, below_dN HB2.out _⟩
                  | false =>
                    rw [hl] at hle HOK
                    have HT := hid (show okAt K (j' + 1) = true by rw [HOK.out]; rfl)
                    have hle2 := hle.symm
                    clear hl hle
                    go_wp2
                    go_quiet (first
                      | (go_at_call 34; exact Calls.quiet_of_same (HPG _).out)
                      | (go_at_call 35; exact Calls.quiet_of_same (HKY _).out))
                    go_wp2
                    have hg := HG.out
                    go_roundg (gk - 1)
                    case measure => omega
                    case rel => exact ⟨j' + 1 + 1, by go_num, by omega, fun x hx => by
                      by_cases hxj : x = j' + 1
                      · rw [hxj]; exact HT.out
                      · exact HO.out x (by omega), below_dN HB2.out _⟩
          · have hji : ¬ (j : Int) < (K.length : Int) := by omega
            have HA := hid (show rightB K = true by
              rw [HR.out, List.all_eq_true]
              intro x hx
              exact HO.out x (by have := List.mem_range.1 hx; omega))
            go_wp2
            go_ret
            rw [HA.out]
            exact ⟨rfl, HB.out⟩
      · rw [decide_eq_false h2] at hn
        have hr : rightB K = false := by
          unfold rightB
          rw [decide_eq_false h2, Bool.and_false, Bool.false_and]
        rw [hr]
        have h0i : ((K.length : Int) == 0) = false := by simpa using h0
        have h1i : decide ((1024 : Int) < (K.length : Int)) = false := by simpa using h1
        clear h2
        go_enter Try.func16, Try.ntmps16
        go_wp2
        go_ret
        exact ⟨rfl, Below.refl _ _⟩
    · have hr : rightB K = false := by
        unfold rightB
        rw [decide_eq_false (show ¬ K.length ≤ 1024 by omega), Bool.and_false, Bool.false_and, Bool.false_and]
      rw [hr]
      have h0i : ((K.length : Int) == 0) = false := by simpa using h0
      have h1i : decide ((1024 : Int) < (K.length : Int)) = true := by simpa using h1
      go_enter Try.func16, Try.ntmps16
      go_wp2
      go_ret
      exact ⟨rfl, Below.refl _ _⟩
end Go.Proofs.Ytfoidiebdklggaa
