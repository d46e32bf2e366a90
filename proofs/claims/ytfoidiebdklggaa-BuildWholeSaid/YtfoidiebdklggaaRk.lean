/-
  What the document's Right says of kids: by a contract, the same as the program's.
-/
import Derived.Test.YtfoidiebdklggaaRr
import Derived.Test.YtfoidiebdklggaaRf
open Go Go.RowKit
namespace Go.Proofs.Ytfoidiebdklggaa

theorem less_flip : ∀ (a b : List UInt8), Op.bytesLess a b = !(Op.bytesLess b a || b == a) := by
  intro a
  induction a with
  | nil => intro b; cases b <;> simp [Op.bytesLess]
  | cons x a ih =>
    intro b
    cases b with
    | nil => simp [Op.bytesLess]
    | cons y b =>
      simp only [Op.bytesLess, ih b]
      by_cases h1 : x < y
      · have h2 : ¬ y < x := by rw [UInt8.lt_iff_toNat_lt] at *; omega
        have h3 : ¬ y = x := by intro e; subst e; exact h2 h1
        simp [h1, h2, h3]
      · by_cases h2 : y < x
        · have h3 : ¬ x = y := by intro e; subst e; exact h1 h2
          simp [h1, h2, h3]
        · have h3 : x = y := by
            apply UInt8.toNat_inj.1
            rw [UInt8.lt_iff_toNat_lt] at *
            omega
          subst h3
          simp [h1]
theorem lt_le (a b : ByteArray) : ltS a b = !leB b a := less_flip _ _

def rokAt (K : List Kid) (i : Nat) : Bool := pageB (pageAt K i) && if i = 0 then decide ((lowAt K 0).size = 0) else keyB (lowAt K i) && ltS (lowAt K (i - 1)) (lowAt K i)
theorem rok_eq (K : List Kid) (h : 1 ≤ K.length) : (decide ((lowAt K 0).size = 0) && (List.range K.length).all (okAt K)) = (List.range K.length).all (rokAt K) := by
  rw [Bool.eq_iff_iff]
  simp only [Bool.and_eq_true, decide_eq_true_eq, List.all_eq_true, List.mem_range]
  constructor
  · rintro ⟨h0, ha⟩ i hi
    have hb := ha i hi
    unfold okAt at hb
    unfold rokAt
    by_cases hz : i = 0
    · subst hz
      rw [if_pos rfl, decide_eq_true h0]
      simpa using hb
    · rw [if_neg hz, lt_le]
      simpa [hz] using hb
  · intro ha
    have h0 := ha 0 (by omega)
    unfold rokAt at h0
    simp only [Bool.and_eq_true, decide_eq_true_eq, if_pos] at h0
    refine ⟨h0.2, fun i hi => ?_⟩
    have hb := ha i hi
    unfold rokAt at hb
    unfold okAt
    by_cases hz : i = 0
    · subst hz
      simpa using h0.1
    · rw [if_neg hz, lt_le] at hb
      simpa [hz] using hb
theorem right_eq (K : List Kid) : rightB K = (decide (1 ≤ K.length) && decide (K.length ≤ 1024) && (List.range K.length).all (rokAt K)) := by
  unfold rightB
  by_cases h : 1 ≤ K.length
  · rw [Bool.and_assoc, rok_eq K h]
  · rw [decide_eq_false h]
    rfl
theorem rright_no {K : List Kid} {i : Nat} (h : i < K.length) (ho : rokAt K i = false) : rightB K = false := by
  rw [right_eq, List.all_eq_false.2 ⟨i, List.mem_range.2 h, by rw [ho]; simp⟩, Bool.and_false]
theorem kid_fair {K : List Kid} (hf : ∀ k ∈ K, k.1.size ≤ 1000) (i : Nat) : (lowAt K i).size ≤ 1000 := by
  unfold lowAt
  cases h : K[i]? with
  | none => show (0 : Nat) ≤ 1000; omega
  | some k => exact hf k (List.mem_of_getElem? h)

set_option maxHeartbeats 6400000 in
set_option maxRecDepth 100000 in
theorem rright_any {W : World} {v : Value} {K : List Kid} (h : RdK W W.heap.size v K) (hf : ∀ k ∈ K, k.1.size ≤ 1000) :
    Calls Try.prog 17 #[v] W fun e W' => e = .returned (.bool (rightB K)) ∧ Below W.heap.size W W' := by
  obtain ⟨ad, cap, rfl, hl, hm⟩ := h.shape
  have HD := hid h
  have HF := hid hf
  unfold maxLen at hm
  clear h hf
  go_enter Try.func17, Try.ntmps17
  go_wp2
  go_loopg [3] K.length (fun g' i wr => ∃ j q : Nat, i = .int .i64 j ∧ g' + j = K.length ∧ (∀ y, y < j → rokAt K y = true) ∧ wr = W.drewN q)
  case atStart => exact ⟨0, 0, rfl, rfl, fun y hy => by omega, rfl⟩
  case round =>
    obtain ⟨i, q, rfl, hgi, hok, hwr⟩ := hrel
    have HG := hid hgi
    have HO := hid hok
    have hil : i ≤ K.length := by omega
    clear hgi hok
    by_cases hi : i < K.length
    · have hii : (i : Int) < (K.length : Int) := by omega
      have HI := hid hi
      obtain ⟨gb, off, rfl, _, hc0, hc1⟩ := HD.out.at_ (kid_at hi)
      have hsz0 := kid_fair HF.out i
      have HOK := hid (show rokAt K i = (pageB (pageAt K i) && if i = 0 then decide ((lowAt K 0).size = 0) else keyB (lowAt K i) && ltS (lowAt K (i - 1)) (lowAt K i)) from rfl)
      obtain ⟨s, hs⟩ : ∃ s, lowAt K i = s := ⟨_, rfl⟩
      obtain ⟨y, hy⟩ : ∃ y, pageAt K i = y := ⟨_, rfl⟩
      rw [hs] at hc0 hsz0
      rw [hy] at hc1 HOK
      have hd0 : wr.cell? ⟨gb, off + i * 2, none⟩ = some (.string s) := by rw [hwr]; exact hc0
      have hd1 : wr.cell? ⟨gb, off + i * 2 + 1, none⟩ = some (.int .i64 y) := by rw [hwr]; exact hc1
      have HWR := hid hwr
      have HKY := fun w => hid (rkey_any (W := w) s (by omega))
      have HPG := hid (show pageB y = (decide (0 ≤ y) && decide (y < 1024)) from rfl)
      have HS := hid hs
      have hszi : (s.size : Int) ≤ 1000 := by omega
      clear hwr hc0 hc1 hy hi
      by_cases hy0 : 0 ≤ y
      · by_cases hy1 : y ≤ 1023
        · have hp0 : decide (y < 0) = false := by simp; omega
          have hp1 : decide (1023 < y) = false := by simp; omega
          rw [HPG.out, decide_eq_true hy0, decide_eq_true (show y < 1024 by omega), Bool.and_self, Bool.true_and] at HOK
          clear HPG
          by_cases hz : i = 0
          · have hd : decide (0 < i) = false := by simpa using hz
            have hd' : decide ((0 : Int) < (i : Int)) = false := by simpa using hz
            have he : (i == 0) = true := by simpa using hz
            have he' : ((i : Int) == 0) = true := by simpa using hz
            have hnn := bytes_nil s
            rw [if_pos hz, show lowAt K 0 = s by rw [← hz]; exact hs] at HOK
            clear hz
            by_cases hs0 : s.size = 0
            · rw [decide_eq_true hs0] at HOK hnn
              clear hs hs0
              have HT := hid HOK.out
              go_wp2
              go_quiet (fail)
              go_wp2
              have hg := HG.out
              have hI := HI.out
              go_roundg (gk - 1)
              case measure => omega
              case rel => exact ⟨i + 1, q + nq, by go_num, by omega, fun z hz => by
                by_cases hzi : z = i
                · rw [hzi]; exact HT.out
                · exact HO.out z (by omega), by rw [HWR.out, World.drewN_drewN]⟩
            · rw [decide_eq_false hs0] at HOK hnn
              have HNO := hid (rright_no HI.out HOK.out)
              clear hs hs0
              go_wp2
              go_ret
              rw [HNO.out]
              exact ⟨rfl, by rw [HWR.out]; exact below_dN (Below.refl _ _) _⟩
          · obtain ⟨j, rfl⟩ : ∃ j, i = j + 1 := ⟨i - 1, by omega⟩
            have hd : decide (0 < j + 1) = true := by simp
            have hd' : decide ((0 : Int) < ((j + 1 : Nat) : Int)) = true := by rw [decide_eq_true_eq]; omega
            have he : (j + 1 == 0) = false := by simp
            have he' : (((j + 1 : Nat) : Int) == 0) = false := by simp; omega
            have hsub : ((j + 1 : Nat) : Int) - 1 = (j : Int) := by omega
            have hji : (j : Int) < (K.length : Int) := by omega
            obtain ⟨gb', off', e', _, hp0', _⟩ := HD.out.at_ (kid_at (K := K) (i := j) (by omega))
            simp only [Option.some.injEq, Addr.mk.injEq] at e'
            obtain ⟨rfl, rfl, _⟩ := e'
            have hszp0 := kid_fair HF.out j
            rw [if_neg hz, Nat.add_sub_cancel, hs] at HOK
            obtain ⟨p, hpp⟩ : ∃ p, lowAt K j = p := ⟨_, rfl⟩
            rw [hpp] at hp0' hszp0 HOK
            have hszpi : (p.size : Int) ≤ 1000 := by omega
            have hdp : wr.cell? ⟨gb, off + j * 2, none⟩ = some (.string p) := by rw [HWR.out]; exact hp0'
            have HL1 := fun n => hid (rless_any (W := wr.drewN n) p s (by omega) (by omega))
            rw [show Op.bytesLess p.toList s.toList = ltS p s from rfl] at HL1
            clear hp0' hpp hs hz hszp0 hsz0
            cases hky : keyB s with
            | false =>
              rw [hky] at HKY HOK
              have HNO := hid (rright_no HI.out HOK.out)
              clear hky
              go_wp2_with (go_at_call 28; ((with_reducible refine (HKY _).out.mono ?_)); rintro e w' ⟨rfl, hw⟩; obtain rfl : wr = w' := hw.symm)
              go_ret
              rw [HNO.out]
              exact ⟨rfl, by rw [HWR.out]; exact below_dN (Below.refl _ _) _⟩
            | true =>
              rw [hky, Bool.true_and] at HOK
              rw [hky] at HKY
              clear hky
              cases hlt : ltS p s with
              | false =>
                rw [hlt] at HL1 HOK
                have HNO := hid (rright_no HI.out HOK.out)
                clear hlt
                go_wp2_with (go_at_call 28; ((with_reducible refine (HKY _).out.mono ?_)); rintro e w' ⟨rfl, hw⟩; obtain rfl : wr = w' := hw.symm)
                go_quiet (first | (go_at_call 36; with_reducible exact Calls.quiet_of (HL1 _).out) | fail)
                go_wp2
                go_ret
                rw [HNO.out]
                exact ⟨rfl, by rw [HWR.out]; exact below_dN (below_dN (Below.refl _ _) _) _⟩
              | true =>
                rw [hlt] at HL1 HOK
                have HT := hid HOK.out
                clear hlt
                go_wp2_with (go_at_call 28; ((with_reducible refine (HKY _).out.mono ?_)); rintro e w' ⟨rfl, hw⟩; obtain rfl : wr = w' := hw.symm)
                go_quiet (first | (go_at_call 36; with_reducible exact Calls.quiet_of (HL1 _).out) | fail)
                go_wp2
                have hg := HG.out
                have hI := HI.out
                go_roundg (gk - 1)
                case measure => omega
                case rel => exact ⟨j + 1 + 1, q + nq, by go_num, by omega, fun z hz => by
                  by_cases hzi : z = j + 1
                  · rw [hzi]; exact HT.out
                  · exact HO.out z (by omega), by rw [HWR.out, World.drewN_drewN]⟩
        · have hp0 : decide (y < 0) = false := by simp; omega
          have hp1 : decide (1023 < y) = true := by simp; omega
          have HNO := hid (rright_no HI.out (by rw [HOK.out, HPG.out, decide_eq_false (show ¬ y < 1024 by omega), Bool.and_false]; rfl))
          clear hs
          go_wp2
          go_ret
          rw [HNO.out]
          exact ⟨rfl, by rw [HWR.out]; exact below_dN (Below.refl _ _) _⟩
      · have hp0 : decide (y < 0) = true := by simp; omega
        have HNO := hid (rright_no HI.out (by rw [HOK.out, HPG.out, decide_eq_false hy0]; rfl))
        clear hs
        go_wp2
        go_ret
        rw [HNO.out]
        exact ⟨rfl, by rw [HWR.out]; exact below_dN (Below.refl _ _) _⟩
    · have hii : ¬ (i : Int) < (K.length : Int) := by omega
      have hall := hid (show (List.range K.length).all (rokAt K) = true from List.all_eq_true.2 (fun y hy => HO.out y (by have := List.mem_range.1 hy; omega)))
      clear hi
      by_cases h1 : (1 : Int) ≤ (K.length : Int)
      · by_cases h2 : (K.length : Int) ≤ 1024
        · have HR := hid (show rightB K = true by rw [right_eq, hall.out, Bool.and_true, decide_eq_true (show 1 ≤ K.length by omega), decide_eq_true (show K.length ≤ 1024 by omega)]; rfl)
          go_wp2
          go_ret
          rw [HR.out]
          exact ⟨rfl, below_dN (Below.refl _ _) _⟩
        · have HR := hid (show rightB K = false by rw [right_eq, decide_eq_false (show ¬ K.length ≤ 1024 by omega), Bool.and_false]; rfl)
          go_wp2
          go_ret
          rw [HR.out]
          exact ⟨rfl, below_dN (Below.refl _ _) _⟩
      · have HR := hid (show rightB K = false by rw [right_eq, decide_eq_false (show ¬ 1 ≤ K.length by omega)]; rfl)
        go_wp2
        go_ret
        rw [HR.out]
        exact ⟨rfl, below_dN (Below.refl _ _) _⟩
end Go.Proofs.Ytfoidiebdklggaa
