/-
  What page, Size, Right of the document's layer 11 do, by contracts.
-/
import Derived.Test.YtfoidiebdklggaaLs
import Derived.Deep.RegionHeld3
import Derived.Deep.QuietTactic
import Derived.Test.YtfoidiebdklggaaGp
open Go Go.RowKit
namespace Go.Proofs.Ytfoidiebdklggaa

theorem page11_any {W : World} (n : Int) : Calls Try.prog 38 #[.int .i64 n] W fun e W' => e = .returned (.bool (pageB n)) ∧ W' = W := by
  unfold pageB
  by_cases h : 0 ≤ n
  · rw [decide_eq_true h, Bool.true_and]
    by_cases h2 : n ≤ 1023
    · rw [decide_eq_true (show n < 1024 by omega)]
      go_enter Try.func38, Try.ntmps38
      go_wp2
      go_ret
      exact ⟨rfl, rfl⟩
    · rw [decide_eq_false (show ¬ n < 1024 by omega)]
      go_enter Try.func38, Try.ntmps38
      go_wp2
      go_ret
      exact ⟨rfl, rfl⟩
  · rw [decide_eq_false h, Bool.false_and]
    go_enter Try.func38, Try.ntmps38
    go_wp2
    go_ret
    exact ⟨rfl, rfl⟩

def sizeTo (g : Pg) (j : Nat) : Nat := 7 + g.high.size + ((g.seps.take j).map fun s => 3 + s.size).sum
def sizeP (g : Pg) : Nat := sizeTo g g.seps.length
/-- No text is long, nor are there many. -/
structure Pg.fair (g : Pg) : Prop where
  s1 : ∀ s ∈ g.seps, s.size ≤ 1000
  s2 : g.seps.length ≤ 1100
  s3 : g.high.size ≤ 1000
  s4 : g.kids.length ≤ 1100
theorem sizeTo_le {g : Pg} (h : g.fair) : ∀ j, sizeTo g j ≤ 7 + 1000 + j * 1003 := by
  intro j
  unfold sizeTo
  have h3 := h.s3
  have : ((g.seps.take j).map fun s => 3 + s.size).sum ≤ j * 1003 := by
    have h1 := h.s1
    generalize g.seps = l at *
    induction l generalizing j with
    | nil => simp
    | cons a r ih =>
      cases j with
      | zero => simp
      | succ j =>
        have ha := h1 a (by simp)
        have := ih j (fun s hs => h1 s (by simp [hs]))
        simp only [List.take_succ_cons, List.map_cons, List.sum_cons, Nat.add_mul]
        omega
  omega
theorem sizeTo_succ {g : Pg} {j : Nat} {s : ByteArray} (h : g.seps[j]? = some s) : sizeTo g (j + 1) = sizeTo g j + 3 + s.size := by
  unfold sizeTo
  rw [List.take_add_one, h, List.map_append, List.sum_append]
  simp
  omega
theorem Pg.fair.at_ {g : Pg} (h : g.fair) {j : Nat} {s : ByteArray} (hs : g.seps[j]? = some s) : s.size ≤ 1000 := h.s1 s (List.mem_of_getElem? hs)

set_option maxHeartbeats 2000000 in
set_option maxRecDepth 100000 in
theorem size_any {W : World} {vs vk : Value} {g : Pg} {B : Nat} (h : RdS W W.heap.size vs g.seps) (hk : RdI W B vk g.kids) (hf : g.fair) :
    Calls Try.prog 39 #[.agg #[vs, vk, .string g.high, .int .i64 g.next]] W fun e W' => e = .returned (.int .i64 (sizeP g : Nat)) ∧ Below W.heap.size W W' := by
  obtain ⟨a, cap, rfl, hl1, hm⟩ := h.shape
  obtain ⟨ka, kn, kc, rfl⟩ : ∃ a n c, vk = .slice a n c := by
    obtain ⟨a, c, e, _⟩ := hk.shape
    exact ⟨a, _, c, e⟩
  have hb := (Below.refl W.heap.size W).alloc (Nat.le_refl _) (.cells #[.slice a g.seps.length cap, .slice ka kn kc, .string g.high, .int .i64 g.next] 44)
  have HB := hid hb
  have HS := hid (RdS.below h hb)
  have hblk := Blk.new W 44 #[.slice a g.seps.length cap, .slice ka kn kc, .string g.high, .int .i64 g.next]
  have c0 := hblk.cell 0
  have c2 := hblk.cell 2
  simp only [List.getElem?_toArray, List.getElem?_cons_zero, List.getElem?_cons_succ] at c0 c2
  have hsl := hid (sizeTo_le hf)
  have h2 := hf.s2
  have h3 := hf.s3
  have HF := hid hf
  have hz := hid (show sizeTo g 0 = 7 + g.high.size by simp [sizeTo])
  have hhi : (g.high.size : Int) ≤ 1000 := by omega
  unfold maxLen at hm
  clear h hk hb hblk hf
  go_enter Try.func39, Try.ntmps39
  go_wp2
  generalize W.alloc (.cells #[.slice a g.seps.length cap, .slice ka kn kc, .string g.high, .int .i64 g.next] 44) = w1 at *
  go_loopg [3, 4] g.seps.length (fun g' k i wr => ∃ j : Nat, i = .int .i64 j ∧ k = .int .i64 (sizeTo g j : Nat) ∧ g' + j = g.seps.length ∧ w1 = wr)
  case atStart => exact ⟨0, rfl, by rw [hz.out]; go_num, rfl, rfl⟩
  case round =>
    obtain ⟨j, rfl, rfl, hgj, rfl⟩ := hrel
    have HG := hid hgj
    have hjl : j ≤ g.seps.length := by omega
    have hsj := hsl.out j
    have hsji : ((sizeTo g j : Nat) : Int) ≤ 2000000 := by omega
    have hsj0 : (0 : Int) ≤ ((sizeTo g j : Nat) : Int) := Int.natCast_nonneg _
    clear hgj hsj
    by_cases hj : j < g.seps.length
    · have hji : (j : Int) < (g.seps.length : Int) := by omega
      obtain ⟨gb, off, rfl, _, hc⟩ := HS.out.at_ (List.getElem?_eq_getElem hj)
      have HSU := hid (sizeTo_succ (List.getElem?_eq_getElem hj))
      have hsz := HF.out.at_ (List.getElem?_eq_getElem hj)
      generalize g.seps[j] = s at *
      have hszi : (s.size : Int) ≤ 1000 := by omega
      generalize hzz : sizeTo g j = z at *
      go_wp2
      have hg := HG.out
      go_roundg (gk - 1)
      case measure => omega
      case rel => exact ⟨j + 1, by go_num, by rw [HSU.out]; go_num, by omega, rfl⟩
    · have hji : ¬ (j : Int) < (g.seps.length : Int) := by omega
      have hjl2 : j = g.seps.length := by omega
      go_wp2
      go_ret
      exact ⟨rfl, HB.out⟩

theorem RdP.agg {w : World} {B : Nat} {x : Value} {g : Pg} (h : RdP w B x g) : ∃ sa sn sc ka kn kc, x = .agg #[.slice sa sn sc, .slice ka kn kc, .string g.high, .int .i64 g.next] ∧ RdS w B (.slice sa sn sc) g.seps ∧ RdI w B (.slice ka kn kc) g.kids := by
  obtain ⟨vs, vk, rfl, hs, hk⟩ := h
  obtain ⟨a, c, rfl, _⟩ := hs.shape
  obtain ⟨a', c', rfl, _⟩ := hk.shape
  exact ⟨a, _, c, a', _, c', rfl, hs, hk⟩
def lowS (g : Pg) (i : Nat) : ByteArray := (g.seps[i]?).getD ⟨#[]⟩
def ltS (a b : ByteArray) : Bool := Op.bytesLess a.toList b.toList
def sepOk (g : Pg) (i : Nat) : Bool := keyB (lowS g i) && (decide (i = 0) || ltS (lowS g (i - 1)) (lowS g i)) && (decide (g.high.size = 0) || ltS (lowS g i) g.high)
/-- May an inner page be? -/
def endOk (g : Pg) : Bool := decide (g.kids.length = g.seps.length + 1) && decide (g.high.size ≤ 16) && decide (0 ≤ g.next) && decide (g.next ≤ 1024) && decide (sizeP g - g.high.size ≤ 236)
def pgRight (g : Pg) : Bool := !anyOdd g.kids && (List.range g.seps.length).all (sepOk g) && endOk g
theorem lowS_at {g : Pg} {i : Nat} (h : i < g.seps.length) : g.seps[i]? = some (lowS g i) := by
  unfold lowS
  rw [List.getElem?_eq_getElem h]
  rfl
theorem sizeP_ge (g : Pg) : g.high.size ≤ sizeP g := by unfold sizeP sizeTo; omega

set_option maxHeartbeats 12800000 in
set_option maxRecDepth 100000 in
theorem right11_any {W : World} {x : Value} {g : Pg} (h : RdP W W.heap.size x g) (hf : g.fair) :
    Calls Try.prog 26 #[x] W fun e W' => e = .returned (.bool (pgRight g)) ∧ Below W.heap.size W W' := by
  obtain ⟨sa, sn, sc, ka, kn, kc, rfl, hs, hk⟩ := h.agg
  have hb := (Below.refl W.heap.size W).alloc (Nat.le_refl _) (.cells #[.slice sa sn sc, .slice ka kn kc, .string g.high, .int .i64 g.next] 44)
  have HB := hid hb
  have HS := hid ((RdS.below hs hb).more hb.size)
  have HK := hid ((RdI.below hk hb).more hb.size)
  obtain ⟨_, _, e1, hl1, hm1⟩ := hs.shape
  simp only [Value.slice.injEq] at e1
  obtain ⟨rfl, rfl, rfl⟩ := e1
  obtain ⟨_, _, e2, hl2, hm2⟩ := hk.shape
  simp only [Value.slice.injEq] at e2
  obtain ⟨rfl, rfl, rfl⟩ := e2
  have hblk := Blk.new W 44 #[.slice sa g.seps.length sc, .slice ka g.kids.length kc, .string g.high, .int .i64 g.next]
  have c0 := hblk.cell 0
  have c1 := hblk.cell 1
  have c2 := hblk.cell 2
  have c3 := hblk.cell 3
  simp only [List.getElem?_toArray, List.getElem?_cons_zero, List.getElem?_cons_succ] at c0 c1 c2 c3
  have h2 := hf.s2
  have h3 := hf.s3
  have h4 := hf.s4
  have HF := hid hf
  have hhi : (g.high.size : Int) ≤ 1000 := by omega
  have HR := hid (show pgRight g = (!anyOdd g.kids && (List.range g.seps.length).all (sepOk g) && endOk g) from rfl)
  unfold maxLen at hm1 hm2
  have hlt := hblk.lt
  clear h hs hk hb hblk hf
  go_enter Try.func26, Try.ntmps26
  go_wp2
  generalize W.alloc (.cells #[.slice sa g.seps.length sc, .slice ka g.kids.length kc, .string g.high, .int .i64 g.next] 44) = w1 at *
  go_loopg [3] g.kids.length (fun g' i wr => ∃ j : Nat, i = .int .i64 j ∧ g' + j = g.kids.length ∧ (∀ y ∈ g.kids.take j, pageB y = true) ∧ w1 = wr)
  case atStart => exact ⟨0, rfl, rfl, fun y hy => by simp at hy, rfl⟩
  case round =>
    obtain ⟨j, rfl, hgj, hok, rfl⟩ := hrel
    have HG := hid hgj
    have HO := hid hok
    have hjl : j ≤ g.kids.length := by omega
    clear hgj hok
    by_cases hj : j < g.kids.length
    · have hji : (j : Int) < (g.kids.length : Int) := by omega
      obtain ⟨gb, off, rfl, _, hc⟩ := HK.out.at_ (List.getElem?_eq_getElem hj)
      have HT := hid (show g.kids.take (j + 1) = g.kids.take j ++ [g.kids[j]] from List.take_succ_eq_append_getElem hj)
      have HM := hid (show g.kids[j] ∈ g.kids from List.getElem_mem hj)
      generalize g.kids[j] = y at *
      have HPG := fun w => hid (page11_any (W := w) y)
      cases hp : pageB y with
      | true =>
        rw [hp] at HPG
        have HP := hid hp
        clear hp
        go_wp2_with (go_at_call 38; ((with_reducible refine (HPG _).out.mono ?_)); rintro e w' ⟨rfl, hw⟩; obtain rfl : w1 = w' := hw.symm)
        have hg := HG.out
        go_roundg (gk - 1)
        case measure => omega
        case rel => exact ⟨j + 1, by go_num, by omega, fun z hz => by
          rw [HT.out, List.mem_append] at hz
          rcases hz with hz | hz
          · exact HO.out z hz
          · simp at hz; rw [hz]; exact HP.out, rfl⟩
      | false =>
        rw [hp] at HPG
        have HA := hid (show pgRight g = false by
          rw [HR.out, show anyOdd g.kids = true from List.any_eq_true.2 ⟨y, HM.out, by rw [hp]; rfl⟩]
          rfl)
        clear hp
        go_wp2_with (go_at_call 38; ((with_reducible refine (HPG _).out.mono ?_)); rintro e w' ⟨rfl, hw⟩; obtain rfl : w1 = w' := hw.symm)
        go_ret
        rw [HA.out]
        exact ⟨rfl, HB.out⟩
    · have hji : ¬ (j : Int) < (g.kids.length : Int) := by omega
      have HA := hid (show anyOdd g.kids = false by
        unfold anyOdd
        rw [List.any_eq_false]
        intro z hz
        rw [List.take_of_length_le (by omega)] at HO
        rw [HO.out z hz]
        simp)
      have HR2 := hid (show pgRight g = ((List.range g.seps.length).all (sepOk g) && endOk g) by rw [HR.out, HA.out]; rfl)
      clear HA HR HO HG
      go_wp2
      go_loopg [4] g.seps.length (fun g' i wr => ∃ j q : Nat, i = .int .i64 j ∧ g' + j = g.seps.length ∧ (∀ y, y < j → sepOk g y = true) ∧ wr = w1.drewN q)
      case atStart => exact ⟨0, 0, rfl, rfl, fun y hy => by omega, rfl⟩
      case round =>
        obtain ⟨i, q, rfl, hgi, hok, hwr⟩ := hrel
        have HG := hid hgi
        have HO := hid hok
        have hil : i ≤ g.seps.length := by omega
        clear hgi hok
        by_cases hi : i < g.seps.length
        · have hii : (i : Int) < (g.seps.length : Int) := by omega
          have HI := hid hi
          obtain ⟨gb, off, rfl, _, hc⟩ := HS.out.at_ (lowS_at hi)
          have hsz0 := HF.out.at_ (lowS_at hi)
          obtain ⟨s, hs⟩ : ∃ s, lowS g i = s := ⟨_, rfl⟩
          rw [hs] at hc hsz0
          have hszi : (s.size : Int) ≤ 1000 := by omega
          have hsz := hid hsz0
          have d0 : wr.cell? ⟨W.heap.size, 0, none⟩ = some (.slice (some ⟨gb, off, none⟩) g.seps.length sc) := by rw [hwr]; exact c0
          have d2 : wr.cell? ⟨W.heap.size, 2, none⟩ = some (.string g.high) := by rw [hwr]; exact c2
          have hd : wr.cell? ⟨gb, off + i, none⟩ = some (.string s) := by rw [hwr]; exact hc
          have HWR := hid hwr
          have HKY := fun w => hid (rkey_any (W := w) s (by omega))
          have HL2 := fun n => hid (rless_any (W := wr.drewN n) s g.high (by omega) (by omega))
          have HOK := hid (show sepOk g i = (keyB s && (decide (i = 0) || ltS (lowS g (i - 1)) s) && (decide (g.high.size = 0) || ltS s g.high)) by rw [← hs]; rfl)
          have hnh := bytes_nil g.high
          have hl2 : Op.bytesLess s.toList g.high.toList = ltS s g.high := rfl
          rw [hl2] at HL2
          clear hl2 hwr hc hsz0 hs
          cases hky : keyB s with
          | false =>
            rw [hky] at HKY HOK
            clear hky hnh hi
            have HNO := hid (show pgRight g = false by
              rw [HR2.out, List.all_eq_false.2 ⟨i, List.mem_range.2 HI.out, by rw [HOK.out]; simp⟩]
              rfl)
            go_wp2
            go_quiet (first
              | (go_at_call 28; exact Calls.quiet_of_same (HKY _).out)
              | (go_at_call 36; with_reducible exact Calls.quiet_of (HL2 _).out))
            go_wp2
            go_ret
            rw [HNO.out]
            exact ⟨rfl, by rw [HWR.out]; exact below_dN (below_dN HB.out _) _⟩
          | true =>
            rw [hky, Bool.true_and] at HOK
            rw [hky] at HKY
            clear hky
            by_cases hi0 : i = 0
            · have hd : decide (0 < i) = false := by simpa using hi0
              rw [decide_eq_true hi0, Bool.true_or, Bool.true_and] at HOK
              clear hi0 hi
              by_cases hh : g.high.size = 0
              · rw [decide_eq_true hh] at HOK hnh
                clear hh
                have HT := hid (show sepOk g (i) = true by rw [HOK.out]; rfl)
                go_wp2
                go_quiet (first
                  | (go_at_call 28; exact Calls.quiet_of_same (HKY _).out)
                  | (go_at_call 36; with_reducible exact Calls.quiet_of (HL2 _).out))
                go_wp2
                have hg := HG.out
                have hI := HI.out
                go_roundg (gk - 1)
                case measure => omega
                case rel => exact ⟨i + 1, q + nq, by go_num, by omega, fun z hz => by
                  by_cases hzi : z = i
                  · rw [hzi]; exact HT.out
                  · exact HO.out z (by omega), by rw [HWR.out, World.drewN_drewN]⟩
              · rw [decide_eq_false hh] at HOK hnh
                clear hh
                cases hlt2 : ltS s g.high with
                | false =>
                  rw [hlt2] at HL2 HOK
                  clear hlt2
                  have HNO := hid (show pgRight g = false by
                    rw [HR2.out, List.all_eq_false.2 ⟨i, List.mem_range.2 HI.out, by rw [HOK.out]; simp⟩]
                    rfl)
                  go_wp2
                  go_quiet (first
                    | (go_at_call 28; exact Calls.quiet_of_same (HKY _).out)
                    | (go_at_call 36; with_reducible exact Calls.quiet_of (HL2 _).out))
                  go_wp2
                  go_ret
                  rw [HNO.out]
                  exact ⟨rfl, by rw [HWR.out]; exact below_dN (below_dN HB.out _) _⟩
                | true =>
                  rw [hlt2] at HL2 HOK
                  clear hlt2
                  have HT := hid (show sepOk g (i) = true by rw [HOK.out]; rfl)
                  go_wp2
                  go_quiet (first
                    | (go_at_call 28; exact Calls.quiet_of_same (HKY _).out)
                    | (go_at_call 36; with_reducible exact Calls.quiet_of (HL2 _).out))
                  go_wp2
                  have hg := HG.out
                  have hI := HI.out
                  go_roundg (gk - 1)
                  case measure => omega
                  case rel => exact ⟨i + 1, q + nq, by go_num, by omega, fun z hz => by
                    by_cases hzi : z = i
                    · rw [hzi]; exact HT.out
                    · exact HO.out z (by omega), by rw [HWR.out, World.drewN_drewN]⟩

            · have hd : decide (0 < i) = true := by simp; omega
              obtain ⟨j, rfl⟩ : ∃ j, i = j + 1 := ⟨i - 1, by omega⟩
              obtain ⟨gb', off', e', _, hp⟩ := HS.out.at_ (lowS_at (g := g) (i := j) (by omega))
              simp only [Option.some.injEq, Addr.mk.injEq] at e'
              obtain ⟨rfl, rfl, _⟩ := e'
              have hszp0 := HF.out.at_ (lowS_at (g := g) (i := j) (by omega))
              rw [decide_eq_false hi0, Bool.false_or, Nat.add_sub_cancel] at HOK
              obtain ⟨p, hpp⟩ : ∃ p, lowS g j = p := ⟨_, rfl⟩
              rw [hpp] at hp hszp0 HOK
              have hszpi : (p.size : Int) ≤ 1000 := by omega
              have hdp : wr.cell? ⟨gb, off + j, none⟩ = some (.string p) := by rw [HWR.out]; exact hp
              have HL1 := fun n => hid (rless_any (W := wr.drewN n) p s (by omega) (by omega))
              rw [show Op.bytesLess p.toList s.toList = ltS p s from rfl] at HL1
              clear hp hpp hszp0
              have hji : (j : Int) < (g.seps.length : Int) := by omega
              have hsub : ((j + 1 : Nat) : Int) - 1 = (j : Int) := by omega
              clear hi0 hi
              cases hlt1 : ltS p s with
              | false =>
                rw [hlt1] at HL1 HOK
                clear hlt1
                have HNO := hid (show pgRight g = false by
                  rw [HR2.out, List.all_eq_false.2 ⟨j + 1, List.mem_range.2 HI.out, by rw [HOK.out]; simp⟩]
                  rfl)
                go_wp2
                go_quiet (first
                  | (go_at_call 28; exact Calls.quiet_of_same (HKY _).out)
                  | (go_at_call 36; with_reducible exact Calls.quiet_of (HL1 _).out)
                  | (go_at_call 36; with_reducible exact Calls.quiet_of (HL2 _).out))
                go_wp2
                go_ret
                rw [HNO.out]
                exact ⟨rfl, by rw [HWR.out]; exact below_dN (below_dN HB.out _) _⟩
              | true =>
                rw [hlt1, Bool.true_and] at HOK
                rw [hlt1] at HL1
                clear hlt1
                by_cases hh : g.high.size = 0
                · rw [decide_eq_true hh] at HOK hnh
                  clear hh
                  have HT := hid (show sepOk g (j + 1) = true by rw [HOK.out]; rfl)
                  go_wp2
                  go_quiet (first
                    | (go_at_call 28; exact Calls.quiet_of_same (HKY _).out)
                    | (go_at_call 36; with_reducible exact Calls.quiet_of (HL1 _).out)
                    | (go_at_call 36; with_reducible exact Calls.quiet_of (HL2 _).out))
                  go_wp2
                  have hg := HG.out
                  have hI := HI.out
                  go_roundg (gk - 1)
                  case measure => omega
                  case rel => exact ⟨j + 1 + 1, q + nq, by go_num, by omega, fun z hz => by
                    by_cases hzi : z = j + 1
                    · rw [hzi]; exact HT.out
                    · exact HO.out z (by omega), by rw [HWR.out, World.drewN_drewN]⟩
                · rw [decide_eq_false hh] at HOK hnh
                  clear hh
                  cases hlt2 : ltS s g.high with
                  | false =>
                    rw [hlt2] at HL2 HOK
                    clear hlt2
                    have HNO := hid (show pgRight g = false by
                      rw [HR2.out, List.all_eq_false.2 ⟨j + 1, List.mem_range.2 HI.out, by rw [HOK.out]; simp⟩]
                      rfl)
                    go_wp2
                    go_quiet (first
                      | (go_at_call 28; exact Calls.quiet_of_same (HKY _).out)
                      | (go_at_call 36; with_reducible exact Calls.quiet_of (HL1 _).out)
                      | (go_at_call 36; with_reducible exact Calls.quiet_of (HL2 _).out))
                    go_wp2
                    go_ret
                    rw [HNO.out]
                    exact ⟨rfl, by rw [HWR.out]; exact below_dN (below_dN HB.out _) _⟩
                  | true =>
                    rw [hlt2] at HL2 HOK
                    clear hlt2
                    have HT := hid (show sepOk g (j + 1) = true by rw [HOK.out]; rfl)
                    go_wp2
                    go_quiet (first
                      | (go_at_call 28; exact Calls.quiet_of_same (HKY _).out)
                      | (go_at_call 36; with_reducible exact Calls.quiet_of (HL1 _).out)
                      | (go_at_call 36; with_reducible exact Calls.quiet_of (HL2 _).out))
                    go_wp2
                    have hg := HG.out
                    have hI := HI.out
                    go_roundg (gk - 1)
                    case measure => omega
                    case rel => exact ⟨j + 1 + 1, q + nq, by go_num, by omega, fun z hz => by
                      by_cases hzi : z = j + 1
                      · rw [hzi]; exact HT.out
                      · exact HO.out z (by omega), by rw [HWR.out, World.drewN_drewN]⟩

        · have hii : ¬ (i : Int) < (g.seps.length : Int) := by omega
          have HR3 := hid (show pgRight g = endOk g by
            rw [HR2.out, show (List.range g.seps.length).all (sepOk g) = true from List.all_eq_true.2 (fun y hy => HO.out y (by have := List.mem_range.1 hy; omega))]
            rfl)
          have HE := hid (show endOk g = (decide (g.kids.length = g.seps.length + 1) && decide (g.high.size ≤ 16) && decide (0 ≤ g.next) && decide (g.next ≤ 1024) && decide (sizeP g - g.high.size ≤ 236)) from rfl)
          have d0 : wr.cell? ⟨W.heap.size, 0, none⟩ = some (.slice sa g.seps.length sc) := by rw [hwr]; exact c0
          have d1 : wr.cell? ⟨W.heap.size, 1, none⟩ = some (.slice ka g.kids.length kc) := by rw [hwr]; exact c1
          have d2 : wr.cell? ⟨W.heap.size, 2, none⟩ = some (.string g.high) := by rw [hwr]; exact c2
          have d3 : wr.cell? ⟨W.heap.size, 3, none⟩ = some (.int .i64 g.next) := by rw [hwr]; exact c3
          have hBR : Below w1.heap.size w1 wr.drew := by rw [hwr]; exact (below_dN (Below.refl _ _) q).drew
          have HBR : Hid (Below W.heap.size W wr.drew) := HB.out.trans (hBR.mono HB.out.size)
          have HBQ : Hid (Below W.heap.size W wr) := HB.out.trans ((by rw [hwr]; exact below_dN (Below.refl _ _) q : Below w1.heap.size w1 wr).mono HB.out.size)
          have HSZ := hid (size_any (W := wr.drew) (RdS.more (RdS.below HS.out hBR) hBR.size) (RdI.below HK.out hBR) HF.out)
          have hlt1 : W.heap.size < wr.drew.heap.size := by rw [hwr]; exact hlt
          have HCC := hid (show ∀ w', Below wr.drew.heap.size wr.drew w' → w'.cell? ⟨W.heap.size, 0, none⟩ = some (.slice sa g.seps.length sc) ∧ w'.cell? ⟨W.heap.size, 1, none⟩ = some (.slice ka g.kids.length kc) ∧ w'.cell? ⟨W.heap.size, 2, none⟩ = some (.string g.high) ∧ w'.cell? ⟨W.heap.size, 3, none⟩ = some (.int .i64 g.next) from fun w' hb =>
            ⟨(hb.cell (p := ⟨W.heap.size, 0, none⟩) hlt1).trans d0, (hb.cell (p := ⟨W.heap.size, 1, none⟩) hlt1).trans d1, (hb.cell (p := ⟨W.heap.size, 2, none⟩) hlt1).trans d2, (hb.cell (p := ⟨W.heap.size, 3, none⟩) hlt1).trans d3⟩)
          have hS0 : wr.drew.cell? ⟨W.heap.size, 0, none⟩ = some (.slice sa g.seps.length sc) ∧ wr.drew.cell? ⟨W.heap.size, 1, none⟩ = some (.slice ka g.kids.length kc) ∧ wr.drew.cell? ⟨W.heap.size, 2, none⟩ = some (.string g.high) ∧ wr.drew.cell? ⟨W.heap.size, 3, none⟩ = some (.int .i64 g.next) := ⟨d0, d1, d2, d3⟩
          have hle := sizeTo_le HF.out g.seps.length
          have hzi : ((sizeP g : Nat) : Int) ≤ 2000000 := by unfold sizeP; omega
          have hzg := sizeP_ge g
          have hws : IntKind.i64.wrap ((g.seps.length : Int) + 1) = (g.seps.length : Int) + 1 := by rw [IntKind.wrap_i64]; omega
          have hwd : IntKind.i64.wrap (((sizeP g : Nat) : Int) - (g.high.size : Int)) = ((sizeP g : Nat) : Int) - (g.high.size : Int) := by rw [IntKind.wrap_i64]; omega
          clear hwr hBR hle hlt hlt1 c0 c1 c2 c3
          by_cases e1 : g.kids.length = g.seps.length + 1
          · have e1i : (g.kids.length : Int) = (g.seps.length : Int) + 1 := by omega
            have e1b : ((g.kids.length : Int) == (g.seps.length : Int) + 1) = true := by rw [e1i]; simp
            rw [decide_eq_true e1, Bool.true_and] at HE
            by_cases e2 : g.high.size ≤ 16
            · have e2i : (g.high.size : Int) ≤ 16 := by omega
              have e2b : decide ((g.high.size : Int) ≤ 16) = true := decide_eq_true e2i
              have e2c : decide (g.high.size ≤ 16) = true := decide_eq_true e2
              rw [decide_eq_true e2, Bool.true_and] at HE
              by_cases e3 : 0 ≤ g.next
              · have e3b : decide (0 ≤ g.next) = true := decide_eq_true e3
                rw [decide_eq_true e3, Bool.true_and] at HE
                by_cases e4 : g.next ≤ 1024
                · have e4b : decide (g.next ≤ 1024) = true := decide_eq_true e4
                  rw [decide_eq_true e4, Bool.true_and] at HE
                  by_cases e5 : sizeP g - g.high.size ≤ 236
                  · have e5i : ((sizeP g : Nat) : Int) - (g.high.size : Int) ≤ 236 := by omega
                    have e5b : decide (((sizeP g : Nat) : Int) - (g.high.size : Int) ≤ 236) = true := decide_eq_true e5i
                    rw [decide_eq_true e5] at HE
                    clear e1
                    have HV := hid (show pgRight g = true by (rw [HR3.out, HE.out] <;> rfl))
                    go_wp2
                    go_region_held3 (fun w' => w'.cell? ⟨W.heap.size, 0, none⟩ = some (.slice sa g.seps.length sc) ∧ w'.cell? ⟨W.heap.size, 1, none⟩ = some (.slice ka g.kids.length kc) ∧ w'.cell? ⟨W.heap.size, 2, none⟩ = some (.string g.high) ∧ w'.cell? ⟨W.heap.size, 3, none⟩ = some (.int .i64 g.next))
                      (first | go_keep | assumption)
                      (first | (go_at_call 39; (with_reducible refine HSZ.out.mono ?_); rintro e w' ⟨rfl, hbw⟩; have HBW := hid hbw; have hS2 := HCC.out w' hbw; clear hbw))
                    all_goals
                      go_wp2_with fail
                      go_ret
                      rw [HV.out]
                      exact ⟨rfl, HBR.out.trans (HBW.out.mono HBR.out.size)⟩
                  · have e5i : ¬ ((sizeP g : Nat) : Int) - (g.high.size : Int) ≤ 236 := by omega
                    have e5b : decide (((sizeP g : Nat) : Int) - (g.high.size : Int) ≤ 236) = false := decide_eq_false e5i
                    rw [decide_eq_false e5] at HE
                    clear e1
                    have HV := hid (show pgRight g = false by (rw [HR3.out, HE.out] <;> rfl))
                    go_wp2
                    go_region_held3 (fun w' => w'.cell? ⟨W.heap.size, 0, none⟩ = some (.slice sa g.seps.length sc) ∧ w'.cell? ⟨W.heap.size, 1, none⟩ = some (.slice ka g.kids.length kc) ∧ w'.cell? ⟨W.heap.size, 2, none⟩ = some (.string g.high) ∧ w'.cell? ⟨W.heap.size, 3, none⟩ = some (.int .i64 g.next))
                      (first | go_keep | assumption)
                      (first | (go_at_call 39; (with_reducible refine HSZ.out.mono ?_); rintro e w' ⟨rfl, hbw⟩; have HBW := hid hbw; have hS2 := HCC.out w' hbw; clear hbw))
                    all_goals
                      go_wp2_with fail
                      go_ret
                      rw [HV.out]
                      exact ⟨rfl, HBR.out.trans (HBW.out.mono HBR.out.size)⟩
                · have e4b : decide (g.next ≤ 1024) = false := decide_eq_false e4
                  rw [decide_eq_false e4, Bool.false_and] at HE
                  clear e1
                  have HV := hid (show pgRight g = false by (rw [HR3.out, HE.out] <;> rfl))
                  go_wp2
                  go_quiet (fail)
                  go_wp2
                  go_ret
                  rw [HV.out]
                  exact ⟨rfl, below_dN HBQ.out _⟩
              · have e3b : decide (0 ≤ g.next) = false := decide_eq_false e3
                rw [decide_eq_false e3, Bool.false_and, Bool.false_and] at HE
                clear e1
                have HV := hid (show pgRight g = false by (rw [HR3.out, HE.out] <;> rfl))
                go_wp2
                go_quiet (fail)
                go_wp2
                go_ret
                rw [HV.out]
                exact ⟨rfl, below_dN HBQ.out _⟩
            · have e2i : ¬ (g.high.size : Int) ≤ 16 := by omega
              have e2b : decide ((g.high.size : Int) ≤ 16) = false := decide_eq_false e2i
              have e2c : decide (g.high.size ≤ 16) = false := decide_eq_false e2
              rw [decide_eq_false e2, Bool.false_and, Bool.false_and, Bool.false_and] at HE
              clear e1
              have HV := hid (show pgRight g = false by (rw [HR3.out, HE.out] <;> rfl))
              go_wp2
              go_quiet (fail)
              go_wp2
              go_ret
              rw [HV.out]
              exact ⟨rfl, below_dN HBQ.out _⟩
          · have e1i : ¬ (g.kids.length : Int) = (g.seps.length : Int) + 1 := by omega
            have e1b : ((g.kids.length : Int) == (g.seps.length : Int) + 1) = false := by simpa using e1i
            rw [decide_eq_false e1, Bool.false_and, Bool.false_and, Bool.false_and, Bool.false_and] at HE
            clear e1
            have HV := hid (show pgRight g = false by (rw [HR3.out, HE.out] <;> rfl))
            go_wp2
            go_quiet (fail)
            go_wp2
            go_ret
            rw [HV.out]
            exact ⟨rfl, below_dN HBQ.out _⟩
end Go.Proofs.Ytfoidiebdklggaa
