/-
  What Load of package bits does, by a contract.
-/
import Derived.Test.YtkcfkmmjmgjhgaaTs
import Derived.Laws.IdiomCopy
namespace Go.Proofs.Ytkcfkmmjmgjhgaa
open Go Go.RowKit

/-- Bit i of some bytes. -/
def bitS (D : List Nat) (i : Nat) : Bool := decide ((D[i / 8]?.getD 0) &&& 2 ^ (i % 8) ≠ 0)
/-- The pages that bytes are, if they are n pages. -/
def loadT (D : List Nat) (n : Nat) : Option (List Bool) :=
  if D.length = (n + 7) / 8 ∧ ((List.range (8 * D.length)).all fun i => decide (i < n) || !bitS D i) = true then some ((List.range n).map (bitS D)) else none
theorem valF_bits (x : Nat) (h : x < 256) : valF (fun k => decide (x &&& 2 ^ k ≠ 0)) = x := by
  have key : ∀ x : Fin 256, valF (fun k => decide (x.1 &&& 2 ^ k ≠ 0)) = x.1 := by decide +kernel
  exact key ⟨x, h⟩
theorem bitS_val (f : Nat → Bool) (k : Nat) (hk : k < 8) : decide (valF f &&& 2 ^ k ≠ 0) = f k := by
  rw [valF_and f hk]
  cases h : f k <;> simp
theorem bitS_bytes {T : List Bool} {i : Nat} (h : i < 8 * ((T.length + 7) / 8)) : bitS (bytesOf T) i = tk T i := by
  unfold bitS bytesOf
  rw [List.getElem?_map, List.getElem?_range (by omega)]
  simp only [Option.map_some, Option.getD_some]
  unfold byteOf
  rw [bitS_val _ _ (Nat.mod_lt _ (by omega)), show 8 * (i / 8) + i % 8 = i by omega]
theorem loadT_bytes (T : List Bool) : loadT (bytesOf T) T.length = some T := by
  unfold loadT
  rw [if_pos]
  · congr 1
    apply List.ext_getElem
    · simp
    · intro i h1 h2
      simp only [List.getElem_map, List.getElem_range]
      rw [bitS_bytes (by omega)]
      unfold tk
      rw [List.getElem?_eq_getElem h2]
      rfl
  · refine ⟨bytesOf_len T, ?_⟩
    rw [List.all_eq_true]
    intro i hi
    simp only [List.mem_range, bytesOf_len] at hi
    rw [bitS_bytes hi]
    by_cases h : i < T.length
    · simp [h]
    · unfold tk
      rw [List.getElem?_eq_none (by omega)]
      simp
theorem loadT_some {D : List Nat} {n : Nat} {T : List Bool} (hD : ∀ x ∈ D, x < 256) (h : loadT D n = some T) : bytesOf T = D ∧ T.length = n ∧ D.length = (n + 7) / 8 := by
  unfold loadT at h
  split at h
  · rename_i hc
    obtain ⟨h1, h2⟩ := hc
    rw [List.all_eq_true] at h2
    simp only [Option.some.injEq] at h
    subst h
    refine ⟨?_, by simp, h1⟩
    apply List.ext_getElem?
    intro j
    unfold bytesOf
    rw [List.length_map, List.length_range, List.getElem?_map]
    rcases Nat.lt_or_ge j ((n + 7) / 8) with hj | hj
    · rw [List.getElem?_range hj]
      have hjd : j < D.length := by omega
      rw [List.getElem?_eq_getElem hjd]
      simp only [Option.map_some, Option.some.injEq]
      have hx := hD _ (List.getElem_mem hjd)
      conv => rhs; rw [← valF_bits D[j] hx]
      unfold byteOf
      have hs : ∀ k, k < 8 → tk ((List.range n).map (bitS D)) (8 * j + k) = decide (D[j] &&& 2 ^ k ≠ 0) := by
        intro k hk
        have hb : bitS D (8 * j + k) = decide (D[j] &&& 2 ^ k ≠ 0) := by
          unfold bitS
          rw [show (8 * j + k) / 8 = j by omega, show (8 * j + k) % 8 = k by omega, List.getElem?_eq_getElem hjd]
          rfl
        unfold tk
        rw [List.getElem?_map]
        by_cases hn : 8 * j + k < n
        · rw [List.getElem?_range hn]
          exact hb
        · rw [List.getElem?_eq_none (by simp; omega)]
          have := h2 (8 * j + k) (by simp; omega)
          simp only [hn, decide_false, Bool.false_or, Bool.not_eq_true'] at this
          rw [← hb, this]
          rfl
      rw [valF_B, valF_B]
      rw [hs 0 (by omega), hs 1 (by omega), hs 2 (by omega), hs 3 (by omega), hs 4 (by omega), hs 5 (by omega), hs 6 (by omega), hs 7 (by omega)]
    · rw [List.getElem?_eq_none (by simpa using hj), List.getElem?_eq_none (by omega)]
      rfl
  · cases h

/-- Laying bytes over a row. -/
def overlay : List Nat → Nat → List Nat → List Nat
  | D, _, [] => D
  | D, o, d :: r => overlay (D.set o d) (o + 1) r
theorem overlay_at : ∀ (ds : List Nat) (D : List Nat) (o i : Nat), o + ds.length ≤ D.length → (overlay D o ds)[i]? = if o ≤ i ∧ i < o + ds.length then ds[i - o]? else D[i]? := by
  intro ds
  induction ds with
  | nil => intro D o i _; rw [overlay, if_neg (by simp)]
  | cons d r ih =>
    intro D o i h
    simp only [List.length_cons] at h ⊢
    rw [overlay, ih _ _ _ (by simp; omega), List.getElem?_set]
    by_cases h1 : o + 1 ≤ i ∧ i < o + 1 + r.length
    · rw [if_pos h1, if_pos (by omega), show i - o = (i - (o + 1)) + 1 by omega]
      rfl
    · rw [if_neg h1]
      by_cases h2 : o = i
      · subst h2
        rw [if_pos rfl, if_pos (by omega), if_pos (by omega)]
        simp
      · rw [if_neg h2, if_neg (by omega)]
theorem overlay_all {D ds : List Nat} (h : ds.length = D.length) : overlay D 0 ds = ds := by
  apply List.ext_getElem?
  intro i
  rw [overlay_at _ _ _ _ (by omega)]
  by_cases hi : i < ds.length
  · rw [if_pos (by omega)]
    simp
  · rw [if_neg (by omega), List.getElem?_eq_none (by omega), List.getElem?_eq_none (by omega)]
theorem setCells_byts {B g n cap : Nat} : ∀ (ds : List Nat) (D : List Nat) (o : Nat) (w : World), Byts w B (.slice (some ⟨g, 0, none⟩) n cap) D →
    Byts (w.setCells g o (ds.map fun (x : Nat) => Value.int .u8 (x : Int))) B (.slice (some ⟨g, 0, none⟩) n cap) (overlay D o ds) ∧ Only (fun k => k = g) w (w.setCells g o (ds.map fun (x : Nat) => Value.int .u8 (x : Int))) := by
  intro ds
  induction ds with
  | nil => intro D o w h; exact ⟨h, Only.refl _ _⟩
  | cons d r ih =>
    intro D o w h
    obtain ⟨h1, h2⟩ := ih (D.set o d) (o + 1) _ (h.store o d)
    exact ⟨h1, (only_set w g o _).trans h2⟩

/-- The bytes of a string. -/
def strB (s : ByteArray) : List Nat := s.data.toList.map UInt8.toNat
theorem strB_lt (s : ByteArray) : ∀ x ∈ strB s, x < 256 := by
  intro x hx
  obtain ⟨b, _, rfl⟩ := List.mem_map.1 hx
  exact b.toNat_lt
theorem strB_len (s : ByteArray) : (strB s).length = s.size := by unfold strB; rw [List.length_map]; rfl

theorem run_copy_string {w : World} {B g cap : Nat} {D : List Nat} (ty : TypeId) (s : ByteArray) (h : Byts w B (.slice (some ⟨g, 0, none⟩) s.size cap) D) :
    (Builtin.copy_ #[51, 9] ty #[.slice (some ⟨g, 0, none⟩) s.size cap, .string s]).run Try.prog w = .ok (.int .i64 s.size) (w.setCells g 0 ((strB s).map fun (x : Nat) => Value.int .u8 (x : Int))) := by
  obtain ⟨i0, hi, hz0, hz1, hz2⟩ := info_parts u8_info
  have hl : s.size = D.length := h.len
  have hst := run_storeCells_cells (P := Try.prog) g 0 ((strB s).map fun (x : Nat) => Value.int .u8 (x : Int)) 0 w (fun j hj => by
    have hj' : j < D.length := by simp [strB_len] at hj; omega
    have := h.cell (List.getElem?_eq_getElem hj')
    simp only [Nat.zero_add]
    rw [this]
    rfl) (fun j _ => by simp only [Nat.zero_add]; exact h.frozen j) (fun v hv => by
    obtain ⟨x, _, rfl⟩ := List.mem_map.1 hv
    rfl)
  have he : s.extract 0 s.size = s := ByteArray.extract_zero_size
  have hc : (s.data.map fun b => Value.int .u8 b.toNat).toList = (strB s).map fun (x : Nat) => Value.int .u8 (x : Int) := by
    unfold strB
    rw [Array.toList_map, List.map_map]
    rfl
  simp only [Nat.zero_add] at hst
  have hm : s.size.min s.size = s.size := Nat.min_self _
  have hsz : (sizeOf 5).run Try.prog w = .ok 1 w := by simp [sizeOf, typeInfo, hi, hz1]
  simp only [Builtin.copy_, List.getElem?_toArray, List.getElem?_cons_zero, List.getElem?_cons_succ, Sem.run_bind, run_underlying Try.underlying51, Result.andThen_ok, Builtin.lenOf, Sem.run_pure, hsz, hm, Builtin.firstCells, he, hc, hst]
  rfl

theorem below_dN {B : Nat} {a w : World} (h : Below B a w) (n : Nat) : Below B a (w.drewN n) := ⟨h.os, h.tape, h.output, h.size, h.block⟩

/-- What Load leaves. -/
def LoadPost (W : World) (s : ByteArray) (n : Int) (e : Ending) (w : World) : Prop :=
  Below W.heap.size W w ∧
  if 1 ≤ n ∧ n ≤ 1024 then
    match loadT (strB s) n.toNat with
    | some T => ∃ p v, e = .returned (.tuple #[.pointer (some ⟨p, 0, none⟩), .int .i64 0]) ∧ Bt w W.heap.size p v T
    | none => e = .returned (.tuple #[.pointer none, .int .i64 4])
  else e = .returned (.tuple #[.pointer none, .int .i64 1])
theorem NewPost.get {W w : World} {n : Nat} {e : Ending} (h : NewPost W (n : Int) e w) (h1 : 1 ≤ n) (h2 : n ≤ 1024) : ∃ p v, e = .returned (.tuple #[.pointer (some ⟨p, 0, none⟩), .int .i64 0]) ∧ Bt w W.heap.size p v (List.replicate n false) ∧ Below W.heap.size W w := by
  unfold NewPost at h
  rw [if_pos (by omega), Int.toNat_natCast] at h
  exact h
theorem NewPost.no {W w : World} {n : Int} {e : Ending} (h : NewPost W n e w) (h1 : ¬ (1 ≤ n ∧ n ≤ 1024)) : e = .returned (.tuple #[.pointer none, .int .i64 1]) ∧ Below W.heap.size W w := by
  unfold NewPost at h
  rw [if_neg h1] at h
  exact h
theorem loadT_bad {D : List Nat} {n i : Nat} (hn : n ≤ i) (hi : i < 8 * D.length) (h : bitS D i = true) : loadT D n = none := by
  unfold loadT
  rw [if_neg]
  rintro ⟨_, h2⟩
  rw [List.all_eq_true] at h2
  have := h2 i (by simpa using hi)
  simp [h] at this
  omega
theorem loadT_good {D : List Nat} {n : Nat} (hl : D.length = (n + 7) / 8) (h : ∀ i, n ≤ i → i < 8 * D.length → bitS D i = false) : loadT D n = some ((List.range n).map (bitS D)) := by
  unfold loadT
  rw [if_pos]
  refine ⟨hl, ?_⟩
  rw [List.all_eq_true]
  intro i hi
  simp only [List.mem_range] at hi
  by_cases hn : i < n
  · simp [hn]
  · simp [h i (by omega) hi]

set_option maxHeartbeats 2000000 in
set_option maxRecDepth 100000 in
theorem load_any {W : World} (s : ByteArray) (hs : s.size ≤ 1000000) (n : Int) : Calls Try.prog 9 #[.string s, .int .i64 n] W (LoadPost W s n) := by
  by_cases hn : 1 ≤ n ∧ n ≤ 1024
  · obtain ⟨m, rfl⟩ : ∃ m : Nat, n = m := ⟨n.toNat, by omega⟩
    obtain ⟨hn1, hn2⟩ := hn
    have hP : ∀ e w, LoadPost W s (m : Int) e w = (Below W.heap.size W w ∧ match loadT (strB s) m with
      | some T => ∃ p v, e = .returned (.tuple #[.pointer (some ⟨p, 0, none⟩), .int .i64 0]) ∧ Bt w W.heap.size p v T
      | none => e = .returned (.tuple #[.pointer none, .int .i64 4])) := fun e w => by
      unfold LoadPost
      rw [if_pos ⟨hn1, hn2⟩, Int.toNat_natCast]
    have HP := hid hP
    clear hP
    have HNW := hid (new_any (W := W) (m : Int))
    go_enter Try.func9, Try.ntmps9
    go_wp2_with fail
    refine HNW.out.mono ?_
    rintro e w1 hp
    obtain ⟨p, v, rfl, hbt, hb1⟩ := hp.get (by omega) (by omega)
    obtain ⟨g, cap, rfl, hg, hgs⟩ := hbt.form
    rw [List.length_replicate] at hbt
    have h0 := hbt.blk.cell 0
    simp only [List.getElem?_toArray, List.getElem?_cons_zero] at h0
    have HBT := hid hbt
    have HB1 := hid hb1
    have HSL := hid (strB_len s)
    have HLT := hid (strB_lt s)
    clear hp hbt hb1
    by_cases hl : s.size = (m + 7) / 8
    · have hl2 := hid hl
      rw [← hl] at h0 HBT
      have hcopy := fun ty => run_copy_string ty s HBT.out.row
      obtain ⟨hby, hon⟩ := setCells_byts (strB s) _ 0 w1 HBT.out.row
      rw [overlay_all (by rw [HSL.out, bytesOf_len, List.length_replicate]; exact hl)] at hby
      have hblk2 := hon.blk HBT.out.blk (fun e => HBT.out.apart (g := g) rfl e.symm)
      have h02 := hblk2.cell 0
      simp only [List.getElem?_toArray, List.getElem?_cons_zero] at h02
      rw [List.length_replicate] at hblk2
      have hb2 : Below W.heap.size W (w1.setCells g 0 ((strB s).map fun (x : Nat) => Value.int .u8 (x : Int))) := HB1.out.trans (hon.below HB1.out.size (fun k hk (e : k = g) => by omega))
      generalize hw2 : w1.setCells g 0 ((strB s).map fun (x : Nat) => Value.int .u8 (x : Int)) = w2 at *
      have HBY := hid hby
      have HK2 := hid hblk2
      have HB2 := hid hb2
      have HL2 := hid hl2
      have hsz : (s.size : Int) ≤ 200 := by omega
      have hN : (((m + 7) / 8 : Nat) : Int) = (s.size : Int) := by omega
      have hN2 : ((m : Int) + 7) / 8 = (s.size : Int) := by omega
      clear hby hblk2 hb2 hon hl2 hl
      go_wp2_with fail
      go_loopg [8] (8 * s.size - m) (fun g' i wr => ∃ k q : Nat, i = .int .i64 k ∧ m ≤ k ∧ g' + k = 8 * s.size ∧ (∀ j, m ≤ j → j < k → bitS (strB s) j = false) ∧ wr = w2.drewN q)
      case atStart => exact ⟨m, 0, rfl, Nat.le_refl _, by have := HL2.out; omega, fun j h1 h2 => by omega, rfl⟩
      case round =>
        obtain ⟨k, q, rfl, hmk, hgk, hz, hwr⟩ := hrel
        have h03 : wr.cell? ⟨p, 0, none⟩ = some (.slice (some ⟨g, 0, none⟩) s.size cap) := by rw [hwr]; exact h02
        have HBY3 : Hid (Byts wr W.heap.size (.slice (some ⟨g, 0, none⟩) s.size cap) (strB s)) := by rw [hwr]; exact HBY.out.drewN q
        have HK3 : Hid (Blk wr p 53 #[.slice (some ⟨g, 0, none⟩) s.size cap, .int .i64 (m : Int)]) := by rw [hwr]; exact HK2.out.drewN q
        have HB3 : Hid (Below W.heap.size W wr) := by rw [hwr]; exact below_dN HB2.out q
        have HWR := hid hwr
        clear hwr
        have HG := hid hgk
        have HZ := hid hz
        have HMK := hid hmk
        have hk8 : k ≤ 8 * s.size := by omega
        have hki : (k : Int) ≤ 1600 := by omega
        clear hgk hz hmk
        by_cases hlt : k < 8 * s.size
        · have hlti : (k : Int) < 8 * (s.size : Int) := by omega
          have hkl : k / 8 < (strB s).length := by rw [HSL.out]; omega
          have hc := HBY3.out.cell (List.getElem?_eq_getElem hkl)
          have hxlt : (strB s)[k / 8] < 256 := HLT.out _ (List.getElem_mem hkl)
          have hbs : bitS (strB s) k = decide ((strB s)[k / 8] &&& 2 ^ (k % 8) ≠ 0) := by
            unfold bitS
            rw [List.getElem?_eq_getElem hkl]
            rfl
          have hand : bits .and .u8 (((strB s)[k / 8] : Nat) : Int) ((2 ^ (k % 8) : Nat) : Int) = (((strB s)[k / 8] &&& 2 ^ (k % 8) : Nat) : Int) := u8_and_nat _ _ hxlt pow_lt
          have hbit := fun w => hid (bit_any (W := w) k)
          have hq : (k : Int).tdiv 8 = ((k / 8 : Nat) : Int) := by rw [Int.tdiv_eq_ediv_of_nonneg (by omega)]; omega
          cases hb : bitS (strB s) k with
          | true =>
            rw [hb] at hbs
            have hne : ¬ (((strB s)[k / 8] &&& 2 ^ (k % 8) : Nat) : Int) = 0 := by
              have := hbs.symm
              simp only [decide_eq_true_eq] at this
              omega
            have HN := hid (loadT_bad HMK.out (by rw [HSL.out]; exact hlt) hb)
            clear hbs hb
            generalize (((strB s)[k / 8] &&& 2 ^ (k % 8) : Nat) : Int) = r at *
            generalize ((2 ^ (k % 8) : Nat) : Int) = z at *
            generalize (((strB s)[k / 8] : Nat) : Int) = y at *
            have hrr : (r != 0) = true := by simp [hne]
            go_wp2_with fail
            go_quiet (first
              | (go_at_call 32; exact Calls.quiet_of_same (hbit _).out))
            go_wp2
            go_ret2
            rw [HP.out, HN.out]
            exact ⟨below_dN HB3.out _, rfl⟩
          | false =>
            rw [hb] at hbs
            have hne : (((strB s)[k / 8] &&& 2 ^ (k % 8) : Nat) : Int) = 0 := by
              have := hbs.symm
              simp only [decide_eq_false_iff_not, ne_eq, Decidable.not_not] at this
              omega
            rw [hne] at hand
            have HBF := hid hb
            clear hbs hb hne
            generalize ((2 ^ (k % 8) : Nat) : Int) = z at *
            generalize (((strB s)[k / 8] : Nat) : Int) = y at *
            go_wp2_with fail
            go_quiet (first
              | (go_at_call 32; exact Calls.quiet_of_same (hbit _).out))
            go_wp2
            have hg := HG.out
            have hmk := HMK.out
            go_roundg (gk - 1)
            case measure => omega
            case rel =>
              refine ⟨k + 1, q + nq, by go_num, by omega, by omega, fun j h1 h2 => ?_, by rw [HWR.out, World.drewN_drewN]⟩
              by_cases hj : j = k
              · rw [hj]; exact HBF.out
              · exact HZ.out j h1 (by omega)
        · have hk : k = 8 * s.size := by omega
          have hgood := loadT_good (D := strB s) (n := m) (by rw [HSL.out]; exact HL2.out) (fun j h1 h2 => HZ.out j h1 (by rw [HSL.out] at h2; omega))
          have hsp := loadT_some HLT.out hgood
          have HGD := hid hgood
          have HSP := hid hsp
          clear hgood hsp
          go_wp2
          go_ret2
          rw [HP.out, HGD.out]
          obtain ⟨p1, p2, p3⟩ := HSP.out
          refine ⟨HB3.out, p, .slice (some ⟨g, 0, none⟩) s.size cap, rfl, ⟨?_, ?_, by rw [p2]; omega, by rw [p2]; omega, HBT.out.base⟩⟩
          · rw [p2]; exact HK3.out
          · rw [p1]; exact HBY3.out
    · have hne : ¬ (s.size : Int) = (((m + 7) / 8 : Nat) : Int) := by omega
      have hno : loadT (strB s) m = none := by
        unfold loadT
        rw [if_neg]
        rintro ⟨h1, _⟩
        rw [HSL.out] at h1
        exact hl h1
      have HNO := hid hno
      clear hno
      go_wp2_with fail
      go_ret2
      rw [HP.out, HNO.out]
      exact ⟨HB1.out, rfl⟩
  · have hP : ∀ e w, LoadPost W s n e w = (Below W.heap.size W w ∧ e = .returned (.tuple #[.pointer none, .int .i64 1])) := fun e w => by
      unfold LoadPost
      rw [if_neg hn]
    have HP := hid hP
    have HN := hid hn
    have HNW := hid (new_any (W := W) n)
    clear hP hn
    go_enter Try.func9, Try.ntmps9
    go_wp2_with fail
    refine HNW.out.mono ?_
    rintro e w1 hp
    obtain ⟨rfl, hb1⟩ := hp.no HN.out
    clear hp
    go_wp2
    go_ret2
    rw [HP.out]
    exact ⟨hb1, rfl⟩
end Go.Proofs.Ytkcfkmmjmgjhgaa
