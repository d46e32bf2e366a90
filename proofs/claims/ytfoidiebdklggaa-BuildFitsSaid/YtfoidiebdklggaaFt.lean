/-
  BuildFits returns true for every input: the walk.
-/
import Derived.Test.YtfoidiebdklggaaRr
import Derived.Test.YtfoidiebdklggaaLv
import Derived.Test.YtfoidiebdklggaaFb
import Derived.Laws.IdiomStrings
open Go Go.RowKit
namespace Go.Proofs.Ytfoidiebdklggaa

/-- The page that is being made, in block S. -/
structure Lr (S B : Nat) (W : World) (vs vk : Value) (Ls : List ByteArray) (Lk : List Int) (hi : ByteArray) (nx : Int) (w : World) : Prop where
  blk : Blk w S 44 #[vs, vk, .string hi, .int .i64 nx]
  os : OwV 9 1 w B vs (Ls.map scell)
  ok : Ints w B vk Lk
  below : Below B W w
  base : B ≤ S
section
variable {S B : Nat} {W w w' : World} {vs vk vs' vk' : Value} {Ls : List ByteArray} {Lk : List Int} {hi : ByteArray} {nx : Int}
theorem Lr.alloc (h : Lr S B W vs vk Ls Lk hi nx w) (o : Obj) : Lr S B W vs vk Ls Lk hi nx (w.alloc o) := ⟨h.blk.alloc o, h.os.alloc o, h.ok.alloc o, h.below.alloc (by have := h.blk.lt; have := h.base; omega) o, h.base⟩
theorem Lr.drew (h : Lr S B W vs vk Ls Lk hi nx w) : Lr S B W vs vk Ls Lk hi nx w.drew := ⟨h.blk, h.os, h.ok, h.below.drew, h.base⟩
theorem Lr.pushK {x : Int} (h : Lr S B W vs vk Ls Lk hi nx w) (hk : Ints w' B vk' (Lk ++ [x])) (ho : Only (fun k => vk.ownBlock = some k) w w') : Lr S B W vs vk' Ls (Lk ++ [x]) hi nx (w'.setCell ⟨S, 1, none⟩ vk') := by
  have hb : Blk w' S 44 #[vs, vk, .string hi, .int .i64 nx] := ho.blk h.blk (fun e => by
    obtain ⟨_, cur, hc⟩ := h.ok.block e
    exact hc.ne_ h.blk (by decide) rfl)
  have hs := h.os.keep ho (fun g e e' => by
    obtain ⟨_, cur, hc⟩ := h.os.block e
    obtain ⟨_, cur', hc'⟩ := h.ok.block e'
    exact hc.ne_ hc' (by decide) rfl)
  refine ⟨hb.set_ 1 vk', hs.keep (Only.setCell (S := fun k => k = S) (Only.refl _ w') (.inl rfl) _) (fun g e e' => ?_), hk.keep (Only.setCell (S := fun k => k = S) (Only.refl _ w') (.inl rfl) _) (fun g e e' => ?_), (h.below.trans (ho.below (by have := h.blk.lt; have := h.base; omega) (fun k hk' e => by have := (h.ok.block e).1; omega))).setCell h.base _, h.base⟩
  · obtain ⟨_, cur, hc⟩ := hs.block e
    rw [e'] at hc
    exact hc.ne_ hb (by decide) rfl
  · obtain ⟨_, cur, hc⟩ := hk.block e
    rw [e'] at hc
    exact hc.ne_ hb (by decide) rfl
theorem Lr.pushS {x : ByteArray} (h : Lr S B W vs vk Ls Lk hi nx w) (hk : OwV 9 1 w' B vs' ((Ls ++ [x]).map scell)) (ho : Only (fun k => vs.ownBlock = some k) w w') : Lr S B W vs' vk (Ls ++ [x]) Lk hi nx (w'.setCell ⟨S, 0, none⟩ vs') := by
  have hb : Blk w' S 44 #[vs, vk, .string hi, .int .i64 nx] := ho.blk h.blk (fun e => by
    obtain ⟨_, cur, hc⟩ := h.os.block e
    exact hc.ne_ h.blk (by decide) rfl)
  have hs := h.ok.keep ho (fun g e e' => by
    obtain ⟨_, cur, hc⟩ := h.ok.block e
    obtain ⟨_, cur', hc'⟩ := h.os.block e'
    exact hc.ne_ hc' (by decide) rfl)
  refine ⟨hb.set_ 0 vs', hk.keep (Only.setCell (S := fun k => k = S) (Only.refl _ w') (.inl rfl) _) (fun g e e' => ?_), hs.keep (Only.setCell (S := fun k => k = S) (Only.refl _ w') (.inl rfl) _) (fun g e e' => ?_), (h.below.trans (ho.below (by have := h.blk.lt; have := h.base; omega) (fun k hk' e => by have := (h.os.block e).1; omega))).setCell h.base _, h.base⟩
  · obtain ⟨_, cur, hc⟩ := hk.block e
    rw [e'] at hc
    exact hc.ne_ hb (by decide) rfl
  · obtain ⟨_, cur, hc⟩ := hs.block e
    rw [e'] at hc
    exact hc.ne_ hb (by decide) rfl
theorem Lr.cells (h : Lr S B W vs vk Ls Lk hi nx w) : w.cell? ⟨S, 0, none⟩ = some vs ∧ w.cell? ⟨S, 1, none⟩ = some vk ∧ w.cell? ⟨S, 2, none⟩ = some (.string hi) ∧ w.cell? ⟨S, 3, none⟩ = some (.int .i64 nx) ∧ ∀ j, w.frozen? ⟨S, j, none⟩ = false :=
  ⟨h.blk.cell 0, h.blk.cell 1, h.blk.cell 2, h.blk.cell 3, fun j => h.blk.frozen j⟩
end

def longL : List UInt8 := [120, 120, 120, 120, 120, 120, 120, 120, 120, 120, 120, 120, 120, 120, 120]
def sepF (j : Nat) : ByteArray := ⟨(longL ++ [UInt8.ofNat (j + 1)]).toArray⟩
def highF : ByteArray := ⟨(longL ++ [255]).toArray⟩
/-- The page with i kids. -/
def pgF (i : Nat) : Pg := ⟨(List.range (i - 1)).map sepF, (List.range i).map (fun (x : Nat) => (x : Int)), highF, 0⟩
theorem sepF_less : ∀ a b : Fin 12, a.1 < b.1 → Op.bytesLess (longL ++ [UInt8.ofNat (a.1 + 1)]) (longL ++ [UInt8.ofNat (b.1 + 1)]) = true := by decide +kernel
theorem sepF_high : ∀ a : Fin 12, Op.bytesLess (longL ++ [UInt8.ofNat (a.1 + 1)]) (longL ++ [255]) = true := by decide +kernel
theorem pgF_low {i : Nat} (h : i < 12) : lowS (pgF 13) i = sepF i := by
  unfold lowS pgF
  rw [List.getElem?_map, List.getElem?_range (by omega)]
  rfl
theorem sepF_size (j : Nat) : (sepF j).size = 16 := by
  show (longL ++ [UInt8.ofNat (j + 1)]).toArray.size = 16
  simp [longL]
theorem pgF_right : pgRight (pgF 13) = true := by
  unfold pgRight
  have h1 : anyOdd (pgF 13).kids = false := by decide +kernel
  have h2 : endOk (pgF 13) = true := by decide +kernel
  have h3 : (pgF 13).seps.length = 12 := rfl
  rw [h1, h2, h3]
  simp only [Bool.not_false, Bool.true_and, Bool.and_true]
  rw [List.all_eq_true]
  intro i hi
  have hi2 := List.mem_range.1 hi
  unfold sepOk
  rw [pgF_low hi2]
  have hk : keyB (sepF i) = true := by unfold keyB; rw [sepF_size]; rfl
  have hh : ltS (sepF i) (pgF 13).high = true := by
    show Op.bytesLess (ByteArray.mk _).toList (ByteArray.mk _).toList = true
    rw [ByteArray.toList_mk, ByteArray.toList_mk]
    exact sepF_high ⟨i, hi2⟩
  rw [hk, hh]
  rcases Nat.eq_zero_or_pos i with h0 | h0
  · subst h0; simp
  · rw [pgF_low (by omega)]
    have hl : ltS (sepF (i - 1)) (sepF i) = true := by
      show Op.bytesLess (ByteArray.mk _).toList (ByteArray.mk _).toList = true
      rw [ByteArray.toList_mk, ByteArray.toList_mk]
      exact sepF_less ⟨i - 1, by omega⟩ ⟨i, hi2⟩ (by show i - 1 < i; omega)
    rw [hl]
    simp
/-- One kid more. -/
def pgX (x : Nat) : Pg := ⟨(List.range 12).map sepF ++ [⟨(longL ++ [UInt8.ofNat x]).toArray⟩], (List.range 13).map (fun (x : Nat) => (x : Int)) ++ [13], highF, 0⟩
theorem highF_size : highF.size = 16 := rfl
theorem pgX_size (x : Nat) : sizeP (pgX x) = 270 := by
  have h3 : (pgX x).seps.length = 13 := by simp [pgX]
  unfold sizeP sizeTo
  rw [h3, List.take_of_length_le (by rw [h3]; exact Nat.le_refl _)]
  have hh : (pgX x).high.size = 16 := highF_size
  have hs : ((pgX x).seps.map fun s => 3 + s.size) = List.replicate 13 19 := by
    apply List.ext_getElem
    · simp [pgX]
    · intro i h1 h2
      simp only [List.getElem_map, List.getElem_replicate]
      have hm : ∀ s ∈ (pgX x).seps, s.size = 16 := by
        intro s hs
        unfold pgX at hs
        rw [List.mem_append] at hs
        rcases hs with hs | hs
        · obtain ⟨j, _, rfl⟩ := List.mem_map.1 hs
          exact sepF_size j
        · simp at hs
          subst hs
          show (longL ++ [UInt8.ofNat x]).toArray.size = 16
          simp [longL]
      rw [hm _ (List.getElem_mem _)]
  rw [hs, hh]
  rfl
theorem pgX_right (x : Nat) : pgRight (pgX x) = false := by
  have h2 : endOk (pgX x) = false := by
    unfold endOk
    rw [pgX_size, show (pgX x).high.size = 16 from highF_size, decide_eq_false (show ¬ 270 - 16 ≤ 236 by omega), Bool.and_false]
  unfold pgRight
  rw [h2, Bool.and_false]
theorem pgF_fair (i : Nat) (hi : i ≤ 13) : (pgF i).fair := by
  refine ⟨fun s hs => ?_, by simp [pgF]; omega, show highF.size ≤ 1000 by rw [highF_size]; omega, by simp [pgF]; omega⟩
  unfold pgF at hs
  obtain ⟨j, _, rfl⟩ := List.mem_map.1 hs
  rw [sepF_size]
  omega
theorem pgX_fair (x : Nat) : (pgX x).fair := by
  refine ⟨fun s hs => ?_, by simp [pgX], show highF.size ≤ 1000 by rw [highF_size]; omega, by simp [pgX]⟩
  unfold pgX at hs
  rw [List.mem_append] at hs
  rcases hs with hs | hs
  · obtain ⟨j, _, rfl⟩ := List.mem_map.1 hs
    rw [sepF_size]
    omega
  · simp at hs
    subst hs
    show (longL ++ [UInt8.ofNat x]).toArray.size ≤ 1000
    simp [longL]
theorem conv_one (w : World) (x : Nat) (hx : x < 256) :
    (convert 60 9 (.slice (some ⟨w.heap.size, 0, none⟩) 1 1)).run Try.prog (w.alloc (.cells #[.int .u8 (x : Int)] 5)) = .ok (.string ⟨#[UInt8.ofNat x]⟩) (w.alloc (.cells #[.int .u8 (x : Int)] 5)) := by
  have := run_convert_bytes_back (P := Try.prog) (w.alloc (.cells #[.int .u8 (x : Int)] 5)) 60 9 5 ⟨w.heap.size, 0, none⟩ 1 [UInt8.ofNat x] (by kernel_rfl) (by kernel_rfl) (by kernel_rfl) (fun j hj => by
    have hj0 : j = 0 := by simpa using hj
    subst hj0
    have := (Blk.new w 5 #[.int .u8 (x : Int)]).cell 0
    simp only [List.getElem?_toArray, List.getElem?_cons_zero] at this
    rw [show (Addr.add ⟨w.heap.size, 0, none⟩ 0) = ⟨w.heap.size, 0, none⟩ by simp [Addr.add], this]
    simp only [List.getElem_cons_zero]
    rw [UInt8.toNat_ofNat', Nat.mod_eq_of_lt (by omega)])
  exact this

theorem bs_add (a b : List UInt8) : (⟨a.toArray⟩ : ByteArray) ++ ⟨b.toArray⟩ = ⟨(a ++ b).toArray⟩ := by
  apply ByteArray.ext
  simp [ByteArray.data_append]

namespace buildFits
set_option maxHeartbeats 6400000 in
set_option maxRecDepth 100000 in
theorem walk0 (fx : ∀ W : World, Calls Try.prog 20 #[] W fun e W' => e = .returned (.bool true) ∧ Below W.heap.size W W') {W : World} (last : Int) (hl0 : 0 ≤ last) :
    Calls Try.prog 7 #[.int .u8 last] W fun e w' => e = .returned (.bool true) ∧ Below W.heap.size W w' := by
  have FX := hid fx
  clear fx
  go_enter Try.func7, Try.ntmps7
  go_wp2_with (go_at_call 27; (with_reducible refine least_any.mono ?_); rintro e W ⟨rfl, rfl⟩)
  have hhf : (⟨#[120, 120, 120, 120, 120, 120, 120, 120, 120, 120, 120, 120, 120, 120, 120]⟩ : ByteArray) ++ ⟨#[255]⟩ = highF := bs_add longL [255]
  rw [hhf]
  have HSF := hid (show ∀ x : Nat, (⟨#[120, 120, 120, 120, 120, 120, 120, 120, 120, 120, 120, 120, 120, 120, 120]⟩ : ByteArray) ++ ⟨#[UInt8.ofNat x]⟩ = (⟨(longL ++ [UInt8.ofNat x]).toArray⟩ : ByteArray) from fun x => bs_add longL [UInt8.ofNat x])
  have HSX := hid (show (⟨#[120, 120, 120, 120, 120, 120, 120, 120, 120, 120, 120, 120, 120, 120, 120]⟩ : ByteArray) ++ ⟨#[120]⟩ = (⟨(longL ++ [120]).toArray⟩ : ByteArray) by exact bs_add longL [120])
  have hls : (⟨#[120, 120, 120, 120, 120, 120, 120, 120, 120, 120, 120, 120, 120, 120, 120]⟩ : ByteArray).size = 15 := rfl
  generalize (⟨#[120, 120, 120, 120, 120, 120, 120, 120, 120, 120, 120, 120, 120, 120, 120]⟩ : ByteArray) = ls at *
  have HL0 : Hid (Lr (W.heap.size + 1) W.heap.size W (.slice none 0 0) (.slice (some ⟨W.heap.size, 0, none⟩) 1 1) [] [0] highF 0 ((W.alloc (.cells #[.int .i64 0] 3)).alloc (.cells #[.slice none 0 0, .slice (some ⟨W.heap.size, 0, none⟩) 1 1, .string highF, .int .i64 0] 44))) := by
    refine ⟨?_, OwV.nil _ _, Ints.alloc (Ints.lit (Nat.le_refl _) [0] (by decide)) _, ((Below.refl _ W).alloc (Nat.le_refl _) _).alloc (by simp) _, by omega⟩
    have := Blk.new (W.alloc (.cells #[.int .i64 0] 3)) 44 #[.slice none 0 0, .slice (some ⟨W.heap.size, 0, none⟩) 1 1, .string highF, .int .i64 0]
    simpa using this
  clear hhf
  generalize hhf2 : highF = hf at *
  have HHF := hid hhf2
  clear hhf2
  generalize hSS : W.heap.size + 1 = S at *
  go_loopg [6] 12 (fun g i wr => ∃ (j : Nat) (vs vk : Value), i = .int .i64 j ∧ 1 ≤ j ∧ g + j = 13 ∧ Lr S W.heap.size W vs vk ((List.range (j - 1)).map sepF) ((List.range j).map (fun (x : Nat) => (x : Int))) hf 0 wr)
  case atStart => exact ⟨1, _, _, rfl, Nat.le_refl _, rfl, HL0.out⟩
  case round =>
    obtain ⟨j, vs, vk, rfl, hj1, hgj, hlr⟩ := hrel
    have HG := hid hgj
    have HL := hid hlr
    have hj13 : j ≤ 13 := by omega
    clear hgj hlr HL0
    obtain ⟨sa, sn, sc, rfl⟩ := owV_slice HL.out.os
    obtain ⟨ka, kn, kc, rfl⟩ := ints_slice HL.out.ok
    obtain ⟨d0, d1, d2, d3, dz⟩ := HL.out.cells
    by_cases hj : j < 13
    · have hji : (j : Int) < 13 := by omega
      have hwj : IntKind.u8.wrap (j : Int) = (j : Int) := wraps_u8 _ (by omega) (by omega)
      have hcv := conv_one wr j (by omega)
      have hsz2 : ls.size + (⟨#[UInt8.ofNat j]⟩ : ByteArray).size ≤ 9223372036854775807 := by show ls.size + 1 ≤ _; omega
      have HSJ := hid (HSF.out j)
      obtain ⟨nw, hnw⟩ : ∃ nw, ls ++ (⟨#[UInt8.ofNat j]⟩ : ByteArray) = nw := ⟨_, rfl⟩
      have HNW := hid (show nw = sepF (j - 1) by
        rw [← hnw, HSJ.out]
        unfold sepF
        rw [show j - 1 + 1 = j by omega])
      have HLA := hid (HL.out.alloc (.cells #[.int .u8 (j : Int)] 5))
      have hlen := hid (show (((List.range (j - 1)).map sepF).map scell).length < 1000000 by simp; omega)
      have hlen2 := hid (show ((List.range j).map (fun (x : Nat) => (x : Int))).length < 1000000 by simp; omega)
      have hbase := hid HLA.out.below.size
      have hhone := hid (show ∀ u ∈ (#[Value.string nw] : Array Value).toList, u.oneCell' = true by simp [Value.oneCell'])
      have hdz0 := dz 0
      have HSA := hid (show (wr.alloc (.cells #[.int .u8 (j : Int)] 5)).heap.size = wr.heap.size + 1 by simp)
      have hj0 : (0 : Int) ≤ (j : Int) := by omega
      go_upto_region 10 with (at_builtin; refine wpList_pushV 42 9 1 16 (.string ⟨#[]⟩) str_info rfl (by decide) (by decide) (by kernel_rfl) rfl (.tmp 20) (.tmp 27) rfl W.heap.size (.slice sa sn sc) _ #[.string nw] rfl HLA.out.os ?_ hlen.out hbase.out rfl hhone.out ?_; (rw [HSA.out]; rfl); intro vs' w5 hown honly; obtain ⟨a2, n2, c2, rfl⟩ := owV_slice hown; have HL5 := hid (HLA.out.pushS (x := nw) (by rw [List.map_append]; exact hown) honly); have HB5 := hid (honly.blk HLA.out.blk (fun e => by obtain ⟨_, cur, hc⟩ := HLA.out.os.block e; exact hc.ne_ HLA.out.blk (by decide) rfl)); have hz5 := HB5.out.frozen 0; have hc5 := HB5.out.cell 0; clear hown honly)
      clear hz5 hc5 HB5 hnw hdz0 d0 d1 d2 d3 dz hcv hsz2
      generalize w5.setCell ⟨S, 0, none⟩ (.slice a2 n2 c2) = w6 at *
      obtain ⟨d0, d1, d2, d3, dz⟩ := HL5.out.cells
      have hdz1 := dz 1
      have hbase6 := hid HL5.out.below.size
      go_wp2_with (at_builtin; refine wpList_push rfl (.tmp 31) (.tmp 33) rfl W.heap.size (.slice ka kn kc) _ (j : Int) rfl HL5.out.ok rfl hlen2.out hbase6.out ?_; intro vk' w7 hown honly; obtain ⟨a3, n3, c3, rfl⟩ := ints_slice hown; have HL7 := hid (HL5.out.pushK hown honly); have HB7 := hid (honly.blk HL5.out.blk (fun e => by obtain ⟨_, cur, hc⟩ := HL5.out.ok.block e; exact hc.ne_ HL5.out.blk (by decide) rfl)); have hz7 := HB7.out.frozen 1; have hc7 := HB7.out.cell 1; clear hown honly)
      have hg := HG.out
      go_roundg (gk - 1)
      case measure => omega
      case rel =>
        refine ⟨j + 1, .slice a2 n2 c2, .slice a3 n3 c3, by go_num, by omega, by omega, ?_⟩
        have h7 := HL7.out
        rw [HNW.out] at h7
        rw [show (List.range (j + 1 - 1)).map sepF = (List.range (j - 1)).map sepF ++ [sepF (j - 1)] by
          rw [show j + 1 - 1 = (j - 1) + 1 by omega, List.range_succ, List.map_append]; rfl, List.range_succ, List.map_append]
        exact h7
    · have hji : ¬ (j : Int) < 13 := by omega
      have hj2 : j = 13 := by omega
      subst hj2
      have hR1 := right11_any (W := wr) (g := pgF 13) (x := .agg #[.slice sa sn sc, .slice ka kn kc, .string hf, .int .i64 0]) ⟨_, _, by rw [← HHF.out]; rfl, RdV.of_own HL.out.os, RdI.of_own HL.out.ok⟩ (pgF_fair 13 (by omega))
      rw [pgF_right] at hR1
      have HR1 := hid hR1
      obtain ⟨r, hr, hr2⟩ : ∃ r : Nat, last.tmod 200 = (r : Int) ∧ r < 200 := by
        refine ⟨(last.tmod 200).toNat, ?_, ?_⟩
        · have := Int.tmod_nonneg 200 hl0; omega
        · have := Int.tmod_lt_of_pos last (show (0 : Int) < 200 by decide)
          have := Int.tmod_nonneg 200 hl0
          omega
      have hr3 : last % 200 = (r : Int) := by rw [← hr, Int.tmod_eq_emod_of_nonneg hl0]
      obtain ⟨x, hx⟩ : ∃ x, 20 + r = x := ⟨_, rfl⟩
      have hxi : 20 + (r : Int) = (x : Int) := by omega
      have hwr8 : IntKind.u8.wrap (r : Int) = (r : Int) := wraps_u8 _ (by omega) (by omega)
      have hwx8 : IntKind.u8.wrap (x : Int) = (x : Int) := wraps_u8 _ (by omega) (by omega)
      have hx256 : x < 256 := by omega
      clear hR1 hx
      go_wp2_with fail
      refine HR1.out.mono ?_
      rintro e w2 ⟨rfl, hb⟩
      have HL2 : Hid (Lr S W.heap.size W (.slice sa sn sc) (.slice ka kn kc) ((List.range (13 - 1)).map sepF) ((List.range 13).map (fun (x : Nat) => (x : Int))) hf 0 w2) := by
        have h := HL.out
        exact ⟨(hb.block S h.blk.lt).trans h.blk, h.os.below hb, h.ok.below hb, h.below.trans (hb.mono h.below.size), h.base⟩
      clear hb HL d0 d1 d2 d3 dz
      obtain ⟨d0, d1, d2, d3, dz⟩ := HL2.out.cells
      have hcv := conv_one w2 x hx256
      have hsz2 : ls.size + (⟨#[UInt8.ofNat x]⟩ : ByteArray).size ≤ 9223372036854775807 := by show ls.size + 1 ≤ _; omega
      have HSX2 := hid (HSF.out x)
      obtain ⟨nw, hnw⟩ : ∃ nw, ls ++ (⟨#[UInt8.ofNat x]⟩ : ByteArray) = nw := ⟨_, rfl⟩
      have HNW := hid (show nw = ⟨(longL ++ [UInt8.ofNat x]).toArray⟩ by rw [← hnw]; exact HSX2.out)
      have HLA := hid (HL2.out.alloc (.cells #[.int .u8 (x : Int)] 5))
      have hlen := hid (show (((List.range (13 - 1)).map sepF).map scell).length < 1000000 by simp)
      have hlen2 := hid (show ((List.range 13).map (fun (x : Nat) => (x : Int))).length < 1000000 by simp)
      have hbase := hid HLA.out.below.size
      have hhone := hid (show ∀ u ∈ (#[Value.string nw] : Array Value).toList, u.oneCell' = true by simp [Value.oneCell'])
      have hdz0 := dz 0
      have HSA := hid (show (w2.alloc (.cells #[.int .u8 (x : Int)] 5)).heap.size = w2.heap.size + 1 by simp)
      have hx0 : (0 : Int) ≤ (x : Int) := by omega
      go_upto_region 14 with (at_builtin; refine wpList_pushV 42 9 1 16 (.string ⟨#[]⟩) str_info rfl (by decide) (by decide) (by kernel_rfl) rfl (.tmp 40) (.tmp 48) rfl W.heap.size (.slice sa sn sc) _ #[.string nw] rfl HLA.out.os ?_ hlen.out hbase.out rfl hhone.out ?_; (rw [HSA.out]; rfl); intro vs' w5 hown honly; obtain ⟨a2, n2, c2, rfl⟩ := owV_slice hown; have HL5 := hid (HLA.out.pushS (x := nw) (by rw [List.map_append]; exact hown) honly); have HB5 := hid (honly.blk HLA.out.blk (fun e => by obtain ⟨_, cur, hc⟩ := HLA.out.os.block e; exact hc.ne_ HLA.out.blk (by decide) rfl)); have hz5 := HB5.out.frozen 0; have hc5 := HB5.out.cell 0; clear hown honly)
      clear hz5 hc5 HB5 hnw hdz0 d0 d1 d2 d3 dz hcv hsz2
      generalize w5.setCell ⟨S, 0, none⟩ (.slice a2 n2 c2) = w6 at *
      obtain ⟨d0, d1, d2, d3, dz⟩ := HL5.out.cells
      have hdz1 := dz 1
      have hbase6 := hid HL5.out.below.size
      go_upto_region 15 with (at_builtin; refine wpList_push rfl (.tmp 52) (.tmp 54) rfl W.heap.size (.slice ka kn kc) _ 13 rfl HL5.out.ok rfl hlen2.out hbase6.out ?_; intro vk' w7 hown honly; obtain ⟨a3, n3, c3, rfl⟩ := ints_slice hown; have HL7 := hid (HL5.out.pushK hown honly); have HB7 := hid (honly.blk HL5.out.blk (fun e => by obtain ⟨_, cur, hc⟩ := HL5.out.ok.block e; exact hc.ne_ HL5.out.blk (by decide) rfl)); have hz7 := HB7.out.frozen 1; have hc7 := HB7.out.cell 1; clear hown honly)
      clear hz7 hc7 HB7 hdz1 d0 d1 d2 d3 dz HL5 HLA HL2
      generalize w7.setCell ⟨S, 1, none⟩ (.slice a3 n3 c3) = w8 at *
      obtain ⟨d0, d1, d2, d3, dz⟩ := HL7.out.cells
      have hR2 := right11_any (W := w8) (g := pgX x) (x := .agg #[.slice a2 n2 c2, .slice a3 n3 c3, .string hf, .int .i64 0]) ⟨_, _, by rw [← HHF.out]; rfl, RdV.of_own (by
        have h := HL7.out.os
        rw [HNW.out] at h
        exact h), RdI.of_own HL7.out.ok⟩ (pgX_fair x)
      rw [pgX_right] at hR2
      have HR2 := hid hR2
      have hszx : ls.size + (⟨#[120]⟩ : ByteArray).size ≤ 9223372036854775807 := by show ls.size + 1 ≤ _; omega
      obtain ⟨kx, hkx⟩ : ∃ kx, ls ++ (⟨#[120]⟩ : ByteArray) = kx := ⟨_, rfl⟩
      have hkxs : kx = ⟨(longL ++ [120]).toArray⟩ := by rw [← hkx]; exact HSX.out
      have hkz : kx.size = 16 := by rw [hkxs]; rfl
      have HKX := hid (show keyB kx = true by unfold keyB; rw [hkz]; rfl)
      have HKZ := hid hkz
      clear hR2 hkxs hkz
      go_wp2_with fail
      refine HR2.out.mono ?_
      rintro e w9 ⟨rfl, hb⟩
      have HB9 := hid (HL7.out.below.trans (hb.mono HL7.out.below.size))
      clear hb d0 d1 d2 d3 dz
      go_wp2_with fail
      refine (rkey_any kx (by rw [HKZ.out]; omega)).mono ?_
      rintro e w10 ⟨rfl, rfl⟩
      rw [HKX.out]
      go_wp2_with fail
      refine (FX.out _).mono ?_
      rintro e w11 ⟨rfl, hb⟩
      have HB11 := hid (HB9.out.trans (hb.mono HB9.out.size))
      clear hb
      go_wp2
      go_ret
      exact ⟨rfl, HB11.out⟩
end buildFits
end Go.Proofs.Ytfoidiebdklggaa
