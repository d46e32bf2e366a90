/-
  A shelf of pages: what Copy, New, Swap do, by contracts.
-/
import Derived.Test.YtcblkdocbmpkeaaSw
open Go Go.RowKit
namespace Go.Proofs.Ytcblkdocbmpkeaa

set_option maxHeartbeats 2000000 in
set_option maxRecDepth 100000 in
theorem copy_s {W : World} {B S p mb : Nat} {v : Value} {M : Mt} (h : Sh W B S p mb v M) :
    Calls Try.prog 16 #[.pointer (some ⟨S, 0, none⟩)] W fun e W' => ∃ S' p' mb' v', e = .returned (.pointer (some ⟨S', 0, none⟩)) ∧ Sh W' W.heap.size S' p' mb' v' M ∧ Below W.heap.size W W' := by
  have h0 := h.blk.cell 0
  have h1 := h.blk.cell 1
  simp only [List.getElem?_toArray, List.getElem?_cons_zero, List.getElem?_cons_succ] at h0 h1
  have hS : S < W.heap.size := h.blk.lt
  have HC := hid (fun n => copy_any (h.drewN n).bt)
  have HCd := hid (copy_any (W := W.drew) (h.drewN 1).bt)
  have HM := hid h.mp
  clear h
  go_enter Try.func16, Try.ntmps16
  go_wp2
  go_region_held3 (fun w' => w'.cell? ⟨S, 0, none⟩ = some (.pointer (some ⟨p, 0, none⟩)) ∧ w'.cell? ⟨S, 1, none⟩ = some (.map (some mb)))
    (first | go_keep | assumption)
    (first
    | (go_at_call 34; ((first | with_reducible refine (HC.out _).mono ?_ | with_reducible refine HCd.out.mono ?_)); rintro e w2 ⟨x, rfl, p', v', rfl, hbt, hb⟩; have HBT := hid hbt; have HB := hid (show Below W.heap.size W w2 from ⟨hb.os, hb.tape, hb.output, hb.size, hb.block⟩); have hS2 := And.intro ((HB.out.cell (p := ⟨S, 0, none⟩) hS).trans h0) ((HB.out.cell (p := ⟨S, 1, none⟩) hS).trans h1); have HCM := hid (cloneM_any (HM.out.keep (S := fun _ => False) (Only.of_below HB.out) id)); clear hbt hb)
    | (go_at_call 35; (with_reducible refine HCM.out.mono ?_); rintro e w3 ⟨rfl, hm, hb⟩; have HM3 := hid hm; have HB3 := hid hb; have hS3 := And.intro (((HB.out.trans (hb.mono HB.out.size)).cell (p := ⟨S, 0, none⟩) hS).trans h0) (((HB.out.trans (hb.mono HB.out.size)).cell (p := ⟨S, 1, none⟩) hS).trans h1); clear hm hb))
  all_goals
    go_wp2
    go_ret
    have hb : Below W.heap.size W w3 := HB.out.trans (HB3.out.mono HB.out.size)
    exact ⟨w3.heap.size, p', w2.heap.size, v', rfl, ⟨Blk.new w3 _ _, (HBT.out.below_keep HB3.out).alloc _, HM3.out.alloc _, hb.size, HB.out.size⟩, hb.alloc hb.size _⟩

def NewSP (W : World) (n : Int) (e : Ending) (w : World) : Prop :=
  if 1 ≤ n ∧ n ≤ 1024 then ∃ S p mb v, e = .returned (.tuple #[.pointer (some ⟨S, 0, none⟩), .int .i64 0]) ∧ Sh w W.heap.size S p mb v (List.replicate n.toNat none) ∧ Below W.heap.size W w
  else e = .returned (.tuple #[.pointer none, .int .i64 1]) ∧ Below W.heap.size W w
theorem NewSP.get {W w : World} {n : Nat} {e : Ending} (h : NewSP W (n : Int) e w) (h1 : 1 ≤ n) (h2 : n ≤ 1024) : ∃ S p mb v, e = .returned (.tuple #[.pointer (some ⟨S, 0, none⟩), .int .i64 0]) ∧ Sh w W.heap.size S p mb v (List.replicate n none) ∧ Below W.heap.size W w := by
  unfold NewSP at h
  rw [if_pos (by omega), Int.toNat_natCast] at h
  exact h
theorem NewSP.no {W w : World} {n : Int} {e : Ending} (h : NewSP W n e w) (h1 : ¬ (1 ≤ n ∧ n ≤ 1024)) : e = .returned (.tuple #[.pointer none, .int .i64 1]) ∧ Below W.heap.size W w := by
  unfold NewSP at h
  rw [if_neg h1] at h
  exact h
set_option maxRecDepth 100000 in
theorem new_s {W : World} (n : Int) : Calls Try.prog 7 #[.int .i64 n] W (NewSP W n) := by
  by_cases h : 1 ≤ n ∧ n ≤ 1024
  · obtain ⟨m, rfl⟩ : ∃ m : Nat, n = m := ⟨n.toNat, by omega⟩
    have hp : NewSP W (m : Int) = fun e w => ∃ S p mb v, e = .returned (.tuple #[.pointer (some ⟨S, 0, none⟩), .int .i64 0]) ∧ Sh w W.heap.size S p mb v (List.replicate m none) ∧ Below W.heap.size W w := by
      funext e w
      unfold NewSP
      rw [if_pos h, Int.toNat_natCast]
    rw [hp]
    have hmm := @run_makeMap Try.prog
    obtain ⟨h1, h2⟩ := h
    clear hp
    go_enter Try.func7, Try.ntmps7
    go_wp2_with fail
    refine (new_any (m : Int)).mono ?_
    rintro e w1 hq
    obtain ⟨p, v, rfl, hbt, hb⟩ := hq.get (by omega) (by omega)
    have HBT := hid hbt
    have HB := hid hb
    clear hq hbt hb
    go_wp2
    go_ret2
    have hm := (Mp.new w1 m (by omega)).alloc (.cells #[.pointer (some ⟨p, 0, none⟩), .map (some w1.heap.size)] 65)
    have hb2 := HB.out.alloc HB.out.size (.map #[] 0)
    have hblk := Blk.new (w1.alloc (.map #[] 0)) 65 #[.pointer (some ⟨p, 0, none⟩), .map (some w1.heap.size)]
    rw [show (w1.alloc (.map #[] 0)).heap.size = w1.heap.size + 1 by simp] at hblk
    refine ⟨_, p, w1.heap.size, v, rfl, ⟨hblk, ?_, hm, by have := HB.out.size; omega, HB.out.size⟩, hb2.alloc hb2.size _⟩
    rw [tks_new]
    exact (HBT.out.alloc _).alloc _
  · have hp : NewSP W n = fun e w => e = .returned (.tuple #[.pointer none, .int .i64 1]) ∧ Below W.heap.size W w := by
      funext e w
      unfold NewSP
      rw [if_neg h]
    rw [hp]
    go_enter Try.func7, Try.ntmps7
    go_wp2_with fail
    refine (new_any n).mono ?_
    rintro e w1 hq
    obtain ⟨rfl, hb⟩ := hq.no h
    have HB := hid hb
    clear hb hq
    go_wp2
    go_ret2
    exact ⟨rfl, HB.out⟩

def swapE (M : Mt) (a b : Int) : Int := if readE M a = 0 then readE M b else readE M a
def swapM (M : Mt) (a b : Int) : Mt := if swapE M a b = 0 then (M.set a.toNat (some (getM M b.toNat))).set b.toNat (some (getM M a.toNat)) else M
theorem index2 (x y : Int) (w : World) : (Instr.index 68 (.agg #[.int .i64 x, .int .i64 y]) (.int .i64 0)).run Try.prog w = .ok (.int .i64 x) w ∧ (Instr.index 68 (.agg #[.int .i64 x, .int .i64 y]) (.int .i64 1)).run Try.prog w = .ok (.int .i64 y) w := by
  have hund : Try.prog.underlying 68 = some (.array 2 3) := by kernel_rfl
  obtain ⟨i0, hi, hz0, hz1, hz2⟩ := info_parts int_info
  constructor <;> simp [Instr.index, asIntOf, run_underlying hund, sizeOf, typeInfo, hi, hz1, part]

set_option maxHeartbeats 2000000 in
set_option maxRecDepth 100000 in
theorem swap_s {W : World} {B S p mb : Nat} {v : Value} {M : Mt} (h : Sh W B S p mb v M) (a b : Int) :
    Calls Try.prog 12 #[.pointer (some ⟨S, 0, none⟩), .int .i64 a, .int .i64 b] W fun e W' => e = .returned (.int .i64 (swapE M a b)) ∧ Sh W' B S p mb v (swapM M a b) ∧ Only (ShO v mb) W W' := by
  have H := hid h
  have HI := hid (fun w => index2 a b w)
  have hS : S < W.heap.size := h.blk.lt
  have hall := hid (fun w' (hb : Below W.heap.size W w') => h.below hb)
  have hB0 := hid ((Below.refl W.heap.size W).alloc (Nat.le_refl _) (.cells #[.string ⟨#[]⟩, .string ⟨#[]⟩] 67))
  clear h
  go_enter Try.func12, Try.ntmps12
  go_wp2
  go_loopg [15] 2 (fun g' i wr => ∃ k : Nat, i = .int .i64 k ∧ g' + k = 2 ∧ ∃ x y, Blk wr W.heap.size 67 #[.string x, .string y] ∧ Below W.heap.size W wr ∧ (1 ≤ k → readE M a = 0 ∧ x = readS M a) ∧ (2 ≤ k → readE M b = 0 ∧ y = readS M b))
  case atStart => exact ⟨0, rfl, rfl, ⟨#[]⟩, ⟨#[]⟩, Blk.new _ _ _, hB0.out, fun h => absurd h (by omega), fun h => absurd h (by omega)⟩
  case round =>
    obtain ⟨k, rfl, hgk, x, y, hblk, hb, hx, hy⟩ := hrel
    have HG := hid hgk
    have HB := hid hb
    have HK := hid hblk
    have HX := hid hx
    have HY := hid hy
    have hsh := hall.out _ hb
    have HSH := hid hsh
    have hk2 : k ≤ 2 := by omega
    clear hgk hb hblk hx hy
    obtain rfl | rfl | rfl : k = 0 ∨ k = 1 ∨ k = 2 := by omega
    · have hi1 := (HI.out wr).1
      have HR := hid (read_s HSH.out a)
      by_cases hz : readE M a = 0
      · rw [hz] at HR
        have HZ := hid hz
        have hf := fun j => HK.out.frozen j
        have hc := HK.out.cell 0
        simp only [List.getElem?_toArray, List.getElem?_cons_zero] at hc
        have HB2 := hid (HB.out.setCell (p := ⟨W.heap.size, 0, none⟩) (Nat.le_refl _) (.string (readS M a)))
        have HK2 := hid (show Blk (wr.setCell ⟨W.heap.size, 0, none⟩ (.string (readS M a))) W.heap.size 67 #[.string (readS M a), .string y] from HK.out.set_ 0 _)
        generalize readS M a = s at *
        clear hz hsh
        go_wp2_with fail
        refine HR.out.mono ?_
        rintro e w1 ⟨rfl, rfl⟩
        go_wp2
        have hg := HG.out
        go_roundg (gk - 1)
        case measure => omega
        case rel => exact ⟨1, by go_num, by omega, s, y, HK2.out, HB2.out, fun _ => ⟨HZ.out, rfl⟩, fun h => absurd h (by omega)⟩
      · have e1 : swapE M a b = readE M a := by unfold swapE; rw [if_neg hz]
        have e2 : swapM M a b = M := by unfold swapM; rw [if_neg (by rw [e1]; exact hz)]
        have HE := hid (And.intro e1 e2)
        have hz2 : (readE M a != 0) = true := by simpa using hz
        clear hsh e1 e2 HX HY
        go_wp2_with fail
        refine HR.out.mono ?_
        rintro e w1 ⟨rfl, rfl⟩
        go_wp2
        go_ret
        rw [HE.out.1, HE.out.2]
        exact ⟨rfl, HSH.out, Only.of_below HB.out⟩
    · have hi1 := (HI.out wr).2
      have HR := hid (read_s HSH.out b)
      by_cases hz : readE M b = 0
      · rw [hz] at HR
        have HZ := hid hz
        have hf := fun j => HK.out.frozen j
        have hc := HK.out.cell 1
        simp only [List.getElem?_toArray, List.getElem?_cons_zero, List.getElem?_cons_succ] at hc
        have HB2 := hid (HB.out.setCell (p := ⟨W.heap.size, 1, none⟩) (Nat.le_refl _) (.string (readS M b)))
        have HK2 := hid (show Blk (wr.setCell ⟨W.heap.size, 1, none⟩ (.string (readS M b))) W.heap.size 67 #[.string x, .string (readS M b)] from HK.out.set_ 1 _)
        generalize readS M b = s at *
        clear hz hsh
        go_wp2_with fail
        refine HR.out.mono ?_
        rintro e w1 ⟨rfl, rfl⟩
        go_wp2
        have hg := HG.out
        go_roundg (gk - 1)
        case measure => omega
        case rel => exact ⟨2, by go_num, by omega, x, s, HK2.out, HB2.out, fun _ => HX.out (by omega), fun _ => ⟨HZ.out, rfl⟩⟩
      · obtain ⟨h1, h2⟩ := HX.out (by omega)
        have e1 : swapE M a b = readE M b := by unfold swapE; rw [if_pos h1]
        have e2 : swapM M a b = M := by unfold swapM; rw [if_neg (by rw [e1]; exact hz)]
        have HE := hid (And.intro e1 e2)
        have hz2 : (readE M b != 0) = true := by simpa using hz
        clear hsh e1 e2 HX HY h1 h2
        go_wp2_with fail
        refine HR.out.mono ?_
        rintro e w1 ⟨rfl, rfl⟩
        go_wp2
        go_ret
        rw [HE.out.1, HE.out.2]
        exact ⟨rfl, HSH.out, Only.of_below HB.out⟩
    · obtain ⟨ha, rfl⟩ := HX.out (by omega)
      obtain ⟨hbz, rfl⟩ := HY.out (by omega)
      have e1 : swapE M a b = 0 := by unfold swapE; rw [if_pos ha, hbz]
      obtain ⟨i, rfl, hi, hih⟩ := read_zero ha
      obtain ⟨j, rfl, hj, hjh⟩ := read_zero hbz
      have e2 : swapM M (i : Int) (j : Int) = (M.set i (some (getM M j))).set j (some (getM M i)) := by unfold swapM; rw [if_pos e1, Int.toNat_natCast, Int.toNat_natCast]
      have e3 : readS M (i : Int) = getM M i := by unfold readS; rw [hasB_has hi, Int.toNat_natCast, hih]; rfl
      have e4 : readS M (j : Int) = getM M j := by unfold readS; rw [hasB_has hj, Int.toNat_natCast, hjh]; rfl
      have HE := hid (And.intro e1 e2)
      rw [e3, e4] at HK
      have hmp := HSH.out.mp.drewN 1
      obtain ⟨v1, st1, r1, k1⟩ := hmp.entry hi hih
      obtain ⟨w1, r2, hm1, ho1⟩ := k1 (getM M j) (HSH.out.mp.size hj)
      have hjh1 : hasM (M.set i (some (getM M j))) j = true := by
        unfold hasM
        rw [atM_set hi]
        split
        · rfl
        · exact hjh
      obtain ⟨v2, st2, r3, k2⟩ := hm1.entry (i := j) (by simpa using hj) hjh1
      obtain ⟨w2, r4, hm2, ho2⟩ := k2 (getM M i) (HSH.out.mp.size hi)
      have hS1 := HSH.out.drewN 1
      have hs1 := hS1.over hi hih hm1 ho1
      have HS2 := hid (hs1.over (by simpa using hj) hjh1 hm2 ho2)
      have hne : W.heap.size ≠ mb := fun e => HSH.out.mp.ne_blk HK.out e.symm
      have hbk := (HK.out.drewN 1)
      have hbk1 := ho1.blk hbk hne
      have c1 := HSH.out.blk.cell 1
      have c2 := hs1.blk.cell 1
      have d0 := HK.out.cell 0
      have d1 := HK.out.cell 1
      have f0 := hbk1.cell 0
      have f1 := hbk1.cell 1
      simp only [List.getElem?_toArray, List.getElem?_cons_zero, List.getElem?_cons_succ] at c1 c2 d0 d1 f0 f1
      have HO := hid (show Only (ShO v mb) W w2 from ((Only.of_below HB.out).drew.trans (ho1.mono (fun k _ e => .inl e))).trans (ho2.mono (fun k _ e => .inl e)))
      generalize getM M i = si at *
      generalize getM M j = sj at *
      replace r1 : (Instr.mapEntry 63 (.map (some mb)) (.int .i64 (i : Int))).run Try.prog wr.drew = .ok (.tuple #[v1, .int .i64 st1]) wr.drew := r1
      replace r2 : (Instr.entryStore 63 (.map (some mb)) (.int .i64 st1) (.string sj)).run Try.prog wr.drew = .ok () w1 := r2
      clear hmp k1 k2 hm1 hm2 ho1 ho2 hs1 hS1 hbk hbk1 e1 e2 e3 e4 ha hbz hi hj hih hjh hjh1 HX HY hsh hne
      go_wp2
      go_region
      all_goals
        go_wp2
        go_ret
        rw [HE.out.1, HE.out.2]
        exact ⟨rfl, HS2.out, HO.out⟩
end Go.Proofs.Ytcblkdocbmpkeaa
