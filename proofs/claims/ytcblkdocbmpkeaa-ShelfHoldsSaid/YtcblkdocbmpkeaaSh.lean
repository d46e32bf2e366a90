/-
  A shelf of pages: what Take, TakeAt, Give, Read, Write, Free, Len, Taken, Run do, by contracts.
-/
import Derived.Test.YtcblkdocbmpkeaaMp
import Derived.Test.YtcblkdocbmpkeaaTf
import Derived.Test.YtcblkdocbmpkeaaCp
open Go Go.RowKit
namespace Go.Proofs.Ytcblkdocbmpkeaa

def tks (M : Mt) : List Bool := M.map Option.isSome
theorem tks_len (M : Mt) : (tks M).length = M.length := by simp [tks]
theorem tks_set (M : Mt) (i : Nat) (x : Option ByteArray) : tks (M.set i x) = (tks M).set i x.isSome := by simp [tks, List.map_set]
theorem tks_at {M : Mt} {i : Nat} (h : i < M.length) : tk (tks M) i = hasM M i := by
  unfold tk tks hasM
  rw [List.getElem?_map, atM_lt h]
  rfl
theorem tks_new (n : Nat) : tks (List.replicate n none) = List.replicate n false := by simp [tks]
/-- The shelf in block S. -/
structure Sh (w : World) (B S p mb : Nat) (v : Value) (M : Mt) : Prop where
  blk : Blk w S 65 #[.pointer (some ⟨p, 0, none⟩), .map (some mb)]
  bt : Bt w B p v (tks M)
  mp : Mp w mb M
  b1 : B ≤ S
  b2 : B ≤ mb
def ShO (v : Value) (mb : Nat) (k : Nat) : Prop := k = mb ∨ v.ownBlock = some k
section
variable {w w' : World} {B S p mb : Nat} {v : Value} {M : Mt} {T : Nat → Prop}
theorem Sh.keep (h : Sh w B S p mb v M) (ho : Only T w w') (h1 : ¬ T S) (h2 : ¬ T p) (h3 : ∀ k, ShO v mb k → ¬ T k) : Sh w' B S p mb v M :=
  ⟨ho.blk h.blk h1, h.bt.keep ho h2 (fun g e => h3 g (.inr e)), h.mp.keep ho (h3 mb (.inl rfl)), h.b1, h.b2⟩
theorem Sh.below (h : Sh w B S p mb v M) (hb : Below w.heap.size w w') : Sh w' B S p mb v M := h.keep (Only.of_below (S := fun _ => False) hb) id id (fun _ _ e => e)
theorem Sh.drewN (h : Sh w B S p mb v M) (n : Nat) : Sh (w.drewN n) B S p mb v M := h.keep (S := S) (T := fun _ => False) ((Only.refl _ w).drewN n) id id (fun _ _ e => e)
theorem Sh.alloc (h : Sh w B S p mb v M) (o : Obj) : Sh (w.alloc o) B S p mb v M := h.keep (T := fun _ => False) ((Only.refl _ w).alloc o) id id (fun _ _ e => e)
/-- Nothing that a call turns lies below B. -/
theorem Sh.only_below (h : Sh w B S p mb v M) (ho : Only (ShO v mb) w w') (hB : B ≤ w.heap.size) : Below B w w' := ho.below hB (fun k hk e => by
  rcases e with rfl | e
  · have := h.b2; omega
  · have := (h.bt.row.block e).1; omega)
/-- The set of pages turns, and the map not yet. -/
theorem Sh.bits (h : Sh w B S p mb v M) (ho : Only (fun k => v.ownBlock = some k) w w') : Blk w' S 65 #[.pointer (some ⟨p, 0, none⟩), .map (some mb)] ∧ Mp w' mb M := by
  refine ⟨ho.blk h.blk (fun e => ?_), h.mp.keep ho (fun e => ?_)⟩
  · obtain ⟨_, cur, hc⟩ := h.bt.row.block e
    exact hc.ne_ h.blk (by decide) rfl
  · obtain ⟨_, cur, hc⟩ := h.bt.row.block e
    exact h.mp.ne_blk hc rfl
theorem Sh.own (h : Sh w B S p mb v M) : ¬ (fun k => k = mb) S ∧ ¬ (fun k => k = mb) p ∧ ∀ g, v.ownBlock = some g → ¬ g = mb := by
  refine ⟨fun e => h.mp.ne_blk h.blk e.symm, fun e => h.mp.ne_blk h.bt.blk e.symm, fun g e e' => ?_⟩
  obtain ⟨_, cur, hc⟩ := h.bt.row.block e
  exact h.mp.ne_blk hc e'.symm
/-- .. and then the map. -/
theorem Sh.after {w1 w2 : World} {M' : Mt} (h : Sh w B S p mb v M) (ho : Only (fun k => v.ownBlock = some k) w w1) (hbt : Bt w1 B p v (tks M')) (hm : Mp w2 mb M') (ho2 : Only (fun k => k = mb) w1 w2) : Sh w2 B S p mb v M' ∧ Only (ShO v mb) w w2 := by
  obtain ⟨h1, h2⟩ := h.bits ho
  have hne : ∀ g, v.ownBlock = some g → ¬ g = mb := fun g e e' => by
    obtain ⟨_, cur, hc⟩ := hbt.row.block e
    exact h2.ne_blk hc e'.symm
  exact ⟨⟨ho2.blk h1 (fun e => h2.ne_blk h1 e.symm), hbt.keep ho2 (fun e => h2.ne_blk hbt.blk e.symm) hne, hm, h.b1, h.b2⟩, (ho.mono (fun k _ e => .inr e)).trans (ho2.mono (fun k _ e => .inl e))⟩
theorem Sh.same {w1 : World} (h : Sh w B S p mb v M) (ho : Only (fun k => v.ownBlock = some k) w w1) (hbt : Bt w1 B p v (tks M)) : Sh w1 B S p mb v M ∧ Only (ShO v mb) w w1 := by
  obtain ⟨h1, h2⟩ := h.bits ho
  exact ⟨⟨h1, hbt, h2, h.b1, h.b2⟩, ho.mono (fun k _ e => .inr e)⟩
end

theorem free_some {T : List Bool} {x : Int} (hN : 1 ≤ T.length) (h : freeX T 0 = some x) : ∃ i : Nat, x = i ∧ i < T.length ∧ isB T (i : Int) = false := by
  unfold freeX at h
  have h1 := List.find?_some h
  have h2 := List.mem_of_find?_eq_some h
  obtain ⟨i, hi, rfl⟩ := mem_upto (b := 0) (N := T.length) hN h2
  exact ⟨i, rfl, hi, by simpa using h1⟩
def takeMX (M : Mt) : Int := match freeX (tks M) 0 with | some x => x | none => 0
def takeME (M : Mt) : Int := match freeX (tks M) 0 with | some _ => 0 | none => 6
def takeM (M : Mt) : Mt := match freeX (tks M) 0 with | some x => M.set x.toNat (some ⟨#[]⟩) | none => M
theorem empty_small : (⟨#[]⟩ : ByteArray).size ≤ maxLen := by decide

set_option maxRecDepth 100000 in
theorem take_s {W : World} {B S p mb : Nat} {v : Value} {M : Mt} (h : Sh W B S p mb v M) :
    Calls Try.prog 8 #[.pointer (some ⟨S, 0, none⟩)] W fun e W' => e = .returned (.tuple #[.int .i64 (takeMX M), .int .i64 (takeME M)]) ∧ Sh W' B S p mb v (takeM M) ∧ Only (ShO v mb) W W' := by
  have H := hid h
  have h0 := h.blk.cell 0
  simp only [List.getElem?_toArray, List.getElem?_cons_zero] at h0
  have hN := h.bt.len1
  have hh : hasB (tks M) 0 = true := by simp [hasB]; omega
  have hX : takeRX (tks M) 0 = takeMX M := by unfold takeRX takeMX; rw [if_pos hh]; rfl
  have hE : takeRE (tks M) 0 = takeME M := by unfold takeRE takeME; rw [if_pos hh]; rfl
  have hC := hid (take_any h.bt 0)
  rw [hX, hE] at hC
  cases hf : freeX (tks M) 0 with
  | none =>
    have e1 : takeMX M = 0 := by unfold takeMX; rw [hf]
    have e2 : takeME M = 6 := by unfold takeME; rw [hf]
    have e3 : takeM M = M := by unfold takeM; rw [hf]
    have e4 : takeRT (tks M) 0 = tks M := by unfold takeRT; rw [if_pos hh]; show (match freeX (tks M) 0 with | some x => _ | none => _) = _; rw [hf]
    rw [e1, e2, e4] at hC
    rw [e1, e2, e3]
    clear h hX hE hf e1 e2 e3 e4 hh hN
    go_enter Try.func8, Try.ntmps8
    go_wp2_with fail
    refine hC.out.mono ?_
    rintro e w1 ⟨rfl, hb, ho⟩
    have HS := hid (H.out.same ho hb)
    clear hb ho
    go_wp2
    go_ret2
    exact ⟨rfl, HS.out⟩
  | some x =>
    obtain ⟨i, rfl, hi, hb⟩ := free_some hN hf
    have e1 : takeMX M = i := by unfold takeMX; rw [hf]
    have e2 : takeME M = 0 := by unfold takeME; rw [hf]
    have e3 : takeM M = M.set i (some ⟨#[]⟩) := by unfold takeM; rw [hf]; rfl
    have e4 : takeRT (tks M) 0 = tks (M.set i (some ⟨#[]⟩)) := by
      rw [tks_set]
      unfold takeRT
      rw [if_pos hh]
      show (match freeX (tks M) 0 with | some x => _ | none => _) = _
      rw [hf]
      rfl
    rw [e1, e2, e4] at hC
    rw [e1, e2, e3]
    rw [tks_len] at hi
    have HI := hid hi
    clear h hX hE hf e1 e2 e3 e4 hh hN hb hi
    go_enter Try.func8, Try.ntmps8
    go_wp2_with fail
    refine hC.out.mono ?_
    rintro e w1 ⟨rfl, hb, ho⟩
    obtain ⟨k1, k2⟩ := H.out.bits ho
    obtain ⟨w2, hrun, hm, ho2⟩ := k2.store HI.out empty_small
    have HS := hid (H.out.after ho hb hm ho2)
    have c1 := k1.cell 1
    simp only [List.getElem?_toArray, List.getElem?_cons_zero, List.getElem?_cons_succ] at c1
    clear hb ho k1 k2 hm ho2
    go_wp2
    go_ret2
    exact ⟨rfl, HS.out⟩

theorem isB_set {M : Mt} {i : Int} (h : isB (tks M) i = true) : ∃ j : Nat, i = j ∧ j < M.length ∧ hasM M j = true := by
  unfold isB at h
  simp only [Bool.and_eq_true, decide_eq_true_eq] at h
  obtain ⟨⟨h1, h2⟩, h3⟩ := h
  rw [tks_len] at h2
  refine ⟨i.toNat, by omega, by omega, ?_⟩
  rw [← tks_at (by omega)]
  exact h3
theorem hasB_set {M : Mt} {i : Int} (h : hasB (tks M) i = true) : ∃ j : Nat, i = j ∧ j < M.length := by
  unfold hasB at h
  simp only [Bool.and_eq_true, decide_eq_true_eq, tks_len] at h
  exact ⟨i.toNat, by omega, by omega⟩
theorem isB_has {M : Mt} {j : Nat} (h : j < M.length) : isB (tks M) (j : Int) = hasM M j := by
  rw [isB_nat (by rw [tks_len]; exact h), tks_at h]
theorem hasB_has {M : Mt} {j : Nat} (h : j < M.length) : hasB (tks M) (j : Int) = true := hasB_nat (by rw [tks_len]; exact h)

def takeAtM (M : Mt) (i : Int) : Mt := if takeE (tks M) i = 0 then M.set i.toNat (some ⟨#[]⟩) else M
theorem takeAt_zero {M : Mt} {i : Int} (h : takeE (tks M) i = 0) : ∃ j : Nat, i = j ∧ j < M.length ∧ takeT (tks M) i = tks (M.set j (some ⟨#[]⟩)) := by
  have hh : hasB (tks M) i = true := by
    cases hc : hasB (tks M) i with
    | true => rfl
    | false => unfold takeE at h; rw [hc] at h; simp at h
  have hi : isB (tks M) i = false := by
    cases hc : isB (tks M) i with
    | false => rfl
    | true => unfold takeE at h; rw [hh, hc] at h; simp at h
  obtain ⟨j, rfl, hj⟩ := hasB_set hh
  refine ⟨j, rfl, hj, ?_⟩
  unfold takeT
  rw [hh, hi, tks_set]
  rfl
theorem takeAt_other {M : Mt} {i : Int} (h : ¬ takeE (tks M) i = 0) : takeT (tks M) i = tks M := by
  unfold takeE at h
  unfold takeT
  cases h1 : hasB (tks M) i <;> cases h2 : isB (tks M) i <;> simp [h1, h2] at h ⊢
set_option maxRecDepth 100000 in
theorem takeAt_s {W : World} {B S p mb : Nat} {v : Value} {M : Mt} (h : Sh W B S p mb v M) (i : Int) :
    Calls Try.prog 9 #[.pointer (some ⟨S, 0, none⟩), .int .i64 i] W fun e W' => e = .returned (.int .i64 (takeE (tks M) i)) ∧ Sh W' B S p mb v (takeAtM M i) ∧ Only (ShO v mb) W W' := by
  have H := hid h
  have h0 := h.blk.cell 0
  simp only [List.getElem?_toArray, List.getElem?_cons_zero] at h0
  have hC := hid (takeAt_any h.bt i)
  by_cases hz : takeE (tks M) i = 0
  · obtain ⟨j, rfl, hj, hT⟩ := takeAt_zero hz
    have e3 : takeAtM M (j : Int) = M.set j (some ⟨#[]⟩) := by unfold takeAtM; rw [if_pos hz, Int.toNat_natCast]
    rw [hz, hT] at hC
    rw [hz, e3]
    have HI := hid hj
    clear h hz hT e3 hj
    go_enter Try.func9, Try.ntmps9
    go_wp2_with fail
    refine hC.out.mono ?_
    rintro e w1 ⟨rfl, hb, ho⟩
    obtain ⟨k1, k2⟩ := H.out.bits ho
    obtain ⟨w2, hrun, hm, ho2⟩ := k2.store HI.out empty_small
    have HS := hid (H.out.after ho hb hm ho2)
    have c1 := k1.cell 1
    simp only [List.getElem?_toArray, List.getElem?_cons_zero, List.getElem?_cons_succ] at c1
    clear hb ho k1 k2 hm ho2
    go_wp2
    go_ret
    exact ⟨rfl, HS.out⟩
  · have e3 : takeAtM M i = M := by unfold takeAtM; rw [if_neg hz]
    rw [takeAt_other hz] at hC
    rw [e3]
    generalize takeE (tks M) i = z at *
    have hz2 : (z == 0) = false := by simpa using hz
    clear h e3
    go_enter Try.func9, Try.ntmps9
    go_wp2_with fail
    refine hC.out.mono ?_
    rintro e w1 ⟨rfl, hb, ho⟩
    have HS := hid (H.out.same ho hb)
    clear hb ho
    go_wp2
    go_ret
    exact ⟨rfl, HS.out⟩

def giveM (M : Mt) (i : Int) : Mt := if giveE (tks M) i = 0 then M.set i.toNat none else M
theorem give_zero {M : Mt} {i : Int} (h : giveE (tks M) i = 0) : ∃ j : Nat, i = j ∧ j < M.length ∧ giveT (tks M) i = tks (M.set j none) := by
  have hh : hasB (tks M) i = true := by
    cases hc : hasB (tks M) i with
    | true => rfl
    | false => unfold giveE at h; rw [hc] at h; simp at h
  have hi : isB (tks M) i = true := by
    cases hc : isB (tks M) i with
    | true => rfl
    | false => unfold giveE at h; rw [hh, hc] at h; simp at h
  obtain ⟨j, rfl, hj⟩ := hasB_set hh
  refine ⟨j, rfl, hj, ?_⟩
  unfold giveT
  rw [hi, tks_set]
  rfl
theorem give_other {M : Mt} {i : Int} (h : ¬ giveE (tks M) i = 0) : giveT (tks M) i = tks M := by
  unfold giveT
  cases h2 : isB (tks M) i with
  | false => rfl
  | true =>
    obtain ⟨j, rfl, hj, _⟩ := isB_set h2
    unfold giveE at h
    rw [hasB_has hj, h2] at h
    simp at h
set_option maxRecDepth 100000 in
theorem give_s {W : World} {B S p mb : Nat} {v : Value} {M : Mt} (h : Sh W B S p mb v M) (i : Int) :
    Calls Try.prog 10 #[.pointer (some ⟨S, 0, none⟩), .int .i64 i] W fun e W' => e = .returned (.int .i64 (giveE (tks M) i)) ∧ Sh W' B S p mb v (giveM M i) ∧ Only (ShO v mb) W W' := by
  have H := hid h
  have h0 := h.blk.cell 0
  simp only [List.getElem?_toArray, List.getElem?_cons_zero] at h0
  have hC := hid (give_any h.bt i)
  by_cases hz : giveE (tks M) i = 0
  · obtain ⟨j, rfl, hj, hT⟩ := give_zero hz
    have e3 : giveM M (j : Int) = M.set j none := by unfold giveM; rw [if_pos hz, Int.toNat_natCast]
    rw [hz, hT] at hC
    rw [hz, e3]
    have HI := hid hj
    clear h hz hT e3 hj
    go_enter Try.func10, Try.ntmps10
    go_wp2_with fail
    refine hC.out.mono ?_
    rintro e w1 ⟨rfl, hb, ho⟩
    obtain ⟨k1, k2⟩ := H.out.bits ho
    have K2 := hid k2
    have HS := hid (fun w2 hm ho2 => H.out.after (w2 := w2) ho hb hm ho2)
    have c1 := k1.cell 1
    simp only [List.getElem?_toArray, List.getElem?_cons_zero, List.getElem?_cons_succ] at c1
    clear hb ho k1 k2
    go_wp2_with (at_delete; refine wpList_dropM rfl (.tmp 17) (.tmp 18) rfl mb M j rfl rfl K2.out HI.out ?_; intro w2 hm ho2; have HS2 := hid (HS.out w2 hm ho2); clear hm ho2)
    go_ret
    exact ⟨rfl, HS2.out⟩
  · have e3 : giveM M i = M := by unfold giveM; rw [if_neg hz]
    rw [give_other hz] at hC
    rw [e3]
    generalize giveE (tks M) i = z at *
    have hz2 : (z == 0) = false := by simpa using hz
    clear h e3
    go_enter Try.func10, Try.ntmps10
    go_wp2_with fail
    refine hC.out.mono ?_
    rintro e w1 ⟨rfl, hb, ho⟩
    have HS := hid (H.out.same ho hb)
    clear hb ho
    go_wp2
    go_ret
    exact ⟨rfl, HS.out⟩

def readE (M : Mt) (i : Int) : Int := if hasB (tks M) i then (if hasM M i.toNat then 0 else 7) else 1
def readS (M : Mt) (i : Int) : ByteArray := if hasB (tks M) i && hasM M i.toNat then getM M i.toNat else ⟨#[]⟩
set_option maxRecDepth 100000 in
theorem read_s {W : World} {B S p mb : Nat} {v : Value} {M : Mt} (h : Sh W B S p mb v M) (i : Int) :
    Calls Try.prog 13 #[.pointer (some ⟨S, 0, none⟩), .int .i64 i] W fun e W' => e = .returned (.tuple #[.string (readS M i), .int .i64 (readE M i)]) ∧ W' = W := by
  have h0 := h.blk.cell 0
  have c1 := h.blk.cell 1
  simp only [List.getElem?_toArray, List.getElem?_cons_zero, List.getElem?_cons_succ] at h0 c1
  have hC := hid (len_any h.bt)
  rw [tks_len] at hC
  have hl := h.mp.len
  cases hh : hasB (tks M) i with
  | false =>
    have e1 : readE M i = 1 := by unfold readE; rw [hh]; rfl
    have e2 : readS M i = ⟨#[]⟩ := by unfold readS; rw [hh]; rfl
    rw [e1, e2]
    unfold hasB at hh
    rw [tks_len] at hh
    by_cases h1 : i < 0
    · clear hh e1 e2 h
      go_enter Try.func13, Try.ntmps13
      go_wp2
      go_ret2
      exact ⟨rfl, rfl⟩
    · have h2 : ¬ i < (M.length : Int) := fun h2 => by
        rw [decide_eq_true (show 0 ≤ i by omega), decide_eq_true h2] at hh
        simp at hh
      clear hh e1 e2 h
      go_enter Try.func13, Try.ntmps13
      go_wp2_with fail
      refine hC.out.mono ?_
      rintro e w1 ⟨rfl, rfl⟩
      go_wp2
      go_ret2
      exact ⟨rfl, rfl⟩
  | true =>
    obtain ⟨j, rfl, hj⟩ := hasB_set hh
    have hlook := h.mp.look hj
    have e1 : readE M (j : Int) = if hasM M j then 0 else 7 := by unfold readE; rw [hh, if_pos rfl, Int.toNat_natCast]
    have e2 : readS M (j : Int) = if hasM M j then getM M j else ⟨#[]⟩ := by unfold readS; rw [hh, Bool.true_and, Int.toNat_natCast]
    rw [e1, e2]
    have hji : (j : Int) < (M.length : Int) := by omega
    cases hm : hasM M j with
    | false =>
      rw [hm] at hlook
      rw [if_neg (by simp), if_neg (by simp)]
      generalize getM M j = s at *
      clear hh e1 e2 h hm hj
      go_enter Try.func13, Try.ntmps13
      go_wp2_with fail
      refine hC.out.mono ?_
      rintro e w1 ⟨rfl, rfl⟩
      go_wp2
      go_ret2
      exact ⟨rfl, rfl⟩
    | true =>
      rw [hm] at hlook
      rw [if_pos rfl, if_pos rfl]
      generalize getM M j = s at *
      clear hh e1 e2 h hm hj
      go_enter Try.func13, Try.ntmps13
      go_wp2_with fail
      refine hC.out.mono ?_
      rintro e w1 ⟨rfl, rfl⟩
      go_wp2
      go_ret2
      exact ⟨rfl, rfl⟩
end Go.Proofs.Ytcblkdocbmpkeaa
