/-
  The document's shelf of pages: what its Free, New, Copy do, by contracts.
-/
import Derived.Test.YtcblkdocbmpkeaaRw
import Derived.Deep.RegionLaw
import Derived.Deep.AppendLies
open Go Go.RowKit
namespace Go.Proofs.Ytcblkdocbmpkeaa

section
variable {w w' : World} {p : Nat} {v : Value} {T : List Bool}
theorem Rb.base_ {B B' : Nat} (h : Rb w B p v T) (hB : B' ≤ B) : Rb w B' p v T := by
  refine ⟨h.blk, ?_, h.len1, h.len2, Nat.le_trans hB h.base⟩
  obtain ⟨h1, h2⟩ := h.row
  refine ⟨h1, ?_⟩
  rcases h2 with h2 | ⟨g, cap, cur, a1, a2, a3⟩
  · exact .inl h2
  · exact .inr ⟨g, cap, cur, a1, by omega, a3⟩
end
theorem addr_add (g j : Nat) : (Addr.add ⟨g, 0, none⟩ j) = ⟨g, j, none⟩ := by
  unfold Addr.add
  split
  · subst_vars; rfl
  · simp
/-- append(v, x...) of bools. -/
theorem wpList_pushAllL {w : World} {ops : Array Oper} {rest : List Oper} {o : Oper} {a : Act} {Q : Exit → Act → World → Prop} (hgd : o.guard = none) (s x : Operand)
    (ho : o.op = .call { callee := .builtin .append, args := #[s, x], argTypes := #[28, 28] })
    (B B' : Nat) (v : Value) (D E : List Bool) (g n cap : Nat) (hs : a.eval s = v) (hown : Bls w B v D) (hx : a.eval x = .slice (some ⟨g, 0, none⟩) n cap) (hrd : Bls w B' (.slice (some ⟨g, 0, none⟩) n cap) E)
    (hlen : D.length + E.length < 1000000) (hbase : B ≤ w.heap.size)
    (h : ∀ v' w', Bls w' B v' (D ++ E) → Only (fun k => v.ownBlock = some k) w w' → wpList Try.prog ops Q rest (a.put o.dst v') w') : wpList Try.prog ops Q (o :: rest) a w := by
  obtain ⟨i0, hi, hz0, hz1, hz2⟩ := info_parts bool_info
  have hn : n = E.length := hrd.len
  subst hn
  refine wpList_append_own _ hgd s x 28 ho B 4 i0 (.bool false) 1 1 Try.underlying28 hi hz0 hz1 hz2 rfl (by decide) v D.length (D.map fun (x : Bool) => Value.bool x) hs hown
    ⟨g, 0, none⟩ E.length cap (E.map fun (x : Bool) => Value.bool x) hx (by simp) (fun j u hu => ?_) (fun u hu => by obtain ⟨d, _, rfl⟩ := List.mem_map.1 hu; rfl) (by unfold maxLen; omega) (by omega) hbase ?_
  · rw [List.getElem?_map, Option.map_eq_some_iff] at hu
    obtain ⟨d, hd, rfl⟩ := hu
    have hj : j < E.length := (List.getElem?_eq_some_iff.1 hd).1
    rw [addr_add, hrd.cell hj]
    unfold tk
    rw [hd]
    rfl
  · intro v' w' hown' hgrow _
    exact h v' w' (by unfold Bls; simpa using hown') ((Only.refl _ w).grown hgrow (fun k hk => .inl hk))
/-- append(v, x...) of texts, at a step of a region that draws its order. -/
theorem step_pushAllS {w : World} {ops : Array Oper} {o : Oper} {a : Act} {K : Act → World → Prop} {Q : Exit → Act → World → Prop} {F : Prop} (hgd : o.guard = none) (s x : Operand)
    (ho : o.op = .call { callee := .builtin .append, args := #[s, x], argTypes := #[27, 27] })
    (B B' : Nat) (v : Value) (D E : List ByteArray) (g n cap : Nat) (hs : a.eval s = v) (hown : Sls w B v D) (hx : a.eval x = .slice (some ⟨g, 0, none⟩) n cap) (hrd : Sls w B' (.slice (some ⟨g, 0, none⟩) n cap) E)
    (hlen : D.length + E.length < 1000000) (hE : 0 < E.length) (hbase : B ≤ w.heap.size)
    (h : ∀ g' cap' w', Sls w' B (.slice (some ⟨g', 0, none⟩) (D.length + n) cap') (D ++ E) → Only (fun k => v.ownBlock = some k) w w' → K (a.put o.dst (.slice (some ⟨g', 0, none⟩) (D.length + n) cap')) w') :
    if Region.wanted o (yielded ops a.tmps) = true then Oper.wp Try.prog o a w K Q else F := by
  obtain ⟨i0, hi, hz0, hz1, hz2⟩ := info_parts (show (Try.prog.info? 9).map (fun i => (i.zero, i.size, i.bytes)) = some (some (.string ⟨#[]⟩), 1, 16) by kernel_rfl)
  have hn : n = E.length := hrd.len
  subst hn
  refine step_append_lies w hgd s x 27 ho B 9 i0 (.string ⟨#[]⟩) 1 16 Try.underlying27 hi hz0 hz1 hz2 rfl (by decide) v D.length (D.map fun (x : ByteArray) => Value.string x) hs hown
    ⟨g, 0, none⟩ E.length cap (E.map fun (x : ByteArray) => Value.string x) hx (by simp) (fun j u hu => ?_) (by simp [Value.oneCell']) hE (by unfold maxLen; omega) (by omega) hbase w.heap.size rfl ?_
  · rw [List.getElem?_map, Option.map_eq_some_iff] at hu
    obtain ⟨d, hd, rfl⟩ := hu
    have hj : j < E.length := (List.getElem?_eq_some_iff.1 hd).1
    rw [addr_add, hrd.cell hj]
    unfold hn
    rw [hd]
    rfl
  · intro g' cap' w' hown' hgrow _ _
    exact h g' cap' w' (by unfold Sls; simpa using hown') ((Only.refl _ w).grown hgrow (fun k hk => .inl hk))

set_option maxRecDepth 100000 in
theorem rcopy03 {W : World} {B p : Nat} {v : Value} {T : List Bool} (h : Rb W B p v T) :
    Calls Try.prog 37 #[.pointer (some ⟨p, 0, none⟩)] W fun e W' => ∃ p' v', e = .returned (.pointer (some ⟨p', 0, none⟩)) ∧ Rb W' W.heap.size p' v' T ∧ Below W.heap.size W W' := by
  obtain ⟨g, cap, rfl, hg, hgs⟩ := h.form
  have c0 := h.blk.cell 0
  simp only [List.getElem?_toArray, List.getElem?_cons_zero] at c0
  have h1 := h.len1
  have h2 := h.len2
  have hp : p < W.heap.size := h.blk.lt
  have HR := hid (h.row.alloc (.cells #[] 4))
  have HO : Hid (Bls (W.alloc (.cells #[] 4)) W.heap.size (.slice (some ⟨W.heap.size, 0, none⟩) 0 0) []) := World.ownsRow_lit W #[] 0 (Nat.le_refl _) (by unfold maxLen; omega) (by simp)
  have HB := hid ((Below.refl W.heap.size W).alloc (Nat.le_refl _) (.cells #[] 4))
  clear h
  go_enter Try.func37, Try.ntmps37
  go_wp2_with (at_builtin; refine wpList_pushAllL rfl (.tmp 3) (.tmp 7) rfl W.heap.size B (.slice (some ⟨W.heap.size, 0, none⟩) 0 0) [] T g T.length cap rfl HO.out rfl HR.out (by simp; omega) HB.out.size ?_; intro v' w1 hown1 honly1; rw [List.nil_append] at hown1; obtain ⟨g', cap', rfl, _, _⟩ := hown1.form (by omega))
  go_ret
  have hb1 := HB.out.trans (honly1.below HB.out.size (fun k hk e => by
    have e' : W.heap.size = k := by simpa [Value.ownBlock] using e
    omega))
  exact ⟨_, _, rfl, ⟨Blk.new w1 _ _, hown1.alloc _, h1, h2, hb1.size⟩, hb1.alloc hb1.size _⟩

set_option maxRecDepth 100000 in
theorem rfree12 {W : World} {B S p : Nat} {bv lv : Value} {M : Mt} (h : Rs W B S p bv lv M) :
    Calls Try.prog 23 #[.pointer (some ⟨S, 0, none⟩)] W fun e W' => e = .returned (.int .i64 (freeN (tks M))) ∧ Below W.heap.size W W' := by
  obtain ⟨g, cap, rfl, hg, hgs⟩ := h.form
  have c0 := h.blk.cell 0
  have c1 := h.blk.cell 1
  simp only [List.getElem?_toArray, List.getElem?_cons_zero, List.getElem?_cons_succ] at c0 c1
  have hS := h.blk.lt
  have HC := hid (rtaken_any (W := W.drew) (h.drewN 1).rb)
  have hl2 := h.rb.len2
  rw [tks_len] at hl2
  obtain ⟨k, hk⟩ : ∃ k : Nat, (takenL (tks M)).length = k := ⟨_, rfl⟩
  have hkl : k ≤ M.length := by rw [← hk, ← tks_len M]; exact takenL_len _
  have HF := hid (show freeN (tks M) = (M.length : Int) - (k : Int) by unfold freeN; rw [tks_len, hk])
  have HK := hid hk
  have hw : IntKind.i64.wrap ((M.length : Int) - (k : Int)) = (M.length : Int) - (k : Int) := by rw [IntKind.wrap_i64]; omega
  rw [HF.out]
  clear h hk
  go_enter Try.func23, Try.ntmps23
  go_wp2
  go_region_held3 (fun w' => w'.cell? ⟨S, 0, none⟩ = some (.pointer (some ⟨p, 0, none⟩)) ∧ w'.cell? ⟨S, 1, none⟩ = some (.slice (some ⟨g, 0, none⟩) M.length cap))
    (first | go_keep | assumption)
    (first
    | (go_at_call 22; (with_reducible refine HC.out.mono ?_); rintro e w2 ⟨vo, rfl, hi, hb⟩; obtain ⟨va, vc, rfl⟩ := hi.shape; rw [HK.out]; have HB := hid (show Below W.heap.size W w2 from ⟨hb.os, hb.tape, hb.output, hb.size, hb.block⟩); have hS2 := And.intro ((HB.out.cell (p := ⟨S, 0, none⟩) hS).trans c0) ((HB.out.cell (p := ⟨S, 1, none⟩) hS).trans c1); clear hi hb)
    | fail)
  all_goals
    go_wp2
    go_ret
    exact ⟨rfl, HB.out⟩

def RNewSP (W : World) (n : Nat) (e : Ending) (w : World) : Prop := ∃ S p bv lv, e = .returned (.tuple #[.pointer (some ⟨S, 0, none⟩), .int .i64 0]) ∧ Rs w W.heap.size S p bv lv (List.replicate n none) ∧ Below W.heap.size W w
set_option maxRecDepth 100000 in
theorem rnew12 {W : World} (m : Nat) (h1 : 1 ≤ m) (h2 : m ≤ 1024) : Calls Try.prog 17 #[.int .i64 (m : Int)] W (RNewSP W m) := by
  unfold RNewSP
  obtain ⟨j0, hj, hy0, hy1, hy2⟩ := info_parts (show (Try.prog.info? 9).map (fun i => (i.zero, i.size, i.bytes)) = some (some (.string ⟨#[]⟩), 1, 16) by kernel_rfl)
  have HM := hid (fun w : World => run_makeSlice w 27 9 j0 (.string ⟨#[]⟩) (by kernel_rfl) hj hy0 .i64 .i64 (m : Int) (m : Int) (by omega) (Int.le_refl _) (by rw [hy1]; simp; omega) (by rw [hy2]; omega) (by omega))
  clear hy0 hy2
  go_enter Try.func17, Try.ntmps17
  go_wp2_with fail
  refine (rnew_any (m : Int)).mono ?_
  rintro e w1 hq
  unfold RNewPost at hq
  rw [if_pos (by omega), Int.toNat_natCast] at hq
  obtain ⟨p, bv, rfl, hrb, hb⟩ := hq
  have HRB := hid hrb
  have HB := hid hb
  have hmk := HM.out w1
  rw [hy1] at hmk
  simp only [Int.toNat_natCast, Nat.mul_one, Value.cells] at hmk
  have hrow : Sls (w1.alloc (.cells (madeCells #[.string ⟨#[]⟩] m) 9)) W.heap.size (.slice (some ⟨w1.heap.size, 0, none⟩) m m) (List.replicate m ⟨#[]⟩) := by
    have hrow := World.ownsRow_lit (base := W.heap.size) (e := 9) (size := 1) w1 (madeCells #[.string ⟨#[]⟩] m) m hb.size (by unfold maxLen; omega) (by rw [size_madeCells]; omega)
    unfold Sls
    rw [toList_madeCells_one] at hrow
    simpa using hrow
  have HR := hid hrow
  clear hrb hb hrow
  go_wp2
  go_ret2
  have hb2 := HB.out.alloc HB.out.size (.cells (madeCells #[.string ⟨#[]⟩] m) 9)
  have hblk := Blk.new (w1.alloc (.cells (madeCells #[.string ⟨#[]⟩] m) 9)) 56 #[.pointer (some ⟨p, 0, none⟩), .slice (some ⟨w1.heap.size, 0, none⟩) m m]
  rw [show (w1.alloc (.cells (madeCells #[.string ⟨#[]⟩] m) 9)).heap.size = w1.heap.size + 1 by simp] at hblk
  refine ⟨_, p, bv, _, rfl, ⟨hblk, ?_, ⟨_, HR.out.alloc _, by simp, fun i hi hh => ?_⟩, by have := HB.out.size; omega⟩, hb2.alloc hb2.size _⟩
  · rw [tks_new]
    exact (HRB.out.alloc _).alloc _
  · rw [List.length_replicate] at hi
    have : hasM (List.replicate m none) i = false := by
      unfold hasM atM
      rw [List.getElem?_replicate, if_pos hi]
      rfl
    rw [this] at hh
    cases hh

set_option maxHeartbeats 3200000 in
set_option maxRecDepth 100000 in
theorem rcopy12 {W : World} {B S p : Nat} {bv lv : Value} {M : Mt} (h : Rs W B S p bv lv M) :
    Calls Try.prog 18 #[.pointer (some ⟨S, 0, none⟩)] W fun e W' => ∃ S' p' bv' lv', e = .returned (.pointer (some ⟨S', 0, none⟩)) ∧ Rs W' W.heap.size S' p' bv' lv' M ∧ Below W.heap.size W W' := by
  obtain ⟨g, cap, rfl, hg, hgs⟩ := h.form
  have c0 := h.blk.cell 0
  have c1 := h.blk.cell 1
  simp only [List.getElem?_toArray, List.getElem?_cons_zero, List.getElem?_cons_succ] at c0 c1
  have hS := h.blk.lt
  obtain ⟨L, r1, r2, r3⟩ := h.row
  have hl1 := h.rb.len1
  have hl2 := h.rb.len2
  rw [tks_len] at hl1 hl2
  have HL := hid r1
  have HR3 := hid r3
  have HR2 := hid r2
  have hlen : ([] : List ByteArray).length + L.length < 1000000 := by simp; omega
  have hpos : 0 < L.length := by omega
  have HRA := hid (show Rb W.drew B p bv (tks M) from h.rb.drewN 1)
  have HRE := hid (show Rb (W.alloc (.cells #[] 9)).drew B p bv (tks M) from (h.rb.alloc (.cells #[] 9)).drewN 1)
  have HEM := hid (fun (w : World) (hB : W.heap.size ≤ w.heap.size) => show Sls (w.alloc (.cells #[] 9)) W.heap.size (.slice (some ⟨w.heap.size, 0, none⟩) 0 0) [] from World.ownsRow_lit w #[] 0 hB (by unfold maxLen; omega) (by simp))
  have HBE := hid ((Below.refl W.heap.size W).alloc (Nat.le_refl _) (.cells #[] 9)).drew
  clear h r1 r2 r3
  go_enter Try.func18, Try.ntmps18
  go_wp2
  go_region_held3 (fun w' => w'.cell? ⟨S, 0, none⟩ = some (.pointer (some ⟨p, 0, none⟩)) ∧ w'.cell? ⟨S, 1, none⟩ = some (.slice (some ⟨g, 0, none⟩) M.length cap))
    (first | go_keep | assumption)
    (first
    | (go_at_call 37; (with_reducible refine (rcopy03 HRA.out).mono ?_); rintro e w2 ⟨p', v', rfl, hrb, hb⟩; have HRB := hid hrb; have HB2 := hid (show Below W.heap.size W w2 from ⟨hb.os, hb.tape, hb.output, hb.size, hb.block⟩); have hS2 := And.intro ((HB2.out.cell (p := ⟨S, 0, none⟩) hS).trans c0) ((HB2.out.cell (p := ⟨S, 1, none⟩) hS).trans c1); have hS2s := Nat.lt_of_lt_of_le hS HB2.out.size; have HOA := hid (HEM.out w2 HB2.out.size); have HLA := hid ((HL.out.keep (S := fun _ => False) (Only.of_below HB2.out) (fun _ _ e => e)).alloc (.cells #[] 9)); have HBA := hid (HB2.out.alloc HB2.out.size (.cells #[] 9)); have HRC := hid (HRB.out.alloc (.cells #[] 9)); clear hrb hb)
    | (go_at_call 37; (with_reducible refine (rcopy03 HRE.out).mono ?_); rintro e w2 ⟨p', v', rfl, hrb, hb⟩; have HRC := hid hrb; have hbd := Below.trans HBE.out (hb.mono HBE.out.size); have HBA := hid hbd; have hS2 := And.intro ((HBA.out.cell (p := ⟨S, 0, none⟩) hS).trans c0) ((HBA.out.cell (p := ⟨S, 1, none⟩) hS).trans c1); have HOA := hid (show Sls w2 W.heap.size (.slice (some ⟨W.heap.size, 0, none⟩) 0 0) [] from ((HEM.out W (Nat.le_refl _)).drewN 1).keep (S := fun _ => False) (Only.of_below hb) (fun _ _ e => e)); have HLA := hid (HL.out.keep (S := fun _ => False) (Only.of_below HBA.out) (fun _ _ e => e)); clear hrb hb hbd)
    | (refine step_pushAllS rfl (.tmp 8) (.tmp 12) rfl W.heap.size B _ [] L g M.length cap rfl HOA.out rfl HLA.out hlen hpos HBA.out.size ?_; intro g' cap' w3 hown3 honly3; have HO3 := hid hown3; have HN3 := hid honly3; have hS3 := And.intro ((HBA.out.trans (honly3.below HBA.out.size (fun k hk e => by have := (HOA.out.block e).1; omega))).cell (p := ⟨S, 0, none⟩) hS |>.trans c0) ((HBA.out.trans (honly3.below HBA.out.size (fun k hk e => by have := (HOA.out.block e).1; omega))).cell (p := ⟨S, 1, none⟩) hS |>.trans c1); clear hown3 honly3)
    | fail)
  all_goals
    go_wp2
    go_ret
    obtain ⟨_, cur, hcc⟩ := HOA.out.block rfl
    have hb3 := HBA.out.trans (HN3.out.below HBA.out.size (fun k hk e => by have := (HOA.out.block e).1; omega))
    have hrb3 := HRC.out.keep HN3.out (fun e => by cases e; exact hcc.ne_ HRC.out.blk (by decide) rfl) (fun k e e' => by
      cases e'
      obtain ⟨_, cur2, hc2⟩ := HRC.out.row.block e
      exact hcc.ne_ hc2 (by decide) rfl)
    refine ⟨w3.heap.size, p', v', _, rfl, ⟨Blk.new w3 _ _, ?_, ⟨L, ?_, HR2.out, HR3.out⟩, hb3.size⟩, hb3.alloc hb3.size _⟩
    · exact (hrb3.alloc _).base_ (by first | exact Nat.le_refl _ | exact HBE.out.size)
    · have h9 := HO3.out
      rw [List.nil_append, List.length_nil, Nat.zero_add] at h9
      exact h9.alloc _
end Go.Proofs.Ytcblkdocbmpkeaa
