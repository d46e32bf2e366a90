/-
  What Copy of package bits does, by a contract.
-/
import Derived.Test.YtcblkdocbmpkeaaBh
namespace Go.Proofs.Ytcblkdocbmpkeaa
open Go Go.RowKit

/-- append(v, x...): v owns a row of bytes; x owns the bytes E. -/
theorem wpList_pushAllB {w : World} {ops : Array Oper} {rest : List Oper} {o : Oper} {a : Act} {Q : Exit → Act → World → Prop} (hgd : o.guard = none) (s x : Operand)
    (ho : o.op = .call { callee := .builtin .append, args := #[s, x], argTypes := #[70, 70] })
    (B B' : Nat) (v : Value) (D E : List Nat) (g n cap : Nat) (hs : a.eval s = v) (hown : Byts w B v D) (hx : a.eval x = .slice (some ⟨g, 0, none⟩) n cap) (hrd : Byts w B' (.slice (some ⟨g, 0, none⟩) n cap) E)
    (hlen : D.length + E.length < 1000000) (hbase : B ≤ w.heap.size)
    (h : ∀ v' w', Byts w' B v' (D ++ E) → Only (fun k => v.ownBlock = some k) w w' → wpList Try.prog ops Q rest (a.put o.dst v') w') : wpList Try.prog ops Q (o :: rest) a w := by
  obtain ⟨i0, hi, hz0, hz1, hz2⟩ := info_parts u8_info
  have hn : n = E.length := hrd.len
  subst hn
  refine wpList_append_own _ hgd s x 70 ho B 5 i0 (.int .u8 0) 1 1 Try.underlying70 hi hz0 hz1 hz2 rfl (by decide) v D.length (D.map fun (x : Nat) => Value.int .u8 (x : Int)) hs hown
    ⟨g, 0, none⟩ E.length cap (E.map fun (x : Nat) => Value.int .u8 (x : Int)) hx (by simp) (fun j u hu => ?_) (by simp [Value.oneCell']) (by unfold maxLen; omega) (by omega) hbase ?_
  · rw [List.getElem?_map] at hu
    cases hd : E[j]? with
    | none => rw [hd] at hu; cases hu
    | some d =>
      rw [hd] at hu
      injection hu with hu
      subst hu
      have hc := hrd.cell hd
      have hadd : (Addr.add ⟨g, 0, none⟩ j) = ⟨g, j, none⟩ := by
        unfold Addr.add
        split
        · subst_vars; rfl
        · simp
      rw [hadd]
      exact hc
  · intro v' w' hown' hgrow _
    exact h v' w' (by unfold Byts; simpa using hown') ((Only.refl _ w).grown hgrow (fun k hk => .inl hk))

/-- One value comes back, of which P holds. -/
def SomeV (P : Value → World → Prop) (e : Ending) (w : World) : Prop := ∃ v, e = .returned v ∧ P v w

theorem clone_any {W : World} {B g n cap : Nat} {D : List Nat} (h : Byts W B (.slice (some ⟨g, 0, none⟩) n cap) D) (hl : D.length ≤ 1024) :
    Calls Try.prog 50 #[.slice (some ⟨g, 0, none⟩) n cap] W (SomeV fun v' W' => Byts W' W.heap.size v' D ∧ Below W.heap.size W W') := by
  have hnil := @Lib.run_eql_slice_nil Try.prog
  have h2 := hid (h.alloc (.cells #[] 5))
  have hown : Hid (Byts (W.alloc (.cells #[] 5)) W.heap.size (.slice (some ⟨W.heap.size, 0, none⟩) 0 0) []) := World.ownsRow_lit W #[] 0 (Nat.le_refl _) (by unfold maxLen; omega) (by simp)
  have hbl := hid ((Below.refl W.heap.size W).alloc (Nat.le_refl _) (.cells #[] 5))
  clear h
  go_enter Try.func50, Try.ntmps50
  go_wp2_with (at_builtin; refine wpList_pushAllB rfl (.tmp 5) (.tmp 6) rfl W.heap.size B (.slice (some ⟨W.heap.size, 0, none⟩) 0 0) [] D g n cap rfl hown.out rfl h2.out (by simp; omega) hbl.out.size ?_; intro v' w1 hown1 honly1)
  go_ret
  refine ⟨v', rfl, by simpa using hown1, hbl.out.trans (honly1.below hbl.out.size (fun k hk e => ?_))⟩
  have e' : W.heap.size = k := by simpa [Value.ownBlock] using e
  omega

theorem copy_any {W : World} {B p : Nat} {v : Value} {T : List Bool} (h : Bt W B p v T) :
    Calls Try.prog 34 #[.pointer (some ⟨p, 0, none⟩)] W (SomeV fun x W' => ∃ p' v', x = .pointer (some ⟨p', 0, none⟩) ∧ Bt W' W.heap.size p' v' T ∧ Below W.heap.size W W') := by
  obtain ⟨g, cap, rfl, hg, hgs⟩ := h.form
  have h0 := h.blk.cell 0
  have h1 := h.blk.cell 1
  simp only [List.getElem?_toArray, List.getElem?_cons_zero, List.getElem?_cons_succ] at h0 h1
  have hl2 := h.len2
  have hl1 := h.len1
  have HC := fun m => hid (clone_any (h.drewN m).row (by rw [bytesOf_len]; omega))
  have HCd := hid (clone_any (W := W.drew) (h.drewN 1).row (by rw [bytesOf_len]; omega))
  have hp : p < W.heap.size := h.blk.lt
  clear h
  go_enter Try.func34, Try.ntmps34
  go_wp2
  go_region_held3 (fun w' => w'.cell? ⟨p, 0, none⟩ = some (.slice (some ⟨g, 0, none⟩) ((T.length + 7) / 8) cap) ∧ w'.cell? ⟨p, 1, none⟩ = some (.int .i64 T.length))
    (first | go_keep | exact ⟨hc0, hc1⟩)
    (first | (go_at_call 50; ((first | with_reducible refine (HC _).out.mono ?_ | with_reducible refine HCd.out.mono ?_)); rintro e w2 ⟨vc, rfl, hob, hb2⟩; obtain ⟨va, vcp, rfl⟩ := hob.shape; have hc0 := (hb2.cell (p := ⟨p, 0, none⟩) hp).trans h0; have hc1 := (hb2.cell (p := ⟨p, 1, none⟩) hp).trans h1; have HOB := hid hob; have HB2 := hid hb2; clear hob hb2))
  all_goals
    go_wp2
    go_ret
    have hb : Below W.heap.size W w2 := ⟨HB2.out.os, HB2.out.tape, HB2.out.output, HB2.out.size, HB2.out.block⟩
    exact ⟨_, rfl, w2.heap.size, .slice va (bytesOf T).length vcp, rfl, ⟨Blk.new w2 _ _, HOB.out.alloc _, hl1, hl2, hb.size⟩, hb.alloc hb.size _⟩
end Go.Proofs.Ytcblkdocbmpkeaa
