/-
  What the helpers of the laws do, by contracts: units (as the document's units), tame (weights that may be).
-/
import Derived.Test.YtgnhfipmeljffaaFix
import Derived.Test.YtgnhfipmeljffaaMask
import Derived.Deep.RegionLaw
import Derived.Deep.RegionHeld3
open Go Go.RowKit
namespace Go.Proofs.Ytgnhfipmeljffaa

/-- append(v, u) as a step of a region that draws its order. -/
theorem step_pushU {w : World} {ops : Array Oper} {o : Oper} {a : Act} {K : Act → World → Prop} {Q : Exit → Act → World → Prop} {E : Prop} (st t : TypeId)
    (hinf : (Try.prog.info? t).map (fun i => (i.zero, i.size, i.bytes)) = some (some (.agg #[.int .i64 0, .int .i64 0]), 2, 16)) (hund : Try.prog.underlying st = some (.slice t)) (hgd : o.guard = none) (s x : Operand)
    (ho : o.op = .call { callee := .builtin .append, args := #[s, x], argTypes := #[st, st] })
    (B H : Nat) (v : Value) (U : List (Int × Int)) (u : Int × Int) (hs : a.eval s = v) (hown : Uns t w B v U) (hx : a.eval x = .slice (some ⟨H, 0, none⟩) 1 1)
    (hc0 : w.cell? ⟨H, 0, none⟩ = some (.int .i64 u.1)) (hc1 : w.cell? ⟨H, 1, none⟩ = some (.int .i64 u.2)) (hlen : U.length < 1000000) (hbase : B ≤ w.heap.size)
    (h : ∀ g cap w', Uns t w' B (.slice (some ⟨g, 0, none⟩) (U.length + 1) cap) (U ++ [u]) → Only (fun k => v.ownBlock = some k) w w' → K (a.put o.dst (.slice (some ⟨g, 0, none⟩) (U.length + 1) cap)) w') :
    if Region.wanted o (yielded ops a.tmps) = true then Oper.wp Try.prog o a w K Q else E := by
  obtain ⟨i0, hi, hz0, hz1, hz2⟩ := info_parts hinf
  refine step_append_lies w hgd s x st ho B t i0 (.agg #[.int .i64 0, .int .i64 0]) 2 16 hund hi hz0 hz1 hz2 rfl (by decide) v U.length (ucells U) hs hown
    ⟨H, 0, none⟩ 1 1 [.int .i64 u.1, .int .i64 u.2] hx rfl (fun j y hy => ?_) (by simp [Value.oneCell']) (by decide) (by unfold maxLen; omega) (by omega) hbase w.heap.size rfl ?_
  · match j, hy with
    | 0, hy => simp at hy; subst hy; exact hc0
    | 1, hy => simp at hy; subst hy; exact hc1
    | j + 2, hy => simp at hy
  · intro g cap w' hown' hgrow _ _
    exact h g cap w' (by unfold Uns; rw [ucells_snoc]; simpa using hown') ((Only.refl _ w).grown hgrow (fun k hk => .inl hk))

theorem Uns.drewN {t : TypeId} {w : World} {B : Nat} {v : Value} {U : List (Int × Int)} (h : Uns t w B v U) (n : Nat) : Uns t (w.drewN n) B v U := h

set_option maxHeartbeats 1600000 in
theorem lawUnits_any {W : World} {v : Value} {U : List (Int × Int)} (h : RdU W W.heap.size v U) :
    Calls Try.prog 9 #[v] W (SomeV fun v' W' => Uns 47 W' W.heap.size v' (U.take 60) ∧ Below W.heap.size W W') := by
  obtain ⟨a, cap, rfl, hl, hm⟩ := h.shape
  have H := hid h
  have H0 := hid (Uns.empty (t := 47) (w := W) (Nat.le_refl _))
  have B0 := hid ((Below.refl W.heap.size W).alloc (Nat.le_refl _) (.cells #[] 47))
  unfold maxLen at hm
  clear h
  go_enter Try.func9, Try.ntmps9
  go_wp2_with fail
  go_loopg [3, 4] (min U.length 60) (fun g s i wr => ∃ k : Nat, i = .int .i64 k ∧ g + k = min U.length 60 ∧ Uns 47 wr W.heap.size s (U.take k) ∧ Below W.heap.size W wr)
  case atStart => exact ⟨0, rfl, rfl, H0.out, B0.out⟩
  case round =>
    obtain ⟨k, rfl, hgk, ho, hb⟩ := hrel
    have HG := hid hgk
    have HO := hid ho
    have HB := hid hb
    have hk : k ≤ U.length := by omega
    have hk60 : k ≤ 60 := by omega
    clear hgk ho hb
    by_cases hlt : k < U.length
    · by_cases h60 : k < 60
      · obtain ⟨g, off, rfl, hg, hc1, hc2⟩ := H.out.at_ (List.getElem?_eq_getElem hlt)
        obtain ⟨f, mm, hx⟩ : ∃ f mm, (f, mm) = U[k] := ⟨_, _, rfl⟩
        rw [← hx] at hc1 hc2
        have hd1 := (HB.out.cell (p := ⟨g, off + k * 2, none⟩) hg).trans hc1
        have hd2 := (HB.out.cell (p := ⟨g, off + k * 2 + 1, none⟩) hg).trans hc2
        have hU1 : U.take (k + 1) = U.take k ++ [(f, mm)] := by rw [List.take_succ_eq_append_getElem hlt, hx]
        have HU1 := hid hU1
        have hlen := hid (show (U.take k).length < 1000000 by simp; omega)
        have hown0 := fun o => (HO.out.drewN 1).alloc o
        have hbl := Blk.new (wr.drewN 1) 47 #[.int .i64 f, .int .i64 mm]
        have C0 : Hid (((wr.drewN 1).alloc (.cells #[.int .i64 f, .int .i64 mm] 47)).cell? ⟨wr.heap.size, 0, none⟩ = some (.int .i64 f)) := hbl.cell 0
        have C1 : Hid (((wr.drewN 1).alloc (.cells #[.int .i64 f, .int .i64 mm] 47)).cell? ⟨wr.heap.size, 1, none⟩ = some (.int .i64 mm)) := hbl.cell 1
        have hGW := HB.out.size
        clear hx hU1 hc1 hc2 hbl
        go_wp2_with fail
        go_region_law
          ((refine step_pushU 28 47 unitR_info (by kernel_rfl) (by rfl) (.tmp 16) (.tmp 28) (by rfl) W.heap.size wr.heap.size u3 (U.take k) (f, mm) (by rfl) (hown0 _) (by rfl) C0.out C1.out hlen.out (by simp; omega) ?_; intro g' cap' w1 hown1 honly; have HO1 := hid hown1; have HN1 := hid honly; clear hown1 honly))
        all_goals
          go_wp2
          have hg := HG.out
          go_roundg (gk - 1)
          case measure => omega
          case rel =>
            have hmk : min k U.length = k := by omega
            exact ⟨k + 1, by go_num, by omega, by rw [HU1.out]; simpa [hmk] using HO1.out, ((below_drewN HB.out 1).alloc hGW _).trans (HN1.out.below (by simp; omega) (fun x hx e => by have := (HO.out.block e).1; omega))⟩
      · have hk' : k = 60 := by omega
        subst hk'
        go_wp2
        go_ret
        exact ⟨_, rfl, HO.out, HB.out⟩
    · have ho := HO.out
      rw [List.take_of_length_le (by omega)] at ho
      have HO2 := hid ho
      clear ho
      go_wp2
      go_ret
      exact ⟨_, rfl, by rw [List.take_of_length_le (by omega)]; exact HO2.out, HB.out⟩

/-- Weights that may be, of any. -/
theorem tame_any {W : World} {v : Value} {D : List Int} (h : RdI W W.heap.size v D) (most : Int) :
    Calls Try.prog 12 #[v, .int .i64 most] W (SomeV fun v' W' => ∃ (ad : Addr) (n cap : Nat) (E : List Int), v' = .slice (some ad) n cap ∧ Ints W' W.heap.size v' E ∧ E.length ≤ 60 ∧ Tame E (1 + most % 256) ∧ Below W.heap.size W W') := by
  obtain ⟨a, cap, rfl, hl, hm⟩ := h.shape
  have H := hid h
  have H0 := hid (Ints.empty (w := W) (Nat.le_refl _))
  have B0 := hid ((Below.refl W.heap.size W).alloc (Nat.le_refl _) (.cells #[] 3))
  unfold maxLen at hm
  clear h
  go_enter Try.func12, Try.ntmps12
  go_wp2_with fail
  go_loopg [5, 6] (min D.length 60) (fun g s i wr => ∃ (k : Nat) (ad : Addr) (cp : Nat) (E : List Int), i = .int .i64 k ∧ g + k = min D.length 60 ∧ s = .slice (some ad) k cp ∧ E.length = k ∧ Ints wr W.heap.size s E ∧ Tame E (1 + most % 256) ∧ Below W.heap.size W wr)
  case atStart => exact ⟨0, _, _, [], rfl, rfl, rfl, rfl, H0.out, fun d hd => by simp at hd, B0.out⟩
  case round =>
    obtain ⟨k, ad, cp, E, rfl, hgk, rfl, hE, ho, ht, hb⟩ := hrel
    have HG := hid hgk
    have HO := hid ho
    have HB := hid hb
    have HT := hid ht
    have HE := hid hE
    have hk : k ≤ D.length := by omega
    have hk60 : k ≤ 60 := by omega
    clear hgk ho hb hE ht
    by_cases hlt : k < D.length
    · by_cases h60 : k < 60
      · obtain ⟨g, off, rfl, hg, hc1⟩ := H.out.at_ (List.getElem?_eq_getElem hlt)
        obtain ⟨x, hx⟩ : ∃ x, x = D[k] := ⟨_, rfl⟩
        rw [← hx] at hc1
        have hd1 := (HB.out.cell (p := ⟨g, off + k, none⟩) hg).trans hc1
        have e1 := and65535 x
        have e2 := and255 most
        have e3 : wrap64 (2 + most % 256) = 2 + most % 256 := by unfold wrap64; omega
        have e4 : ¬ 2 + most % 256 = 0 := by omega
        obtain ⟨y, hy⟩ : ∃ y, (x % 65536).tmod (2 + most % 256) = y := ⟨_, rfl⟩
        have hy0 : 0 ≤ y ∧ y ≤ 1 + most % 256 := by
          rw [← hy, Int.tmod_eq_emod_of_nonneg (by omega)]
          have h1 := Int.emod_nonneg (x % 65536) e4
          have h2 := Int.emod_lt_of_pos (x % 65536) (show 0 < 2 + most % 256 by omega)
          omega
        have HY := hid hy0
        have hlen := hid (show E.length < 1000000 by have := HE.out; omega)
        have hGW := HB.out.size
        clear hx hc1 hy0
        go_wp2_with (at_builtin; go_must (refine wpList_push rfl (.tmp 18) (.tmp 28) rfl W.heap.size (.slice (some ad) k cp) E y rfl HO.out rfl hlen.out hGW ?_); intro v2 w2 hown2 honly2)
        have hne : E ++ [y] ≠ [] := by simp
        obtain ⟨g2, cap2, rfl, _⟩ := hown2.form hne
        have hg := HG.out
        have hel := HE.out
        have hb2 := honly2.below HB.out.size (fun x hx e => by have := (HO.out.block e).1; omega)
        go_roundg (gk - 1)
        case measure => omega
        case rel =>
          refine ⟨k + 1, ⟨g2, 0, none⟩, cap2, E ++ [y], by go_num, by omega, by simp [hel], by simp [hel], hown2, fun d hd => ?_, HB.out.trans hb2⟩
          rcases List.mem_append.1 hd with hd | hd
          · exact HT.out d hd
          · simp at hd; subst hd; exact HY.out
      · have hk' : k = 60 := by omega
        subst hk'
        go_wp2
        go_ret
        exact ⟨_, rfl, ad, 60, cp, E, rfl, HO.out, by have := HE.out; omega, HT.out, HB.out⟩
    · go_wp2
      go_ret
      exact ⟨_, rfl, ad, k, cp, E, rfl, HO.out, by have := HE.out; omega, HT.out, HB.out⟩
end Go.Proofs.Ytgnhfipmeljffaa
