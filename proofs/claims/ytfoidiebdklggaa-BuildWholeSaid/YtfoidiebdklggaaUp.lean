/-
  The closure of Up: one kid more. By a contract.
-/
import Derived.Test.YtfoidiebdklggaaLv
import Derived.Deep.RegionLaw
import Derived.Deep.RegionHeld3
import Derived.Deep.RegionWith
open Go Go.RowKit
namespace Go.Proofs.Ytfoidiebdklggaa

set_option maxHeartbeats 4000000 in
set_option maxRecDepth 100000 in
theorem up1_any {W : World} {gv hv pv ov : Value} {G K : List Kid} {P : List Int} {i B pp po : Nat}
    (hG : RdK W W.heap.size gv G) (hP : RdI W W.heap.size pv P) (hpp : Blk W pp 23 #[pv]) (hpo : Blk W po 22 #[ov]) (hX : OwV 57 2 W B ov (K.map kcells))
    (hGl : 1 ≤ G.length) (hXl : K.length ≤ 2000) (hi : i < P.length) (hBo : B ≤ W.heap.size) :
    Calls Try.prog 33 #[.int .i64 (i : Int), gv, hv, .pointer (some ⟨po, 0, none⟩), .pointer (some ⟨pp, 0, none⟩)] W fun e w => e = .returned (.tuple #[]) ∧
      ∃ ov', Blk w po 22 #[ov'] ∧ OwV 57 2 w B ov' ((K ++ [(lowAt G 0, P[i])]).map kcells) ∧ Only (fun k => k = po ∨ ov.ownBlock = some k) W w := by
  obtain ⟨ga, gc, rfl, hl1, hm1⟩ := hG.shape
  obtain ⟨pa, pc, rfl, hl3, hm3⟩ := hP.shape
  obtain ⟨oa, on, oc, rfl⟩ := owV_slice hX
  obtain ⟨g, off, rfl, hg, hc0, _⟩ := hG.at_ (kid_at (K := G) (i := 0) (by omega))
  simp only [Nat.zero_mul, Nat.add_zero] at hc0
  obtain ⟨pg, poff, rfl, hpg, hd0⟩ := hP.at_ (List.getElem?_eq_getElem hi)
  have hcp := hpp.cell 0
  have hco := hpo.cell 0
  have hzo := hpo.frozen 0
  simp only [List.getElem?_toArray, List.getElem?_cons_zero] at hcp hco
  have HPO := hid hpo
  have HX := hid hX
  have hlen := hid (show (K.map kcells).length < 1000000 by simp; omega)
  unfold maxLen at hm1 hm3
  have hii : (i : Int) < (P.length : Int) := by omega
  have hG0 : 0 < G.length := hGl
  generalize P[i] = y at *
  generalize lowAt G 0 = lo at *
  have hhone := hid (show ∀ u ∈ (#[Value.string lo, .int .i64 y] : Array Value).toList, u.oneCell' = true by simp [Value.oneCell'])
  clear hG hP hpp hpo hX
  go_enter Try.func33, Try.ntmps33
  go_wp2
  have hcell := hid (show ∀ j u, (#[Value.string lo, .int .i64 y] : Array Value).toList[j]? = some u → ((W.drewN 1).alloc (.cells #[.string lo, .int .i64 y] 57)).cell? ⟨W.heap.size, j, none⟩ = some u from fun j u hu => by
    have := (Blk.new (W.drewN 1) 57 #[.string lo, .int .i64 y]).cell j
    rw [show W.heap.size = (W.drewN 1).heap.size from rfl, this]
    simpa using hu)
  have hown0 := hid (show OwV 57 2 ((W.drewN 1).alloc (.cells #[.string lo, .int .i64 y] 57)) B (.slice oa on oc) (K.map kcells) from OwV.alloc (w := W.drewN 1) HX.out _)
  have hpo0 := hid (show Blk ((W.drewN 1).alloc (.cells #[.string lo, .int .i64 y] 57)) po 22 #[.slice oa on oc] from Blk.alloc (w := W.drewN 1) HPO.out _)
  have hpoW := HPO.out.alloc (.cells #[.string lo, .int .i64 y] 57)
  have hco2 := hpoW.cell 0
  have hzo2 := hpoW.frozen 0
  simp only [List.getElem?_toArray, List.getElem?_cons_zero] at hco2
  clear hpoW
  go_region_law
    ((refine step_pushV 22 57 2 24 (.agg #[.string ⟨#[]⟩, .int .i64 0]) kid_info rfl (by decide) (by decide) (by kernel_rfl) (by rfl) (.tmp 8) (.tmp 18) (by rfl) B W.heap.size (.slice oa on oc) (K.map kcells) #[.string lo, .int .i64 y] (by rfl) hown0.out (by rfl) hcell.out hlen.out (by simp; omega) rfl hhone.out ?_; intro g' cap' w1 hown1 honly; have HO1 := hid hown1; have HN1 := hid honly; have HP1 := hid (honly.blk hpo0.out (fun e => by obtain ⟨_, cur, hc⟩ := hown0.out.block e; exact hc.ne_ hpo0.out (by decide) rfl)); have z8 := Blk.frozen HP1.out 0; have c8' := Blk.cell HP1.out 0; clear hown1 honly))
  all_goals
    go_wp2
    go_returns
    have ho1 := HO1.out
    rw [List.length_map] at ho1
    have hpo2 : ∀ g, (Value.slice (some ⟨g', 0, none⟩) (K.length + 1) cap').ownBlock = some g → g ≠ po := fun g e => by
      obtain ⟨_, cur, hc⟩ := ho1.block e
      exact hc.ne_ HP1.out (by decide)
    have hset : Only (fun k => k = po) w1 (w1.setCell ⟨po, 0, none⟩ (.slice (some ⟨g', 0, none⟩) (K.length + 1) cap')) := Only.setCell (S := fun k => k = po) (Only.refl _ w1) (.inl rfl) _
    refine ⟨rfl, _, HP1.out.set_ 0 _, ?_, ?_⟩
    · exact ho1.keep hset (fun g e e' => hpo2 g e e')
    · exact (((Only.refl _ W).drewN 1).alloc _).trans ((HN1.out.mono (fun k _ e => Or.inr e)).trans (hset.mono (fun k _ e => Or.inl e)))
end Go.Proofs.Ytfoidiebdklggaa
