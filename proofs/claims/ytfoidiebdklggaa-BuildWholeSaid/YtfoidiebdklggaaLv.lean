/-
  The closure of Level: one inner page more. By a contract.
-/
import Derived.Test.YtfoidiebdklggaaGp
import Derived.Test.YtfoidiebdklggaaSm
open Go Go.RowKit
namespace Go.Proofs.Ytfoidiebdklggaa

theorem str_info : (Try.prog.info? 9).map (fun i => (i.zero, i.size, i.bytes)) = some (some (.string ⟨#[]⟩), 1, 16) := by kernel_rfl
theorem inner_info : (Try.prog.info? 46).map (fun i => (i.zero, i.size, i.bytes)) = some (some (.agg #[.slice none 0 0, .slice none 0 0, .string ⟨#[]⟩, .int .i64 0]), 4, 72) := by kernel_rfl
theorem kid_info : (Try.prog.info? 57).map (fun i => (i.zero, i.size, i.bytes)) = some (some (.agg #[.string ⟨#[]⟩, .int .i64 0]), 2, 24) := by kernel_rfl

/-- The page above the kids G, number i, with H behind. -/
def nextOf (P : List Int) (i : Nat) : Int := (P[i + 1]?.getD 0) + 1
def pgOf (P : List Int) (i : Nat) (G H : List Kid) : Pg := ⟨(G.drop 1).map (·.1), G.map (·.2), lowAt H 0, if H.length = 0 then 0 else nextOf P i⟩

/-- The page that is being made, in block S. -/
structure Lv (S : Nat) (W : World) (vs vk : Value) (Ls : List ByteArray) (Lk : List Int) (hi : ByteArray) (nx : Int) (w : World) : Prop where
  blk : Blk w S 46 #[vs, vk, .string hi, .int .i64 nx]
  os : OwV 9 1 w S vs (Ls.map scell)
  ok : Ints w S vk Lk
  below : Below S W w
section
variable {S : Nat} {W w w' : World} {vs vk vs' vk' : Value} {Ls : List ByteArray} {Lk : List Int} {hi : ByteArray} {nx : Int}
theorem Lv.alloc (h : Lv S W vs vk Ls Lk hi nx w) (o : Obj) : Lv S W vs vk Ls Lk hi nx (w.alloc o) := ⟨h.blk.alloc o, h.os.alloc o, h.ok.alloc o, h.below.alloc (by have := h.blk.lt; omega) o⟩
theorem Lv.drew (h : Lv S W vs vk Ls Lk hi nx w) : Lv S W vs vk Ls Lk hi nx w.drew := ⟨h.blk, h.os, h.ok, h.below.drew⟩
theorem Lv.pushK {x : Int} (h : Lv S W vs vk Ls Lk hi nx w) (hk : Ints w' S vk' (Lk ++ [x])) (ho : Only (fun k => vk.ownBlock = some k) w w') : Lv S W vs vk' Ls (Lk ++ [x]) hi nx (w'.setCell ⟨S, 1, none⟩ vk') := by
  have hb : Blk w' S 46 #[vs, vk, .string hi, .int .i64 nx] := ho.blk h.blk (fun e => by
    obtain ⟨_, cur, hc⟩ := h.ok.block e
    exact hc.ne_ h.blk (by decide) rfl)
  have hs := h.os.keep ho (fun g e e' => by
    obtain ⟨_, cur, hc⟩ := h.os.block e
    obtain ⟨_, cur', hc'⟩ := h.ok.block e'
    exact hc.ne_ hc' (by decide) rfl)
  refine ⟨hb.set_ 1 vk', hs.keep (Only.setCell (S := fun k => k = S) (Only.refl _ w') (.inl rfl) _) (fun g e e' => ?_), hk.keep (Only.setCell (S := fun k => k = S) (Only.refl _ w') (.inl rfl) _) (fun g e e' => ?_), (h.below.trans (ho.below (by have := h.blk.lt; omega) (fun k hk' e => by have := (h.ok.block e).1; omega))).setCell (Nat.le_refl _) _⟩
  · obtain ⟨_, cur, hc⟩ := hs.block e
    rw [e'] at hc
    exact hc.ne_ hb (by decide) rfl
  · obtain ⟨_, cur, hc⟩ := hk.block e
    rw [e'] at hc
    exact hc.ne_ hb (by decide) rfl
theorem Lv.pushS {x : ByteArray} (h : Lv S W vs vk Ls Lk hi nx w) (hk : OwV 9 1 w' S vs' ((Ls ++ [x]).map scell)) (ho : Only (fun k => vs.ownBlock = some k) w w') : Lv S W vs' vk (Ls ++ [x]) Lk hi nx (w'.setCell ⟨S, 0, none⟩ vs') := by
  have hb : Blk w' S 46 #[vs, vk, .string hi, .int .i64 nx] := ho.blk h.blk (fun e => by
    obtain ⟨_, cur, hc⟩ := h.os.block e
    exact hc.ne_ h.blk (by decide) rfl)
  have hs := h.ok.keep ho (fun g e e' => by
    obtain ⟨_, cur, hc⟩ := h.ok.block e
    obtain ⟨_, cur', hc'⟩ := h.os.block e'
    exact hc.ne_ hc' (by decide) rfl)
  refine ⟨hb.set_ 0 vs', hk.keep (Only.setCell (S := fun k => k = S) (Only.refl _ w') (.inl rfl) _) (fun g e e' => ?_), hs.keep (Only.setCell (S := fun k => k = S) (Only.refl _ w') (.inl rfl) _) (fun g e e' => ?_), (h.below.trans (ho.below (by have := h.blk.lt; omega) (fun k hk' e => by have := (h.os.block e).1; omega))).setCell (Nat.le_refl _) _⟩
  · obtain ⟨_, cur, hc⟩ := hk.block e
    rw [e'] at hc
    exact hc.ne_ hb (by decide) rfl
  · obtain ⟨_, cur, hc⟩ := hs.block e
    rw [e'] at hc
    exact hc.ne_ hb (by decide) rfl
theorem Lv.setHi (h : Lv S W vs vk Ls Lk hi nx w) (hi' : ByteArray) (nx' : Int) : Lv S W vs vk Ls Lk hi' nx' ((w.setCell ⟨S, 2, none⟩ (.string hi')).setCell ⟨S, 3, none⟩ (.int .i64 nx')) := by
  have hb := h.blk
  have ho : Only (fun k => k = S) w ((w.setCell ⟨S, 2, none⟩ (.string hi')).setCell ⟨S, 3, none⟩ (.int .i64 nx')) := (Only.setCell (S := fun k => k = S) (Only.refl _ w) (.inl rfl) _).setCell (.inl rfl) _
  refine ⟨(hb.set_ 2 _).set_ 3 _, h.os.keep ho (fun g e e' => ?_), h.ok.keep ho (fun g e e' => ?_), (h.below.setCell (Nat.le_refl _) _).setCell (Nat.le_refl _) _⟩
  · obtain ⟨_, cur, hc⟩ := h.os.block e
    rw [e'] at hc
    exact hc.ne_ hb (by decide) rfl
  · obtain ⟨_, cur, hc⟩ := h.ok.block e
    rw [e'] at hc
    exact hc.ne_ hb (by decide) rfl
theorem Lv.cells (h : Lv S W vs vk Ls Lk hi nx w) : w.cell? ⟨S, 0, none⟩ = some vs ∧ w.cell? ⟨S, 1, none⟩ = some vk ∧ w.cell? ⟨S, 2, none⟩ = some (.string hi) ∧ w.cell? ⟨S, 3, none⟩ = some (.int .i64 nx) ∧ ∀ j, w.frozen? ⟨S, j, none⟩ = false :=
  ⟨h.blk.cell 0, h.blk.cell 1, h.blk.cell 2, h.blk.cell 3, fun j => h.blk.frozen j⟩
end
theorem ints_slice {w : World} {B : Nat} {v : Value} {D : List Int} (h : Ints w B v D) : ∃ a n c, v = .slice a n c := by
  obtain ⟨a, c, e⟩ := h.shape
  exact ⟨a, _, c, e⟩
theorem owV_slice {t : TypeId} {s : Nat} {w : World} {B : Nat} {v : Value} {L : List (List Value)} (h : OwV t s w B v L) : ∃ a n c, v = .slice a n c := by
  obtain ⟨a, c, e⟩ := h.shape
  exact ⟨a, _, c, e⟩
theorem take_snocK {α : Type} {G : List α} {j : Nat} {x : α} (h : G[j]? = some x) : G.take (j + 1) = G.take j ++ [x] := by
  rw [List.take_add_one, h]
  rfl

set_option maxHeartbeats 4000000 in
set_option maxRecDepth 100000 in
theorem lv1_any {W : World} {gv hv pv ov : Value} {G H : List Kid} {P : List Int} {i B pp po : Nat} {X : List (List Value)}
    (hG : RdK W W.heap.size gv G) (hH : RdK W W.heap.size hv H) (hP : RdI W W.heap.size pv P) (hpp : Blk W pp 23 #[pv]) (hpo : Blk W po 25 #[ov]) (hX : OwV 46 4 W B ov X)
    (hGl : G.length ≤ 1024) (hXl : X.length ≤ 2000) (hi : i ≤ 2000) (hPg : anyOdd P = false) (hnx : H.length ≠ 0 → i + 1 < P.length) (hBo : B ≤ W.heap.size) :
    Calls Try.prog 31 #[.int .i64 (i : Int), gv, hv, .pointer (some ⟨pp, 0, none⟩), .pointer (some ⟨po, 0, none⟩)] W fun e w => e = .returned (.tuple #[]) ∧
      ∃ ov' vs vk, Blk w po 25 #[ov'] ∧ OwV 46 4 w B ov' (X ++ [icells vs vk (pgOf P i G H)]) ∧ OwV 9 1 w W.heap.size vs ((pgOf P i G H).seps.map scell) ∧ Ints w W.heap.size vk (pgOf P i G H).kids ∧ Only (fun k => k = po ∨ ov.ownBlock = some k) W w := by
  obtain ⟨ga, gc, rfl, hl1, hm1⟩ := hG.shape
  obtain ⟨ha, hc, rfl, hl2, hm2⟩ := hH.shape
  obtain ⟨pa, pc, rfl, hl3, hm3⟩ := hP.shape
  have HG := hid hG
  have HH := hid hH
  have HP := hid hP
  have HPP := hid hpp
  have HPO := hid hpo
  have HX := hid hX
  have HPG := hid hPg
  have HNX := hid hnx
  have HLV := hid (show Lv W.heap.size W (.slice none 0 0) (.slice none 0 0) [] [] ⟨#[]⟩ 0 (W.alloc (.cells #[.slice none 0 0, .slice none 0 0, .string ⟨#[]⟩, .int .i64 0] 46)) from
    ⟨Blk.new W _ _, OwV.nil _ _, Ints.nil _ _, (Below.refl _ W).alloc (Nat.le_refl _) _⟩)
  unfold maxLen at hm1 hm2 hm3
  clear hG hH hP hpp hpo hX hPg hnx
  go_enter Try.func31, Try.ntmps31
  go_wp2
  go_loopg [13] G.length (fun g j wr => ∃ (n : Nat) (vs vk : Value), j = .int .i64 n ∧ g + n = G.length ∧ Lv W.heap.size W vs vk (((G.take n).drop 1).map (·.1)) ((G.take n).map (·.2)) ⟨#[]⟩ 0 wr)
  case atStart => exact ⟨0, _, _, rfl, rfl, HLV.out⟩
  case round =>
    obtain ⟨n, vs, vk, rfl, hgn, hlv⟩ := hrel
    have HGN := hid hgn
    have HL := hid hlv
    have hnl : n ≤ G.length := by omega
    clear hgn hlv HLV
    by_cases hn : n < G.length
    · have hni : (n : Int) < (G.length : Int) := by omega
      obtain ⟨g, off, rfl, hg, hc0, hc1⟩ := HG.out.at_ (kid_at hn)
      have HT := hid (take_snocK (kid_at hn))
      have hd0 := (HL.out.below.cell (p := ⟨g, off + n * 2, none⟩) hg).trans hc0
      have hd1 := (HL.out.below.cell (p := ⟨g, off + n * 2 + 1, none⟩) hg).trans hc1
      obtain ⟨lo, hlo⟩ : ∃ lo, lowAt G n = lo := ⟨_, rfl⟩
      obtain ⟨pg, hpg⟩ : ∃ pg, pageAt G n = pg := ⟨_, rfl⟩
      rw [hlo, hpg] at HT
      rw [hlo] at hd0
      rw [hpg] at hd1
      have HN := hid hn
      clear hc0 hc1 hlo hpg hn
      have HL2 := hid (HL.out.alloc (.cells #[.string lo, .int .i64 pg] 57))
      have HQ2 := hid (Blk.new wr 57 #[.string lo, .int .i64 pg])
      go_upto_region 4 with fail
      generalize wr.alloc (.cells #[.string lo, .int .i64 pg] 57) = w2 at *
      generalize wr.heap.size = q at *
      have f0 := HQ2.out.cell 0
      have f1 := HQ2.out.cell 1
      simp only [List.getElem?_toArray, List.getElem?_cons_zero, List.getElem?_cons_succ] at f0 f1
      obtain ⟨e0, e1, _, _, ez⟩ := HL2.out.cells
      have ez1 := ez 1
      have hlen1 := hid (show ((G.take n).map (·.2)).length < 1000000 by simp; omega)
      have hbase := hid (show W.heap.size ≤ w2.heap.size from HL2.out.below.size)
      clear hd0 hd1 ez
      go_upto_region 5 with (at_builtin; refine wpList_push rfl (.tmp 19) (.tmp 22) rfl W.heap.size vk _ pg rfl HL2.out.ok rfl hlen1.out hbase.out ?_; intro vk' w3 hown honly; obtain ⟨a', n', c', rfl⟩ := ints_slice hown; have HL3 := hid (HL2.out.pushK hown honly); have HB3 := hid (honly.blk HL2.out.blk (fun e => by obtain ⟨_, cur, hc⟩ := HL2.out.ok.block e; exact hc.ne_ HL2.out.blk (by decide) rfl)); have hz3 := HB3.out.frozen 1; have hc3 := HB3.out.cell 1; have HQ3 := hid (honly.blk HQ2.out (fun e => by obtain ⟨_, cur, hc⟩ := HL2.out.ok.block e; exact hc.ne_ HQ2.out (by decide) rfl)); clear hown honly)
      have hqS := hid (show ¬ q = W.heap.size from fun e => (by rw [e] at HQ3; exact HQ3.out.ne_ HB3.out (by decide) rfl))
      have HQ4 := hid (HQ3.out.far (p := ⟨W.heap.size, 1, none⟩) hqS.out (.slice a' n' c'))
      generalize w3.setCell ⟨W.heap.size, 1, none⟩ (.slice a' n' c') = w4 at *
      have f0 := HQ4.out.cell 0
      simp only [List.getElem?_toArray, List.getElem?_cons_zero] at f0
      clear e0 e1 ez1 hz3 hc3 f1 HQ3 HB3 HQ2 HL2 hlen1 hbase
      obtain ⟨e0, e1, _, _, ez⟩ := HL3.out.cells
      have ez0 := ez 0
      have hlen1 := hid (show ((((G.take n).drop 1).map (·.1)).map scell).length < 1000000 by simp; omega)
      have hbase := hid (show W.heap.size ≤ w4.heap.size from HL3.out.below.size)
      clear ez
      by_cases hn0 : n = 0
      · subst hn0
        have HE := hid (show Lv W.heap.size W vs (.slice a' n' c') (((G.take (0 + 1)).drop 1).map (·.1)) ((G.take (0 + 1)).map (·.2)) ⟨#[]⟩ 0 w4 by
          have := HL3.out
          rw [HT.out]
          simpa using this)
        clear HL3
        go_wp2
        have hg := HGN.out
        go_roundg (gk - 1)
        case measure => omega
        case rel => exact ⟨0 + 1, vs, _, by go_num, by omega, HE.out⟩
      · have hn0i : (0 : Int) < (n : Int) := by omega
        have HD := hid (show (G.take n ++ [(lo, pg)]).drop 1 = (G.take n).drop 1 ++ [(lo, pg)] from List.drop_append_of_le_length (by simp; omega))
        have hhone := hid (show ∀ u ∈ (#[Value.string lo] : Array Value).toList, u.oneCell' = true by simp [Value.oneCell'])
        clear hn0
        go_wp2_with (at_builtin; refine wpList_pushV 42 9 1 16 (.string ⟨#[]⟩) str_info rfl (by decide) (by decide) (by kernel_rfl) rfl (.tmp 28) (.tmp 31) rfl W.heap.size vs _ #[.string lo] rfl HL3.out.os rfl hlen1.out hbase.out rfl hhone.out ?_; intro vs' w5 hown honly; obtain ⟨a2, n2, c2, rfl⟩ := owV_slice hown; have HL5 := hid (HL3.out.pushS (x := lo) (by rw [List.map_append]; exact hown) honly); have HB5 := hid (honly.blk HL3.out.blk (fun e => by obtain ⟨_, cur, hc⟩ := HL3.out.os.block e; exact hc.ne_ HL3.out.blk (by decide) rfl)); have hz5 := HB5.out.frozen 0; have hc5 := HB5.out.cell 0; clear hown honly)
        have hg := HGN.out
        go_roundg (gk - 1)
        case measure => omega
        case rel =>
          refine ⟨n + 1, .slice a2 n2 c2, .slice a' n' c', by go_num, by omega, ?_⟩
          rw [HT.out, HD.out, List.map_append, List.map_append]
          exact HL5.out
    · have hni : ¬ (n : Int) < (G.length : Int) := by omega
      have hlv2 : Lv W.heap.size W vs vk ((G.drop 1).map (·.1)) (G.map (·.2)) ⟨#[]⟩ 0 wr := by
        have := HL.out
        rw [List.take_of_length_le (by omega)] at this
        exact this
      have HL6 := hid hlv2
      clear HL hlv2
      obtain ⟨sa, sn, sc, rfl⟩ := owV_slice HL6.out.os
      obtain ⟨ka, kn, kc, rfl⟩ := ints_slice HL6.out.ok
      obtain ⟨oa, on, oc, rfl⟩ := owV_slice HX.out
      have hwl : Hid (W.heap.size < wr.heap.size) := HL6.out.blk.lt
      by_cases hH : H.length = 0
      · have hHi : ¬ (0 : Int) < (H.length : Int) := by omega
        have HE := hid (show lowAt H 0 = ⟨#[]⟩ from by rw [List.eq_nil_of_length_eq_zero hH]; rfl)
        have hHc : decide (0 < H.length) = false := by simpa using hH
        have HH0 := hid hH
        clear hH
        have HL7 : Hid (Lv W.heap.size W (.slice sa sn sc) (.slice ka kn kc) ((G.drop 1).map (·.1)) (G.map (·.2)) (lowAt H 0) (if H.length = 0 then 0 else nextOf P i) wr) := by
          rw [HE.out, if_pos HH0.out]
          exact HL6
        go_upto_region 10 with fail
        clear HL6 HE HH0 hHi hHc hwl
        generalize wr = w7 at *
        have hcut := HL7.out
        have HX7 := hid (HX.out.keep (Only.of_below (S := fun _ => False) hcut.below) (fun _ _ h => h))
        have HPO7 := hid ((hcut.below.block po HPO.out.lt).trans HPO.out)
        have c7 := Blk.cell HPO7.out 0
        simp only [List.getElem?_toArray, List.getElem?_cons_zero] at c7
        have z7 := Blk.frozen HPO7.out 0
        obtain ⟨e0, e1, e2, e3, _⟩ := hcut.cells
        have hlen := hid (show X.length < 1000000 by omega)
        have hbase := hid (Nat.le_trans hBo hcut.below.size)
        have HPG1 := hid (show pgOf P i G H = ⟨(G.drop 1).map (·.1), G.map (·.2), lowAt H 0, if H.length = 0 then 0 else nextOf P i⟩ from rfl)
        generalize hhi : lowAt H 0 = hi at *
        generalize hnx : (if H.length = 0 then 0 else nextOf P i) = nx at *
        have hhone := hid (show ∀ u ∈ (#[Value.slice sa sn sc, .slice ka kn kc, .string hi, .int .i64 nx] : Array Value).toList, u.oneCell' = true by simp [Value.oneCell'])
        clear hcut HX hhi hnx
        go_wp2_with (at_builtin; refine wpList_pushV 25 46 4 72 (.agg #[.slice none 0 0, .slice none 0 0, .string ⟨#[]⟩, .int .i64 0]) inner_info rfl (by decide) (by decide) (by kernel_rfl) rfl (.tmp 50) (.tmp 52) rfl B (.slice oa on oc) X #[.slice sa sn sc, .slice ka kn kc, .string hi, .int .i64 nx] rfl HX7.out rfl hlen.out hbase.out rfl hhone.out ?_; intro ov' w8 hown honly; obtain ⟨a8, n8, c8, rfl⟩ := owV_slice hown; have HO8 := hid hown; have HY8 := hid honly; have HP8 := hid (honly.blk HPO7.out (fun e => by obtain ⟨_, cur, hc⟩ := HX7.out.block e; exact hc.ne_ HPO7.out (by decide) rfl)); have z8 := Blk.frozen HP8.out 0; have c8' := Blk.cell HP8.out 0; clear hown honly)
        go_returns
        have hpo2 : ∀ g, (Value.slice a8 n8 c8).ownBlock = some g → g ≠ po := fun g e => by
          obtain ⟨_, cur, hc⟩ := HO8.out.block e
          exact hc.ne_ HP8.out (by decide)
        have hset : Only (fun k => k = po) w8 (w8.setCell ⟨po, 0, none⟩ (.slice a8 n8 c8)) := Only.setCell (S := fun k => k = po) (Only.refl _ w8) (.inl rfl) _
        have os8 := HL7.out.os.keep HY8.out (fun g e e' => by
          obtain ⟨_, cur, hc⟩ := HL7.out.os.block e
          obtain ⟨_, cur', hc'⟩ := HX7.out.block e'
          exact hc.ne_ hc' (by decide) rfl)
        have ok8 := HL7.out.ok.keep HY8.out (fun g e e' => by
          obtain ⟨_, cur, hc⟩ := HL7.out.ok.block e
          obtain ⟨_, cur', hc'⟩ := HX7.out.block e'
          exact hc.ne_ hc' (by decide) rfl)
        have os9 := os8.keep hset (fun g e e' => by
          obtain ⟨_, cur, hc⟩ := os8.block e
          rw [e'] at hc
          exact hc.ne_ HP8.out (by decide) rfl)
        have ok9 := ok8.keep hset (fun g e e' => by
          obtain ⟨_, cur, hc⟩ := ok8.block e
          rw [e'] at hc
          exact hc.ne_ HP8.out (by decide) rfl)
        refine ⟨rfl, _, HP8.out.set_ 0 _, .slice sa sn sc, .slice ka kn kc, ?_, ?_, ?_, ?_⟩
        · rw [HPG1.out]
          exact HO8.out.keep hset (fun g e e' => hpo2 g e e')
        · rw [HPG1.out]
          exact os9
        · rw [HPG1.out]
          exact ok9
        · exact ((Only.of_below HL7.out.below).trans (HY8.out.mono (fun k _ e => .inr e))).trans (hset.mono (fun k _ e => .inl e))
      · have hHi : (0 : Int) < (H.length : Int) := by omega
        obtain ⟨hg, hoff, rfl, hhg, hc0, _⟩ := HH.out.at_ (kid_at (K := H) (i := 0) (by omega))
        simp only [Nat.zero_mul, Nat.add_zero] at hc0
        have hip : i + 1 < P.length := HNX.out hH
        obtain ⟨pg, poff, rfl, hpg, hd0⟩ := HP.out.at_ (List.getElem?_eq_getElem hip)
        have HNE := hid (show nextOf P i = P[i + 1] + 1 by unfold nextOf; rw [List.getElem?_eq_getElem hip]; rfl)
        have hpb : pageB P[i + 1] = true := by
          have h1 := HPG.out
          unfold anyOdd at h1
          rw [List.any_eq_false] at h1
          have := h1 _ (List.getElem_mem hip)
          simpa using this
        have hcP := (HL6.out.below.cell (p := ⟨pg, poff + (i + 1), none⟩) hpg).trans hd0
        have hcH := (HL6.out.below.cell (p := ⟨hg, hoff, none⟩) hhg).trans hc0
        have hcp := (HL6.out.below.cell (p := ⟨pp, 0, none⟩) HPP.out.lt).trans (HPP.out.cell 0)
        simp only [List.getElem?_toArray, List.getElem?_cons_zero] at hcp
        obtain ⟨_, _, _, _, ez⟩ := HL6.out.cells
        have ez2 := ez 2
        have ez3 := ez 3
        have hn2 : W.heap.size < wr.heap.size := HL6.out.blk.lt
        have HIF := hid (show (if H.length = 0 then 0 else nextOf P i) = nextOf P i from if_neg hH)
        have HSH := hid (HL6.out.setHi (lowAt H 0) (P[i + 1] + 1))
        have hip2 : ((i : Int) + 1) < (P.length : Int) := by omega
        have hii : IntKind.i64.wrap ((i : Int) + 1) = (i : Int) + 1 := by rw [IntKind.wrap_i64]; omega
        have hnat : ((i : Int) + 1).toNat = i + 1 := by omega
        generalize P[i + 1] = y at *
        unfold pageB at hpb
        simp only [Bool.and_eq_true, decide_eq_true_eq] at hpb
        obtain ⟨y1, y2⟩ := hpb
        have hyw : IntKind.i64.wrap (y + 1) = y + 1 := by rw [IntKind.wrap_i64]; omega
        have hHc : decide (0 < H.length) = true := by simp; omega
        clear hc0 hd0 ez hH
        have HL7 : Hid (Lv W.heap.size W (.slice sa sn sc) (.slice ka kn kc) ((G.drop 1).map (·.1)) (G.map (·.2)) (lowAt H 0) (if H.length = 0 then 0 else nextOf P i) ((wr.setCell ⟨W.heap.size, 2, none⟩ (.string (lowAt H 0))).setCell ⟨W.heap.size, 3, none⟩ (.int .i64 (y + 1)))) := by
          rw [HIF.out, HNE.out]
          exact HSH
        go_upto_region 10 with fail
        go_region
        go_upto_region 10 with fail
        clear HSH HIF HNE HL6 hHi hHc hwl hcP hcH hcp ez2 ez3 hn2 hyw hii hnat hip2
        generalize (wr.setCell ⟨W.heap.size, 2, none⟩ (.string (lowAt H 0))).setCell ⟨W.heap.size, 3, none⟩ (.int .i64 (y + 1)) = w6 at *
        have HL7 := hid (HL7.out.drew)
        generalize w6.drew = w7 at *
        have hcut := HL7.out
        have HX7 := hid (HX.out.keep (Only.of_below (S := fun _ => False) hcut.below) (fun _ _ h => h))
        have HPO7 := hid ((hcut.below.block po HPO.out.lt).trans HPO.out)
        have c7 := Blk.cell HPO7.out 0
        simp only [List.getElem?_toArray, List.getElem?_cons_zero] at c7
        have z7 := Blk.frozen HPO7.out 0
        obtain ⟨e0, e1, e2, e3, _⟩ := hcut.cells
        have hlen := hid (show X.length < 1000000 by omega)
        have hbase := hid (Nat.le_trans hBo hcut.below.size)
        have HPG1 := hid (show pgOf P i G H = ⟨(G.drop 1).map (·.1), G.map (·.2), lowAt H 0, if H.length = 0 then 0 else nextOf P i⟩ from rfl)
        generalize hhi : lowAt H 0 = hi at *
        generalize hnx : (if H.length = 0 then 0 else nextOf P i) = nx at *
        have hhone := hid (show ∀ u ∈ (#[Value.slice sa sn sc, .slice ka kn kc, .string hi, .int .i64 nx] : Array Value).toList, u.oneCell' = true by simp [Value.oneCell'])
        clear hcut HX hhi hnx
        go_wp2_with (at_builtin; refine wpList_pushV 25 46 4 72 (.agg #[.slice none 0 0, .slice none 0 0, .string ⟨#[]⟩, .int .i64 0]) inner_info rfl (by decide) (by decide) (by kernel_rfl) rfl (.tmp 50) (.tmp 52) rfl B (.slice oa on oc) X #[.slice sa sn sc, .slice ka kn kc, .string hi, .int .i64 nx] rfl HX7.out rfl hlen.out hbase.out rfl hhone.out ?_; intro ov' w8 hown honly; obtain ⟨a8, n8, c8, rfl⟩ := owV_slice hown; have HO8 := hid hown; have HY8 := hid honly; have HP8 := hid (honly.blk HPO7.out (fun e => by obtain ⟨_, cur, hc⟩ := HX7.out.block e; exact hc.ne_ HPO7.out (by decide) rfl)); have z8 := Blk.frozen HP8.out 0; have c8' := Blk.cell HP8.out 0; clear hown honly)
        go_returns
        have hpo2 : ∀ g, (Value.slice a8 n8 c8).ownBlock = some g → g ≠ po := fun g e => by
          obtain ⟨_, cur, hc⟩ := HO8.out.block e
          exact hc.ne_ HP8.out (by decide)
        have hset : Only (fun k => k = po) w8 (w8.setCell ⟨po, 0, none⟩ (.slice a8 n8 c8)) := Only.setCell (S := fun k => k = po) (Only.refl _ w8) (.inl rfl) _
        have os8 := HL7.out.os.keep HY8.out (fun g e e' => by
          obtain ⟨_, cur, hc⟩ := HL7.out.os.block e
          obtain ⟨_, cur', hc'⟩ := HX7.out.block e'
          exact hc.ne_ hc' (by decide) rfl)
        have ok8 := HL7.out.ok.keep HY8.out (fun g e e' => by
          obtain ⟨_, cur, hc⟩ := HL7.out.ok.block e
          obtain ⟨_, cur', hc'⟩ := HX7.out.block e'
          exact hc.ne_ hc' (by decide) rfl)
        have os9 := os8.keep hset (fun g e e' => by
          obtain ⟨_, cur, hc⟩ := os8.block e
          rw [e'] at hc
          exact hc.ne_ HP8.out (by decide) rfl)
        have ok9 := ok8.keep hset (fun g e e' => by
          obtain ⟨_, cur, hc⟩ := ok8.block e
          rw [e'] at hc
          exact hc.ne_ HP8.out (by decide) rfl)
        refine ⟨rfl, _, HP8.out.set_ 0 _, .slice sa sn sc, .slice ka kn kc, ?_, ?_, ?_, ?_⟩
        · rw [HPG1.out]
          exact HO8.out.keep hset (fun g e e' => hpo2 g e e')
        · rw [HPG1.out]
          exact os9
        · rw [HPG1.out]
          exact ok9
        · exact ((Only.of_below HL7.out.below).trans (HY8.out.mono (fun k _ e => .inr e))).trans (hset.mono (fun k _ e => .inl e))
end Go.Proofs.Ytfoidiebdklggaa
