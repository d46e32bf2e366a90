/-
  BitsDo returns true for every input: the walk.
-/
import Derived.Test.YtkcfkmmjmgjhgaaBo
import Derived.Test.YtkcfkmmjmgjhgaaCp
import Derived.Test.YtkcfkmmjmgjhgaaRp
import Derived.Deep.RegionHeld3
import Derived.Test.YtkcfkmmjmgjhgaaMask
import Derived.Test.YtkcfkmmjmgjhgaaOps
namespace Go.Proofs.Ytkcfkmmjmgjhgaa
open Go Go.RowKit

/-- Between two steps of a round: the program's pages, the document's, and the call. -/
structure Sd (W : World) (p : Nat) (v : Value) (T : List Bool) (p' : Nat) (v' : Value) (T' : List Bool) (o : Nat) (x y : Int) (w : World) : Prop where
  bt : Bt w W.heap.size p v T
  rb : Rb w W.heap.size p' v' T'
  op : Blk w o 47 #[.int .i64 x, .int .i64 y]
  below : Below W.heap.size W w
  base : W.heap.size ≤ o

section
variable {W w w1 : World} {p : Nat} {v : Value} {T : List Bool} {p' : Nat} {v' : Value} {T' : List Bool} {o : Nat} {x y : Int}
theorem Sd.drewN (h : Sd W p v T p' v' T' o x y w) (n : Nat) : Sd W p v T p' v' T' o x y (w.drewN n) := ⟨h.bt.drewN n, h.rb.drewN n, h.op.drewN n, below_dN h.below n, h.base⟩
theorem Sd.drew (h : Sd W p v T p' v' T' o x y w) : Sd W p v T p' v' T' o x y w.drew := h.drewN 1
theorem Sd.on (h : Sd W p v T p' v' T' o x y w) (hb : Below w.heap.size w w1) : Sd W p v T p' v' T' o x y w1 :=
  ⟨h.bt.below_keep hb, h.rb.below hb, (hb.block o h.op.lt).trans h.op, h.below.trans (hb.mono h.below.size), h.base⟩
theorem Bt.ownType (h : Bt w W.heap.size p v T) {k : Nat} (e : v.ownBlock = some k) : W.heap.size ≤ k ∧ ∃ cur, Blk w k 5 cur := h.row.block e
theorem Sd.bts {T2 : List Bool} (h : Sd W p v T p' v' T' o x y w) (hb : Bt w1 W.heap.size p v T2) (ho : Only (fun k => v.ownBlock = some k) w w1) : Sd W p v T2 p' v' T' o x y w1 := by
  refine ⟨hb, h.rb.keep ho (fun e => ?_) (fun g e e' => ?_), ho.blk h.op (fun e => ?_), h.below.trans (ho.below h.below.size (fun k hk e => by have := (h.bt.row.block e).1; omega)), h.base⟩
  · obtain ⟨_, cur, hc⟩ := h.bt.row.block e
    exact hc.ne_ h.rb.blk (by decide) rfl
  · obtain ⟨_, cur, hc⟩ := h.bt.row.block e'
    obtain ⟨_, cur', hc'⟩ := h.rb.row.block e
    exact hc.ne_ hc' (by decide) rfl
  · obtain ⟨_, cur, hc⟩ := h.bt.row.block e
    exact hc.ne_ h.op (by decide) rfl
theorem Sd.rbs {T2 : List Bool} (h : Sd W p v T p' v' T' o x y w) (hb : Rb w1 W.heap.size p' v' T2) (ho : Only (fun k => v'.ownBlock = some k) w w1) : Sd W p v T p' v' T2 o x y w1 := by
  refine ⟨h.bt.keep ho (fun e => ?_) (fun g e e' => ?_), hb, ho.blk h.op (fun e => ?_), h.below.trans (ho.below h.below.size (fun k hk e => by have := (h.rb.row.block e).1; omega)), h.base⟩
  · obtain ⟨_, cur, hc⟩ := h.rb.row.block e
    exact hc.ne_ h.bt.blk (by decide) rfl
  · obtain ⟨_, cur, hc⟩ := h.rb.row.block e'
    obtain ⟨_, cur', hc'⟩ := h.bt.row.block e
    exact hc.ne_ hc' (by decide) rfl
  · obtain ⟨_, cur, hc⟩ := h.rb.row.block e
    exact hc.ne_ h.op (by decide) rfl
theorem Sd.new {p2 : Nat} {v2 : Value} {T2 : List Bool} (h : Sd W p v T p' v' T' o x y w) (hb : Bt w W.heap.size p2 v2 T2) : Sd W p2 v2 T2 p' v' T' o x y w := ⟨hb, h.rb, h.op, h.below, h.base⟩
theorem Bt.base_ {B B' : Nat} (h : Bt w B p v T) (hB : B' ≤ B) : Bt w B' p v T := by
  refine ⟨h.blk, ?_, h.len1, h.len2, Nat.le_trans hB h.base⟩
  obtain ⟨h1, h2⟩ := h.row
  refine ⟨h1, ?_⟩
  rcases h2 with h2 | ⟨g, cap, cur, a1, a2, a3⟩
  · exact .inl h2
  · exact .inr ⟨g, cap, cur, a1, by omega, a3⟩
theorem Rb.base_ {B B' : Nat} (h : Rb w B p v T) (hB : B' ≤ B) : Rb w B' p v T := by
  refine ⟨h.blk, ?_, h.len1, h.len2, Nat.le_trans hB h.base⟩
  obtain ⟨h1, h2⟩ := h.row
  refine ⟨h1, ?_⟩
  rcases h2 with h2 | ⟨g, cap, cur, a1, a2, a3⟩
  · exact .inl h2
  · exact .inr ⟨g, cap, cur, a1, by omega, a3⟩
end

theorem takeRT_len (T : List Bool) (b : Int) : (takeRT T b).length = T.length := by
  unfold takeRT
  split
  · split
    · rw [List.length_set]
    · rfl
  · rfl
theorem giveT_len (T : List Bool) (i : Int) : (giveT T i).length = T.length := by
  unfold giveT
  split
  · rw [List.length_set]
  · rfl

namespace bitsDo
set_option maxRecDepth 100000 in
set_option maxHeartbeats 3200000 in
theorem walk {W : World} {v : Value} {U : List (Int × Int)} (h : RdO W W.heap.size v U) (n : Int) :
    Calls Try.prog 6 #[.int .i64 n, v] W fun e w' => e = .returned (.bool true) ∧ Below W.heap.size W w' := by
  obtain ⟨ad, cap, rfl, hl, hm⟩ := h.shape
  have HD := hid h
  unfold maxLen at hm
  clear h
  obtain ⟨k, hk⟩ : ∃ k : Nat, 1 + n % 64 = (k : Int) := ⟨(1 + n % 64).toNat, by omega⟩
  have hk1 : 1 ≤ k := by omega
  have hk2 : k ≤ 64 := by omega
  have e1 := and63 n
  have hk0 : ¬ (k : Int) = 0 := by omega
  have e3 : wrap64 (1 + n % 64) = (k : Int) := by unfold wrap64; omega
  have N1 := hid (new_any (W := W) (k : Int))
  go_enter Try.func6, Try.ntmps6
  go_wp2_with fail
  refine N1.out.mono ?_
  rintro e w1 hp
  obtain ⟨p, vb, rfl, hbt, hb⟩ := hp.get (by omega) (by omega)
  have HT1 := hid hbt
  have HB1 := hid hb
  clear hp hbt hb N1
  go_wp2_with fail
  refine (rnew_any (W := w1) (k : Int)).mono ?_
  rintro e w2 hp
  obtain ⟨p', v', rfl, hrb, hb⟩ := hp.get (by omega) (by omega)
  have HT2 := hid (HT1.out.below_keep hb)
  have HR2 := hid (hrb.base_ HB1.out.size)
  have HB2 := hid (HB1.out.trans (hb.mono HB1.out.size))
  clear hp hrb hb HT1 HB1
  go_wp2_with fail
  go_loopg [6, 10] (min U.length 80) (fun g b i wr => ∃ (t p : Nat) (v : Value) (T : List Bool), b = .pointer (some ⟨p, 0, none⟩) ∧ i = .int .i64 t ∧ g + t = min U.length 80 ∧ T.length = k ∧ Bt wr W.heap.size p v T ∧ Rb wr W.heap.size p' v' T ∧ Below W.heap.size W wr)
  case atStart => exact ⟨0, _, _, _, rfl, rfl, rfl, by simp, HT2.out, HR2.out, HB2.out⟩
  case round =>
    obtain ⟨t, p, v, T, rfl, rfl, hgt, hlen, hbt, hrb, hbw⟩ := hrel
    have HG := hid hgt
    have HT := hid hbt
    have HR := hid hrb
    have HB := hid hbw
    have HL := hid hlen
    have htD : t ≤ U.length := by omega
    have ht80 : t ≤ 80 := by omega
    clear hgt hbt hbw hrb hlen HT2 HR2 HB2
    by_cases htl : t < U.length
    · by_cases ht2 : t < 80
      · obtain ⟨gd, off, rfl, hgd, hc1, hc2, hw1, hw2⟩ := HD.out.at_ (List.getElem?_eq_getElem htl)
        obtain ⟨x, hx⟩ : ∃ x, x = U[t].1 := ⟨_, rfl⟩
        obtain ⟨y, hy⟩ : ∃ y, y = U[t].2 := ⟨_, rfl⟩
        rw [← hx] at hc1 hw1
        rw [← hy] at hc2 hw2
        have hd1 := (HB.out.cell (p := ⟨gd, off + t * 2, none⟩) hgd).trans hc1
        have hd2 := (HB.out.cell (p := ⟨gd, off + t * 2 + 1, none⟩) hgd).trans hc2
        have HW2 := hid hw2
        have HH1 := HT.out.alloc (.cells #[.int .i64 x, .int .i64 y] 47)
        have HH2 := HR.out.alloc (.cells #[.int .i64 x, .int .i64 y] 47)
        have HH3 := HB.out.alloc HB.out.size (.cells #[.int .i64 x, .int .i64 y] 47)
        have HS0 : Hid (Sd W p v T p' v' T wr.heap.size x y (wr.alloc (.cells #[.int .i64 x, .int .i64 y] 47))) := ⟨HH1, HH2, Blk.new wr _ _, HH3, HB.out.size⟩
        have ht80i : (t : Int) < 80 := by omega
        clear hc1 hc2 hx hy hw1 hw2 HH1 HH2 HH3
        go_upto_block 2 with fail
        generalize wr.alloc (.cells #[.int .i64 x, .int .i64 y] 47) = w3 at *
        generalize wr.heap.size = o at *
        have ho1 := HS0.out.op.cell 1
        simp only [List.getElem?_toArray, List.getElem?_cons_zero, List.getElem?_cons_succ] at ho1
        clear hd1 hd2 HT HR HB
        go_cut [6] (fun b wx => ∃ (p : Nat) (v : Value) (T2 : List Bool), b = .pointer (some ⟨p, 0, none⟩) ∧ T2.length = k ∧ Sd W p v T2 p' v' T2 o x y wx)
        case first =>
          by_cases h0 : x = 0
          · subst h0
            go_wp2_with fail
            refine (take_any HS0.out.bt y).mono ?_
            rintro e w4 ⟨rfl, hbt, ho⟩
            have HS4 := hid (HS0.out.bts hbt ho)
            have ho4 := HS4.out.op.cell 1
            simp only [List.getElem?_toArray, List.getElem?_cons_zero, List.getElem?_cons_succ] at ho4
            have HE := hid (takeRT_len T y)
            clear hbt ho ho1
            go_wp2_with fail
            refine (rtake_any HS4.out.rb y).mono ?_
            rintro e w5 ⟨rfl, hbt, ho⟩
            have HS5 := hid (HS4.out.rbs hbt ho)
            clear hbt ho ho4
            generalize takeRX T y = rx at *
            generalize takeRE T y = re at *
            go_wp2_with fail
            go_meet
            exact ⟨_, _, _, rfl, by rw [HE.out]; exact HL.out, HS5.out⟩
          · by_cases h1 : x = 1
            · subst h1
              have HE := hid (takeT_len T y)
              have hne : ∀ z : Int, (z != z) = false := fun z => by simp
              go_wp2_with fail
              go_region_held3 (fun w' => w'.cell? ⟨o, 1, none⟩ = some (.int .i64 y))
                (first | go_keep | assumption)
                (first
                | (go_at_call 26; (first | with_reducible refine (rtakeAt_any HS4.out.drew.rb y).mono ?_ | with_reducible refine (rtakeAt_any (HS4.out.drewN _).rb y).mono ?_ | with_reducible refine (rtakeAt_any HS4.out.rb y).mono ?_); rintro e w5 ⟨rfl, hbt, ho⟩; have HS5 := hid (Sd.rbs (by first | exact HS4.out.drew | exact HS4.out.drewN _ | exact HS4.out) hbt ho); have ho5 := HS5.out.op.cell 1; simp only [List.getElem?_toArray, List.getElem?_cons_zero, List.getElem?_cons_succ] at ho5; clear hbt ho)
                | (go_at_call 22; (first | with_reducible refine (takeAt_any HS0.out.drew.bt y).mono ?_ | with_reducible refine (takeAt_any (HS0.out.drewN _).bt y).mono ?_ | with_reducible refine (takeAt_any HS0.out.bt y).mono ?_); rintro e w4 ⟨rfl, hbt, ho⟩; have HS4 := hid (Sd.bts (by first | exact HS0.out.drew | exact HS0.out.drewN _ | exact HS0.out) hbt ho); have ho4 := HS4.out.op.cell 1; simp only [List.getElem?_toArray, List.getElem?_cons_zero, List.getElem?_cons_succ] at ho4; clear hbt ho))
              all_goals (go_wp2_with fail; go_meet; first | exact ⟨_, _, _, rfl, by rw [HE.out]; exact HL.out, HS5.out⟩ | exact ⟨_, _, _, rfl, by rw [HE.out]; exact HL.out, HS5.out.drew⟩ | exact ⟨_, _, _, rfl, by rw [HE.out]; exact HL.out, HS5.out.drewN _⟩)
            · by_cases h2 : x = 2
              · subst h2
                have HE := hid (giveT_len T y)
                have hne : ∀ z : Int, (z != z) = false := fun z => by simp
                go_wp2_with fail
                go_region_held3 (fun w' => w'.cell? ⟨o, 1, none⟩ = some (.int .i64 y))
                  (first | go_keep | assumption)
                  (first
                  | (go_at_call 27; (first | with_reducible refine (rgive_any HS4.out.drew.rb y).mono ?_ | with_reducible refine (rgive_any (HS4.out.drewN _).rb y).mono ?_ | with_reducible refine (rgive_any HS4.out.rb y).mono ?_); rintro e w5 ⟨rfl, hbt, ho⟩; have HS5 := hid (Sd.rbs (by first | exact HS4.out.drew | exact HS4.out.drewN _ | exact HS4.out) hbt ho); have ho5 := HS5.out.op.cell 1; simp only [List.getElem?_toArray, List.getElem?_cons_zero, List.getElem?_cons_succ] at ho5; clear hbt ho)
                  | (go_at_call 21; (first | with_reducible refine (give_any HS0.out.drew.bt y).mono ?_ | with_reducible refine (give_any (HS0.out.drewN _).bt y).mono ?_ | with_reducible refine (give_any HS0.out.bt y).mono ?_); rintro e w4 ⟨rfl, hbt, ho⟩; have HS4 := hid (Sd.bts (by first | exact HS0.out.drew | exact HS0.out.drewN _ | exact HS0.out) hbt ho); have ho4 := HS4.out.op.cell 1; simp only [List.getElem?_toArray, List.getElem?_cons_zero, List.getElem?_cons_succ] at ho4; clear hbt ho))
                all_goals (go_wp2_with fail; go_meet; first | exact ⟨_, _, _, rfl, by rw [HE.out]; exact HL.out, HS5.out⟩ | exact ⟨_, _, _, rfl, by rw [HE.out]; exact HL.out, HS5.out.drew⟩ | exact ⟨_, _, _, rfl, by rw [HE.out]; exact HL.out, HS5.out.drewN _⟩)
              · by_cases h3 : x = 3
                · subst h3
                  have hLT := hid (show loadT (strB (bstr (bytesOf T))) k = some T by rw [strB_bstr (bytes_lt T), ← HL.out]; exact loadT_bytes T)
                  have hsz := hid (show (bstr (bytesOf T)).size ≤ 1000000 by rw [← strB_len, strB_bstr (bytes_lt T), bytesOf_len]; have := HL.out; omega)
                  go_wp2_with fail
                  refine (save_any HS0.out.bt).mono ?_
                  rintro e w4 ⟨rfl, rfl⟩
                  go_wp2_with fail
                  refine (load_any (bstr (bytesOf T)) hsz.out (k : Int)).mono ?_
                  rintro e w5 hp
                  obtain ⟨p2, v2, rfl, hbt, hb⟩ := hp.get (by omega) (by omega) hLT.out
                  have HS5 := hid ((HS0.out.on hb).new (hbt.base_ HS0.out.below.size))
                  clear hp hbt hb
                  go_wp2_with fail
                  go_meet
                  exact ⟨_, _, _, rfl, HL.out, HS5.out⟩
                · go_wp2_with fail
                  refine (copy_any HS0.out.bt).mono ?_
                  rintro e w4 ⟨_, rfl, p2, v2, rfl, hbt, hb⟩
                  have HS4 := hid (HS0.out.on hb)
                  have HC4 := hid (hbt.base_ HS0.out.below.size)
                  have hne := hid (show ∀ i, v2.ownBlock = some i → v.ownBlock ≠ some i from fun i e e' => by have := (hbt.row.block e).1; have := HS0.out.bt.lt e'; omega)
                  clear hbt hb ho1
                  go_wp2_with fail
                  refine (take_any HS4.out.bt 0).mono ?_
                  rintro e w5 ⟨rfl, hbt, ho⟩
                  have HS5 := hid (HS4.out.bts hbt ho)
                  have HC5 := hid (HC4.out.beside HS4.out.bt hne.out ho)
                  have ho5 := HS5.out.op.cell 1
                  simp only [List.getElem?_toArray, List.getElem?_cons_zero, List.getElem?_cons_succ] at ho5
                  clear hbt ho HC4
                  go_wp2_with fail
                  refine (give_any HS5.out.bt y).mono ?_
                  rintro e w6 ⟨rfl, hbt, ho⟩
                  have HC6 := hid (HC5.out.beside HS5.out.bt hne.out ho)
                  have HS6 := hid ((HS5.out.bts hbt ho).new HC6.out)
                  clear hbt ho HC5
                  go_wp2_with fail
                  go_meet
                  exact ⟨_, _, _, rfl, HL.out, HS6.out⟩
        case rest =>
          obtain ⟨p, v, T, rfl, hl2, hs⟩ := hcut
          have HL2 := hid hl2
          have HS10 := hid hs
          have ho10 := hs.op.cell 1
          simp only [List.getElem?_toArray, List.getElem?_cons_zero, List.getElem?_cons_succ] at ho10
          clear hs HS0 ho1 HL
          obtain ⟨sT, hsT⟩ : ∃ sT : ByteArray, bstr (bytesOf T) = sT := ⟨_, rfl⟩
          have hst2 := hid hsT
          have hst := hid (show (⟨((bytesOf T).map UInt8.ofNat).toArray⟩ : ByteArray) = sT from hsT)
          have hss : (sT.toList == sT.toList) = true := by simp
          obtain ⟨tl, htl0⟩ : ∃ tl : Nat, (takenL T).length = tl := ⟨_, rfl⟩
          have htl := hid htl0
          have htk : tl ≤ k := by rw [← htl0, ← hl2]; exact takenL_len _
          have hfk := hid (show freeN T = (k : Int) - (tl : Int) by unfold freeN; rw [htl0, hl2])
          have hwk : IntKind.i64.wrap ((k : Int) - (tl : Int)) = (k : Int) - (tl : Int) := by rw [IntKind.wrap_i64]; omega
          have hne1 : ∀ z : Int, (z != z) = false := fun z => by simp
          have hne2 : ∀ z : Bool, (z != z) = false := fun z => by simp
          clear hsT htl0 hl2
          go_upto_if 176 with fail
          go_cut [176] (fun b wx => b = .bool false ∧ Sd W p v T p' v' T o x y wx)
          case first =>
          -- region 31
            go_region_held3 (fun w' => w'.cell? ⟨o, 1, none⟩ = some (.int .i64 y))
              (first | go_keep | assumption)
              (first
              | (go_at_call 15; (first | with_reducible refine (len_any HS18.out.drew.bt).mono ?_ | with_reducible refine (len_any (HS18.out.drewN _).bt).mono ?_ | with_reducible refine (len_any HS18.out.bt).mono ?_); rintro e w20 ⟨rfl, rfl⟩; rw [HL2.out])
              | (go_at_call 30; (first | with_reducible refine (ris_any HS18.out.drew.rb y).mono ?_ | with_reducible refine (ris_any (HS18.out.drewN _).rb y).mono ?_ | with_reducible refine (ris_any HS18.out.rb y).mono ?_); rintro e w19 ⟨rfl, rfl⟩)
              | (go_at_call 19; (first | with_reducible refine (is_any HS17.out.drew.bt y).mono ?_ | with_reducible refine (is_any (HS17.out.drewN _).bt y).mono ?_ | with_reducible refine (is_any HS17.out.bt y).mono ?_); rintro e w18 ⟨rfl, q18, hw⟩; have HS18 := hid (show Sd W p v T p' v' T o x y w18 by rw [hw]; first | exact HS17.out.drew.drewN _ | exact (HS17.out.drewN _).drewN _ | exact HS17.out.drewN _); have ho18 := HS18.out.op.cell 1; simp only [List.getElem?_toArray, List.getElem?_cons_zero, List.getElem?_cons_succ] at ho18; clear hw)
              | (go_at_call 14; (first | with_reducible refine (rtaken_any HS16.out.drew.rb).mono ?_ | with_reducible refine (rtaken_any (HS16.out.drewN _).rb).mono ?_ | with_reducible refine (rtaken_any HS16.out.rb).mono ?_); rintro e w17 ⟨vo3, rfl, hvo, hb⟩; have HS17 := hid (Sd.on (by first | exact HS16.out.drew | exact HS16.out.drewN _ | exact HS16.out) hb); have ho17 := HS17.out.op.cell 1; simp only [List.getElem?_toArray, List.getElem?_cons_zero, List.getElem?_cons_succ] at ho17; obtain ⟨oa3, oc3, rfl⟩ := hvo.shape; rw [htl.out]; clear hvo; clear hb)
              | (go_at_call 20; (first | with_reducible refine (free_any HS15.out.drew.bt).mono ?_ | with_reducible refine (free_any (HS15.out.drewN _).bt).mono ?_ | with_reducible refine (free_any HS15.out.bt).mono ?_); rintro e w16 ⟨rfl, hb⟩; have HS16 := hid (Sd.on (by first | exact HS15.out.drew | exact HS15.out.drewN _ | exact HS15.out) hb); have ho16 := HS16.out.op.cell 1; simp only [List.getElem?_toArray, List.getElem?_cons_zero, List.getElem?_cons_succ] at ho16; rw [hfk.out]; clear hb)
              | (go_at_call 29; (first | with_reducible refine (rsave_any HS13.out.drew.rb).mono ?_ | with_reducible refine (rsave_any (HS13.out.drewN _).rb).mono ?_ | with_reducible refine (rsave_any HS13.out.rb).mono ?_); rintro e w15 ⟨rfl, hb⟩; have HS15 := hid (Sd.on (by first | exact HS13.out.drew | exact HS13.out.drewN _ | exact HS13.out) hb); have ho15 := HS15.out.op.cell 1; simp only [List.getElem?_toArray, List.getElem?_cons_zero, List.getElem?_cons_succ] at ho15; rw [hst2.out]; clear hb)
              | (go_at_call 11; (first | with_reducible refine (save_any HS13.out.drew.bt).mono ?_ | with_reducible refine (save_any (HS13.out.drewN _).bt).mono ?_ | with_reducible refine (save_any HS13.out.bt).mono ?_); rintro e w14 ⟨rfl, rfl⟩; rw [hst.out])
              | (go_at_call 12; (first | with_reducible refine (ints_any (HV11b.out.below (Below.drew (Below.refl _ _))) (HV12.out.below (Below.drew (Below.refl _ _)))).mono ?_ | with_reducible refine (ints_any (HV11b.out.below (below_dN (Below.refl _ _) _)) (HV12.out.below (below_dN (Below.refl _ _) _))).mono ?_ | with_reducible refine (ints_any (HV11b.out.below (Below.refl _ _)) (HV12.out.below (Below.refl _ _))).mono ?_); rintro e w13 ⟨rfl, q13, hw⟩; rw [decide_eq_true rfl]; have HS13 := hid (show Sd W p v T p' v' T o x y w13 by rw [hw]; first | exact HS12.out.drew.drewN _ | exact (HS12.out.drewN _).drewN _ | exact HS12.out.drewN _); have ho13 := HS13.out.op.cell 1; simp only [List.getElem?_toArray, List.getElem?_cons_zero, List.getElem?_cons_succ] at ho13; clear hw)
              | (go_at_call 14; (first | with_reducible refine (rtaken_any HS11.out.drew.rb).mono ?_ | with_reducible refine (rtaken_any (HS11.out.drewN _).rb).mono ?_ | with_reducible refine (rtaken_any HS11.out.rb).mono ?_); rintro e w12 ⟨vo2, rfl, hvo, hb⟩; have HS12 := hid (Sd.on (by first | exact HS11.out.drew | exact HS11.out.drewN _ | exact HS11.out) hb); have ho12 := HS12.out.op.cell 1; simp only [List.getElem?_toArray, List.getElem?_cons_zero, List.getElem?_cons_succ] at ho12; obtain ⟨oa2, oc2, rfl⟩ := hvo.shape; have HV12 := hid (RdI.of_own hvo); have HV11b := hid (HV11.out.below (w' := w12) (by first | exact (Below.drew (Below.refl _ _)).trans hb | exact (below_dN (Below.refl _ _) _).trans hb | exact hb)); clear hvo; clear hb)
              | (go_at_call 13; (first | with_reducible refine (taken_any HS10.out.drew.bt).mono ?_ | with_reducible refine (taken_any (HS10.out.drewN _).bt).mono ?_ | with_reducible refine (taken_any HS10.out.bt).mono ?_); rintro e w11 ⟨vo1, rfl, hvo, hb⟩; have HS11 := hid (Sd.on (by first | exact HS10.out.drew | exact HS10.out.drewN _ | exact HS10.out) hb); have ho11 := HS11.out.op.cell 1; simp only [List.getElem?_toArray, List.getElem?_cons_zero, List.getElem?_cons_succ] at ho11; obtain ⟨oa1, oc1, rfl⟩ := hvo.shape; have HV11 := hid (RdI.of_own hvo); clear hvo; clear hb))
          -- region 31 ends
            all_goals (go_wp2_with fail; go_meet; first | exact ⟨rfl, HS18.out⟩ | exact ⟨rfl, HS18.out.drew⟩ | exact ⟨rfl, HS18.out.drewN _⟩)
          case rest =>
            obtain ⟨rfl, hs⟩ := hcut
            have HS20 := hid hs
            have ho20 := hs.op.cell 1
            simp only [List.getElem?_toArray, List.getElem?_cons_zero, List.getElem?_cons_succ] at ho20
            clear hs HS10 ho10
            obtain ⟨rx, hrx⟩ : ∃ rx, runX T y = rx := ⟨_, rfl⟩
            obtain ⟨rk, hrk⟩ : ∃ rk, runOk T y = rk := ⟨_, rfl⟩
            have HRX := hid hrx
            have HRK := hid hrk
            clear hrx hrk
            go_wp2_with fail
            refine (run_any HS20.out.bt y).mono ?_
            rintro e w21 ⟨rfl, hb⟩
            rw [HRX.out, HRK.out]
            have HS21 := hid (HS20.out.on hb)
            have ho21 := HS21.out.op.cell 1
            simp only [List.getElem?_toArray, List.getElem?_cons_zero, List.getElem?_cons_succ] at ho21
            clear hb
            go_wp2_with fail
            refine (rrun_any HS21.out.rb y HW2.out.2).mono ?_
            rintro e w22 ⟨rfl, rfl⟩
            rw [HRX.out, HRK.out]
            go_wp2_with fail
            have hg := HG.out
            go_roundg (gk - 1)
            case measure => omega
            case rel => exact ⟨t + 1, _, _, _, rfl, by go_num, by omega, HL2.out, HS21.out.bt, HS21.out.rb, HS21.out.below⟩
      · have ht80i : ¬ (t : Int) < 80 := by omega
        go_wp2_with fail
        refine (fixed_any wr).mono ?_
        rintro e w7 ⟨rfl, hb⟩
        have HB7 := hid (HB.out.trans (hb.mono HB.out.size))
        clear hb HB
        go_wp2
        go_ret
        exact ⟨rfl, HB7.out⟩
    · have htli : ¬ (t : Int) < (U.length : Int) := by omega
      go_wp2_with fail
      refine (fixed_any wr).mono ?_
      rintro e w7 ⟨rfl, hb⟩
      have HB7 := hid (HB.out.trans (hb.mono HB.out.size))
      clear hb HB
      go_wp2
      go_ret
      exact ⟨rfl, HB7.out⟩
end bitsDo
end Go.Proofs.Ytkcfkmmjmgjhgaa
