/-
  Take whole; Free; Save: contracts.
-/
import Derived.Test.YtcblkdocbmpkeaaTn
import Derived.Laws.IdiomStrings
namespace Go.Proofs.Ytcblkdocbmpkeaa
open Go Go.RowKit Go.Shelf

theorem rnd_mod {b N k : Nat} : rnd b N k = (((b + k) % N : Nat) : Int) := by unfold rnd; rw [Int.natCast_emod, Int.natCast_add]
theorem upto_add (f : Nat → Int) (k m : Nat) : upto f (k + m) = upto f k ++ (List.range m).map (fun j => f (k + j)) := by
  unfold upto
  rw [List.range_add, List.map_append, List.map_map]
  rfl
theorem find_all {T : List Bool} {l : List Int} (h : ∀ y ∈ l, isB T y = true) : l.find? (fun x => !isB T x) = none := by
  rw [List.find?_eq_none]
  intro x hx
  simp [h x hx]
theorem find_first {T : List Bool} {q r : List Int} {x : Int} (h : ∀ y ∈ q, isB T y = true) (hx : isB T x = false) : (q ++ x :: r).find? (fun x => !isB T x) = some x := by
  rw [List.find?_append, find_all h]
  simp [hx]
theorem mem_upto {b N k : Nat} {x : Int} (hN : 1 ≤ N) (h : x ∈ upto (rnd b N) k) : ∃ i : Nat, i < N ∧ x = i := by
  unfold upto at h
  obtain ⟨j, _, rfl⟩ := List.mem_map.1 h
  exact ⟨(b + j) % N, Nat.mod_lt _ hN, rnd_mod⟩

theorem take_hit {T : List Bool} {b : Nat} (hN : 1 ≤ T.length) (hb : hasB T (b : Int) = true) {q : List Int} {x : Int} {k : Nat} (h1 : upto (rnd b T.length) k = q ++ [x]) (hk : k ≤ T.length) (h2 : ∀ y ∈ q, isB T y = true) (h3 : isB T x = false) :
    takeRX T b = x ∧ takeRE T b = 0 ∧ takeRT T b = takeT T x ∧ takeE T x = 0 := by
  have hf : freeX T b = some x := by
    unfold freeX
    obtain ⟨m, hm⟩ : ∃ m, T.length = k + m := ⟨T.length - k, by omega⟩
    have : upto (rnd b T.length) T.length = q ++ x :: ((List.range m).map (fun j => rnd b T.length (k + j))) := by
      conv => lhs; rw [show upto (rnd b T.length) T.length = upto (rnd b T.length) (k + m) by rw [← hm]]
      rw [upto_add, h1, List.append_assoc]
      rfl
    rw [this, find_first h2 h3]
  obtain ⟨i, hi, rfl⟩ := mem_upto (b := b) (N := T.length) (k := k) (x := x) hN (by rw [h1]; simp)
  have hh := hasB_nat hi
  refine ⟨?_, ?_, ?_, ?_⟩
  · simp [takeRX, hb, hf]
  · simp [takeRE, hb, hf]
  · simp [takeRT, hb, hf, takeT, hh, h3]
  · simp [takeE, hh, h3]

set_option maxRecDepth 100000 in
set_option maxHeartbeats 2000000 in
theorem take_no {W : World} {B p : Nat} {v : Value} {T : List Bool} (h : Bt W B p v T) (b : Int) (hb : hasB T b = false) :
    Calls Try.prog 29 #[.pointer (some ⟨p, 0, none⟩), .int .i64 b] W fun e W' => e = .returned (.tuple #[.int .i64 0, .int .i64 1]) ∧ Bt W' B p v T ∧ Only (fun k => v.ownBlock = some k) W W' := by
  have HH := fun w h => hid (hb ▸ @has_any w B p v T h b)
  refine (callsIn_wide (n := 4)).1 ?_
  refine callsIn_of_wp_marks Try.func29 rfl trivial ?_ rfl
  simp only [Try.ntmps29, List.size_toArray, List.length_cons, List.length_nil, Nat.reduceAdd, Nat.reduceSub, Array.replicate_succ, Array.replicate_zero, List.push_toArray, List.append_toArray, List.nil_append, List.cons_append]
  obtain ⟨W3, hW3⟩ : ∃ W3, ((W.alloc (.cells #[.pointer (some ⟨p, 0, none⟩)] 60)).alloc (.cells #[.int .i64 0] 3)).alloc (.cells #[.int .i64 0] 24) = W3 := ⟨_, rfl⟩
  have hI0 : TkI W B p v T W.heap.size [] W3 := by
    rw [← hW3]
    refine ⟨fun y hy => by simp at hy, ((h.alloc _).alloc _).alloc _, ((Blk.new W _ _).alloc _).alloc _, ?_, ?_, (((Only.refl _ W).alloc _).alloc _).alloc _⟩
    · have := (Blk.new (W.alloc (.cells #[.pointer (some ⟨p, 0, none⟩)] 60)) 3 #[.int .i64 0]).alloc (.cells #[.int .i64 0] 24)
      simpa using this
    · have := Blk.new ((W.alloc (.cells #[.pointer (some ⟨p, 0, none⟩)] 60)).alloc (.cells #[.int .i64 0] 3)) 24 #[.int .i64 0]
      simpa using this
  have HI0 := hid hI0
  have hp : p < W.heap.size := h.blk.lt
  have hv : ∀ k, v.ownBlock = some k → k < W.heap.size := fun k e => h.lt e
  have c0 : W3.cell? ⟨W.heap.size, 0, none⟩ = some (.pointer (some ⟨p, 0, none⟩)) := hI0.b0.cell 0
  have c1 : W3.cell? ⟨W.heap.size + 1, 0, none⟩ = some (.int .i64 0) := hI0.b1.cell 0
  have c2 : W3.cell? ⟨W.heap.size + 1 + 1, 0, none⟩ = some (.int .i64 0) := hI0.b2.cell 0
  have z1 := hI0.b1.frozen 0
  have z2 := hI0.b2.frozen 0
  clear hI0
  gi_wp2
  clear hW3
  refine ⟨trivial, (callsIn_wide.2 (HH _ HI0.out.bt).out).mono ?_⟩
  rintro e W4 ⟨rfl, rfl⟩
  gi_wp2
  have hne : ¬ W.heap.size + 1 = W.heap.size + 1 + 1 := by omega
  have HI := HI0
  have hset : Only (fun k => k = W.heap.size + 1 ∨ k = W.heap.size + 1 + 1) W4 ((W4.setCell ⟨W.heap.size + 1, 0, none⟩ (.int .i64 0)).setCell ⟨W.heap.size + 1 + 1, 0, none⟩ (.int .i64 1)) := ((Only.refl _ W4).setCell (.inl (.inl rfl)) _).setCell (.inl (.inr rfl)) _
  have n1 := (HI.out.b1.set_ 0 (.int .i64 0)).far (p := ⟨W.heap.size + 1 + 1, 0, none⟩) hne (.int .i64 1)
  have n2 := (HI.out.b2.far (p := ⟨W.heap.size + 1, 0, none⟩) (fun e => hne e.symm) (.int .i64 0)).set_ 0 (.int .i64 1)
  have nb := HI.out.bt.keep hset (fun e => by omega) (fun k e e' => by have := hv k e; omega)
  have no := (HI.out.only.setCell (p := ⟨W.heap.size + 1, 0, none⟩) (.inr (by simp)) (.int .i64 0)).setCell (p := ⟨W.heap.size + 1 + 1, 0, none⟩) (.inr (by simp; omega)) (.int .i64 1)
  have y1 := n1.cell 0
  have y2 := n2.cell 0
  simp only [List.getElem?_toArray, List.getElem?_cons_zero, List.setIfInBounds_toArray, List.set_cons_zero] at y1 y2
  refine ⟨.tuple #[.int .i64 0, .int .i64 1], ?_, rfl, nb, no⟩
  simp [results, Try.f29, go_sem, y1, y2]

theorem take_any {W : World} {B p : Nat} {v : Value} {T : List Bool} (h : Bt W B p v T) (b : Int) :
    Calls Try.prog 29 #[.pointer (some ⟨p, 0, none⟩), .int .i64 b] W fun e W' => e = .returned (.tuple #[.int .i64 (takeRX T b), .int .i64 (takeRE T b)]) ∧ Bt W' B p v (takeRT T b) ∧ Only (fun k => v.ownBlock = some k) W W' := by
  cases hb : hasB T b with
  | false =>
    have e1 : takeRX T b = 0 := by simp [takeRX, hb]
    have e2 : takeRE T b = 1 := by simp [takeRE, hb]
    have e3 : takeRT T b = T := by simp [takeRT, hb]
    rw [e1, e2, e3]
    exact take_no h b hb
  | true =>
    have hb' := hb
    simp only [hasB, Bool.and_eq_true, decide_eq_true_eq] at hb'
    obtain ⟨k, rfl⟩ : ∃ k : Nat, b = k := ⟨b.toNat, by omega⟩
    refine (take_yes h k hb).mono ?_
    rintro e w ⟨⟨rfl, ha, hbt⟩ | ⟨q, x, j, h1, hj, h2, h3, rfl, hbt⟩, ho⟩
    · have hf : freeX T k = none := find_all ha
      have e1 : takeRX T k = 0 := by simp [takeRX, hb, hf]
      have e2 : takeRE T k = 6 := by simp [takeRE, hb, hf]
      have e3 : takeRT T k = T := by simp [takeRT, hb, hf]
      rw [e1, e2, e3]
      exact ⟨rfl, hbt, ho⟩
    · obtain ⟨e1, e2, e3, e4⟩ := take_hit h.len1 hb h1 hj h2 h3
      rw [e1, e2, e3]
      rw [e4]
      exact ⟨rfl, hbt, ho⟩

/-- How many are free. -/
def freeN (T : List Bool) : Int := (T.length : Int) - (takenL T).length
theorem takenL_len (T : List Bool) : (takenL T).length ≤ T.length := by
  unfold takenL
  exact Nat.le_trans (List.length_filter_le _ _) (by rw [upto_length]; omega)

theorem free_any {W : World} {B p : Nat} {v : Value} {T : List Bool} (h : Bt W B p v T) :
    Calls Try.prog 33 #[.pointer (some ⟨p, 0, none⟩)] W fun e W' => e = .returned (.int .i64 (freeN T)) ∧ Below W.heap.size W W' := by
  have HT := fun m => hid (taken_any (h.drewN m))
  have HTd := hid (taken_any (W := W.drew) (h.drewN 1))
  have HTw := hid (taken_any h)
  have h1 := h.blk.cell 1
  simp only [List.getElem?_toArray, List.getElem?_cons_zero, List.getElem?_cons_succ] at h1
  have hl := takenL_len T
  have hl2 := h.len2
  have hp : p < W.heap.size := h.blk.lt
  unfold freeN
  clear h
  go_enter Try.func33, Try.ntmps33
  go_wp2
  go_region_held3 (fun w' => w'.cell? ⟨p, 1, none⟩ = some (.int .i64 T.length))
    (first | go_keep | assumption)
    (first | (go_at_call 43; ((first | with_reducible refine (HT _).out.mono ?_ | with_reducible refine HTd.out.mono ?_ | with_reducible refine HTw.out.mono ?_)); rintro e w2 ⟨vo, rfl, ho, hb2⟩; have hc2 := (hb2.cell (p := ⟨p, 1, none⟩) hp).trans h1; obtain ⟨va, vc, rfl⟩ := ho.shape; have HB2 := hid hb2; clear ho hb2))
  all_goals
    have hwr : IntKind.i64.wrap ((T.length : Int) - ((takenL T).length : Int)) = (T.length : Int) - ((takenL T).length : Int) := by rw [IntKind.wrap_i64]; omega
    go_wp2
    go_ret
    exact ⟨by rw [hwr]; rfl, ⟨HB2.out.os, HB2.out.tape, HB2.out.output, HB2.out.size, HB2.out.block⟩⟩

theorem bytes_lt (T : List Bool) : ∀ x ∈ bytesOf T, x < 256 := by
  intro x hx
  unfold bytesOf at hx
  obtain ⟨m, _, e⟩ := List.mem_map.1 hx
  rw [← e]
  exact byteOf_lt T m
end Go.Proofs.Ytcblkdocbmpkeaa
