/-
  A select of one case with a default, at the level of the kit's walk: code walked in a frame that is not an early one (WpN), and a region whose operations are taken one by one by their meaning (OpsTo), so that a walk can pass a select whose readiness is known.
-/
import Derived.WalkKit
import Derived.Conc.LoneSelect
import Derived.Conc.LoneSelectN
namespace Go.Proofs.Ytokccncaclphhaa
open Go Go.Conc

/-- Code.wp, in frames that are not early ones. -/
def WpN (P : Program) (c : Code) (Q : Exit → Act → World → Prop) (a : Act) (w : World) : Prop :=
  ∀ (b : Frame) (k : List Item) (cs : List Frame), b.kind ≠ .early → ∃ e a' w', Q e a' w' ∧ Arrives P (lone (b.at a (.code c :: k)) cs w) b k cs e a' w'

/-- The operations l of the region ops, begun at a and w, come to Q. -/
def OpsTo (P : Program) (ops : Array Oper) (Q : Exit → Act → World → Prop) (l : List Nat) (a : Act) (w : World) : Prop :=
  ∀ (b : Frame) (k : List Item) (cs : List Frame), b.kind ≠ .early → ∃ e a' w', Q e a' w' ∧ Arrives P (lone (b.at a (.inRegion ops l :: k)) cs w) b k cs e a' w'

section
variable {P : Program} {ops : Array Oper} {Q : Exit → Act → World → Prop} {a : Act} {w : World}

theorem WpN.of {c : Code} (h : c.wp P Q a w) : WpN P c Q a w := fun b k cs _ => h b k cs

theorem wpN_seq {x y : Code} (h : WpN P x (Exit.then (fun a w => WpN P y Q a w) Q) a w) : WpN P (.seq x y) Q a w := by
  intro b k cs hb
  obtain ⟨e, a₁, w₁, hq, harr⟩ := h b (.code y :: k) cs hb
  cases e with
  | normal =>
    obtain ⟨e₂, a₂, w₂, hq₂, harr₂⟩ := hq b k cs hb
    exact ⟨e₂, a₂, w₂, hq₂, .of_steps (.head step_seq harr) harr₂⟩
  | exit id => exact ⟨_, a₁, w₁, hq, .of_steps (.one step_seq) (.pass (x := .code y) rfl (fun _ _ => .inl (by simp)) harr)⟩
  | goto l => exact ⟨_, a₁, w₁, hq, .of_steps (.one step_seq) (.pass (x := .code y) rfl (fun _ _ => .inl (by simp)) harr)⟩
  | ret => exact ⟨_, a₁, w₁, hq, .of_steps (.one step_seq) (.pass (x := .code y) rfl (fun _ _ => .inl (by simp)) harr)⟩
  | panic ch => exact ⟨_, a₁, w₁, hq, .of_steps (.one step_seq) (.pass (x := .code y) rfl (fun _ _ => .inl (by simp)) harr)⟩
  | outgrown => exact ⟨_, a₁, w₁, hq, .of_steps (.one step_seq) (.pass (x := .code y) rfl (fun _ _ => .inl (by simp)) harr)⟩

theorem wpN_block {id : Nat} {c : Code} (h : WpN P c (Exit.inBlock id Q) a w) : WpN P (.block id c) Q a w := by
  intro b k cs hb
  obtain ⟨e, a₁, w₁, hq, harr⟩ := h b (.inBlock id :: k) cs hb
  cases e with
  | normal => exact ⟨.normal, a₁, w₁, hq, .head step_block (Steps.trans harr (.one step_inBlock))⟩
  | exit id' =>
    by_cases hid : id' = id
    · simp only [Exit.inBlock, hid, if_true] at hq
      exact ⟨.normal, a₁, w₁, hq, .head step_block (harr k (by simp [exitTo, hid]))⟩
    · simp only [Exit.inBlock, hid, if_false] at hq
      refine ⟨.exit id', a₁, w₁, hq, fun k' hk => .head step_block (harr k' ?_)⟩
      have : (id == id') = false := by simp; exact fun h => hid h.symm
      simp [exitTo, this, hk]
  | goto l => exact ⟨_, a₁, w₁, hq, fun k' hk => .head step_block (harr k' (by simp [gotoIn, hk]))⟩
  | ret => exact ⟨_, a₁, w₁, hq, .of_steps (.one step_block) harr⟩
  | panic ch => exact ⟨_, a₁, w₁, hq, .of_steps (.one step_block) harr⟩
  | outgrown => exact ⟨_, a₁, w₁, hq, .of_steps (b := b) (k := k) (cs := cs) (e := .outgrown) (.one step_block) harr⟩

theorem wpN_cond {c : Operand} {x y : Code} {t : Bool} (hc : a.eval c = .bool t) (h : WpN P (if t then x else y) Q a w) : WpN P (.cond c x y) Q a w :=
  fun b k cs hb => let ⟨e, a', w', q, r⟩ := h b k cs hb; ⟨e, a', w', q, .of_steps (.one (step_cond hc)) r⟩

theorem wpN_region {id : Nat} (h : OpsTo P ops Q (List.range ops.size) a w) : WpN P (.region id ops false) Q a w := by
  intro b k cs hb
  obtain ⟨e, a', w', hq, harr⟩ := h b k cs hb
  exact ⟨e, a', w', hq, .of_steps (.one step_region) harr⟩

theorem wpN_region_draw {id : Nat} (h : ∀ t, OpsTo P ops Q (Region.schedule (P.follows .mixedOrders) ops t) a w.drew) : WpN P (.region id ops true) Q a w := by
  intro b k cs hb
  obtain ⟨e, a', w', hq, harr⟩ := h _ b k cs hb
  exact ⟨e, a', w', hq, .of_steps (.one step_region_draw) harr⟩

theorem OpsTo.rest {l : List Nat} (h : wpOps P ops Q l a w) : OpsTo P ops Q l a w := fun b k cs _ => wp_ops l a w h b k cs
theorem OpsTo.nil (h : Q .normal a w) : OpsTo P ops Q [] a w := fun _ _ _ _ => ⟨.normal, a, w, h, .one step_region_end⟩

theorem OpsTo.value {i : Nat} {rest : List Nat} {o : Oper} {v : Value} {w' : World} (ho : ops[i]? = some o) (hg : o.guard = none)
    (hr : (execOp a.eval o).run P w = .ok (.value v) w') (h : OpsTo P ops Q rest (a.put o.dst v) w') : OpsTo P ops Q (i :: rest) a w := by
  intro b k cs hb
  obtain ⟨e, a', w'', hq, harr⟩ := h b k cs hb
  have hw : Region.wanted o (yielded ops a.tmps) = true := by simp [Region.wanted, hg]
  refine ⟨e, a', w'', hq, .of_steps (.one (step_lone_go ?_)) harr⟩
  have hfin : (b.at a (.inRegion ops (i :: rest) :: k)).finish v = b.at (a.put o.dst v) (.inRegion ops rest :: k) := by rw [Frame.finish_at, ho]; rfl
  rw [stepG_op (P := P) (b := b) (k := k) (cs := cs) (w := w) (rest := rest) ho hw, ← hfin]
  simp [stepG.apply, hr]

/-- One operation that hands up a communication, of which the machine of one makes the value v and the world w₂. -/
theorem OpsTo.comm {i : Nat} {rest : List Nat} {o : Oper} {v : Value} {cases : Array CommCase} {blocking : Bool} {shape : CommShape} {w' w₂ : World} (ho : ops[i]? = some o) (hg : o.guard = none)
    (hr : (execOp a.eval o).run P w = .ok (.comm cases blocking shape) w')
    (hs : ∀ (fr : Frame) (cs : List Frame) (es : Array Event), stepG P true (G fr cs) w = .comm (G fr cs) cases blocking shape w' es → step P (solo (G fr cs) w) = .next (solo (G (fr.finish v) cs) w₂))
    (h : OpsTo P ops Q rest (a.put o.dst v) w₂) : OpsTo P ops Q (i :: rest) a w := by
  intro b k cs hb
  obtain ⟨e, a', w'', hq, harr⟩ := h b k cs hb
  have hw : Region.wanted o (yielded ops a.tmps) = true := by simp [Region.wanted, hg]
  have hfin : (b.at a (.inRegion ops (i :: rest) :: k)).finish v = b.at (a.put o.dst v) (.inRegion ops rest :: k) := by rw [Frame.finish_at, ho]; rfl
  have h1 := hs _ cs _ (stepG_comm (P := P) (main := true) (b := b) (k := k) (cs := cs) (rest := rest) ho hw hb hr)
  rw [hfin] at h1
  exact ⟨e, a', w'', hq, .of_steps (.one h1) harr⟩

/-- A receive case that is ready: the buffer's head; the buffer loses it. -/
theorem OpsTo.recv_buf {i : Nat} {rest : List Nat} {o : Oper} {c cap s r : Nat} {z x : Value} {buf : List Value} (ho : ops[i]? = some o) (hg : o.guard = none)
    (hr : (execOp a.eval o).run P w = .ok (.comm #[rcase c z] false .select) w)
    (hc : w.heap[c]? = some (.chan cap (x :: buf).toArray false s r false))
    (h : OpsTo P ops Q rest (a.put o.dst (.tuple #[goInt 0, .bool true, x])) (w.setChan c cap buf.toArray false s (r + 1) false)) : OpsTo P ops Q (i :: rest) a w := by
  refine OpsTo.comm ho hg hr (fun fr cs es hst => ?_) h
  have := step_lone_select_recv_buf hst hc (by simp)
  simpa using this

/-- A receive case over an open, empty channel: the default. -/
theorem OpsTo.recv_default {i : Nat} {rest : List Nat} {o : Oper} {c cap s r : Nat} {z : Value} (ho : ops[i]? = some o) (hg : o.guard = none)
    (hr : (execOp a.eval o).run P w = .ok (.comm #[rcase c z] false .select) w)
    (hc : w.heap[c]? = some (.chan cap #[] false s r false))
    (h : OpsTo P ops Q rest (a.put o.dst (.tuple #[goInt (-1), .bool false, z])) w) : OpsTo P ops Q (i :: rest) a w :=
  OpsTo.comm ho hg hr (fun _ _ _ hst => step_lone_select_default hst hc) h

/-- A send case with room. -/
theorem OpsTo.send_room {i : Nat} {rest : List Nat} {o : Oper} {c cap s r : Nat} {v z : Value} {buf : List Value} (ho : ops[i]? = some o) (hg : o.guard = none)
    (hr : (execOp a.eval o).run P w = .ok (.comm #[scase c v z] false .select) w)
    (hc : w.heap[c]? = some (.chan cap buf.toArray false s r false)) (hroom : buf.length < cap)
    (h : OpsTo P ops Q rest (a.put o.dst (.tuple #[goInt 0, .bool false])) (w.setChan c cap (buf ++ [v]).toArray false (s + 1) r false)) : OpsTo P ops Q (i :: rest) a w := by
  refine OpsTo.comm ho hg hr (fun fr cs es hst => ?_) h
  have := step_lone_select_send_room hst hc (by simpa using hroom)
  simpa using this

theorem calls_of_wpN {f : FuncId} {fn : Func} {c : Code} {args : Array Value} {R : Ending → World → Prop} (hf : P.funcs[f]? = some fn) (hbd : fn.body = some c)
    (h : WpN P c (bodyPost P fn R) { tmps := args ++ Array.replicate (fn.ntmps - args.size) undef, defers := [] } w) : Calls P f args w R := by
  intro cs
  let b : Frame := { (default : Frame) with fn := f, kind := .normal }
  have henter : Frame.enter P f args .normal = b.at { tmps := args ++ Array.replicate (fn.ntmps - args.size) undef, defers := [] } [.code c] := by
    simp [Frame.enter, Frame.at, hf, hbd, b]
  obtain ⟨e, a', w', hq, harr⟩ := h b [] cs (by simp [b])
  rw [← henter] at harr
  cases e with
  | normal =>
    obtain ⟨hd, v, hr, hR⟩ := hq
    exact ⟨.returned v, w', _, hR, Steps.trans harr (.one step_end), rfl, rfl, hd, rfl, fn, hf, hr⟩
  | ret =>
    obtain ⟨hd, v, hr, hR⟩ := hq
    obtain ⟨todo, hs⟩ := harr
    exact ⟨.returned v, w', _, hR, hs, rfl, rfl, hd, rfl, fn, hf, hr⟩
  | panic chain =>
    obtain ⟨hd, hR⟩ := hq
    obtain ⟨todo, hs⟩ := harr
    exact ⟨.panicked chain, w', _, hR, hs, rfl, rfl, hd, fn, hf⟩
  | exit id => exact hq.elim
  | goto l => exact hq.elim
  | outgrown => exact ⟨.outgrown, w', b, hq, harr.resolve_left (by simp [b]), rfl, trivial⟩
end

/-! ### the same, where the select is the first operation of a region -/
section
variable {P : Program} {Q : Exit → Act → World → Prop} {a : Act} {w : World}
theorem OpsTo.list {o : Oper} {l : List Oper} (h : wpList P (o :: l).toArray Q l a w) : OpsTo P (o :: l).toArray Q (List.range' 1 l.length) a w :=
  OpsTo.rest (by rw [wpOps_eq_wpList l 1 (fun j => by simp [Nat.add_comm 1 j])]; exact h)
theorem wpN_first {id : Nat} {o : Oper} {l : List Oper} (h : OpsTo P (o :: l).toArray Q (0 :: List.range' 1 l.length) a w) : WpN P (.region id (o :: l).toArray false) Q a w :=
  wpN_region (by
    rw [List.range_eq_range', List.size_toArray, List.length_cons, List.range'_succ]
    exact h)
theorem wpN_recv_buf {id : Nat} {o : Oper} {l : List Oper} {c cap s r : Nat} {z x : Value} {buf : List Value} (hg : o.guard = none)
    (hr : (execOp a.eval o).run P w = .ok (.comm #[rcase c z] false .select) w)
    (hc : w.heap[c]? = some (.chan cap (x :: buf).toArray false s r false))
    (h : wpList P (o :: l).toArray Q l (a.put o.dst (.tuple #[goInt 0, .bool true, x])) (w.setChan c cap buf.toArray false s (r + 1) false)) : WpN P (.region id (o :: l).toArray false) Q a w :=
  wpN_first (OpsTo.recv_buf (by simp) hg hr hc (OpsTo.list h))
theorem wpN_recv_default {id : Nat} {o : Oper} {l : List Oper} {c cap s r : Nat} {z : Value} (hg : o.guard = none)
    (hr : (execOp a.eval o).run P w = .ok (.comm #[rcase c z] false .select) w)
    (hc : w.heap[c]? = some (.chan cap #[] false s r false))
    (h : wpList P (o :: l).toArray Q l (a.put o.dst (.tuple #[goInt (-1), .bool false, z])) w) : WpN P (.region id (o :: l).toArray false) Q a w :=
  wpN_first (OpsTo.recv_default (by simp) hg hr hc (OpsTo.list h))
theorem wpN_send_room {id : Nat} {o : Oper} {l : List Oper} {c cap s r : Nat} {v z : Value} {buf : List Value} (hg : o.guard = none)
    (hr : (execOp a.eval o).run P w = .ok (.comm #[scase c v z] false .select) w)
    (hc : w.heap[c]? = some (.chan cap buf.toArray false s r false)) (hroom : buf.length < cap)
    (h : wpList P (o :: l).toArray Q l (a.put o.dst (.tuple #[goInt 0, .bool false])) (w.setChan c cap (buf ++ [v]).toArray false (s + 1) r false)) : WpN P (.region id (o :: l).toArray false) Q a w :=
  wpN_first (OpsTo.send_room (by simp) hg hr hc hroom (OpsTo.list h))
end

#print axioms calls_of_wpN
end Go.Proofs.Ytokccncaclphhaa
