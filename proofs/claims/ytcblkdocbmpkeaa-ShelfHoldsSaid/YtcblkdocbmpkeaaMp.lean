/-
  A map from pages to texts, as a row of texts that may be missing.
-/
import Derived.Test.YtcblkdocbmpkeaaBh
import Derived.Maps.OwnSet
import Derived.Maps.Views
import Derived.WideKeyEntry
open Go Go.RowKit
open Go.ChangeMaps Go.MapKept Go.Maps
open Go.WideElems (Fit rd rg pl)
namespace Go.Proofs.Ytcblkdocbmpkeaa

/-- A map that holds a key: the key's entry, and a store into it. -/
theorem entry_own {H : Type} {P : Program} {w : World} {t k e : TypeId} {R : Value → Option (DataW H × List MemPlace)} {b n : Nat} {D : DataW H} (h : w.ownsMap P k R b n D) (K : Keyed P k) (ht : P.underlying t = some (.map k e)) (hn : n < maxLen)
    {z : Value} (hz : (zeroValue e).run P w = .ok z w) {zd : DataW H} {zp : List MemPlace} (hzd : R z = some (zd, zp)) {key : Value} {kl : Lit} (hkey : keyOf P k key = some kl) (hhas : Maps.has D kl = true) :
    ∃ (v0 : Value) (ps : List MemPlace) (st : Nat), (Instr.mapEntry t (.map (some b)) key).run P w = .ok (.tuple #[v0, goInt st]) w ∧ R v0 = some (D.atKey kl zd, ps) ∧
      ∀ (val : Value) (d : DataW H) (ps' : List MemPlace), R val = some (d, ps') → ∃ w', (Instr.entryStore t (.map (some b)) (goInt st) val).run P w = .ok () w' ∧ w'.ownsMap P k R b (n + 1) (D.put kl d) ∧ w.mapTurned w' b := by
  have hstore := fun (val : Value) (d : DataW H) (ps' : List MemPlace) (hv : R val = some (d, ps')) => h.store (val := val) (d := d) (ps := ps') K ht hn hkey hv
  obtain ⟨v, ps, hlook, hv⟩ := h.look_ok K ht hz hzd hkey
  rw [hhas] at hlook
  obtain ⟨es, clock, hb, F, hs, rfl⟩ := h
  obtain ⟨s1, s2, _⟩ := F.stamped
  rcases K.find w hkey es.toList F.keys with ⟨h1, h2⟩ | ⟨j, e0, h1, h2, h3⟩
  · exfalso
    simp [Instr.lookup, run_underlying ht, MapKept.run_getObj_map hb, K.check w _ hkey, h1, hz, Result.andThen] at hlook
  · have hj : es[j]? = some e0 := by simpa using h2
    have hsame : es.modify j (fun e => { e with key := key }) = es := by
      apply Array.ext'
      rw [Array.toList_modify, modify_eq_set _ _ _ _ h2]
      have : ({ e0 with key := key } : MapEntry) = e0 := by rw [← h3]
      rw [this]
      exact Go.WideElems.set_self _ _ _ h2
    have hw : ({ w with heap := w.heap.setIfInBounds b (.map es clock) } : World) = w := by
      have e : w.heap.setIfInBounds b (.map es clock) = w.heap := by
        apply Array.ext_getElem?
        intro i
        rw [Array.getElem?_setIfInBounds]
        split
        · subst_vars
          split
          · exact hb.symm
          · rename_i h5
            rw [Array.getElem?_eq_none (by omega)]
        · rfl
      rw [e]
    have hv0 : v = e0.val := by
      simp [Instr.lookup, run_underlying ht, MapKept.run_getObj_map hb, K.check w _ hkey, h1, Result.andThen] at hlook
      exact hlook.symm
    subst hv0
    refine ⟨e0.val, ps, e0.born, ?_, hv, fun val d ps' hval => ?_⟩
    · simp [Instr.mapEntry, run_underlying ht, MapKept.run_getObj_map hb, K.check w false hkey, h1, hj, h3, K.stays w hkey, hsame, MapKept.run_setObj_map _ hb, Result.andThen, hw]
    · obtain ⟨w', hrun, hown', htur⟩ := hstore val d ps' hval
      refine ⟨w', ?_, hown', htur⟩
      have hidx : es.findIdx? (fun e => ((e.born : Nat) : Int) == ((e0.born : Nat) : Int)) = some j := by
        rw [Go.WideElems.findIdx_arr]
        exact Go.WideElems.findIdx_born s2 h2
      have hmod : es.modify j (fun e => { e with val := val }) = es.modify j (fun e' => { e' with key := key, val := val }) := by
        apply Array.ext'
        rw [Array.toList_modify, Array.toList_modify, modify_eq_set _ _ _ _ h2, modify_eq_set _ _ _ _ h2, ← h3]
      simp [Instr.mapUpdate, run_underlying ht, MapKept.run_getObj_map hb, K.check w false hkey, h1, hj, h3, K.stays w hkey, MapKept.run_setObj_map _ hb, Result.andThen] at hrun
      simp [Instr.entryStore, MapKept.run_getObj_map hb, asInt, asIntOf, goInt, hidx, hmod, MapKept.run_setObj_map _ hb, Result.andThen, hrun]

theorem ownsMap_tight {H : Type} {P : Program} {k : TypeId} {R : Value → Option (DataW H × List MemPlace)} {w : World} {b n m : Nat} {D : DataW H} (h : w.ownsMap P k R b n D) (hm : Maps.size D ≤ m) : w.ownsMap P k R b m D := by
  obtain ⟨es, clock, hb, F, hs, rfl⟩ := h
  exact ⟨es, clock, hb, F, by simpa [Maps.size, length_sorted] using hm, rfl⟩

abbrev Mt := List (Option ByteArray)
def cntM (M : Mt) : Nat := M.countP Option.isSome
/-- What page i has. -/
def atM (M : Mt) (i : Nat) : Option ByteArray := (M[i]?).join
def bsD (s : ByteArray) : DataW Unit := .lit (.string s.data.toList)
def kD (i : Nat) : Lit := .int .i64 (i : Int)
structure Mp (w : World) (b : Nat) (M : Mt) : Prop where
  own : ∃ D : DataW Unit, w.ownsMap Try.prog 3 (plainElem Try.prog 9) b (cntM M) D ∧ ∀ i, i < M.length → match atM M i with
    | some s => Maps.has D (kD i) = true ∧ ∀ z, D.atKey (kD i) z = bsD s
    | none => Maps.has D (kD i) = false
  len : M.length ≤ 1024

theorem keyI {i : Nat} (h : i ≤ 1024) : keyOf Try.prog 3 (.int .i64 (i : Int)) = some (kD i) := keyOf_int_mk Try.underlying3 (by simp [Lit.wf, IntKind.min, IntKind.max, IntKind.bits, IntKind.signed]; omega)
theorem lawI : Keyed Try.prog 3 := int_keyed Try.underlying3
theorem zeroS (w : World) : (zeroValue 9).run Try.prog w = .ok (.string ⟨#[]⟩) w := by kernel_rfl
theorem bsD_inj {a b : ByteArray} (h : bsD a = bsD b) : a = b := by
  unfold bsD at h
  simp only [DataW.lit.injEq, Lit.string.injEq] at h
  exact ByteArray.ext (Array.toList_inj.1 h)
theorem plainElem_bs {v : Value} {d : DataW Unit} {ps : List MemPlace} (h : plainElem Try.prog 9 v = some (d, ps)) : ∃ s : ByteArray, v = .string s ∧ d = bsD s ∧ s.size ≤ maxLen := by
  unfold plainElem at h
  rw [Try.underlying9] at h
  cases v <;> simp at h
  rename_i s
  exact ⟨s, rfl, h.2.1.symm, h.1⟩
theorem kD_ne {i j : Nat} (h : i ≠ j) : kD i ≠ kD j := by
  unfold kD
  intro e
  simp only [Lit.int.injEq, true_and] at e
  omega
theorem atM_lt {M : Mt} {i : Nat} (h : i < M.length) : M[i]? = some (atM M i) := by
  unfold atM
  rw [List.getElem?_eq_getElem h]
  rfl
theorem atM_set {M : Mt} {i j : Nat} (h : i < M.length) (x : Option ByteArray) : atM (M.set i x) j = if j = i then x else atM M j := by
  unfold atM
  rw [List.getElem?_set]
  by_cases e : i = j
  · subst e
    rw [if_pos rfl, if_pos rfl, if_pos h]
    rfl
  · rw [if_neg e, if_neg (fun e' => e e'.symm)]
theorem cnt_set {M : Mt} {i : Nat} (h : i < M.length) (x : Option ByteArray) : cntM (M.set i x) + (if (atM M i).isSome then 1 else 0) = cntM M + (if x.isSome then 1 else 0) := by
  induction M generalizing i with
  | nil => simp at h
  | cons a r ih =>
    cases i with
    | zero => cases a <;> cases x <;> simp [cntM, atM]
    | succ i =>
      have := ih (i := i) (by simpa using h)
      have e : atM (a :: r) (i + 1) = atM r i := by simp [atM]
      have e1 : cntM ((a :: r).set (i + 1) x) = cntM (r.set i x) + cntM [a] := by simp [cntM, List.countP_cons]
      have e2 : cntM (a :: r) = cntM r + cntM [a] := by simp [cntM, List.countP_cons]
      rw [e, e1, e2]
      omega
theorem cnt_le (M : Mt) : cntM M ≤ M.length := List.countP_le_length

section
variable {w w' : World} {b : Nat} {M : Mt} {S : Nat → Prop}
theorem mapTurned_only (h : w.mapTurned w' b) : Only (fun k => k = b) w w' := (Only.refl _ w).grown h.grown (fun k e => .inl (by cases e; rfl))
theorem Mp.keep (h : Mp w b M) (ho : Only S w w') (hS : ¬ S b) : Mp w' b M := by
  obtain ⟨D, ⟨es, clock, hb, F, hs, hD⟩, hall⟩ := h.own
  have hlt : b < w.heap.size := by
    rcases Nat.lt_or_ge b w.heap.size with h1 | h1
    · exact h1
    · rw [Array.getElem?_eq_none h1] at hb; cases hb
  exact ⟨⟨D, ⟨es, clock, (ho.block b hlt hS).trans hb, F, hs, hD⟩, hall⟩, h.len⟩
theorem Mp.lt (h : Mp w b M) : b < w.heap.size := by
  obtain ⟨D, ho, _⟩ := h.own
  exact ho.lt
theorem Mp.alloc (h : Mp w b M) (o : Obj) : Mp (w.alloc o) b M := h.keep (S := fun _ => False) ((Only.refl _ w).alloc o) id
theorem Mp.drewN (h : Mp w b M) (n : Nat) : Mp (w.drewN n) b M := h.keep (S := fun _ => False) ((Only.refl _ w).drewN n) id
theorem Mp.new (w : World) (n : Nat) (hn : n ≤ 1024) : Mp (w.alloc (.map #[] 0)) w.heap.size (List.replicate n none) := by
  refine ⟨⟨.map [], (World.ownsMap_made w _ _ _).mono (Nat.zero_le _), fun i hi => ?_⟩, by simpa using hn⟩
  have : atM (List.replicate n none) i = none := by
    unfold atM
    rw [List.length_replicate] at hi
    rw [List.getElem?_replicate, if_pos hi]
    rfl
  rw [this]
  rfl
/-- What the look-up tells. -/
def hasM (M : Mt) (i : Nat) : Bool := (atM M i).isSome
def getM (M : Mt) (i : Nat) : ByteArray := (atM M i).getD ⟨#[]⟩
theorem Mp.look (h : Mp w b M) {i : Nat} (hi : i < M.length) : (Instr.lookup 63 (.map (some b)) (.int .i64 (i : Int)) true).run Try.prog w = .ok (.tuple #[.string (getM M i), .bool (hasM M i)]) w := by
  obtain ⟨D, ho, hall⟩ := h.own
  have hl := h.len
  obtain ⟨v, ps, hrun, hv⟩ := ho.look_ok lawI Try.underlying63 (zeroS w) (zd := bsD ⟨#[]⟩) (zp := []) (plainElem_string Try.underlying9 (by decide)) (keyI (i := i) (by omega))
  have ha := hall i hi
  obtain ⟨s, rfl, hs, _⟩ := plainElem_bs hv
  rw [hrun]
  unfold getM hasM
  cases hc : atM M i with
  | none =>
    rw [hc] at ha
    have h1 := atKey_of_not_has ha (bsD ⟨#[]⟩)
    rw [h1] at hs
    rw [← bsD_inj hs]
    simp only [ha]
    rfl
  | some x =>
    rw [hc] at ha
    rw [ha.2] at hs
    rw [← bsD_inj hs]
    simp only [ha.1]
    rfl
theorem Mp.size (h : Mp w b M) {i : Nat} (hi : i < M.length) : (getM M i).size ≤ maxLen := by
  obtain ⟨D, ho, hall⟩ := h.own
  have hl := h.len
  obtain ⟨v, ps, _, hv⟩ := ho.look_ok lawI Try.underlying63 (zeroS w) (zd := bsD ⟨#[]⟩) (zp := []) (plainElem_string Try.underlying9 (by decide)) (keyI (i := i) (by omega))
  have ha := hall i hi
  obtain ⟨s, rfl, hs, hz⟩ := plainElem_bs hv
  unfold getM
  cases hc : atM M i with
  | none => show (0 : Nat) ≤ maxLen; omega
  | some x =>
    rw [hc] at ha
    rw [ha.2] at hs
    rw [← bsD_inj hs] at hz
    exact hz
theorem Mp.turn {D : DataW Unit} {n : Nat} {i : Nat} (h : Mp w b M) (hi : i < M.length) {D0 : DataW Unit} (ho : w.ownsMap Try.prog 3 (plainElem Try.prog 9) b (cntM M) D0) (hall : ∀ i, i < M.length → match atM M i with
    | some s => Maps.has D0 (kD i) = true ∧ ∀ z, D0.atKey (kD i) z = bsD s
    | none => Maps.has D0 (kD i) = false) {s : ByteArray} (hD : D = D0.put (kD i) (bsD s)) (h' : w'.ownsMap Try.prog 3 (plainElem Try.prog 9) b n D) : Mp w' b (M.set i (some s)) := by
  subst hD
  have hl := h.len
  have hk : WideAt.IsKeyLit (kD i) := lawI.key (keyI (i := i) (by omega))
  have ht := ho.tidy lawI
  have hsz := size_put (k := kD i) ht (bsD s)
  have hle := ho.size_le
  have hc := cnt_set hi (some s)
  have ha := hall i hi
  have hm : Maps.size (D0.put (kD i) (bsD s)) ≤ cntM (M.set i (some s)) := by
    cases hx : atM M i with
    | none =>
      rw [hx] at ha hc
      simp only [ha] at hsz
      simp at hc hsz
      omega
    | some x =>
      rw [hx] at ha hc
      simp only [ha.1] at hsz
      simp at hc hsz
      omega
  refine ⟨⟨_, ownsMap_tight h' hm, fun j hj => ?_⟩, by simpa using hl⟩
  rw [List.length_set] at hj
  rw [atM_set hi]
  by_cases e : j = i
  · subst e
    rw [if_pos rfl]
    exact ⟨has_put_same ht.isMap hk _, fun z => atKey_put_same ht.isMap hk _ _⟩
  · rw [if_neg e]
    have hb := hall j hj
    have h1 : Maps.has (D0.put (kD i) (bsD s)) (kD j) = Maps.has D0 (kD j) := has_put_other (kD_ne e) _
    cases hx : atM M j with
    | none =>
      rw [hx] at hb
      show Maps.has _ _ = false
      rw [h1]
      exact hb
    | some x =>
      rw [hx] at hb
      exact ⟨by rw [h1]; exact hb.1, fun z => by rw [atKey_put_other (kD_ne e)]; exact hb.2 z⟩
theorem Mp.store (h : Mp w b M) {i : Nat} (hi : i < M.length) {s : ByteArray} (hs : s.size ≤ maxLen) :
    ∃ w', (Instr.mapUpdate 63 (.map (some b)) (.int .i64 (i : Int)) (.string s)).run Try.prog w = .ok () w' ∧ Mp w' b (M.set i (some s)) ∧ Only (fun k => k = b) w w' := by
  obtain ⟨D, ho, hall⟩ := h.own
  have hl := h.len
  have hc := cnt_le M
  obtain ⟨w', hrun, hown, htur⟩ := ho.store lawI Try.underlying63 (by unfold maxLen; omega) (keyI (i := i) (by omega)) (plainElem_string Try.underlying9 hs)
  exact ⟨w', hrun, h.turn hi ho hall rfl hown, mapTurned_only htur⟩
theorem Mp.drop (h : Mp w b M) {i : Nat} (hi : i < M.length) (ty : TypeId) :
    ∃ w', (Builtin.delete_ #[63, 3] ty #[.map (some b), .int .i64 (i : Int)]).run Try.prog w = .ok (.tuple #[]) w' ∧ Mp w' b (M.set i none) ∧ Only (fun k => k = b) w w' := by
  obtain ⟨D, ho, hall⟩ := h.own
  have hl := h.len
  obtain ⟨w', hrun, hown, htur⟩ := ho.drop lawI Try.underlying63 (keyI (i := i) (by omega)) ty
  refine ⟨w', hrun, ⟨⟨_, ownsMap_tight hown ?_, fun j hj => ?_⟩, by simpa using hl⟩, mapTurned_only htur⟩
  · have ht := ho.tidy lawI
    have hsz := size_del (k := kD i) ht
    have hle := ho.size_le
    have hc := cnt_set hi none
    have ha := hall i hi
    cases hx : atM M i with
    | none =>
      rw [hx] at ha hc
      simp only [ha] at hsz
      simp at hc hsz
      omega
    | some x =>
      rw [hx] at ha hc
      simp only [ha.1] at hsz
      simp at hc hsz
      omega
  · rw [List.length_set] at hj
    rw [atM_set hi]
    by_cases e : j = i
    · subst e
      rw [if_pos rfl]
      exact has_del_same
    · rw [if_neg e]
      have hb := hall j hj
      have h1 : Maps.has (D.del (kD i)) (kD j) = Maps.has D (kD j) := has_del_other (kD_ne e)
      cases hx : atM M j with
      | none =>
        rw [hx] at hb
        show Maps.has _ _ = false
        rw [h1]
        exact hb
      | some x =>
        rw [hx] at hb
        exact ⟨by rw [h1]; exact hb.1, fun z => by rw [atKey_del_other (kD_ne e)]; exact hb.2 z⟩
/-- An entry that is there, and a store into it. -/
theorem Mp.entry (h : Mp w b M) {i : Nat} (hi : i < M.length) (hh : hasM M i = true) :
    ∃ (v0 : Value) (st : Int), (Instr.mapEntry 63 (.map (some b)) (.int .i64 (i : Int))).run Try.prog w = .ok (.tuple #[v0, .int .i64 st]) w ∧
      ∀ s : ByteArray, s.size ≤ maxLen → ∃ w', (Instr.entryStore 63 (.map (some b)) (.int .i64 st) (.string s)).run Try.prog w = .ok () w' ∧ Mp w' b (M.set i (some s)) ∧ Only (fun k => k = b) w w' := by
  obtain ⟨D, ho, hall⟩ := h.own
  have hl := h.len
  have hc := cnt_le M
  have ha := hall i hi
  unfold hasM at hh
  have hD : Maps.has D (kD i) = true := by
    cases hx : atM M i with
    | none => rw [hx] at hh; simp at hh
    | some x => rw [hx] at ha; exact ha.1
  obtain ⟨v0, ps, st, h1, _, h2⟩ := entry_own ho lawI Try.underlying63 (by unfold maxLen; omega) (zeroS w) (zd := bsD ⟨#[]⟩) (zp := []) (plainElem_string Try.underlying9 (by decide)) (keyI (i := i) (by omega)) hD
  refine ⟨v0, (st : Int), h1, fun s hs => ?_⟩
  obtain ⟨w', hrun, hown, htur⟩ := h2 (.string s) (bsD s) [] (plainElem_string Try.underlying9 hs)
  exact ⟨w', hrun, h.turn hi ho hall rfl hown, mapTurned_only htur⟩
theorem Mp.ne_blk {g : Nat} {t : TypeId} {cs : Array Value} (h : Mp w b M) (h' : Blk w g t cs) : b ≠ g := by
  rintro rfl
  obtain ⟨D, ⟨es, clock, hb, _⟩, _⟩ := h.own
  unfold Blk at h'
  rw [hb] at h'
  cases h'
/-- 'delete' at the operation. -/
theorem wpList_dropM {ops : Array Oper} {rest : List Oper} {o : Oper} {a : Act} {Q : Exit → Act → World → Prop} (hg : o.guard = none) (m x : Operand) (hop : o.op = Op.call { callee := Callee.builtin Builtin.delete, args := #[m, x], argTypes := #[63, 3] })
    (b : Nat) (M : Mt) (i : Nat) (hm : a.eval m = .map (some b)) (hx : a.eval x = .int .i64 (i : Int)) (h : Mp w b M) (hi : i < M.length)
    (hK : ∀ w', Mp w' b (M.set i none) → Only (fun k => k = b) w w' → wpList Try.prog ops Q rest (a.put o.dst (.tuple #[])) w') :
    wpList Try.prog ops Q (o :: rest) a w := by
  refine wpList_plain hg fun K' hK' => ?_
  obtain ⟨w', hrun, r1, r2⟩ := h.drop hi o.type
  unfold Oper.wp
  simp [execOp, hop, resolve, invoke, builtin, hm, hx, hrun, Result.andThen]
  exact hK' _ _ (hK w' r1 r2)
end
end Go.Proofs.Ytcblkdocbmpkeaa
