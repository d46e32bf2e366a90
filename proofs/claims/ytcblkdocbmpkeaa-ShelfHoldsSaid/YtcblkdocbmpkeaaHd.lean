/-
  ShelfHolds: the state of the walk, and plain laws of one call.
-/
import Derived.Test.YtcblkdocbmpkeaaSs
import Derived.Test.YtcblkdocbmpkeaaBl
open Go Go.RowKit
namespace Go.Proofs.Ytcblkdocbmpkeaa

/-- The slice value v owns a row of the texts D. -/
def Sls (w : World) (B : Nat) (v : Value) (D : List ByteArray) : Prop := w.ownsRow B 9 1 v D.length (D.map fun (x : ByteArray) => Value.string x)
def hn (H : List ByteArray) (i : Nat) : ByteArray := H[i]?.getD ⟨#[]⟩
section
variable {w w' : World} {B : Nat} {v : Value} {D : List ByteArray}
theorem Sls.block (h : Sls w B v D) {g : Nat} (hg : v.ownBlock = some g) : B ≤ g ∧ ∃ cur : Array Value, Blk w g 9 cur := by
  rcases h.2 with ⟨h', _⟩ | ⟨g', cap', cur, h', hb, hh, _⟩
  · rw [h'] at hg; simp [Value.ownBlock] at hg
  · rw [h'] at hg
    simp [Value.ownBlock] at hg
    subst hg
    exact ⟨hb, cur, hh⟩
theorem Sls.alloc (h : Sls w B v D) (o : Obj) : Sls (w.alloc o) B v D := World.ownsRow.alloc h o
theorem Sls.drewN (h : Sls w B v D) (n : Nat) : Sls (w.drewN n) B v D := h
theorem Sls.keep {S : Nat → Prop} (h : Sls w B v D) (ho : Only S w w') (hn : ∀ g, v.ownBlock = some g → ¬ S g) : Sls w' B v D := ho.own h hn
theorem Sls.len {a : Option Addr} {n cap : Nat} (h : Sls w B (.slice a n cap) D) : n = D.length := by
  rcases h.2 with ⟨h', h0⟩ | ⟨g', cap', cur, h', _⟩
  · simp at h'; omega
  · simp at h'; exact h'.2.1
theorem Sls.cell {g n cap i : Nat} (h : Sls w B (.slice (some ⟨g, 0, none⟩) n cap) D) (hi : i < D.length) : w.cell? ⟨g, i, none⟩ = some (.string (hn D i)) := by
  have hn := h.len
  subst hn
  have := World.ownsRow.cellAt h i (by omega)
  rw [this]
  simp [Go.Proofs.Ytcblkdocbmpkeaa.hn, hi]
theorem Sls.frozen {g n cap : Nat} (h : Sls w B (.slice (some ⟨g, 0, none⟩) n cap) D) (i : Nat) : w.frozen? ⟨g, i, none⟩ = false := by
  have hn := h.len
  subst hn
  exact World.ownsRow.frozenAt h i
theorem Sls.store {g n cap : Nat} (h : Sls w B (.slice (some ⟨g, 0, none⟩) n cap) D) (i : Nat) (d : ByteArray) :
    Sls (w.setCell ⟨g, i, none⟩ (.string d)) B (.slice (some ⟨g, 0, none⟩) n cap) (D.set i d) := by
  have hn := h.len
  subst hn
  have := (World.ownsRow.stored h i (.string d)).1
  unfold Sls
  rw [List.length_set, List.map_set]
  exact this
end

structure Hd (W : World) (S p mb : Nat) (vb : Value) (hb tb o : Nat) (x y z : Int) (s : ByteArray) (M : Mt) (T : List Bool) (H : List ByteArray) (w : World) : Prop where
  sh : Sh w W.heap.size S p mb vb M
  hs : Sls w W.heap.size (.slice (some ⟨hb, 0, none⟩) 16 16) H
  tk : Bls w W.heap.size (.slice (some ⟨tb, 0, none⟩) 16 16) T
  op : Blk w o 30 #[.int .i64 x, .int .i64 y, .int .i64 z, .string s]
  below : Below W.heap.size W w
  base : W.heap.size ≤ o
section
variable {W w w' : World} {S p mb hb tb o : Nat} {vb : Value} {x y z : Int} {s : ByteArray} {M M' : Mt} {T : List Bool} {H : List ByteArray}
theorem only_cell (w : World) (g j : Nat) (u : Value) : Only (fun k => k = g) w (w.setCell ⟨g, j, none⟩ u) := Only.setCell (S := fun k => k = g) (p := ⟨g, j, none⟩) (Only.refl _ w) (.inl rfl) u
theorem Hd.hblk (h : Hd W S p mb vb hb tb o x y z s M T H w) : ∃ cur, Blk w hb 9 cur := (h.hs.block rfl).2
theorem Hd.tblk (h : Hd W S p mb vb hb tb o x y z s M T H w) : ∃ cur, Blk w tb 4 cur := (h.tk.block rfl).2
theorem Hd.turn (h : Hd W S p mb vb hb tb o x y z s M T H w) (hs : Sh w' W.heap.size S p mb vb M') (ho : Only (ShO vb mb) w w') : Hd W S p mb vb hb tb o x y z s M' T H w' := by
  have hno : ∀ {t : TypeId} {g : Nat} {cs : Array Value}, t ≠ 5 → Blk w g t cs → ¬ ShO vb mb g := fun {t g cs} ht hc e => by
    rcases e with e | e
    · exact h.sh.mp.ne_blk hc e.symm
    · obtain ⟨_, cur, hc'⟩ := h.sh.bt.row.block e
      exact hc.ne_ hc' ht rfl
  obtain ⟨c1, hc1⟩ := h.hblk
  obtain ⟨c2, hc2⟩ := h.tblk
  exact ⟨hs, h.hs.keep ho (fun g e => by cases e; exact hno (by decide) hc1), h.tk.keep ho (fun g e => by cases e; exact hno (by decide) hc2), ho.blk h.op (hno (by decide) h.op), h.below.trans (h.sh.only_below ho h.below.size), h.base⟩
theorem Hd.drewN (h : Hd W S p mb vb hb tb o x y z s M T H w) (n : Nat) : Hd W S p mb vb hb tb o x y z s M T H (w.drewN n) := ⟨h.sh.drewN n, h.hs.drewN n, h.tk.drewN n, h.op.drewN n, below_dN h.below n, h.base⟩
theorem Sh.far {B g j : Nat} {t : TypeId} {cs : Array Value} (h : Sh w B S p mb vb M) (hc : Blk w g t cs) (h1 : t ≠ 5) (h2 : t ≠ 65) (h3 : t ≠ 79) (u : Value) : Sh (w.setCell ⟨g, j, none⟩ u) B S p mb vb M := by
  refine h.keep (only_cell w g j u) (fun e => ?_) (fun e => ?_) (fun k hk e => ?_)
  · exact hc.ne_ h.blk h2 e.symm
  · exact hc.ne_ h.bt.blk h3 e.symm
  · subst e
    rcases hk with e | e
    · exact h.mp.ne_blk hc e.symm
    · obtain ⟨_, cur, hc'⟩ := h.bt.row.block e
      exact hc.ne_ hc' h1 rfl
theorem Hd.setT (h : Hd W S p mb vb hb tb o x y z s M T H w) (i : Nat) (b : Bool) : Hd W S p mb vb hb tb o x y z s M (T.set i b) H (w.setCell ⟨tb, i, none⟩ (.bool b)) := by
  obtain ⟨c1, hc1⟩ := h.hblk
  obtain ⟨c2, hc2⟩ := h.tblk
  exact ⟨h.sh.far hc2 (by decide) (by decide) (by decide) _, h.hs.keep (only_cell w tb i _) (fun g e e' => by cases e; exact hc1.ne_ hc2 (by decide) e'), h.tk.store i b, (only_cell w tb i _).blk h.op (fun e => h.op.ne_ hc2 (by decide) e),
    h.below.setCell (p := ⟨tb, i, none⟩) (h.tk.block rfl).1 _, h.base⟩
theorem Hd.setH (h : Hd W S p mb vb hb tb o x y z s M T H w) (i : Nat) (b : ByteArray) : Hd W S p mb vb hb tb o x y z s M T (H.set i b) (w.setCell ⟨hb, i, none⟩ (.string b)) := by
  obtain ⟨c1, hc1⟩ := h.hblk
  obtain ⟨c2, hc2⟩ := h.tblk
  exact ⟨h.sh.far hc1 (by decide) (by decide) (by decide) _, h.hs.store i b, h.tk.keep (only_cell w hb i _) (fun g e e' => by cases e; exact hc2.ne_ hc1 (by decide) e'), (only_cell w hb i _).blk h.op (fun e => h.op.ne_ hc1 (by decide) e),
    h.below.setCell (p := ⟨hb, i, none⟩) (h.hs.block rfl).1 _, h.base⟩
end

/-- What the program's shelf, and the law's two rows, have in common. -/
structure Iv (M : Mt) (T : List Bool) (H : List ByteArray) : Prop where
  len : M.length = 16
  same : ∀ i, i < 16 → tk T i = hasM M i
  tl : T.length = 16
  hl : H.length = 16
  eq : ∀ i, i < 16 → hasM M i = true → hn H i = getM M i
theorem hasM_set {M : Mt} {i j : Nat} (h : i < M.length) (x : Option ByteArray) : hasM (M.set i x) j = if j = i then x.isSome else hasM M j := by
  unfold hasM
  rw [atM_set h]
  split <;> rfl
theorem getM_set {M : Mt} {i j : Nat} (h : i < M.length) (x : Option ByteArray) : getM (M.set i x) j = if j = i then x.getD ⟨#[]⟩ else getM M j := by
  unfold getM
  rw [atM_set h]
  split <;> rfl
theorem hn_set {H : List ByteArray} {i j : Nat} (h : i < H.length) (x : ByteArray) : hn (H.set i x) j = if j = i then x else hn H j := by
  unfold hn
  rw [List.getElem?_set]
  by_cases e : i = j
  · subst e; rw [if_pos rfl, if_pos rfl, if_pos h]; rfl
  · rw [if_neg e, if_neg (fun e' => e e'.symm)]
section
variable {M : Mt} {T : List Bool} {H : List ByteArray} {a b : Nat}
theorem Iv.new : Iv (List.replicate 16 none) (List.replicate 16 false) (List.replicate 16 ⟨#[]⟩) := by
  have h1 : ∀ i, i < 16 → hasM (List.replicate 16 none) i = false := fun i hi => by
    unfold hasM atM
    rw [List.getElem?_replicate, if_pos hi]
    rfl
  refine ⟨by simp, fun i hi => ?_, by simp, by simp, fun i hi hh => by rw [h1 i hi] at hh; cases hh⟩
  rw [h1 i hi]
  unfold Go.Proofs.Ytcblkdocbmpkeaa.tk
  rw [List.getElem?_replicate, if_pos hi]
  rfl
/-- A page gets bytes, in all three. -/
theorem Iv.put (h : Iv M T H) (ha : a < 16) (s : ByteArray) : Iv (M.set a (some s)) (T.set a true) (H.set a s) := by
  have hl := h.len
  have ht := h.tl
  have hh := h.hl
  refine ⟨by simpa using hl, fun i hi => ?_, by simpa using ht, by simpa using hh, fun i hi hx => ?_⟩
  · rw [tk_set (by omega), hasM_set (by omega)]
    split
    · rfl
    · exact h.same i hi
  · rw [hn_set (by omega), getM_set (by omega)]
    rw [hasM_set (by omega)] at hx
    by_cases e : i = a
    · rw [if_pos e, if_pos e]; rfl
    · rw [if_neg e, if_neg e]
      rw [if_neg e] at hx
      exact h.eq i hi hx
theorem Iv.drop (h : Iv M T H) (ha : a < 16) : Iv (M.set a none) (T.set a false) H := by
  have hl := h.len
  have ht := h.tl
  refine ⟨by simpa using hl, fun i hi => ?_, by simpa using ht, h.hl, fun i hi hx => ?_⟩
  · rw [tk_set (by omega), hasM_set (by omega)]
    split
    · rfl
    · exact h.same i hi
  · rw [getM_set (by omega)]
    rw [hasM_set (by omega)] at hx
    by_cases e : i = a
    · rw [if_pos e] at hx; cases hx
    · rw [if_neg e]
      rw [if_neg e] at hx
      exact h.eq i hi hx
theorem set_same {T : List Bool} {i : Nat} (hi : i < T.length) (h : tk T i = true) : T.set i true = T := by
  apply List.ext_getElem?
  intro j
  rw [List.getElem?_set]
  by_cases e : i = j
  · subst e
    rw [if_pos rfl, if_pos hi]
    unfold tk at h
    rw [List.getElem?_eq_getElem hi] at h ⊢
    rw [← h]
    rfl
  · rw [if_neg e]
theorem set_sameF {T : List Bool} {i : Nat} (hi : i < T.length) (h : tk T i = false) : T.set i false = T := by
  apply List.ext_getElem?
  intro j
  rw [List.getElem?_set]
  by_cases e : i = j
  · subst e
    rw [if_pos rfl, if_pos hi]
    unfold tk at h
    rw [List.getElem?_eq_getElem hi] at h ⊢
    rw [← h]
    rfl
  · rw [if_neg e]
theorem Iv.is_ (h : Iv M T H) (ha : a < 16) : isB (tks M) (a : Int) = tk T a := by
  rw [isB_has (by rw [h.len]; exact ha), h.same a ha]
theorem Iv.has_ (h : Iv M T H) (ha : a < 16) : hasB (tks M) (a : Int) = true := hasB_has (by rw [h.len]; exact ha)
theorem Iv.take (h : Iv M T H) (h0 : takeME M = 0) : ∃ X : Nat, takeMX M = X ∧ X < 16 ∧ tk T X = false ∧ Iv (takeM M) (T.set X true) (H.set X ⟨#[]⟩) := by
  have hl := h.len
  unfold takeME at h0
  cases hf : freeX (tks M) 0 with
  | none => rw [hf] at h0; cases h0
  | some x =>
    obtain ⟨i, rfl, hi, hb⟩ := free_some (by rw [tks_len]; omega) hf
    rw [tks_len, hl] at hi
    have e1 : takeMX M = i := by unfold takeMX; rw [hf]
    have e3 : takeM M = M.set i (some ⟨#[]⟩) := by unfold takeM; rw [hf]; rfl
    refine ⟨i, e1, hi, by rw [← h.is_ hi]; exact hb, ?_⟩
    rw [e3]
    exact h.put hi _
theorem take_none (h0 : ¬ takeME M = 0) : takeM M = M := by
  unfold takeME at h0
  unfold takeM
  cases hf : freeX (tks M) 0 with
  | none => rfl
  | some x => rw [hf] at h0; exact absurd rfl h0
theorem Iv.takeAt (h : Iv M T H) (ha : a < 16) : (tk T a = true → takeE (tks M) (a : Int) = 8 ∧ Iv (takeAtM M (a : Int)) (T.set a true) H) ∧ (tk T a = false → takeE (tks M) (a : Int) = 0 ∧ Iv (takeAtM M (a : Int)) (T.set a true) (H.set a ⟨#[]⟩)) := by
  have h1 := h.is_ ha
  have h2 := h.has_ ha
  have ht := h.tl
  constructor
  · intro hx
    rw [hx] at h1
    have e : takeE (tks M) (a : Int) = 8 := by unfold takeE; rw [h2, h1]; rfl
    have e2 : takeAtM M (a : Int) = M := by unfold takeAtM; rw [if_neg (by rw [e]; decide)]
    refine ⟨e, ?_⟩
    rw [e2, set_same (by omega) hx]
    exact h
  · intro hx
    rw [hx] at h1
    have e : takeE (tks M) (a : Int) = 0 := by unfold takeE; rw [h2, h1]; rfl
    have e2 : takeAtM M (a : Int) = M.set a (some ⟨#[]⟩) := by unfold takeAtM; rw [if_pos e, Int.toNat_natCast]
    refine ⟨e, ?_⟩
    rw [e2]
    exact h.put ha _
theorem Iv.give (h : Iv M T H) (ha : a < 16) : giveE (tks M) (a : Int) = (if tk T a then 0 else 7) ∧ Iv (giveM M (a : Int)) (T.set a false) H := by
  have h1 := h.is_ ha
  have h2 := h.has_ ha
  have ht := h.tl
  have e : giveE (tks M) (a : Int) = if tk T a then 0 else 7 := by unfold giveE; rw [h2, h1]; rfl
  refine ⟨e, ?_⟩
  cases hx : tk T a with
  | true =>
    rw [hx] at e
    have e0 : giveE (tks M) (a : Int) = 0 := e
    have e2 : giveM M (a : Int) = M.set a none := by unfold giveM; rw [if_pos e0, Int.toNat_natCast]
    rw [e2]
    exact h.drop ha
  | false =>
    rw [hx] at e
    have e2 : giveM M (a : Int) = M := by unfold giveM; rw [if_neg (by rw [e]; decide)]
    rw [e2, set_sameF (by omega) hx]
    exact h
theorem Iv.read (h : Iv M T H) (ha : a < 16) : readE M (a : Int) = (if tk T a then 0 else 7) ∧ (tk T a = true → readS M (a : Int) = hn H a) := by
  have h2 := h.has_ ha
  have h3 := h.same a ha
  refine ⟨by unfold readE; rw [h2, Int.toNat_natCast, h3]; rfl, fun hx => ?_⟩
  rw [h3] at hx
  unfold readS
  rw [h2, Int.toNat_natCast, hx, h.eq a ha hx]
  rfl
theorem Iv.write (h : Iv M T H) (ha : a < 16) {s : ByteArray} (hs : s.size ≤ 252) : (tk T a = true → writeE M (a : Int) s = 0 ∧ Iv (writeM M (a : Int) s) T (H.set a s)) ∧ (tk T a = false → writeE M (a : Int) s = 7 ∧ writeM M (a : Int) s = M) := by
  obtain ⟨hr, _⟩ := h.read ha
  have ht := h.tl
  constructor
  · intro hx
    rw [hx] at hr
    have hr0 : readE M (a : Int) = 0 := hr
    have e : writeE M (a : Int) s = 0 := by unfold writeE; rw [if_pos hr0, if_neg (by omega)]
    have e2 : writeM M (a : Int) s = M.set a (some s) := by unfold writeM; rw [if_pos e, Int.toNat_natCast]
    refine ⟨e, ?_⟩
    rw [e2]
    have := h.put ha s
    rwa [set_same (by omega) hx] at this
  · intro hx
    rw [hx] at hr
    have hr7 : readE M (a : Int) = 7 := hr
    have e : writeE M (a : Int) s = 7 := by unfold writeE; rw [if_neg (by rw [hr7]; decide)]; exact hr7
    exact ⟨e, by unfold writeM; rw [if_neg (by rw [e]; decide)]⟩
theorem Iv.swap_no (h : Iv M T H) (ha : a < 16) (hb : b < 16) (hx : (tk T a && tk T b) = false) : swapE M (a : Int) (b : Int) = 7 ∧ swapM M (a : Int) (b : Int) = M := by
  obtain ⟨hr, _⟩ := h.read ha
  obtain ⟨hr2, _⟩ := h.read hb
  have e : swapE M (a : Int) (b : Int) = 7 := by
    unfold swapE
    cases h1 : tk T a with
    | false =>
      rw [h1] at hr
      have hr7 : readE M (a : Int) = 7 := hr
      rw [if_neg (by rw [hr7]; decide)]
      exact hr7
    | true =>
      rw [h1] at hr hx
      rw [Bool.true_and] at hx
      rw [hx] at hr2
      have hr0 : readE M (a : Int) = 0 := hr
      rw [if_pos hr0]
      exact hr2
  exact ⟨e, by unfold swapM; rw [if_neg (by rw [e]; decide)]⟩
theorem swapM_eq {M : Mt} {a b : Nat} (e : swapE M (a : Int) (b : Int) = 0) : swapM M (a : Int) (b : Int) = (M.set a (some (getM M b))).set b (some (getM M a)) := by
  unfold swapM
  rw [if_pos e, Int.toNat_natCast, Int.toNat_natCast]
theorem Iv.swap_yes (h : Iv M T H) (ha : a < 16) (hb : b < 16) (hx : tk T a = true) (hy : tk T b = true) : swapE M (a : Int) (b : Int) = 0 ∧ Iv (swapM M (a : Int) (b : Int)) T ((H.set a (hn H b)).set b (hn H a)) ∧ swapM (swapM M (a : Int) (b : Int)) (a : Int) (b : Int) = M ∧ swapE (swapM M (a : Int) (b : Int)) (a : Int) (b : Int) = 0 := by
  obtain ⟨hr, _⟩ := h.read ha
  obtain ⟨hr2, _⟩ := h.read hb
  rw [hx] at hr
  rw [hy] at hr2
  have e : swapE M (a : Int) (b : Int) = 0 := by
    unfold swapE
    have hr0 : readE M (a : Int) = 0 := hr
    rw [if_pos hr0]
    exact hr2
  have hma : hasM M a = true := by rw [← h.same a ha]; exact hx
  have hmb : hasM M b = true := by rw [← h.same b hb]; exact hy
  have hl := h.len
  have ht := h.tl
  have e2 := swapM_eq e
  have hi : Iv (swapM M (a : Int) (b : Int)) T ((H.set a (hn H b)).set b (hn H a)) := by
    rw [e2, h.eq a ha hma, h.eq b hb hmb]
    have h1 := (h.put ha (getM M b)).put hb (getM M a)
    rw [set_same (by omega) hx, set_same (by omega) hy] at h1
    exact h1
  obtain ⟨hr3, _⟩ := hi.read ha
  obtain ⟨hr4, _⟩ := hi.read hb
  rw [hx] at hr3
  rw [hy] at hr4
  have e3 : swapE (swapM M (a : Int) (b : Int)) (a : Int) (b : Int) = 0 := by
    unfold swapE
    have hr0 : readE (swapM M (a : Int) (b : Int)) (a : Int) = 0 := hr3
    rw [if_pos hr0]
    exact hr4
  refine ⟨e, hi, ?_, e3⟩
  have e4 := swapM_eq e3
  have hl1 : (swapM M (a : Int) (b : Int)).length = 16 := hi.len
  have g1 : getM (swapM M (a : Int) (b : Int)) b = getM M a := by rw [e2, getM_set (by rw [List.length_set]; omega), if_pos rfl]; rfl
  have g2 : getM (swapM M (a : Int) (b : Int)) a = if a = b then getM M a else getM M b := by
    rw [e2, getM_set (by rw [List.length_set]; omega)]
    split
    · rfl
    · rw [getM_set (by omega), if_pos rfl]; rfl
  have g3 : ∀ i, atM (swapM M (a : Int) (b : Int)) i = if i = b then some (getM M a) else if i = a then some (getM M b) else atM M i := fun i => by
    rw [e2, atM_set (by rw [List.length_set]; omega), atM_set (by omega)]
  generalize swapM M (a : Int) (b : Int) = N at *
  refine mt_ext (by rw [e4, List.length_set, List.length_set, hl1, hl]) (fun i hi2 => ?_)
  rw [e4, atM_set (by rw [List.length_set]; omega), atM_set (by omega), g1, g2, g3]
  by_cases e5 : i = b
  · subst e5
    rw [if_pos rfl]
    by_cases e6 : a = i
    · subst e6
      rw [if_pos rfl]
      exact some_get hma
    · rw [if_neg e6]
      exact some_get hmb
  · rw [if_neg e5]
    by_cases e6 : i = a
    · subst e6
      rw [if_pos rfl]
      exact some_get hma
    · rw [if_neg e6, if_neg e5, if_neg e6]
end
end Go.Proofs.Ytcblkdocbmpkeaa
