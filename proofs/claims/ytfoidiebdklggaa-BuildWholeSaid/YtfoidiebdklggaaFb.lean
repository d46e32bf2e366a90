/-
  The fixed calls of the statements about package build: each answers as the document says.
-/
import Derived.Test.YtfoidiebdklggaaLe
import Derived.Deep.RegionHeld3
open Go Go.RowKit
namespace Go.Proofs.Ytfoidiebdklggaa

def kB : ByteArray := ⟨#[98]⟩
def kD : ByteArray := ⟨#[100]⟩
def kidsF : List Kid := [(⟨#[]⟩, 4), (⟨#[98]⟩, 2), (⟨#[100]⟩, 9)]
theorem least_any {W : World} : Calls Try.prog 27 #[] W fun e W' => e = .returned (.int .i64 13) ∧ W' = W := by
  go_enter Try.func27, Try.ntmps27
  go_wp2
  go_ret
  exact ⟨rfl, rfl⟩
theorem fx_groups : groupsL 14 13 = [7, 7] ∧ groupsL 8 3 = [3, 3, 2] ∧ groupsN 3 2 = [2, 1] ∧ needs 13 14 14 = (3, 2) ∧ needs 2 1 1 = (0, 0) := by decide +kernel
theorem fx_right : rightB kidsF = true ∧ rightB (kidsF.drop 1) = false := by
  constructor
  · simp [rightB, kidsF, okAt, lowAt, pageAt, pageB, keyB, leB, List.range_succ, Op.bytesLess, ByteArray.size]
  · simp [rightB, kidsF, lowAt, ByteArray.size]
theorem fx_can : canB kidsF 2 [5, 6] = true ∧ canB kidsF 2 [5] = false := by
  have h1 : manyL 3 2 = 2 := by decide +kernel
  have h2 : kidsF.length = 3 := rfl
  unfold canB
  rw [fx_right.1, h2]
  constructor
  · rw [show Int.toNat 2 = 2 from rfl, h1]
    rfl
  · rw [show Int.toNat 2 = 2 from rfl, h1]
    rfl
theorem fx_level : lvL [5, 6] 0 (groupsN kidsF.length (Int.toNat 2)) kidsF = [⟨[⟨#[98]⟩], [4, 2], ⟨#[100]⟩, 7⟩, ⟨[], [9], ⟨#[]⟩, 0⟩] ∧ upL [5, 6] 0 (groupsN kidsF.length (Int.toNat 2)) kidsF = [(⟨#[]⟩, 5), (⟨#[100]⟩, 6)] := by
  rw [show groupsN kidsF.length (Int.toNat 2) = [2, 1] from fx_groups.2.2.1]
  exact ⟨rfl, rfl⟩
def pgA : Pg := ⟨[⟨#[98]⟩], [4, 2], ⟨#[100]⟩, 7⟩
def pgB : Pg := ⟨[], [9], ⟨#[]⟩, 0⟩
/-- Ahead of the last return. -/
structure Fx (W : World) (gv hv kv xv uv : Value) (w : World) : Prop where
  g : Ints w W.heap.size gv [7, 7]
  h : Ints w W.heap.size hv [3, 3, 2]
  k : OwV 57 2 w W.heap.size kv (kidsF.map kcells)
  x : OwN w W.heap.size xv [pgA, pgB]
  u : OwV 57 2 w W.heap.size uv ([((⟨#[]⟩ : ByteArray), (5 : Int)), (⟨#[100]⟩, 6)].map kcells)
  below : Below W.heap.size W w
theorem OwV.below {t : TypeId} {s : Nat} {w w' : World} {B : Nat} {v : Value} {L : List (List Value)} (h : OwV t s w B v L) (hb : Below w.heap.size w w') : OwV t s w' B v L := h.keep (Only.of_below (S := fun _ => False) hb) (fun _ _ h => h)
theorem Fx.on {W w w' : World} {gv hv kv xv uv : Value} (h : Fx W gv hv kv xv uv w) (hb : Below w.heap.size w w') : Fx W gv hv kv xv uv w' :=
  ⟨h.g.below hb, h.h.below hb, h.k.below hb, h.x.below hb, h.u.below hb, h.below.trans (hb.mono h.below.size)⟩
theorem OwN.base_ {w : World} {B B' : Nat} {v : Value} {I : List Pg} (h : OwN w B v I) (hB : B' ≤ B) : OwN w B' v I := by
  obtain ⟨X, h1, h2, h3⟩ := h
  exact ⟨X, h1.base hB, h2, fun i g hg => by
    obtain ⟨vs, vk, a1, a2, a3⟩ := h3 i g hg
    exact ⟨vs, vk, a1, a2.base hB, a3.base_ hB⟩⟩
/-- Ahead of the last return, each row by itself. -/
structure Fy (W : World) (gv hv kv uv s0 q0 s1 q1 sa ka : Value) (gx cx gu cu pa : Nat) (w : World) : Prop where
  g : Ints w W.heap.size gv [7, 7]
  h : Ints w W.heap.size hv [3, 3, 2]
  k : OwV 57 2 w W.heap.size kv (kidsF.map kcells)
  x : OwV 46 4 w W.heap.size (.slice (some ⟨gx, 0, none⟩) 2 cx) [icells s0 q0 pgA, icells s1 q1 pgB]
  u : OwV 57 2 w W.heap.size (.slice (some ⟨gu, 0, none⟩) 2 cu) ([((⟨#[]⟩ : ByteArray), (5 : Int)), (⟨#[100]⟩, 6)].map kcells)
  rs0 : OwV 9 1 w W.heap.size s0 (pgA.seps.map scell)
  rq0 : Ints w W.heap.size q0 pgA.kids
  rs1 : OwV 9 1 w W.heap.size s1 (pgB.seps.map scell)
  rq1 : Ints w W.heap.size q1 pgB.kids
  rsa : OwV 9 1 w W.heap.size sa (pgA.seps.map scell)
  rka : Ints w W.heap.size ka pgA.kids
  a : Blk w pa 44 #[sa, ka, .string pgA.high, .int .i64 pgA.next]
  below : Below W.heap.size W w
section
variable {W w w' : World} {gv hv kv uv s0 q0 s1 q1 sa ka : Value} {gx cx gu cu pa : Nat}
theorem Fy.on (h : Fy W gv hv kv uv s0 q0 s1 q1 sa ka gx cx gu cu pa w) (hb : Below w.heap.size w w') : Fy W gv hv kv uv s0 q0 s1 q1 sa ka gx cx gu cu pa w' :=
  ⟨h.g.below hb, h.h.below hb, h.k.below hb, h.x.below hb, h.u.below hb, h.rs0.below hb, h.rq0.below hb, h.rs1.below hb, h.rq1.below hb, h.rsa.below hb, h.rka.below hb, (hb.block pa h.a.lt).trans h.a, h.below.trans (hb.mono h.below.size)⟩
theorem Fy.cells (h : Fy W gv hv kv uv s0 q0 s1 q1 sa ka gx cx gu cu pa w) :
    w.cell? ⟨pa, 0, none⟩ = some sa ∧ w.cell? ⟨pa, 1, none⟩ = some ka ∧ w.cell? ⟨pa, 2, none⟩ = some (.string ⟨#[100]⟩) ∧ w.cell? ⟨pa, 3, none⟩ = some (.int .i64 7) ∧
    w.cell? ⟨gx, 0, none⟩ = some s0 ∧ w.cell? ⟨gx, 1, none⟩ = some q0 ∧ w.cell? ⟨gx, 2, none⟩ = some (.string ⟨#[100]⟩) ∧ w.cell? ⟨gx, 3, none⟩ = some (.int .i64 7) ∧
    w.cell? ⟨gx, 4, none⟩ = some s1 ∧ w.cell? ⟨gx, 5, none⟩ = some q1 ∧ w.cell? ⟨gx, 6, none⟩ = some (.string ⟨#[]⟩) ∧ w.cell? ⟨gx, 7, none⟩ = some (.int .i64 0) ∧
    w.cell? ⟨gu, 0, none⟩ = some (.string ⟨#[]⟩) ∧ w.cell? ⟨gu, 1, none⟩ = some (.int .i64 5) ∧ w.cell? ⟨gu, 2, none⟩ = some (.string ⟨#[100]⟩) ∧ w.cell? ⟨gu, 3, none⟩ = some (.int .i64 6) :=
  ⟨h.a.cell 0, h.a.cell 1, h.a.cell 2, h.a.cell 3,
   World.ownsRow.cellAt h.x.1 0 (by decide), World.ownsRow.cellAt h.x.1 1 (by decide), World.ownsRow.cellAt h.x.1 2 (by decide), World.ownsRow.cellAt h.x.1 3 (by decide), World.ownsRow.cellAt h.x.1 4 (by decide), World.ownsRow.cellAt h.x.1 5 (by decide), World.ownsRow.cellAt h.x.1 6 (by decide), World.ownsRow.cellAt h.x.1 7 (by decide),
   World.ownsRow.cellAt h.u.1 0 (by decide), World.ownsRow.cellAt h.u.1 1 (by decide), World.ownsRow.cellAt h.u.1 2 (by decide), World.ownsRow.cellAt h.u.1 3 (by decide)⟩
end
theorem below_al (w : World) (o : Obj) : Below w.heap.size w (w.alloc o) := (Below.refl _ w).alloc (Nat.le_refl _) o

theorem rest_run (kk : Nat) (W : World) : (Instr.slice 22 (.slice (some ⟨kk, 0, none⟩) 3 3) (some (.int .i64 1)) none none).run Try.prog W = .ok (.slice (some ⟨kk, 2, none⟩) 2 2) W := by
  obtain ⟨i0, hi, hz0, hz1, hz2⟩ := info_parts kid_info
  have he : Try.prog.elem 22 = 57 := by kernel_rfl
  rw [run_slice_l W 22 (some ⟨kk, 0, none⟩) 3 3 (by kernel_rfl) .i64 1 (by omega) (by omega), he]
  simp [sizeOf, typeInfo, hi, hz1, sliced, Addr.add]
theorem cmp77 {w : World} {B : Nat} {v : Value} (h : Ints w B v [7, 7]) : Calls Try.prog 25 #[v, .slice (some ⟨w.heap.size, 0, none⟩) 2 2] (w.alloc (.cells #[.int .i64 7, .int .i64 7] 3)).drew fun e W' => e = .returned (.bool true) ∧ Below w.heap.size w W' := by
  have hl : Ints (w.alloc (.cells #[.int .i64 7, .int .i64 7] 3)) w.heap.size (.slice (some ⟨w.heap.size, 0, none⟩) 2 2) [7, 7] := Ints.lit (Nat.le_refl _) [7, 7] (by decide)
  refine (ints_any (W := (w.alloc (.cells #[.int .i64 7, .int .i64 7] 3)).drew) ((RdI.of_own h).below (below_al w _).drew) ((RdI.of_own hl).below (Below.refl _ _).drew)).mono ?_
  rintro e W' ⟨rfl, m, rfl⟩
  exact ⟨rfl, below_dN (below_al w _).drew m⟩
theorem cmp332 {w : World} {B : Nat} {v : Value} (h : Ints w B v [3, 3, 2]) : Calls Try.prog 25 #[v, .slice (some ⟨w.heap.size, 0, none⟩) 3 3] (w.alloc (.cells #[.int .i64 3, .int .i64 3, .int .i64 2] 3)) fun e W' => e = .returned (.bool true) ∧ Below w.heap.size w W' := by
  have hl : Ints (w.alloc (.cells #[.int .i64 3, .int .i64 3, .int .i64 2] 3)) w.heap.size (.slice (some ⟨w.heap.size, 0, none⟩) 3 3) [3, 3, 2] := Ints.lit (Nat.le_refl _) [3, 3, 2] (by decide)
  refine (ints_any (W := (w.alloc (.cells #[.int .i64 3, .int .i64 3, .int .i64 2] 3))) ((RdI.of_own h).below (below_al w _)) (RdI.of_own hl)).mono ?_
  rintro e W' ⟨rfl, m, rfl⟩
  exact ⟨rfl, below_dN (below_al w _) m⟩
section
variable {W w w' : World} {gv hv kv uv s0 q0 s1 q1 sa ka : Value} {gx cx gu cu pa : Nat}
theorem Fy.ref0 (h : Fy W gv hv kv uv s0 q0 s1 q1 sa ka gx cx gu cu pa w) : Calls Try.prog 19 #[.agg #[s0, q0, .string ⟨#[100]⟩, .int .i64 7]] w fun e W' => e = .returned (.agg #[s0, q0, .string ⟨#[100]⟩, .int .i64 7]) ∧ Below w.heap.size w W' :=
  ref_any (g := pgA) (B := w.heap.size) ⟨s0, q0, rfl, RdV.of_own h.rs0, RdI.of_own h.rq0⟩
theorem Fy.ref1 (h : Fy W gv hv kv uv s0 q0 s1 q1 sa ka gx cx gu cu pa w) : Calls Try.prog 19 #[.agg #[s1, q1, .string ⟨#[]⟩, .int .i64 0]] w fun e W' => e = .returned (.agg #[s1, q1, .string ⟨#[]⟩, .int .i64 0]) ∧ Below w.heap.size w W' :=
  ref_any (g := pgB) (B := w.heap.size) ⟨s1, q1, rfl, RdV.of_own h.rs1, RdI.of_own h.rq1⟩
theorem Fy.same0 (h : Fy W gv hv kv uv s0 q0 s1 q1 sa ka gx cx gu cu pa w) : Calls Try.prog 18 #[.agg #[s0, q0, .string ⟨#[100]⟩, .int .i64 7], .agg #[sa, ka, .string ⟨#[100]⟩, .int .i64 7]] w fun e W' => e = .returned (.bool true) ∧ Below w.heap.size w W' := by
  have := same11_any (W := w) (a := pgA) (b := pgA) ⟨s0, q0, rfl, RdV.of_own h.rs0, RdI.of_own h.rq0⟩ ⟨sa, ka, rfl, RdV.of_own h.rsa, RdI.of_own h.rka⟩
  rw [show sameB pgA pgA = true by simp [sameB]] at this
  exact this
theorem Fy.same1b (h : Fy W gv hv kv uv s0 q0 s1 q1 sa ka gx cx gu cu pa w) {B : Nat} {k9 : Value} (hl : Ints w B k9 [9]) : Calls Try.prog 18 #[.agg #[s1, q1, .string ⟨#[]⟩, .int .i64 0], .agg #[.slice none 0 0, k9, .string ⟨#[]⟩, .int .i64 0]] w fun e W' => e = .returned (.bool true) ∧ Below w.heap.size w W' := by
  have := same11_any (W := w) (a := pgB) (b := pgB) ⟨s1, q1, rfl, RdV.of_own h.rs1, RdI.of_own h.rq1⟩ ⟨.slice none 0 0, _, rfl, RdS.nil_ _ _, RdI.of_own hl⟩
  rw [show sameB pgB pgB = true by simp [sameB]] at this
  exact this
theorem lit9 (w : World) : Ints (w.alloc (.cells #[.int .i64 9] 3)) w.heap.size (.slice (some ⟨w.heap.size, 0, none⟩) 1 1) [9] := Ints.lit (Nat.le_refl _) [9] (by decide)
theorem Fy.same1 (h : Fy W gv hv kv uv s0 q0 s1 q1 sa ka gx cx gu cu pa w) : Calls Try.prog 18 #[.agg #[s1, q1, .string ⟨#[]⟩, .int .i64 0], .agg #[.slice none 0 0, .slice (some ⟨w.heap.size, 0, none⟩) 1 1, .string ⟨#[]⟩, .int .i64 0]] (w.alloc (.cells #[.int .i64 9] 3)) fun e W' => e = .returned (.bool true) ∧ Below w.heap.size w W' :=
  ((h.on (below_al w (.cells #[.int .i64 9] 3))).same1b (lit9 w)).mono fun _ _ ⟨a, b⟩ => ⟨a, (below_al w _).trans (b.mono (below_al w _).size)⟩
theorem Fy.ref1b (h : Fy W gv hv kv uv s0 q0 s1 q1 sa ka gx cx gu cu pa w) : Calls Try.prog 19 #[.agg #[s1, q1, .string ⟨#[]⟩, .int .i64 0]] (w.alloc (.cells #[.int .i64 9] 3)) fun e W' => e = .returned (.agg #[s1, q1, .string ⟨#[]⟩, .int .i64 0]) ∧ Below w.heap.size w W' ∧ Ints W' w.heap.size (.slice (some ⟨w.heap.size, 0, none⟩) 1 1) [9] :=
  ((h.on (below_al w (.cells #[.int .i64 9] 3))).ref1).mono fun _ _ ⟨a, b⟩ => ⟨a, (below_al w _).trans (b.mono (below_al w _).size), (lit9 w).below b⟩
theorem Fy.right0 (h : Fy W gv hv kv uv s0 q0 s1 q1 sa ka gx cx gu cu pa w) : Calls Try.prog 16 #[kv] w fun e W' => e = .returned (.bool true) ∧ Below w.heap.size w W' := by
  have := right_any (K := kidsF) (RdV.of_own h.k)
  rw [fx_right.1] at this
  exact this
theorem Fy.right1 {kk : Nat} (h : Fy W gv hv (.slice (some ⟨kk, 0, none⟩) 3 3) uv s0 q0 s1 q1 sa ka gx cx gu cu pa w) : Calls Try.prog 16 #[.slice (some ⟨kk, 2, none⟩) 2 2] w fun e W' => e = .returned (.bool false) ∧ Below w.heap.size w W' := by
  have h1 := rd_slicedV (RdV.of_own h.k) 1 3 3 (by decide) (by decide) (by decide) (by decide)
  have h2 : RdK w w.heap.size (.slice (some ⟨kk, 2, none⟩) 2 2) (kidsF.drop 1) := by
    have e : sliced (some (⟨kk, 0, none⟩ : Addr)) 1 3 3 2 = .slice (some ⟨kk, 2, none⟩) 2 2 := by simp [sliced, Addr.add]
    rw [e] at h1
    exact h1
  have := right_any h2
  rw [fx_right.2] at this
  exact this
end

end Go.Proofs.Ytfoidiebdklggaa
