/-
  each with Level's closure, and with Up's: contracts.
-/
import Derived.Test.YtfoidiebdklggaaUp
open Go Go.RowKit
namespace Go.Proofs.Ytfoidiebdklggaa

/-- The pages above; they as kids. -/
def lvL (P : List Int) : Nat → List Nat → List Kid → List Pg
  | _, [], _ => []
  | i, g :: r, K => pgOf P i (K.take g) (K.drop g) :: lvL P (i + 1) r (K.drop g)
def upL (P : List Int) : Nat → List Nat → List Kid → List Kid
  | _, [], _ => []
  | i, g :: r, K => (lowAt K 0, P[i]?.getD 0) :: upL P (i + 1) r (K.drop g)
theorem lvL_len (P : List Int) : ∀ (gs : List Nat) (i : Nat) (K : List Kid), (lvL P i gs K).length = gs.length := by
  intro gs
  induction gs with
  | nil => intro i K; rfl
  | cons g r ih => intro i K; rw [lvL, List.length_cons, ih, List.length_cons]
theorem upL_len (P : List Int) : ∀ (gs : List Nat) (i : Nat) (K : List Kid), (upL P i gs K).length = gs.length := by
  intro gs
  induction gs with
  | nil => intro i K; rfl
  | cons g r ih => intro i K; rw [upL, List.length_cons, ih, List.length_cons]

/-- The slice value v owns a row of the inner pages I, each with its own rows. -/
def OwN (w : World) (B : Nat) (v : Value) (I : List Pg) : Prop :=
  ∃ X : List (List Value), OwV 46 4 w B v X ∧ X.length = I.length ∧ ∀ (i : Nat) (g : Pg), I[i]? = some g → ∃ vs vk, X[i]? = some (icells vs vk g) ∧ OwV 9 1 w B vs (g.seps.map scell) ∧ Ints w B vk g.kids
theorem OwN.keep {S : Nat → Prop} {w w' : World} {B : Nat} {v : Value} {I : List Pg} (h : OwN w B v I) (ho : Only S w w') (hS : ∀ k, S k → ∀ cur, ¬ Blk w k 46 cur ∧ ¬ Blk w k 9 cur ∧ ¬ Blk w k 3 cur) : OwN w' B v I := by
  obtain ⟨X, h1, h2, h3⟩ := h
  refine ⟨X, h1.keep ho (fun g e e' => ?_), h2, fun i g hg => ?_⟩
  · obtain ⟨_, cur, hc⟩ := h1.block e
    exact (hS g e' cur).1 hc
  · obtain ⟨vs, vk, a1, a2, a3⟩ := h3 i g hg
    refine ⟨vs, vk, a1, a2.keep ho (fun g e e' => ?_), a3.keep ho (fun g e e' => ?_)⟩
    · obtain ⟨_, cur, hc⟩ := a2.block e
      exact (hS g e' cur).2.1 hc
    · obtain ⟨_, cur, hc⟩ := a3.block e
      exact (hS g e' cur).2.2 hc
theorem OwN.nil (w : World) (B : Nat) : OwN w B (.slice none 0 0) [] := ⟨[], OwV.nil _ _, rfl, fun i g h => by simp at h⟩
theorem OwN.below {w w' : World} {B : Nat} {v : Value} {I : List Pg} (h : OwN w B v I) (hb : Below w.heap.size w w') : OwN w' B v I := h.keep (Only.of_below (S := fun _ => False) hb) (fun _ h => h.elim)
theorem Ints.base_ {w : World} {B B' : Nat} {v : Value} {D : List Int} (h : Ints w B v D) (hB : B' ≤ B) : Ints w B' v D := by
  obtain ⟨h1, h2⟩ := h
  refine ⟨h1, ?_⟩
  rcases h2 with h2 | ⟨g, cap, cur, a1, a2, a3⟩
  · exact .inl h2
  · exact .inr ⟨g, cap, cur, a1, by omega, a3⟩

theorem kids_head {w : World} {B : Nat} {a : Option Addr} {n cap : Nat} {K : List Kid} (h : RdK w B (.slice a n cap) K) (g : Nat) (hg : g ≤ K.length) :
    ∃ v', (∀ W, (Instr.slice 22 (.slice a n cap) none (some (.int .i64 (g : Int))) (some (.int .i64 (g : Int)))).run Try.prog W = .ok v' W) ∧ RdK w B v' (K.take g) := by
  obtain ⟨v', h1, h2⟩ := run_headV 22 57 kid_info (by kernel_rfl) (by kernel_rfl) h g (by simpa using hg)
  exact ⟨v', h1, by unfold RdK; rw [List.map_take]; exact h2⟩
theorem kids_rest {w : World} {B : Nat} {a : Option Addr} {n cap : Nat} {K : List Kid} (h : RdK w B (.slice a n cap) K) (g : Nat) (hg : g ≤ K.length) :
    ∃ v', (∀ W, (Instr.slice 22 (.slice a n cap) (some (.int .i64 (g : Int))) none none).run Try.prog W = .ok v' W) ∧ RdK w B v' (K.drop g) := by
  obtain ⟨v', h1, h2⟩ := run_fromV 22 57 kid_info (by kernel_rfl) (by kernel_rfl) h g (by simpa using hg)
  exact ⟨v', h1, by unfold RdK; rw [List.map_drop]; exact h2⟩

def lvV (pp po : Nat) : Value := .func (.func 31) #[] #[.pointer (some ⟨pp, 0, none⟩), .pointer (some ⟨po, 0, none⟩)]
def upV (pp po : Nat) : Value := .func (.func 33) #[] #[.pointer (some ⟨po, 0, none⟩), .pointer (some ⟨pp, 0, none⟩)]

/-- Between two rounds. -/
structure EaI (S : Nat) (W : World) (pp po : Nat) (pv gv : Value) (P : List Int) (gs : List Nat) (K : List Kid) (n : Nat) (kv : Value) (w : World) : Prop where
  grp : Ints w S gv (gs.map fun (x : Nat) => (x : Int))
  pag : RdI w S pv P
  bpp : Blk w pp 23 #[pv]
  below : Below S W w
  kids : ∃ Kj, RdK w S kv Kj ∧ (gs.drop n).sum = Kj.length ∧ (∃ ov Ij, Ij ++ lvL P n (gs.drop n) Kj = lvL P 0 gs K ∧ Ij.length = n ∧ Blk w po 25 #[ov] ∧ OwN w S ov Ij)

theorem EaI.drewN {S : Nat} {W : World} {pp po : Nat} {pv gv : Value} {P : List Int} {gs : List Nat} {K : List Kid} {n : Nat} {kv : Value} {w : World} (h : EaI S W pp po pv gv P gs K n kv w) (q : Nat) : EaI S W pp po pv gv P gs K n kv (w.drewN q) :=
  ⟨h.grp, h.pag, h.bpp, below_dN h.below q, h.kids⟩
theorem ea_step {S : Nat} {W : World} {pp po : Nat} {pv gv : Value} {P : List Int} {gs : List Nat} {K Kj : List Kid} {n g : Nat} {kv v2 ov : Value} {w w' : World} {X : List (List Value)} {Ij : List Pg}
    (hI : EaI S W pp po pv gv P gs K n kv w) (hS : S ≤ po) (hSW : S ≤ W.heap.size) (hr2 : RdK w S v2 (Kj.drop g)) (hs : (gs.drop (n + 1)).sum = (Kj.drop g).length)
    (hij : Ij ++ pgOf P n (Kj.take g) (Kj.drop g) :: lvL P (n + 1) (gs.drop (n + 1)) (Kj.drop g) = lvL P 0 gs K) (hil : Ij.length = n) (hbo : Blk w po 25 #[ov])
    (hX : OwV 46 4 w S ov X) (hXl : X.length = Ij.length) (hXi : ∀ (i : Nat) (g : Pg), Ij[i]? = some g → ∃ vs vk, X[i]? = some (icells vs vk g) ∧ OwV 9 1 w S vs (g.seps.map scell) ∧ Ints w S vk g.kids)
    {ov' vs vk : Value} (hp1 : Blk w' po 25 #[ov']) (hp2 : OwV 46 4 w' S ov' (X ++ [icells vs vk (pgOf P n (Kj.take g) (Kj.drop g))])) (hp3 : OwV 9 1 w' w.heap.size vs ((pgOf P n (Kj.take g) (Kj.drop g)).seps.map scell))
    (hp4 : Ints w' w.heap.size vk (pgOf P n (Kj.take g) (Kj.drop g)).kids) (ho : Only (fun k => k = po ∨ ov.ownBlock = some k) w w') : EaI S W pp po pv gv P gs K (n + 1) v2 w' := by
  have hSw : S ≤ w.heap.size := Nat.le_trans hSW hI.below.size
  have hov : ∀ k, ov.ownBlock = some k → S ≤ k ∧ ∃ cur, Blk w k 46 cur := fun k e => hX.block e
  have hb : Below S w w' := ho.below hSw (fun k hk e => by
    rcases e with e | e
    · omega
    · have := (hov k e).1; omega)
  have hne : ∀ k, (k = po ∨ ov.ownBlock = some k) → ∀ (t : TypeId) cur, t ≠ 25 → t ≠ 46 → ¬ Blk w k t cur := fun k e t cur h1 h2 hc => by
    rcases e with e | e
    · subst e; exact hc.ne_ hbo h1 rfl
    · obtain ⟨_, cur', hc'⟩ := hov k e
      exact hc.ne_ hc' h2 rfl
  refine ⟨hI.grp.keep ho (fun k e e' => ?_), hI.pag.below hb, ho.blk hI.bpp (fun e => hne _ e 23 _ (by decide) (by decide) hI.bpp), hI.below.trans hb, Kj.drop g, RdK.below hr2 hb, hs, ov', Ij ++ [pgOf P n (Kj.take g) (Kj.drop g)], ?_, by simp [hil], hp1, X ++ [icells vs vk (pgOf P n (Kj.take g) (Kj.drop g))], hp2, by simp [hXl], ?_⟩
  · obtain ⟨_, cur, hc⟩ := hI.grp.block e
    exact hne _ e' 3 _ (by decide) (by decide) hc
  · rw [List.append_assoc]
    exact hij
  · intro i y hy
    rcases Nat.lt_or_ge i Ij.length with hlt | hge
    · rw [List.getElem?_append_left hlt] at hy
      obtain ⟨a, b, q1, q2, q3⟩ := hXi i y hy
      refine ⟨a, b, by rw [List.getElem?_append_left (by omega)]; exact q1, q2.keep ho (fun k e e' => ?_), q3.keep ho (fun k e e' => ?_)⟩
      · obtain ⟨_, cur, hc⟩ := q2.block e
        exact hne _ e' 9 _ (by decide) (by decide) hc
      · obtain ⟨_, cur, hc⟩ := q3.block e
        exact hne _ e' 3 _ (by decide) (by decide) hc
    · have hi : i = Ij.length := by
        have := (List.getElem?_eq_some_iff.1 hy).1
        simp at this
        omega
      subst hi
      rw [List.getElem?_append_right (Nat.le_refl _), Nat.sub_self] at hy
      simp at hy
      subst hy
      exact ⟨vs, vk, by rw [List.getElem?_append_right (by omega), hXl, Nat.sub_self]; rfl, hp3.base hSw, hp4.base_ hSw⟩

set_option maxHeartbeats 4000000 in
set_option maxRecDepth 100000 in
theorem eachLv_any {W : World} {S pp po : Nat} {kv gv pv : Value} {gs : List Nat} {K : List Kid} {P : List Int}
    (hI : EaI S W pp po pv gv P gs K 0 kv W) (hS : S ≤ po) (hSW : S ≤ W.heap.size) (hlen : gs.length = P.length) (hP : anyOdd P = false) (hpos : ∀ g ∈ gs, 1 ≤ g) (hsum : gs.sum ≤ 1024) :
    Calls Try.prog 30 #[kv, gv, lvV pp po] W fun e w => e = .returned (.tuple #[]) ∧ Below S W w ∧ ∃ ov, Blk w po 25 #[ov] ∧ OwN w S ov (lvL P 0 gs K) := by
  obtain ⟨ga, gc, rfl⟩ := hI.grp.shape
  rw [List.length_map] at hI ⊢
  have hgl : gs.length ≤ 1024 := by
    have : ∀ l : List Nat, (∀ g ∈ l, 1 ≤ g) → l.length ≤ l.sum := by
      intro l
      induction l with
      | nil => intro _; simp
      | cons a r ih =>
        intro h
        have h1 := h a (by simp)
        have h2 := ih (fun g hg => h g (by simp [hg]))
        simp
        omega
    have := this gs hpos
    omega
  have H := hid hI
  have HLE := hid hlen
  have HP := hid hP
  have HPO := hid hpos
  clear hI hlen hP hpos
  unfold lvV
  go_enter Try.func30, Try.ntmps30
  go_wp2
  go_loopg [0, 10] gs.length (fun g kv j wr => ∃ n : Nat, j = .int .i64 n ∧ g + n = gs.length ∧ EaI S W pp po pv (.slice ga gs.length gc) P gs K n kv wr)
  case atStart => exact ⟨0, rfl, rfl, H.out⟩
  case round =>
    obtain ⟨n, rfl, hgn, hI⟩ := hrel
    have HGN := hid hgn
    have HI := hid hI
    have hnl : n ≤ gs.length := by omega
    clear hgn
    by_cases hn : n < gs.length
    · have hni : (n : Int) < (gs.length : Int) := by omega
      obtain ⟨Kj, hk, hs, ov, Ij, hij, hil, hbo, hon⟩ := hI.kids
      obtain ⟨g, hg⟩ : ∃ g, gs[n] = g := ⟨_, rfl⟩
      have hgd : gs.drop n = g :: gs.drop (n + 1) := by rw [← hg]; exact (List.drop_eq_getElem_cons hn)
      have hg1 : 1 ≤ g := HPO.out g (by rw [← hg]; exact List.getElem_mem hn)
      rw [hgd, List.sum_cons] at hs
      rw [hgd, lvL] at hij
      have hgK : g ≤ Kj.length := by omega
      have hKl : Kj.length ≤ 1024 := by
        have : ∀ (l : List Nat) (k : Nat), (l.drop k).sum ≤ l.sum := by
          intro l
          induction l with
          | nil => intro k; simp
          | cons a r ih =>
            intro k
            cases k with
            | zero => simp
            | succ k => have := ih k; simp; omega
        have h1 := this gs n
        rw [hgd, List.sum_cons] at h1
        omega
      have hgc := RdI.at_ (RdI.of_own hI.grp) (i := n) (d := (g : Int)) (by rw [List.getElem?_map, List.getElem?_eq_getElem hn, hg]; rfl)
      obtain ⟨gb, goff, hga, _, hcg⟩ := hgc
      subst hga
      obtain ⟨ka, kc, rfl, hkl, hkm⟩ := hk.shape
      obtain ⟨v1, hs1, hr1⟩ := kids_head hk g hgK
      obtain ⟨v2, hs2, hr2⟩ := kids_rest hk g hgK
      obtain ⟨X, hX, hXl, hXi⟩ := hon
      have hSw : S ≤ wr.heap.size := Nat.le_trans hSW hI.below.size
      have hnx : (Kj.drop g).length ≠ 0 → n + 1 < P.length := fun h => by
        have h2 := HLE.out
        rcases Nat.lt_or_ge (n + 1) gs.length with h1 | h1
        · omega
        · exfalso
          apply h
          rw [List.length_drop]
          have : (gs.drop (n + 1)).sum = 0 := by rw [List.drop_eq_nil_of_le h1]; rfl
          omega
      have hs' : (gs.drop (n + 1)).sum = (Kj.drop g).length := by rw [List.length_drop]; omega
      have hc : ∀ q, Calls Try.prog 31 #[.int .i64 (n : Int), v1, v2, .pointer (some ⟨pp, 0, none⟩), .pointer (some ⟨po, 0, none⟩)] (wr.drewN q) fun e w => e = .returned (.tuple #[]) ∧ EaI S W pp po pv (.slice (some ⟨gb, goff, none⟩) gs.length gc) P gs K (n + 1) v2 w := fun q =>
        (lv1_any (W := wr.drewN q) (i := n) (hv := v2) (RdK.more (RdK.below hr1 (below_dN (Below.refl _ _) q)) hSw) (RdK.more (RdK.below hr2 (below_dN (Below.refl _ _) q)) hSw) (RdI.more (RdI.below hI.pag (below_dN (Below.refl _ _) q)) hSw) (hI.bpp.drewN q) (hbo.drewN q) (show OwV 46 4 (wr.drewN q) S ov X from hX) (by simp; omega) (by omega) (by omega) HP.out hnx hSw).mono
          (fun e w' ⟨he, ov', vs, vk, a, b, c, d, e'⟩ => ⟨he, ea_step (w' := w') (ov' := ov') (vs := vs) (vk := vk) (hI.drewN q) hS hSW (RdK.below hr2 (below_dN (Below.refl _ _) q)) hs' hij hil (hbo.drewN q) hX hXl hXi a b c d e'⟩)
      have HC := fun q => hid (hc q)
      have HCd := hid (show Calls Try.prog 31 #[.int .i64 (n : Int), v1, v2, .pointer (some ⟨pp, 0, none⟩), .pointer (some ⟨po, 0, none⟩)] wr.drew fun e w => e = .returned (.tuple #[]) ∧ EaI S W pp po pv (.slice (some ⟨gb, goff, none⟩) gs.length gc) P gs K (n + 1) v2 w from hc 1)
      obtain ⟨va, vl, vc, rfl⟩ : ∃ a l c, v2 = .slice a l c := by
        obtain ⟨a, c, e, _⟩ := hr2.shape
        exact ⟨a, _, c, e⟩
      clear hc
      clear hX hXi hr1 hr2 hk hI hs hij hgd hbo hs' hnx
      go_wp2
      go_region_with (go_at_call 31; (first | with_reducible refine HCd.out.mono ?_ | with_reducible refine (HC _).out.mono ?_); rintro e w' ⟨rfl, hn⟩; have HN := hid hn; clear hn)
      all_goals
        go_wp2
        have hg := HGN.out
        go_roundg (gk - 1)
        case measure => omega
        case rel => exact ⟨n + 1, by go_num, by omega, HN.out⟩
    · have hni : ¬ (n : Int) < (gs.length : Int) := by omega
      have hnn : n = gs.length := by omega
      have HF := hid (show Below S W wr ∧ ∃ ov, Blk wr po 25 #[ov] ∧ OwN wr S ov (lvL P 0 gs K) by
        obtain ⟨Kj, hk, hs, ov, Ij, hij, hil, hbo, hon⟩ := hI.kids
        refine ⟨hI.below, ov, hbo, ?_⟩
        rw [← hij, hnn, List.drop_length, lvL, List.append_nil]
        exact hon)
      clear hI HI
      go_wp2
      go_returns
      exact ⟨rfl, HF.out⟩
end Go.Proofs.Ytfoidiebdklggaa
