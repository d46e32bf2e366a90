/-
  each with Up's closure: a contract.
-/
import Derived.Test.YtfoidiebdklggaaEa
open Go Go.RowKit
namespace Go.Proofs.Ytfoidiebdklggaa

/-- Between two rounds, of Up. -/
structure EuI (S : Nat) (W : World) (pp po : Nat) (pv gv : Value) (P : List Int) (gs : List Nat) (K : List Kid) (n : Nat) (kv : Value) (w : World) : Prop where
  grp : Ints w S gv (gs.map fun (x : Nat) => (x : Int))
  pag : RdI w S pv P
  bpp : Blk w pp 23 #[pv]
  below : Below S W w
  kids : ∃ Kj, RdK w S kv Kj ∧ (gs.drop n).sum = Kj.length ∧ (∃ ov Ij, Ij ++ upL P n (gs.drop n) Kj = upL P 0 gs K ∧ Ij.length = n ∧ Blk w po 22 #[ov] ∧ OwV 57 2 w S ov (Ij.map kcells))
theorem EuI.drewN {S : Nat} {W : World} {pp po : Nat} {pv gv : Value} {P : List Int} {gs : List Nat} {K : List Kid} {n : Nat} {kv : Value} {w : World} (h : EuI S W pp po pv gv P gs K n kv w) (q : Nat) : EuI S W pp po pv gv P gs K n kv (w.drewN q) :=
  ⟨h.grp, h.pag, h.bpp, below_dN h.below q, h.kids⟩
theorem eu_step {S : Nat} {W : World} {pp po : Nat} {pv gv : Value} {P : List Int} {gs : List Nat} {K Kj : List Kid} {n g : Nat} {kv v2 ov : Value} {w w' : World} {Ij : List Kid} {x : Kid}
    (hI : EuI S W pp po pv gv P gs K n kv w) (hS : S ≤ po) (hSW : S ≤ W.heap.size) (hr2 : RdK w S v2 (Kj.drop g)) (hs : (gs.drop (n + 1)).sum = (Kj.drop g).length)
    (hij : Ij ++ x :: upL P (n + 1) (gs.drop (n + 1)) (Kj.drop g) = upL P 0 gs K) (hil : Ij.length = n) (hbo : Blk w po 22 #[ov])
    (hX : OwV 57 2 w S ov (Ij.map kcells))
    {ov' : Value} (hp1 : Blk w' po 22 #[ov']) (hp2 : OwV 57 2 w' S ov' ((Ij ++ [x]).map kcells)) (ho : Only (fun k => k = po ∨ ov.ownBlock = some k) w w') : EuI S W pp po pv gv P gs K (n + 1) v2 w' := by
  have hSw : S ≤ w.heap.size := Nat.le_trans hSW hI.below.size
  have hov : ∀ k, ov.ownBlock = some k → S ≤ k ∧ ∃ cur, Blk w k 57 cur := fun k e => hX.block e
  have hb : Below S w w' := ho.below hSw (fun k hk e => by
    rcases e with e | e
    · omega
    · have := (hov k e).1; omega)
  have hne : ∀ k, (k = po ∨ ov.ownBlock = some k) → ∀ (t : TypeId) cur, t ≠ 22 → t ≠ 57 → ¬ Blk w k t cur := fun k e t cur h1 h2 hc => by
    rcases e with e | e
    · subst e; exact hc.ne_ hbo h1 rfl
    · obtain ⟨_, cur', hc'⟩ := hov k e
      exact hc.ne_ hc' h2 rfl
  refine ⟨hI.grp.keep ho (fun k e e' => ?_), hI.pag.below hb, ho.blk hI.bpp (fun e => hne _ e 23 _ (by decide) (by decide) hI.bpp), hI.below.trans hb, Kj.drop g, RdK.below hr2 hb, hs, ov', Ij ++ [x], ?_, by simp [hil], hp1, hp2⟩
  · obtain ⟨_, cur, hc⟩ := hI.grp.block e
    exact hne _ e' 3 _ (by decide) (by decide) hc
  · rw [List.append_assoc]
    exact hij

set_option maxHeartbeats 4000000 in
set_option maxRecDepth 100000 in
theorem eachUp_any {W : World} {S pp po : Nat} {kv gv pv : Value} {gs : List Nat} {K : List Kid} {P : List Int}
    (hI : EuI S W pp po pv gv P gs K 0 kv W) (hS : S ≤ po) (hSW : S ≤ W.heap.size) (hlen : gs.length = P.length) (hpos : ∀ g ∈ gs, 1 ≤ g) (hsum : gs.sum ≤ 1024) :
    Calls Try.prog 30 #[kv, gv, upV pp po] W fun e w => e = .returned (.tuple #[]) ∧ Below S W w ∧ ∃ ov, Blk w po 22 #[ov] ∧ OwV 57 2 w S ov ((upL P 0 gs K).map kcells) := by
  obtain ⟨ga, gc, rfl⟩ := hI.grp.shape
  rw [List.length_map] at hI ⊢
  have hgl : gs.length ≤ 1024 := by
    have : ∀ l : List Nat, (∀ g ∈ l, 1 ≤ g) → l.length ≤ l.sum := by
      intro l
      induction l with
      | nil => intro _; simp
      | cons a r ih =>
        intro h
        have h1 := h a (by simp)
        have h2 := ih (fun g hg => h g (by simp [hg]))
        simp
        omega
    have := this gs hpos
    omega
  have H := hid hI
  have HLE := hid hlen
  have HPO := hid hpos
  clear hI hlen hpos
  unfold upV
  go_enter Try.func30, Try.ntmps30
  go_wp2
  go_loopg [0, 10] gs.length (fun g kv j wr => ∃ n : Nat, j = .int .i64 n ∧ g + n = gs.length ∧ EuI S W pp po pv (.slice ga gs.length gc) P gs K n kv wr)
  case atStart => exact ⟨0, rfl, rfl, H.out⟩
  case round =>
    obtain ⟨n, rfl, hgn, hI⟩ := hrel
    have HGN := hid hgn
    have HI := hid hI
    have hnl : n ≤ gs.length := by omega
    clear hgn
    by_cases hn : n < gs.length
    · have hni : (n : Int) < (gs.length : Int) := by omega
      obtain ⟨Kj, hk, hs, ov, Ij, hij, hil, hbo, hon⟩ := hI.kids
      obtain ⟨g, hg⟩ : ∃ g, gs[n] = g := ⟨_, rfl⟩
      have hgd : gs.drop n = g :: gs.drop (n + 1) := by rw [← hg]; exact (List.drop_eq_getElem_cons hn)
      have hg1 : 1 ≤ g := HPO.out g (by rw [← hg]; exact List.getElem_mem hn)
      rw [hgd, List.sum_cons] at hs
      rw [hgd, upL] at hij
      have hgK : g ≤ Kj.length := by omega
      have hKl : Kj.length ≤ 1024 := by
        have : ∀ (l : List Nat) (k : Nat), (l.drop k).sum ≤ l.sum := by
          intro l
          induction l with
          | nil => intro k; simp
          | cons a r ih =>
            intro k
            cases k with
            | zero => simp
            | succ k => have := ih k; simp; omega
        have h1 := this gs n
        rw [hgd, List.sum_cons] at h1
        omega
      have hgc := RdI.at_ (RdI.of_own hI.grp) (i := n) (d := (g : Int)) (by rw [List.getElem?_map, List.getElem?_eq_getElem hn, hg]; rfl)
      obtain ⟨gb, goff, hga, _, hcg⟩ := hgc
      subst hga
      obtain ⟨ka, kc, rfl, hkl, hkm⟩ := hk.shape
      obtain ⟨v1, hs1, hr1⟩ := kids_head hk g hgK
      obtain ⟨v2, hs2, hr2⟩ := kids_rest hk g hgK
      have hX := hon
      have hSw : S ≤ wr.heap.size := Nat.le_trans hSW hI.below.size
      have hnP : n < P.length := by have := HLE.out; omega
      have hij2 : Ij ++ (lowAt (Kj.take g) 0, P[n]) :: upL P (n + 1) (gs.drop (n + 1)) (Kj.drop g) = upL P 0 gs K := by
        rw [← hij, List.getElem?_eq_getElem hnP]
        unfold lowAt
        rw [List.getElem?_take, if_pos (by omega)]
        rfl
      have hs' : (gs.drop (n + 1)).sum = (Kj.drop g).length := by rw [List.length_drop]; omega
      have hc : ∀ q, Calls Try.prog 33 #[.int .i64 (n : Int), v1, v2, .pointer (some ⟨po, 0, none⟩), .pointer (some ⟨pp, 0, none⟩)] (wr.drewN q) fun e w => e = .returned (.tuple #[]) ∧ EuI S W pp po pv (.slice (some ⟨gb, goff, none⟩) gs.length gc) P gs K (n + 1) v2 w := fun q =>
        (up1_any (W := wr.drewN q) (i := n) (hv := v2) (G := Kj.take g) (RdK.more (RdK.below hr1 (below_dN (Below.refl _ _) q)) hSw) (RdI.more (RdI.below hI.pag (below_dN (Below.refl _ _) q)) hSw) (hI.bpp.drewN q) (hbo.drewN q) (show OwV 57 2 (wr.drewN q) S ov (Ij.map kcells) from hX) (by simp; omega) (by omega) hnP hSw).mono
          (fun e w' ⟨he, ov', a, b, e'⟩ => ⟨he, eu_step (w' := w') (ov' := ov') (hI.drewN q) hS hSW (RdK.below hr2 (below_dN (Below.refl _ _) q)) hs' hij2 hil (hbo.drewN q) hX a b e'⟩)
      have HC := fun q => hid (hc q)
      have HCd := hid (show Calls Try.prog 33 #[.int .i64 (n : Int), v1, v2, .pointer (some ⟨po, 0, none⟩), .pointer (some ⟨pp, 0, none⟩)] wr.drew fun e w => e = .returned (.tuple #[]) ∧ EuI S W pp po pv (.slice (some ⟨gb, goff, none⟩) gs.length gc) P gs K (n + 1) v2 w from hc 1)
      obtain ⟨va, vl, vc, rfl⟩ : ∃ a l c, v2 = .slice a l c := by
        obtain ⟨a, c, e, _⟩ := hr2.shape
        exact ⟨a, _, c, e⟩
      clear hc
      clear hX hr1 hr2 hk hI hs hij hgd hbo hs' hij2
      go_wp2
      go_region_with (go_at_call 33; (first | with_reducible refine HCd.out.mono ?_ | with_reducible refine (HC _).out.mono ?_); rintro e w' ⟨rfl, hn⟩; have HN := hid hn; clear hn)
      all_goals
        go_wp2
        have hg := HGN.out
        go_roundg (gk - 1)
        case measure => omega
        case rel => exact ⟨n + 1, by go_num, by omega, HN.out⟩
    · have hni : ¬ (n : Int) < (gs.length : Int) := by omega
      have hnn : n = gs.length := by omega
      have HF := hid (show Below S W wr ∧ ∃ ov, Blk wr po 22 #[ov] ∧ OwV 57 2 wr S ov ((upL P 0 gs K).map kcells) by
        obtain ⟨Kj, hk, hs, ov, Ij, hij, hil, hbo, hon⟩ := hI.kids
        refine ⟨hI.below, ov, hbo, ?_⟩
        rw [← hij, hnn, List.drop_length, upL, List.append_nil]
        exact hon)
      clear hI HI
      go_wp2
      go_returns
      exact ⟨rfl, HF.out⟩
end Go.Proofs.Ytfoidiebdklggaa
