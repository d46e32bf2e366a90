/-
  A scope with several labels: what holds at a jump to each, and a ghost measure that every pass lowers. (After the kit's 'wp_scope_jumps'.)
-/
import Derived.Test.YtgnhfipmeljffaaSl
import Derived.ScopeJumps
import Derived.Control
open Go Go.RowKit
namespace Go.Proofs.Ytgnhfipmeljffaa

/-- As Q; by a goto to label l: J l. -/
def Exit.jumps (J : Nat → Act → World → Prop) (Q : Exit → Act → World → Prop) : Exit → Act → World → Prop
  | .goto l, a, w => J l a w
  | e, a, w => Q e a w

theorem then_of {K Q' : _} {a : Act} {w : World} {X : Act → World → Prop} (hK : ∀ a w, X a w → K a w) (h : X a w) : Exit.then K Q' .normal a w := hK _ _ h

theorem wp_scope_labels {P : Program} {a : Act} {w : World} {Q : Exit → Act → World → Prop} {c : Code} (J : Nat → Nat → Act → World → Prop) (rest : Nat → Code)
    (hf : ∀ n l a w, J n l a w → findLabel c l = some (rest l))
    (first : c.wp P (Exit.jumps (fun l a w => ∃ n, J n l a w) Q) a w)
    (pass : ∀ n l a w, J n l a w → (rest l).wp P (Exit.jumps (fun l' a' w' => ∃ m, m < n ∧ J m l' a' w') Q) a w) : (Code.scope c).wp P Q a w := by
  intro b k cs
  have hg : ∀ n l a w, J n l a w → gotoIn l (.inScope c :: k) = some (.code (rest l) :: .inScope c :: k) := fun n l a w h => by simp [gotoIn, hf n l a w h]
  have key : ∀ n l a w, J n l a w → ∃ e a' w', Q e a' w' ∧ Arrives P (lone (b.at a (.code (rest l) :: .inScope c :: k)) cs w) b k cs e a' w' := by
    intro n
    induction n using Nat.strongRecOn with
    | _ n ih =>
      intro l a w hJ
      obtain ⟨e, a₁, w₁, hq, harr⟩ := pass n l a w hJ b (.inScope c :: k) cs
      cases e with
      | normal => exact ⟨.normal, a₁, w₁, hq, Steps.trans harr (.one step_inScope)⟩
      | exit id => exact ⟨.exit id, a₁, w₁, hq, fun k' hk => harr k' (by simp [exitTo, hk])⟩
      | goto l' =>
        obtain ⟨m, hlt, hJ'⟩ := hq
        obtain ⟨e₂, a₂, w₂, hq₂, harr₂⟩ := ih m hlt l' a₁ w₁ hJ'
        exact ⟨e₂, a₂, w₂, hq₂, .of_steps (harr _ (hg _ _ _ _ hJ')) harr₂⟩
      | ret => exact ⟨_, a₁, w₁, hq, harr⟩
      | panic ch => exact ⟨_, a₁, w₁, hq, harr⟩
      | outgrown => exact ⟨_, a₁, w₁, hq, harr⟩
  obtain ⟨e, a₁, w₁, hq, harr⟩ := first b (.inScope c :: k) cs
  cases e with
  | normal => exact ⟨.normal, a₁, w₁, hq, .head step_scope (Steps.trans harr (.one step_inScope))⟩
  | exit id => exact ⟨.exit id, a₁, w₁, hq, fun k' hk => .head step_scope (harr k' (by simp [exitTo, hk]))⟩
  | goto l' =>
    obtain ⟨n, hJ'⟩ := hq
    obtain ⟨e₂, a₂, w₂, hq₂, harr₂⟩ := key n l' a₁ w₁ hJ'
    exact ⟨e₂, a₂, w₂, hq₂, .of_steps (.head step_scope (harr _ (hg _ _ _ _ hJ'))) harr₂⟩
  | ret => exact ⟨_, a₁, w₁, hq, .of_steps (.one step_scope) harr⟩
  | panic ch => exact ⟨_, a₁, w₁, hq, .of_steps (.one step_scope) harr⟩
  | outgrown => exact ⟨_, a₁, w₁, hq, .of_steps (.one step_scope) harr⟩

/-- The same for two labels, 0 and 1. -/
theorem wp_scope_two {P : Program} {a : Act} {w : World} {Q : Exit → Act → World → Prop} {c rest0 rest1 : Code} (h0 : findLabel c 0 = some (.seq .skip rest0)) (h1 : findLabel c 1 = some (.seq .skip rest1)) (J : Nat → Nat → Act → World → Prop)
    (hl : ∀ n l a w, J n l a w → l = 0 ∨ l = 1)
    (first : (∀ n a w, J n 0 a w → rest0.wp P (Exit.jumps (fun l a w => ∃ n, J n l a w) Q) a w) → c.wp P (Exit.jumps (fun l a w => ∃ n, J n l a w) Q) a w)
    (pass0 : ∀ n a w, (∀ m a w, m < n → J m 1 a w → rest1.wp P (Exit.jumps (fun l' a' w' => ∃ m, m < n ∧ J m l' a' w') Q) a w) → J n 0 a w → rest0.wp P (Exit.jumps (fun l' a' w' => ∃ m, m < n ∧ J m l' a' w') Q) a w)
    (pass1 : ∀ n a w, J n 1 a w → rest1.wp P (Exit.jumps (fun l' a' w' => ∃ m, m < n ∧ J m l' a' w') Q) a w) : (Code.scope c).wp P Q a w := by
  have p0 : ∀ n a w, J n 0 a w → rest0.wp P (Exit.jumps (fun l' a' w' => ∃ m, m < n ∧ J m l' a' w') Q) a w := fun n a w h => pass0 n a w (fun m a w hm hJ => wp_mono (pass1 m a w hJ) (by
    intro e a w hq
    cases e with
    | goto l => obtain ⟨m', h1, h2⟩ := hq; exact ⟨m', by omega, h2⟩
    | normal => exact hq
    | exit id => exact hq
    | ret => exact hq
    | panic ch => exact hq
    | outgrown => exact hq)) h
  refine wp_scope_labels J (fun l => if l = 0 then .seq .skip rest0 else .seq .skip rest1) (fun n l a w h => ?_) (first (fun n a w hJ => wp_mono (p0 n a w hJ) (by
    intro e a w hq
    cases e with
    | goto l => obtain ⟨m', h1, h2⟩ := hq; exact ⟨m', h2⟩
    | normal => exact hq
    | exit id => exact hq
    | ret => exact hq
    | panic ch => exact hq
    | outgrown => exact hq))) (fun n l a w h => ?_)
  · rcases hl n l a w h with rfl | rfl
    · exact h0
    · exact h1
  · rcases hl n l a w h with rfl | rfl
    · exact wp_seq (wp_skip (p0 n a w h))
    · exact wp_seq (wp_skip (pass1 n a w h))
end Go.Proofs.Ytgnhfipmeljffaa
