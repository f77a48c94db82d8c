import Derived.Test.YtnpkkcbgfnnfmaaDoorProg
import Derived.Test.YtnpkkcbgfnnfmaaDoorHMath
import Derived.Test.YtnpkkcbgfnnfmaaDoorBase
import Derived.Test.YtnpkkcbgfnnfmaaDoorBase2
import Derived.BigQuiet
import Derived.BigRegion
import Derived.WalkMore
import Derived.ScopeJumps
/- Contracts of package header: Blank, digit, magic, number. -/
namespace Go.Proofs.YtnpkkcbgfnnfmaaDoor
open Go.RowKit
set_option linter.unusedVariables false
set_option linter.unusedSimpArgs false
set_option maxRecDepth 100000

/-! ### a scope with labels that are jumped to, from whatever place -/
def jumpN (J : Nat → Act → World → Prop) (Q : Exit → Act → World → Prop) : Exit → Act → World → Prop
  | .goto l, a, w => J l a w
  | e, a, w => Q e a w
section
variable {P : Program} {a : Act} {w : World} {J : Nat → Act → World → Prop} {Q : Exit → Act → World → Prop}
theorem jumpN_normal : jumpN J Q .normal a w = Q .normal a w := rfl
theorem jumpN_ret : jumpN J Q .ret a w = Q .ret a w := rfl
theorem jumpN_goto (l : Nat) : jumpN J Q (.goto l) a w = J l a w := rfl
theorem wp_scope_labels {c : Code} (rest : Nat → Code) (J : Nat → Act → World → Prop) (μ : Nat → Act → World → Nat) (M : Nat) (hf : ∀ l a w, J l a w → findLabel c l = some (rest l))
    (first : c.wp P (jumpN (fun l' a' w' => J l' a' w' ∧ μ l' a' w' < M) Q) a w)
    (pass : ∀ l a w, J l a w → (rest l).wp P (jumpN (fun l' a' w' => J l' a' w' ∧ μ l' a' w' < μ l a w) Q) a w) : (Code.scope c).wp P Q a w := by
  intro b k cs
  have hg : ∀ l a w, J l a w → gotoIn l (.inScope c :: k) = some (.code (rest l) :: .inScope c :: k) := fun l a w h => by simp [gotoIn, hf l a w h]
  have key : ∀ m l a w, μ l a w = m → J l a w → ∃ e a' w', Q e a' w' ∧ Arrives P (lone (b.at a (.code (rest l) :: .inScope c :: k)) cs w) b k cs e a' w' := by
    intro m
    induction m using Nat.strongRecOn with
    | _ m ih =>
      intro l a w hm hJ
      obtain ⟨e, a1, w1, hq, harr⟩ := pass l a w hJ b (.inScope c :: k) cs
      cases e with
      | normal => exact ⟨.normal, a1, w1, hq, Steps.trans harr (.one step_inScope)⟩
      | exit id => exact ⟨.exit id, a1, w1, hq, fun k' hk => harr k' (by simp [exitTo, hk])⟩
      | goto l' =>
        obtain ⟨e2, a2, w2, hq2, harr2⟩ := ih _ (by have := hq.2; omega) l' a1 w1 rfl hq.1
        exact ⟨e2, a2, w2, hq2, .of_steps (harr _ (hg l' a1 w1 hq.1)) harr2⟩
      | ret => exact ⟨_, a1, w1, hq, harr⟩
      | panic ch => exact ⟨_, a1, w1, hq, harr⟩
      | outgrown => exact ⟨_, a1, w1, hq, harr⟩
  obtain ⟨e, a1, w1, hq, harr⟩ := first b (.inScope c :: k) cs
  cases e with
  | normal => exact ⟨.normal, a1, w1, hq, .head step_scope (Steps.trans harr (.one step_inScope))⟩
  | exit id => exact ⟨.exit id, a1, w1, hq, fun k' hk => .head step_scope (harr k' (by simp [exitTo, hk]))⟩
  | goto l' =>
    obtain ⟨e2, a2, w2, hq2, harr2⟩ := key _ l' a1 w1 rfl hq.1
    exact ⟨e2, a2, w2, hq2, .of_steps (.head step_scope (harr _ (hg l' a1 w1 hq.1))) harr2⟩
  | ret => exact ⟨_, a1, w1, hq, .of_steps (.one step_scope) harr⟩
  | panic ch => exact ⟨_, a1, w1, hq, .of_steps (.one step_scope) harr⟩
  | outgrown => exact ⟨_, a1, w1, hq, .of_steps (.one step_scope) harr⟩
theorem wp_scope_two {c r0 r1 : Code} (h0 : findLabel c 0 = some r0) (h1 : findLabel c 1 = some r1) (J : Nat → Act → World → Prop) (μ : Nat → Act → World → Nat) (M : Nat) (hJ : ∀ l a w, J l a w → l ≤ 1)
    (first : c.wp P (jumpN (fun l' a' w' => J l' a' w' ∧ μ l' a' w' < M) Q) a w)
    (pass0 : ∀ a w, J 0 a w → r0.wp P (jumpN (fun l' a' w' => J l' a' w' ∧ μ l' a' w' < μ 0 a w) Q) a w)
    (pass1 : ∀ a w, J 1 a w → r1.wp P (jumpN (fun l' a' w' => J l' a' w' ∧ μ l' a' w' < μ 1 a w) Q) a w) : (Code.scope c).wp P Q a w := by
  refine wp_scope_labels (fun l => if l = 0 then r0 else r1) J μ M (fun l a w h => ?_) first (fun l a w h => ?_)
  · rcases (show l = 0 ∨ l = 1 by have := hJ l a w h; omega) with rfl | rfl
    · exact h0
    · exact h1
  · rcases (show l = 0 ∨ l = 1 by have := hJ l a w h; omega) with rfl | rfl
    · exact pass0 a w h
    · exact pass1 a w h
end

theorem blank_any (x : Int) (w : World) : Calls Tryd.prog 32 #[.int .u8 x] w fun e w' => e = .returned (.bool (blankB x)) ∧ w = w' := by
  go_enter Tryd.func32, Tryd.ntmps32
  go_wp2
  all_goals
    go_ret
    refine ⟨ret_bool ?_, rfl⟩
    unfold blankB
    go_tidy
  all_goals first
    | (symm; rw [decide_eq_false_iff_not]; omega)
    | (symm; rw [decide_eq_true_eq]; omega)
    | (rw [decide_eq_decide]; omega)
    | (rw [Bool.eq_iff_iff]; simp; omega)

theorem digit_any (x : Int) (w : World) : Calls Tryd.prog 47 #[.int .u8 x] w fun e w' => e = .returned (.bool (digitB x)) ∧ w = w' := by
  go_enter Tryd.func47, Tryd.ntmps47
  go_wp2
  all_goals
    go_ret
    refine ⟨ret_bool ?_, rfl⟩
    unfold digitB
    go_tidy
  all_goals first
    | (symm; rw [decide_eq_false_iff_not]; omega)
    | (symm; rw [decide_eq_true_eq]; omega)
    | (rw [decide_eq_decide]; omega)
end Go.Proofs.YtnpkkcbgfnnfmaaDoor
