import Derived.Test.YtnpkkcbgfnnfmaaProg
import Derived.Test.YtnpkkcbgfnnfmaaBase
import Derived.Test.YtnpkkcbgfnnfmaaRMath
/- Contracts of package raster's functions over sizes, and of the document's. -/
namespace Go.Proofs.Ytnpkkcbgfnnfmaa
open Go.RowKit
set_option linter.unusedVariables false
set_option linter.unusedSimpArgs false
set_option maxRecDepth 100000

theorem fits_any (a b c : Int) (w : World) :
    Calls Try.prog 22 #[.int .i64 a, .int .i64 b, .int .i64 c] w fun e w' => e = .returned (.bool (fitsB a b c)) ∧ w = w' := by
  go_enter Try.func22, Try.ntmps22
  go_wp2
  all_goals
    go_ret
    refine ⟨ret_bool ?_, rfl⟩
    unfold fitsB
  · rename_i h1 h2 h3 h4 h5
    have := mul_bd h1 h2 h3 h4
    subst h5
    rw [wrap_in (x := a * b) (by omega) (by omega), wrap_in (by omega) (by omega)]
    simp [h1, h2, h3, h4]
  · rename_i h1 h2 h3 h4 h5 h6
    have := mul_bd h1 h2 h3 h4
    subst h6
    rw [wrap_in (x := a * b) (by omega) (by omega), wrap_in (by omega) (by omega)]
    simp [h1, h2, h3, h4]
  all_goals
    symm
    rw [decide_eq_false_iff_not]
    omega

theorem chan_cases (c : Int) : c = 1 ∨ c = 3 ∨ ((c == 1) = false ∧ (c == 3) = false ∧ (c != 1) = true ∧ (c != 3) = true) := by
  by_cases h1 : c = 1
  · exact .inl h1
  by_cases h3 : c = 3
  · exact .inr (.inl h3)
  exact .inr (.inr ⟨by simpa using h1, by simpa using h3, by simpa using h1, by simpa using h3⟩)

theorem refFits_any (a b c : Int) (w : World) :
    Calls Try.prog 23 #[.int .i64 a, .int .i64 b, .int .i64 c] w fun e w' => e = .returned (.bool (fitsB a b c)) ∧ w = w' := by
  rcases chan_cases c with rfl | rfl | ⟨h1, h3, h1', h3'⟩
  all_goals
    go_enter Try.func23, Try.ntmps23
    go_wp2
  all_goals
    go_ret
    refine ⟨ret_bool ?_, rfl⟩
    unfold fitsB
    go_tidy
  all_goals first
    | (symm; rw [decide_eq_false_iff_not]; omega)
    | (have := mul_bd (a := a) (b := b) (by omega) (by omega) (by omega) (by omega); rw [wrap_in (x := a * b) (by omega) (by omega), decide_eq_decide]; omega)
    | (simp only [beq_eq_false_iff_ne] at h1 h3; symm; rw [decide_eq_false_iff_not]; omega)

theorem refCode_any (a b c m : Int) (w : World) :
    Calls Try.prog 21 #[.int .i64 a, .int .i64 b, .int .i64 c, .int .i64 m] w fun e w' => e = .returned (.int .i64 (codeR a b c m)) ∧ w = w' := by
  have hf : fitsB a b c = true ∨ fitsB a b c = false := by cases fitsB a b c <;> simp
  rcases chan_cases c with rfl | rfl | ⟨h1, h3, h1', h3'⟩ <;> rcases hf with hf | hf
  all_goals
    go_enter Try.func21, Try.ntmps21
    go_wp2_with (go_at_call 23; refine (refFits_any _ _ _ _).mono ?_; rintro e w' ⟨rfl, rfl⟩)
  all_goals
    go_ret
    refine ⟨ret_int ?_, rfl⟩
    unfold codeR
    go_tidy
  all_goals first
    | (rw [if_pos (by omega)]; done)
    | (rw [if_neg (by omega), if_neg (by omega), if_pos hf]; done)
    | (rw [if_neg (by omega), if_neg (by omega), if_neg (by rw [hf]; exact Bool.false_ne_true)]; done)
    | (simp only [beq_eq_false_iff_ne] at h1 h3; rw [if_neg (by omega), if_pos ⟨h1, h3⟩]; done)
end Go.Proofs.Ytnpkkcbgfnnfmaa
