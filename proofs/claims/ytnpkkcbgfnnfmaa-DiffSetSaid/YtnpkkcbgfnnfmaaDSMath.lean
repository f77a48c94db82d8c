import Derived.Test.YtnpkkcbgfnnfmaaDMath
/- DiffSet, plain: of a list and that list with one number set, how they differ. -/
namespace Go.Proofs.Ytnpkkcbgfnnfmaa
set_option linter.unusedVariables false

theorem getD_set_ne {xs : List Int} {j k : Nat} (h : k ≠ j) (t : Int) : (xs.set j t).getD k 0 = xs.getD k 0 := by
  rw [List.getD_eq_getElem?_getD, List.getD_eq_getElem?_getD, List.getElem?_set_ne (Ne.symm h)]
theorem getD_set_eq {xs : List Int} {j : Nat} (h : j < xs.length) (t : Int) : (xs.set j t).getD j 0 = t := by
  rw [List.getD_eq_getElem?_getD, List.getElem?_set_self h]
  rfl
theorem dTo_set (W C : Int) (xs : List Int) {j : Nat} (hj : j < xs.length) (t : Int) (k : Nat) :
    dTo W C xs (xs.set j t) k = if k ≤ j then DD.zero else DD.zero.step (absd (xs.getD j 0) t) ((j : Int) / C % W) ((j : Int) / C / W) ((j : Int) % C) := by
  induction k with
  | zero => rw [if_pos (by omega)]; rfl
  | succ k ih =>
    rw [dTo, ih]
    by_cases h1 : k + 1 ≤ j
    · rw [if_pos (by omega), if_pos h1, getD_set_ne (by omega), absd_self]
      rfl
    · by_cases h2 : k = j
      · subst h2
        rw [if_pos (Nat.le_refl _), if_neg h1, getD_set_eq hj]
      · rw [if_neg (by omega), if_neg h1, getD_set_ne h2, absd_self]
        rfl
theorem dTo_set_at {W C : Nat} {y x c : Nat} (hx : x < W) (hc : c < C) (xs : List Int) {j : Nat} (hjj : (y * W + x) * C + c = j) (hj : j < xs.length) (t : Int) :
    dTo W C xs (xs.set j t) xs.length = DD.zero.step (absd (xs.getD j 0) t) x y c := by
  rw [dTo_set W C xs hj t, if_neg (by omega), ← hjj]
  obtain ⟨e1, e2, e3, e4⟩ := idx_parts (y := y) hx hc
  rw [← Int.natCast_ediv, e1, ← Int.natCast_emod, e4, ← Int.natCast_ediv, e3, ← Int.natCast_emod, e2]
theorem zero_step {b x y c : Int} (h : 0 < b) : DD.zero.step b x y c = ⟨1, b, b, b * b, x, y, c⟩ := by
  have e1 : DD.zero.m = 0 := rfl
  unfold DD.step
  rw [if_neg (by omega), e1, if_pos h, if_pos h, if_pos h, if_pos h]
  simp [DD.zero]
end Go.Proofs.Ytnpkkcbgfnnfmaa
