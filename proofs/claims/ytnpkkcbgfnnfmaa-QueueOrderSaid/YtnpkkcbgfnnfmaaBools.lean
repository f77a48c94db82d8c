import Derived.Test.YtnpkkcbgfnnfmaaBase
/- Slices of bools. -/
namespace Go.Proofs.Ytnpkkcbgfnnfmaa
open Go.RowKit
set_option linter.unusedVariables false
set_option linter.unusedSimpArgs false

/-- a slice of bools -/
def RdB (w : World) (v : Value) (bs : List Bool) : Prop := RdV w v (bs.map Value.bool)
theorem RdB.below {w w' : World} {v : Value} {bs : List Bool} (h : RdB w v bs) (hb : Below w.heap.size w w') : RdB w' v bs := RdV.below (us := bs.map Value.bool) h hb
theorem RdB.form {w : World} {v : Value} {bs : List Bool} (h : RdB w v bs) : ∃ x c, v = .slice x bs.length c ∧ c ≤ maxLen ∧ bs.length ≤ c ∧ (x = none → bs = []) := by
  obtain ⟨_, h⟩ := h
  rcases h with ⟨rfl, h⟩ | ⟨x, c, rfl, h1, h2, _⟩
  · have : bs = [] := by simpa using h
    subst this
    exact ⟨none, 0, rfl, by simp, by simp, fun _ => rfl⟩
  · rw [List.length_map] at h1 ⊢
    exact ⟨some x, c, rfl, h2, h1, fun h => by cases h⟩
theorem RdB.get {w : World} {v : Value} {bs : List Bool} (h : RdB w v bs) {x : Addr} {n c : Nat} (hv : v = .slice (some x) n c) {j : Nat} (hj : j < bs.length) : ∃ u, Hid (bs.getD j false = u) ∧ w.cell? (x.add j) = some (.bool u) := by
  subst hv
  obtain ⟨_, h⟩ := h
  rcases h with ⟨h, _⟩ | ⟨x', c', h, _, _, hc⟩
  · cases h
  · cases h
    refine ⟨_, Lib.hid rfl, hc j _ ?_⟩
    rw [List.getElem?_map, List.getElem?_eq_getElem hj]
    simp [List.getD_eq_getElem?_getD, hj]

end Go.Proofs.Ytnpkkcbgfnnfmaa
