import Derived.Test.YtnpkkcbgfnnfmaaBase
import Derived.SizedLaws
import Derived.ChangeSlices
import Derived.OpenShut
/- What a slice of whole numbers that came in is, in the words of Base. -/
namespace Go.Proofs.Ytnpkkcbgfnnfmaa
open Go.RowKit Go.ChangeShapes Go.WideShapes
set_option linter.unusedVariables false
set_option linter.unusedSimpArgs false

theorem rd_of_arg {H : Type} {enc : TypeId × Value → H} {P : Program} {W : World} {base : Nat} {spare : Nat → Bool} {held : Bool} {t e : TypeId} {k : IntKind} {v : Value} {d : DataW H} {ps : List MemPlace} {ts : List TypeId} {ds : List (DataW H)} {j : Nat}
    (hsz : (DataW.weightsEach P ts ds).all (· ≤ reachBytes) = true) (ht : ts[j]? = some t) (hd : ds[j]? = some d) (hu : P.underlying t = some (.slice e)) (he : P.underlying e = some (.int k)) (hc : P.cellsOf e = 1) {B : Nat} (hB : P.bytesOf e = B)
    (hv : ∃ a len cap, v = .slice a len cap) (h : DataW.Trod enc P W base spare held t v d ps) :
    ∃ xs : List Int, Rd W k v xs ∧ (∀ x ∈ xs, (Lit.int k x).wf = true) ∧ xs.length * B ≤ 140737488351232 := by
  obtain ⟨a, len, cap, rfl⟩ := hv
  obtain ⟨fuel, hf⟩ := h
  rcases open_ints hu he hc hf with ⟨hcs, _⟩ | ⟨x, l, c, zs, hcs, _, hl, hm, hz, hx, hcell, hwf⟩
  · simp [Value.cells] at hcs
    obtain ⟨rfl, rfl, rfl⟩ := hcs
    exact ⟨[], Rd.nil _ _, by simp, by simp⟩
  · simp [Value.cells] at hcs
    obtain ⟨rfl, rfl, rfl⟩ := hcs
    obtain ⟨hx, _⟩ := Prod.mk.inj hx
    subst hx
    have z := sized_slice hsz ht hd hu
    rw [hB] at z
    have hl2 : len ≤ zs.length := by
      rw [hz]
      split
      · exact hl
      · exact Nat.le_refl _
    have h1 : (lits (H := H) k (zs.take len)).length + (lits (H := H) k (zs.drop len)).length = zs.length := by
      simp [lits]
      omega
    rw [h1] at z
    have hlen : (zs.take len).length = len := by rw [List.length_take]; omega
    refine ⟨zs.take len, ⟨by rw [List.length_map, hlen]; omega, .inr ⟨x, cap, by rw [List.length_map, hlen], by rw [List.length_map, hlen]; exact hl, hm, fun j u hu => ?_⟩⟩, fun y hy => hwf y (List.mem_of_mem_take hy), ?_⟩
    · rw [List.getElem?_map] at hu
      obtain ⟨y, hy, rfl⟩ := Option.map_eq_some_iff.1 hu
      rw [List.getElem?_take] at hy
      split at hy
      · obtain ⟨hlt, he⟩ := List.getElem?_eq_some_iff.1 hy
        rw [hcell j hlt, List.getD_eq_getElem?_getD, hy]
        rfl
      · cases hy
    · rw [hlen]
      exact Nat.le_trans (Nat.mul_le_mul_right _ hl2) z
end Go.Proofs.Ytnpkkcbgfnnfmaa
