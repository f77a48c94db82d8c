import Derived.Test.YtnpkkcbgfnnfmaaRowBase
import Derived.Test.YtnpkkcbgfnnfmaaBools
import Derived.Deep.Grids
/- What a slice of bools that came in is. -/
namespace Go.Proofs.Ytnpkkcbgfnnfmaa
open Go.RowKit Go.ChangeShapes Go.WideShapes
set_option linter.unusedVariables false
set_option linter.unusedSimpArgs false

theorem rdb_of_arg {H : Type} {enc : TypeId × Value → H} {P : Program} {W : World} {base : Nat} {held : Bool} {t e : TypeId} {v : Value} {d : DataW H} {ps : List MemPlace}
    (hu : P.underlying t = some (.slice e)) (he : P.underlying e = some .bool) (hc : P.cellsOf e = 1)
    (hv : ∃ a len cap, v = .slice a len cap) (h : DataW.Trod enc P W base (fun _ => true) held t v d ps) :
    ∃ bs : List Bool, RdB W v bs := by
  obtain ⟨a, len, cap, rfl⟩ := hv
  obtain ⟨fuel, hf⟩ := h
  rcases Go.Deep.open_bools hu he hc hf with ⟨hcs, _⟩ | ⟨x, l, c, z, hcs, _, hl, hm, hx, hcell⟩
  · simp [Value.cells] at hcs
    obtain ⟨rfl, rfl, rfl⟩ := hcs
    exact ⟨[], by simp [maxLen], .inl ⟨rfl, rfl⟩⟩
  · simp [Value.cells] at hcs
    obtain ⟨rfl, rfl, rfl⟩ := hcs
    refine ⟨(List.range len).map z, by simp; omega, .inr ⟨x, cap, by simp, by simpa using hl, hm, fun j u hj => ?_⟩⟩
    simp only [List.map_map, List.getElem?_map] at hj
    obtain ⟨y, hy, rfl⟩ := Option.map_eq_some_iff.1 hj
    obtain ⟨h1, h2⟩ := List.getElem?_eq_some_iff.1 hy
    simp at h1 h2
    subst h2
    exact hcell j (by omega)
end Go.Proofs.Ytnpkkcbgfnnfmaa
