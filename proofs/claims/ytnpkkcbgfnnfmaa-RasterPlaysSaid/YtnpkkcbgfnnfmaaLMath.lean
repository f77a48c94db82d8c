import Derived.Test.YtnpkkcbgfnnfmaaRMath
/- plain lists -/
namespace Go.Proofs.Ytnpkkcbgfnnfmaa

theorem drop_getD {xs : List Int} {k : Nat} (h : k < xs.length) : xs.drop k = xs.getD k 0 :: xs.drop (k + 1) := by
  rw [List.drop_eq_getElem_cons h]
  simp [List.getD_eq_getElem?_getD, h]

/-- n numbers one behind the other, from s on -/
def seqI (s n : Nat) : List Int := (List.range n).map fun j => ((s + j : Nat) : Int)
theorem seqI_len (s n : Nat) : (seqI s n).length = n := by simp [seqI]
theorem seqI_snoc (s n : Nat) : seqI s (n + 1) = seqI s n ++ [((s + n : Nat) : Int)] := by
  unfold seqI
  rw [List.range_succ, List.map_append]
  rfl
theorem seqI_cons (s n : Nat) : seqI s (n + 1) = (s : Int) :: seqI (s + 1) n := by
  unfold seqI
  rw [List.range_succ_eq_map, List.map_cons, List.map_map]
  congr 1
  apply List.map_congr_left
  intro j _
  simp only [Function.comp]
  congr 1
  omega
theorem seqI_zero (s : Nat) : seqI s 0 = [] := rfl
end Go.Proofs.Ytnpkkcbgfnnfmaa
