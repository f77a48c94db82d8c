import Derived.Test.YtnpkkcbgfnnfmaaEb
/- Plain: all bins together are the channel's samples. -/
namespace Go.Proofs.Ytnpkkcbgfnnfmaa
def sumTo (l : List Int) : Nat → Int
  | 0 => 0
  | k + 1 => sumTo l k + l.getD k 0
theorem sumTo_hist (bins M : Int) (L : List Int) (n : Nat) (h : ∀ v ∈ L, 0 ≤ binV bins M v ∧ binV bins M v < n) : ∀ k, k ≤ n → sumTo (histL bins M L n) k = ((L.filter fun v => decide (binV bins M v < k)).length : Int)
  | 0, _ => by
    have : (L.filter fun v => decide (binV bins M v < ((0 : Nat) : Int))) = [] := by
      rw [List.filter_eq_nil_iff]
      intro v hv
      have := (h v hv).1
      simp
      omega
    rw [this]
    rfl
  | k + 1, hk => by
    have ih := sumTo_hist bins M L n h k (by omega)
    unfold sumTo
    rw [ih, histL_get _ _ _ (by omega)]
    unfold cntL
    rw [show ((k + 1 : Nat) : Int) = (k : Int) + 1 by push_cast; rfl]
    clear ih h
    induction L with
    | nil => rfl
    | cons v r ihr =>
      by_cases h1 : binV bins M v < (k : Int)
      · rw [List.filter_cons_of_pos (by simpa using h1), List.filter_cons_of_neg (by simp; omega), List.filter_cons_of_pos (by simp; omega), List.length_cons, List.length_cons]
        push_cast
        omega
      · by_cases h3 : binV bins M v = k
        · rw [List.filter_cons_of_neg (by simpa using h1), List.filter_cons_of_pos (by simpa using h3), List.filter_cons_of_pos (by simp; omega), List.length_cons, List.length_cons]
          push_cast
          omega
        · rw [List.filter_cons_of_neg (by simpa using h1), List.filter_cons_of_neg (by simpa using h3), List.filter_cons_of_neg (by simp; omega)]
          exact ihr
end Go.Proofs.Ytnpkkcbgfnnfmaa
