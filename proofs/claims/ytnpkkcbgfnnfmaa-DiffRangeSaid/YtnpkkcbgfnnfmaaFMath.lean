import Derived.Test.YtnpkkcbgfnnfmaaEMath
/- Plain: the least, the greatest, the sum, the mean. -/
namespace Go.Proofs.Ytnpkkcbgfnnfmaa
set_option linter.unusedVariables false

/-- rounded -/
def rdiv (a b : Int) : Int := if a % b * 2 < b then a / b else a / b + 1

def mnTo (m : Int) (xs : List Int) : Nat → Int
  | 0 => m
  | k + 1 => min (mnTo m xs k) (xs.getD k 0)
def mxTo (m : Int) (xs : List Int) : Nat → Int
  | 0 => m
  | k + 1 => max (mxTo m xs k) (xs.getD k 0)
theorem mnTo_step {m : Int} {xs : List Int} {k : Nat} {u : Int} (h : xs.getD k 0 = u) : mnTo m xs (k + 1) = min (mnTo m xs k) u := by rw [mnTo, h]
theorem mxTo_step {m : Int} {xs : List Int} {k : Nat} {u : Int} (h : xs.getD k 0 = u) : mxTo m xs (k + 1) = max (mxTo m xs k) u := by rw [mxTo, h]
theorem mnTo_same {m m' : Int} {xs : List Int} (h : ∀ k, xs.getD k 0 ≤ m) (h' : ∀ k, xs.getD k 0 ≤ m') : ∀ k, mnTo m xs (k + 1) = mnTo m' xs (k + 1)
  | 0 => by
    have h1 := h 0
    have h2 := h' 0
    simp only [mnTo]
    omega
  | k + 1 => by
    have ih := mnTo_same h h' k
    rw [mnTo, ih]
    rfl
theorem mnTo_le {m : Int} {xs : List Int} : ∀ k j, j < k → mnTo m xs k ≤ xs.getD j 0
  | k + 1, j, hj => by
    rw [mnTo]
    rcases Nat.lt_or_ge j k with h | h
    · have := mnTo_le (m := m) (xs := xs) k j h
      omega
    · obtain rfl : j = k := by omega
      omega
theorem le_mxTo {m : Int} {xs : List Int} : ∀ k j, j < k → xs.getD j 0 ≤ mxTo m xs k
  | k + 1, j, hj => by
    rw [mxTo]
    rcases Nat.lt_or_ge j k with h | h
    · have := le_mxTo (m := m) (xs := xs) k j h
      omega
    · obtain rfl : j = k := by omega
      omega
theorem mnTo_bd {m : Int} {xs : List Int} (hm : 0 ≤ m ∧ m ≤ 65535) (h : ∀ k, 0 ≤ xs.getD k 0 ∧ xs.getD k 0 ≤ 65535) : ∀ k, 0 ≤ mnTo m xs k ∧ mnTo m xs k ≤ 65535
  | 0 => hm
  | k + 1 => by
    have := mnTo_bd hm h k
    have := h k
    rw [mnTo]
    omega
theorem mxTo_bd {m : Int} {xs : List Int} (hm : 0 ≤ m ∧ m ≤ 65535) (h : ∀ k, 0 ≤ xs.getD k 0 ∧ xs.getD k 0 ≤ 65535) : ∀ k, 0 ≤ mxTo m xs k ∧ mxTo m xs k ≤ 65535
  | 0 => hm
  | k + 1 => by
    have := mxTo_bd hm h k
    have := h k
    rw [mxTo]
    omega

def sm : List Int → Int
  | [] => 0
  | a :: l => a + sm l
theorem sm_app (l : List Int) (v : Int) : sm (l ++ [v]) = sm l + v := by
  induction l with
  | nil => simp [sm]
  | cons a l ih => simp only [List.cons_append, sm, ih]; omega
theorem sm_bd {lo hi : Int} {l : List Int} (h : ∀ v ∈ l, lo ≤ v ∧ v ≤ hi) : lo * l.length ≤ sm l ∧ sm l ≤ hi * l.length := by
  induction l with
  | nil => simp [sm]
  | cons a l ih =>
    have h1 := h a (List.mem_cons_self ..)
    obtain ⟨h2, h3⟩ := ih fun v hv => h v (List.mem_cons_of_mem _ hv)
    simp only [sm, List.length_cons]
    push_cast
    rw [Int.mul_add, Int.mul_add, Int.mul_one, Int.mul_one]
    omega
theorem sm_take {l : List Int} {k : Nat} {u : Int} (hk : k < l.length) (h : l.getD k 0 = u) : sm (l.take (k + 1)) = sm (l.take k) + u := by
  have h2 : l[k]? = some u := by
    rw [List.getD_eq_getElem?_getD, List.getElem?_eq_getElem hk] at h
    rw [List.getElem?_eq_getElem hk, ← h]
    rfl
  rw [List.take_add_one, h2]
  exact sm_app _ _
theorem sm_ch {C c : Int} {xs : List Int} {k : Nat} {u : Int} (h : xs.getD k 0 = u) : sm (chTo C c xs (k + 1)) = sm (chTo C c xs k) + if (k : Int) % C = c then u else 0 := by
  rw [chTo, h]
  split
  · exact sm_app _ _
  · rw [List.append_nil]; omega
theorem rdiv_bd {a n lo hi : Int} (hn : 1 ≤ n) (h1 : lo * n ≤ a) (h2 : a ≤ hi * n) : lo ≤ rdiv a n ∧ rdiv a n ≤ hi := by
  have e := Int.ediv_mul_add_emod a n
  have r0 := Int.emod_nonneg a (show n ≠ 0 by omega)
  have q0 : lo ≤ a / n := Int.le_ediv_of_mul_le (by omega) h1
  unfold rdiv
  split
  · exact ⟨q0, Int.ediv_le_of_le_mul (by omega) h2⟩
  · refine ⟨by omega, ?_⟩
    have h3 : a / n < hi := by
      refine Int.lt_of_mul_lt_mul_right (a := n) ?_ (by omega)
      omega
    omega
end Go.Proofs.Ytnpkkcbgfnnfmaa
