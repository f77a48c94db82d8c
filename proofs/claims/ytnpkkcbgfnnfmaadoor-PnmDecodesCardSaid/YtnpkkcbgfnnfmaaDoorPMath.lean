import Derived.Test.YtnpkkcbgfnnfmaaDoorKb
/- Plain: how many bytes a sample has, all samples; an image's bytes. -/
namespace Go.Proofs.YtnpkkcbgfnnfmaaDoor

def wdL (m : Int) : Int := if m < 256 then 1 else 2
def szL (c x y m : Int) : Int := if m < 1 ∨ 65535 < m ∨ fitsB x y c = false then 0 else x * y * c * wdL m
/-- samples as bytes -/
def pxL (m : Int) : List Int → List Int
  | [] => []
  | v :: r => (if m < 256 then [v % 256] else [v / 256, v % 256]) ++ pxL m r
def encL (W H C M : Int) (xs : List Int) : List Int := tL C W H M ++ pxL M xs

theorem pxL_app (m : Int) (a b : List Int) : pxL m (a ++ b) = pxL m a ++ pxL m b := by
  induction a with
  | nil => rfl
  | cons v r ih => simp [pxL, ih]
theorem pxL_len (m : Int) (a : List Int) : ((pxL m a).length : Int) = a.length * wdL m := by
  by_cases h : m < 256
  · have e : wdL m = 1 := by unfold wdL; rw [if_pos h]
    rw [e]
    induction a with
    | nil => simp [pxL]
    | cons v r ih =>
      simp only [pxL, h, if_true, List.length_append, List.length_cons, List.length_nil]
      omega
  · have e : wdL m = 2 := by unfold wdL; rw [if_neg h]
    rw [e]
    induction a with
    | nil => simp [pxL]
    | cons v r ih =>
      simp only [pxL, h, if_false, List.length_append, List.length_cons, List.length_nil]
      omega
theorem pxL_b (m : Int) (a : List Int) (h : ∀ x ∈ a, 0 ≤ x ∧ x ≤ 65535) : ∀ x ∈ pxL m a, 0 ≤ x ∧ x ≤ 255 := by
  induction a with
  | nil => intro x hx; simp [pxL] at hx
  | cons v r ih =>
    intro x hx
    unfold pxL at hx
    rw [List.mem_append] at hx
    have hv := h v (by simp)
    rcases hx with hx | hx
    · split at hx <;> simp at hx <;> omega
    · exact ih (fun y hy => h y (by simp [hy])) x hx
theorem wdL_vals (m : Int) : wdL m = 1 ∨ wdL m = 2 := by unfold wdL; split <;> omega
theorem szL_of {c x y m : Int} (h : codeR x y c m = 0) : szL c x y m = x * y * c * wdL m := by
  obtain ⟨m1, m2, hc, w1, w2, h1, h2, -, -, p1, p2⟩ := codeR_zero h
  unfold szL
  rw [if_neg]
  rintro (h | h | h)
  · omega
  · omega
  · unfold fitsB at h
    rw [decide_eq_false_iff_not] at h
    exact h ⟨w1, w2, h1, h2, hc, p2⟩
end Go.Proofs.YtnpkkcbgfnnfmaaDoor
