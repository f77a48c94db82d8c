import Derived.Test.YtnpkkcbgfnnfmaaDoorHh
/- HeaderRemarks, plain. -/
namespace Go.Proofs.YtnpkkcbgfnnfmaaDoor
set_option linter.unusedVariables false
set_option linter.unusedSimpArgs false

theorem ovl_remark (l r : List Int) (h : ∀ x ∈ l, x ≠ 10 ∧ x ≠ 13) : ovl true true (l ++ 10 :: r) = ovl false true r := by
  induction l with
  | nil => exact ovl_out (.inl rfl)
  | cons x l ih =>
    have hx := h x List.mem_cons_self
    rw [List.cons_append, ovl_in hx.1 hx.2]
    exact ih fun y hy => h y (List.mem_cons_of_mem _ hy)
theorem ovl_gap (s : Bool) (l r : List Int) : ovl false s (gapL l ++ r) = ovl false true r := by
  unfold gapL
  rw [List.cons_append, List.cons_append, List.append_assoc, ovl_mark, ovl_in (by omega) (by omega)]
  refine ovl_remark _ r fun x hx => ?_
  have := (List.mem_filter.1 hx).2
  simpa using this
theorem posL_head (n : Nat) : ∃ d t, posL n = d :: t ∧ 48 ≤ d ∧ d ≤ 57 := by
  induction n using Nat.strongRecOn with
  | _ n ih =>
    by_cases h : n ≤ 9
    · exact ⟨48 + (n : Int), [], posL_small h, by omega, by omega⟩
    · obtain ⟨d, t, e, h1, h2⟩ := ih (n / 10) (by omega)
      exact ⟨d, t ++ [48 + ((n % 10 : Nat) : Int)], by rw [posL_big (by omega), e]; rfl, h1, h2⟩
theorem ovl_pos (s : Bool) (n : Nat) (r : List Int) : ovl false s (posL n ++ r) = (posL n ++ r, s) := by
  obtain ⟨d, t, e, h1, h2⟩ := posL_head n
  rw [e, List.cons_append]
  exact ovl_stop (by simp [blankB]; omega) (by omega)
theorem dgl_pos (n : Nat) (hn : n ≤ 1000000000) (r : List Int) : dgl 0 (posL n ++ r) = dgl n r := by
  induction n using Nat.strongRecOn generalizing r with
  | _ n ih =>
    by_cases h : n ≤ 9
    · rw [posL_small h, List.singleton_append, dgl_digit (by simp [digitB]; omega), if_neg (by omega)]
      congr 1
      omega
    · rw [posL_big (by omega), List.append_assoc, ih (n / 10) (by omega) (by omega), List.singleton_append, dgl_digit (by simp [digitB]; omega), if_neg (by omega)]
      congr 1
      omega
theorem numL_gap (l : List Int) (n : Nat) (hn : n ≤ 1000000000) (x : Int) (r : List Int) (hx : digitB x = false) : numL (gapL l ++ (posL n ++ x :: r)) = (0, (n : Int), x :: r) := by
  unfold numL
  rw [ovl_gap, ovl_pos]
  obtain ⟨d, t, e, h1, h2⟩ := posL_head n
  have hd := dgl_pos n hn (x :: r)
  rw [dgl_stop hx] at hd
  rw [e, List.cons_append] at hd ⊢
  rw [resN_ok (by simp [digitB]; omega), hd]

def remL (a b c : List Int) (W H M : Nat) : List Int := [80, 53] ++ gapL a ++ posL W ++ [32, 9] ++ gapL b ++ [32] ++ posL H ++ gapL c ++ posL M ++ [13]
theorem gapL_len (l : List Int) : (gapL l).length ≤ l.length + 2 := by
  unfold gapL
  have := List.length_filter_le (fun x => x != 10 && x != 13) l
  simp
  omega
theorem posL_len (n : Nat) (h : n ≤ 99999) : (posL n).length ≤ 5 := by
  by_cases h1 : n ≤ 9
  · rw [posL_small h1]; simp
  rw [posL_big (by omega)]
  by_cases h2 : n / 10 ≤ 9
  · rw [posL_small h2]; simp
  rw [posL_big (by omega)]
  by_cases h3 : n / 10 / 10 ≤ 9
  · rw [posL_small h3]; simp
  rw [posL_big (by omega)]
  by_cases h4 : n / 10 / 10 / 10 ≤ 9
  · rw [posL_small h4]; simp
  rw [posL_big (by omega), posL_small (by omega)]; simp

theorem remL_parse (a b c : List Int) (W H M : Nat) (w1 : 1 ≤ W) (w2 : W ≤ 2000) (h1 : 1 ≤ H) (h2 : H ≤ 2000) (m1 : 1 ≤ M) (m2 : M ≤ 65535) :
    parseL (remL a b c W H M) = (0, ⟨1, W, H, M, ((remL a b c W H M).length : Int)⟩) := by
  obtain ⟨N, hN⟩ : ∃ N, (remL a b c W H M).length = N := ⟨_, rfl⟩
  have e0 : remL a b c W H M = 80 :: 53 :: (gapL a ++ (posL W ++ (32 :: (9 :: (gapL b ++ (32 :: (posL H ++ (gapL c ++ (posL M ++ [13]))))))))) := by
    simp [remL]
  have n1 := numL_gap a W (by omega) 32 (9 :: (gapL b ++ (32 :: (posL H ++ (gapL c ++ (posL M ++ [13])))))) (by decide)
  have n2 : numL (32 :: 9 :: (gapL b ++ (32 :: (posL H ++ (gapL c ++ (posL M ++ [13])))))) = (0, (H : Int), gapL c ++ (posL M ++ [13])) := by
    unfold numL
    rw [ovl_blank (by decide), ovl_blank (by decide), ovl_gap, ovl_blank (by decide), ovl_pos]
    obtain ⟨d, t, e, k1, k2⟩ := posL_head H
    have hd := dgl_pos H (by omega) (gapL c ++ (posL M ++ [13]))
    have hg : gapL c ++ (posL M ++ [13]) = 35 :: ((c.filter (fun x => x != 10 && x != 13) ++ [10]) ++ (posL M ++ [13])) := rfl
    rw [hg, dgl_stop (by decide)] at hd
    rw [← hg] at hd
    rw [e, List.cons_append] at hd ⊢
    rw [resN_ok (by simp [digitB]; omega), hd]
  have n3 := numL_gap c M (by omega) 13 [] (by decide)
  have hm : magicL (remL a b c W H M) = 1 := by rw [e0]; rfl
  have hd2 : (remL a b c W H M).drop 2 = gapL a ++ (posL W ++ (32 :: (9 :: (gapL b ++ (32 :: (posL H ++ (gapL c ++ (posL M ++ [13])))))))) := by rw [e0]; rfl
  unfold parseL
  rw [hm, if_neg (by decide), hd2, hN]
  have hf : fitsB W H 1 = true := by
    unfold fitsB
    rw [decide_eq_true_eq]
    have h3 : (W : Int) * (H : Int) ≤ 2000 * 2000 := Int.mul_le_mul (by omega) (by omega) (by omega) (by omega)
    refine ⟨by omega, by omega, by omega, by omega, .inl rfl, by omega⟩
  have hj : judgeL 1 W H M = 0 := by
    unfold judgeL
    rw [if_neg (by omega), if_pos hf]
  rw [contP, n1, if_neg (fun h => h rfl), contP, n2, if_neg (fun h => h rfl), contP, n3, if_neg (fun h => h rfl), contP]
  simp only [tailP]
  rw [if_neg (by decide)]
  simp [hj]
end Go.Proofs.YtnpkkcbgfnnfmaaDoor
