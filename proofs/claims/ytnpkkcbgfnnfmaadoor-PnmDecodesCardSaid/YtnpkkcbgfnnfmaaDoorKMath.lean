import Derived.Test.YtnpkkcbgfnnfmaaDoorHRMath
/- A head's text, plain: it is parsed, whatever follows; cut off anywhere it ends, or is no head. -/
namespace Go.Proofs.YtnpkkcbgfnnfmaaDoor
set_option linter.unusedVariables false
set_option linter.unusedSimpArgs false

/-- a head's text, of numbers that aren't below 0 -/
def txL (c : Int) (W H M : Nat) : List Int := [80, if c = 3 then 54 else 53, 10] ++ posL W ++ [32] ++ posL H ++ [10] ++ posL M ++ [10]
theorem txL_eq (c : Int) (W H M : Nat) (r : List Int) : txL c W H M ++ r = 80 :: (if c = 3 then 54 else 53) :: (10 :: (posL W ++ (32 :: (posL H ++ (10 :: (posL M ++ (10 :: r))))))) := by
  simp [txL]

theorem numL_blank (b : Int) (hb : blankB b = true) (n : Nat) (hn : n ≤ 1000000000) (x : Int) (r : List Int) (hx : digitB x = false) : numL (b :: (posL n ++ x :: r)) = (0, (n : Int), x :: r) := by
  unfold numL
  rw [ovl_blank hb, ovl_pos]
  obtain ⟨d, t, e, h1, h2⟩ := posL_head n
  have hd := dgl_pos n hn (x :: r)
  rw [dgl_stop hx] at hd
  rw [e, List.cons_append] at hd ⊢
  rw [resN_ok (by simp [digitB]; omega), hd]

theorem tx_parse (c : Int) (hc : c = 1 ∨ c = 3) (W H M : Nat) (hf : fitsB W H c = true) (m1 : 1 ≤ M) (m2 : M ≤ 65535) (r : List Int) :
    parseL (txL c W H M ++ r) = (0, ⟨c, W, H, M, ((txL c W H M).length : Int)⟩) := by
  have hfd : (1 : Int) ≤ W ∧ (W : Int) ≤ 65536 ∧ (1 : Int) ≤ H ∧ (H : Int) ≤ 65536 := by
    unfold fitsB at hf
    rw [decide_eq_true_eq] at hf
    exact ⟨hf.1, hf.2.1, hf.2.2.1, hf.2.2.2.1⟩
  have e0 := txL_eq c W H M r
  have n1 := numL_blank 10 (by decide) W (by omega) 32 (posL H ++ (10 :: (posL M ++ (10 :: r)))) (by decide)
  have n2 := numL_blank 32 (by decide) H (by omega) 10 (posL M ++ (10 :: r)) (by decide)
  have n3 := numL_blank 10 (by decide) M (by omega) 10 r (by decide)
  have hm : magicL (txL c W H M ++ r) = c := by
    rw [e0]
    rcases hc with rfl | rfl <;> rfl
  have hd2 : (txL c W H M ++ r).drop 2 = 10 :: (posL W ++ (32 :: (posL H ++ (10 :: (posL M ++ (10 :: r)))))) := by rw [e0]; rfl
  have hj : judgeL c W H M = 0 := by
    unfold judgeL
    rw [if_neg (by omega), if_pos hf]
  unfold parseL
  rw [hm, if_neg (by omega), hd2, contP, n1, if_neg (fun h => h rfl), contP, n2, if_neg (fun h => h rfl), contP, n3, if_neg (fun h => h rfl), contP]
  simp only [tailP]
  rw [if_neg (by decide)]
  simp [hj]
  omega

/-! ### cut off -/
def Dig (l : List Int) : Prop := ∀ x ∈ l, digitB x = true
theorem posL_dig (n : Nat) : Dig (posL n) := by
  induction n using Nat.strongRecOn with
  | _ n ih =>
    intro x hx
    by_cases h : n ≤ 9
    · rw [posL_small h] at hx
      simp at hx
      simp [digitB]
      omega
    · rw [posL_big (by omega)] at hx
      rcases List.mem_append.1 hx with hx | hx
      · exact ih _ (by omega) x hx
      · simp at hx
        simp [digitB]
        omega
theorem dgl_dig (l : List Int) (h : Dig l) (m : Int) : (dgl m l).2 = [] := by
  induction l generalizing m with
  | nil => rfl
  | cons x l ih =>
    rw [dgl_digit (h x List.mem_cons_self)]
    exact ih (fun y hy => h y (List.mem_cons_of_mem _ hy)) _
theorem numL_end (b : Int) (hb : blankB b = true) (p : List Int) (hp : Dig p) : (numL (b :: p)).1 = 3 ∨ ((numL (b :: p)).1 = 0 ∧ (numL (b :: p)).2.2 = []) := by
  unfold numL
  rw [ovl_blank hb]
  cases p with
  | nil => exact .inl rfl
  | cons d t =>
    have hd := hp d List.mem_cons_self
    have h48 : 48 ≤ d ∧ d ≤ 57 := by simpa [digitB] using hd
    rw [ovl_stop (by simp [blankB]; omega) (by omega), resN_ok hd]
    exact .inr ⟨rfl, dgl_dig _ hp 0⟩
theorem numL_nil : numL [] = (3, 0, []) := rfl
theorem cont_nil (c : Int) (N r : Nat) (x y m : Int) : contP c N r x y m [] = (3, Hd.none) := by
  cases r with
  | zero => rfl
  | succ r => rw [contP, numL_nil]; rfl
theorem cont_end (c : Int) (N r : Nat) (x y m : Int) (b : Int) (hb : blankB b = true) (p : List Int) (hp : Dig p) : contP c N (r + 1) x y m (b :: p) = (3, Hd.none) := by
  rw [contP]
  rcases numL_end b hb p hp with h | ⟨h1, h2⟩
  · rw [h]; rfl
  · rw [h1, h2, if_neg (fun h => h rfl)]
    exact cont_nil _ _ _ _ _ _
theorem Dig.take {l : List Int} (h : Dig l) (k : Nat) : Dig (l.take k) := fun x hx => h x (List.mem_of_mem_take hx)

/-- one number of a text that is cut off -/
theorem cont_cut (c : Int) (N r : Nat) (b : Int) (hb : blankB b = true) (n : Nat) (hn : n ≤ 1000000000) (z : Int) (hz : digitB z = false) (t : List Int) (x y m : Int) (j : Nat)
    (hrest : ∀ (x y m : Int) (i : Nat), i < t.length + 1 → contP c N r x y m (z :: t.take i) = (3, Hd.none) ∨ t.length ≤ i) (hj : j < (b :: (posL n ++ z :: t)).length) :
    contP c N (r + 1) x y m ((b :: (posL n ++ z :: t)).take j) = (3, Hd.none) := by
  cases j with
  | zero => exact cont_nil _ _ _ _ _ _
  | succ j =>
    rw [List.take_succ_cons]
    by_cases h : j ≤ (posL n).length
    · rw [List.take_append_of_le_length h]
      exact cont_end _ _ _ _ _ _ _ hb _ ((posL_dig n).take j)
    · obtain ⟨i, rfl⟩ : ∃ i, j = (posL n).length + (i + 1) := ⟨j - (posL n).length - 1, by omega⟩
      rw [List.take_length_add_append, List.take_succ_cons, contP, numL_blank b hb n hn z _ hz, if_neg (fun h => h rfl)]
      have hi : i < t.length := by simp at hj; omega
      rcases hrest (if r = 2 then (n : Int) else x) (if r = 1 then (n : Int) else y) (if r = 0 then (n : Int) else m) i (by omega) with h | h
      · exact h
      · omega

theorem tx_cut (c : Int) (hc : c = 1 ∨ c = 3) (W H M : Nat) (hW : W ≤ 1000000000) (hH : H ≤ 1000000000) (hM : M ≤ 1000000000) (k : Nat) (hk : k < (txL c W H M).length) :
    parseL ((txL c W H M).take k) = (if k < 2 then 1 else 3, Hd.none) := by
  have e0 := txL_eq c W H M []
  rw [List.append_nil] at e0
  have hmB : ∀ t, magicL (80 :: (if c = 3 then (54 : Int) else 53) :: t) = c := fun t => by rcases hc with rfl | rfl <;> rfl
  obtain ⟨B, hB⟩ : ∃ B, (if c = 3 then (54 : Int) else 53) = B := ⟨_, rfl⟩
  rw [hB] at e0 hmB
  clear hB
  rw [e0] at hk ⊢
  match k, hk with
  | 0, _ => rfl
  | 1, _ => rfl
  | k + 2, hk =>
    rw [List.take_succ_cons, List.take_succ_cons]
    unfold parseL
    rw [hmB, if_neg (by omega), if_neg (by omega)]
    obtain ⟨N, hN⟩ : ∃ N, (80 :: B :: (10 :: (posL W ++ (32 :: (posL H ++ (10 :: (posL M ++ [10])))))).take k).length = N := ⟨_, rfl⟩
    rw [hN]
    show contP c N 3 0 0 0 ((10 :: (posL W ++ (32 :: (posL H ++ (10 :: (posL M ++ [10])))))).take k) = (3, Hd.none)
    refine cont_cut c N 2 10 (by decide) W hW 32 (by decide) _ _ _ _ k (fun x y m i hi => ?_) (by simp at hk ⊢; omega)
    by_cases h : (posL H ++ (10 :: (posL M ++ [10]))).length ≤ i
    · exact .inr h
    refine .inl ?_
    have := cont_cut c N 1 32 (by decide) H hH 10 (by decide) (posL M ++ [10]) x y m (i + 1) (fun x y m i hi => ?_) (by simp at h ⊢; omega)
    · rwa [List.take_succ_cons] at this
    by_cases h : (posL M ++ [10]).length ≤ i
    · exact .inr h
    refine .inl ?_
    have := cont_cut c N 0 10 (by decide) M hM 10 (by decide) [] x y m (i + 1) (fun x y m i hi => .inr (by simp)) (by simp at h ⊢; omega)
    rwa [List.take_succ_cons] at this
end Go.Proofs.YtnpkkcbgfnnfmaaDoor
