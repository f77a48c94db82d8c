import Derived.Test.YtnpkkcbgfnnfmaaDMath
/- DiffBounds, plain: what holds of how two images differ. -/
namespace Go.Proofs.Ytnpkkcbgfnnfmaa
set_option linter.unusedVariables false

/-- behind k places -/
structure DI (W H C : Int) (xs ys : List Int) (k : Nat) (d : DD) : Prop where
  x0 : 0 ≤ d.x
  x1 : d.x < W
  y0 : 0 ≤ d.y
  y1 : d.y < H
  c0 : 0 ≤ d.c
  c1 : d.c < C
  ns : d.n ≤ d.s
  snm : d.s ≤ d.n * d.m
  sq : d.s ≤ d.q
  qsm : d.q ≤ d.s * d.m
  n0 : 0 ≤ d.n
  nk : d.n ≤ k
  s0 : 0 ≤ d.s
  m0 : 0 ≤ d.m
  zm : d.n = 0 → d.m = 0
  zx : d.n = 0 → d.x = 0 ∧ d.y = 0 ∧ d.c = 0
  pm : 0 < d.n → 1 ≤ d.m ∧ absd (xs.getD (placeI W C d.x d.y d.c).toNat 0) (ys.getD (placeI W C d.x d.y d.c).toNat 0) = d.m
  eq : d.n = 0 ↔ ∀ j, j < k → xs.getD j 0 = ys.getD j 0

theorem absd_zero {a b : Int} : absd a b = 0 ↔ a = b := by
  unfold absd
  split <;> omega
theorem absd_nonneg (a b : Int) : 0 ≤ absd a b := by
  unfold absd
  split <;> omega

theorem place_back {W C : Int} (hW : 1 ≤ W) (hC : 1 ≤ C) (k : Int) : placeI W C (k / C % W) (k / C / W) (k % C) = k := by
  unfold placeI
  have e1 : k / C / W * W + k / C % W = k / C := Int.ediv_mul_add_emod (k / C) W
  rw [e1]
  exact Int.ediv_mul_add_emod k C

theorem dTo_DI {W H C : Int} (hW : 1 ≤ W) (hH : 1 ≤ H) (hC : 1 ≤ C) (xs ys : List Int) (k : Nat) (hk : (k : Int) ≤ W * H * C) : DI W H C xs ys k (dTo W C xs ys k) := by
  induction k with
  | zero =>
    refine ⟨?_, ?_, ?_, ?_, ?_, ?_, ?_, ?_, ?_, ?_, ?_, ?_, ?_, ?_, ?_, ?_, ?_, ?_⟩ <;> simp [dTo, DD.zero] <;> omega
  | succ k ih =>
    have ih := ih (by omega)
    have hk' : (k : Int) < W * H * C := by omega
    obtain ⟨d, hd⟩ : ∃ d, dTo W C xs ys k = d := ⟨_, rfl⟩
    rw [dTo, hd]
    rw [hd] at ih
    obtain ⟨b, hb⟩ : ∃ b, absd (xs.getD k 0) (ys.getD k 0) = b := ⟨_, rfl⟩
    have hb0 := absd_nonneg (xs.getD k 0) (ys.getD k 0)
    have hbz := absd_zero (a := xs.getD k 0) (b := ys.getD k 0)
    have hpb := place_back hW hC (k : Int)
    have hx0 := Int.emod_nonneg ((k : Int) / C) (show W ≠ 0 by omega)
    have hx1 := Int.emod_lt_of_pos ((k : Int) / C) (show 0 < W by omega)
    have hc0 := Int.emod_nonneg (k : Int) (show C ≠ 0 by omega)
    have hc1 := Int.emod_lt_of_pos (k : Int) (show 0 < C by omega)
    have hkc : 0 ≤ (k : Int) / C := Int.ediv_nonneg (by omega) (by omega)
    have hy0 : 0 ≤ (k : Int) / C / W := Int.ediv_nonneg hkc (by omega)
    have hy1 : (k : Int) / C / W < H := by
      refine Int.ediv_lt_of_lt_mul (by omega) (Int.ediv_lt_of_lt_mul (by omega) ?_)
      rw [Int.mul_comm H W]
      exact hk'
    rw [hb] at hb0 hbz ⊢
    obtain ⟨a1, a2, a3, a4, a5, a6, ns, snm, sq, qsm, n0, nk, s0, m0, zm, zx, pm, eq⟩ := ih
    unfold DD.step
    by_cases hbb : b = 0
    · rw [if_pos hbb]
      refine ⟨a1, a2, a3, a4, a5, a6, ns, snm, sq, qsm, n0, by omega, s0, m0, zm, zx, pm, ?_⟩
      rw [eq]
      constructor
      · intro h j hj
        rcases Nat.lt_or_ge j k with hlt | hge
        · exact h j hlt
        · obtain rfl : j = k := by omega
          exact hbz.1 hbb
      · intro h j hj
        exact h j (by omega)
    · rw [if_neg hbb]
      have hb1 : 1 ≤ b := by omega
      have hbb2 : b ≤ b * b := by
        have := Int.mul_le_mul_of_nonneg_left hb1 (show 0 ≤ b by omega)
        omega
      by_cases hm : d.m < b
      · simp only [hm, if_true]
        have e1 : d.n * d.m ≤ d.n * b := Int.mul_le_mul_of_nonneg_left (by omega) n0
        have e2 : d.s * d.m ≤ d.s * b := Int.mul_le_mul_of_nonneg_left (by omega) s0
        have e3 : (d.n + 1) * b = d.n * b + b := by rw [Int.add_mul, Int.one_mul]
        have e4 : (d.s + b) * b = d.s * b + b * b := Int.add_mul _ _ _
        refine ⟨hx0, hx1, hy0, hy1, hc0, hc1, by show d.n + 1 ≤ d.s + b; omega, by show d.s + b ≤ (d.n + 1) * b; omega, by show d.s + b ≤ d.q + b * b; omega, by show d.q + b * b ≤ (d.s + b) * b; omega, by show 0 ≤ d.n + 1; omega, by show d.n + 1 ≤ _; omega, by show 0 ≤ d.s + b; omega, by show 0 ≤ b; omega, fun h => ?_, fun h => ?_, fun _ => ⟨hb1, ?_⟩, ?_⟩
        · have : d.n + 1 = 0 := h
          omega
        · have : d.n + 1 = 0 := h
          omega
        · show absd (xs.getD (placeI W C ((k : Int) / C % W) ((k : Int) / C / W) ((k : Int) % C)).toNat 0) (ys.getD (placeI W C ((k : Int) / C % W) ((k : Int) / C / W) ((k : Int) % C)).toNat 0) = b
          rw [hpb, Int.toNat_natCast, hb]
        · constructor
          · intro h
            have : d.n + 1 = 0 := h
            omega
          · intro h
            exact absurd (hbz.2 (h k (by omega))) hbb
      · simp only [hm, if_false]
        have e1 : (d.n + 1) * d.m = d.n * d.m + d.m := by rw [Int.add_mul, Int.one_mul]
        have e2 : (d.s + b) * d.m = d.s * d.m + b * d.m := Int.add_mul _ _ _
        have e3 : b * b ≤ b * d.m := Int.mul_le_mul_of_nonneg_left (by omega) (by omega)
        have hn1 : 0 < d.n := by
          rcases Int.lt_or_le 0 d.n with h | h
          · exact h
          · have := zm (by omega)
            omega
        obtain ⟨p1, p2⟩ := pm hn1
        refine ⟨a1, a2, a3, a4, a5, a6, by show d.n + 1 ≤ d.s + b; omega, by show d.s + b ≤ (d.n + 1) * d.m; omega, by show d.s + b ≤ d.q + b * b; omega, by show d.q + b * b ≤ (d.s + b) * d.m; omega, by show 0 ≤ d.n + 1; omega, by show d.n + 1 ≤ _; omega, by show 0 ≤ d.s + b; omega, m0, fun h => ?_, fun h => ?_, fun _ => ⟨p1, p2⟩, ?_⟩
        · have : d.n + 1 = 0 := h
          omega
        · have : d.n + 1 = 0 := h
          omega
        · constructor
          · intro h
            have : d.n + 1 = 0 := h
            omega
          · intro h
            exact absurd (hbz.2 (h k (by omega))) hbb

theorem getD_ext {xs ys : List Int} (hl : ys.length = xs.length) : (∀ j, j < xs.length → xs.getD j 0 = ys.getD j 0) ↔ xs = ys := by
  constructor
  · intro h
    apply List.ext_getElem hl.symm
    intro i h1 h2
    have := h i h1
    simpa [List.getD_eq_getElem?_getD, h1, h2] using this
  · rintro rfl _ _
    rfl
end Go.Proofs.Ytnpkkcbgfnnfmaa
