import Derived.Test.YtnpkkcbgfnnfmaaRMath
import Derived.Test.YtnpkkcbgfnnfmaaLMath
/- How two images differ, as plain numbers. -/
namespace Go.Proofs.Ytnpkkcbgfnnfmaa
set_option linter.unusedVariables false

structure DD where
  n : Int
  m : Int
  s : Int
  q : Int
  x : Int
  y : Int
  c : Int
def DD.zero : DD := ⟨0, 0, 0, 0, 0, 0, 0⟩
def absd (a b : Int) : Int := if a < b then b - a else a - b
def DD.step (d : DD) (b x y c : Int) : DD :=
  if b = 0 then d else ⟨d.n + 1, if d.m < b then b else d.m, d.s + b, d.q + b * b, if d.m < b then x else d.x, if d.m < b then y else d.y, if d.m < b then c else d.c⟩
def dTo (W C : Int) (xs ys : List Int) : Nat → DD
  | 0 => DD.zero
  | k + 1 => (dTo W C xs ys k).step (absd (xs.getD k 0) (ys.getD k 0)) ((k : Int) / C % W) ((k : Int) / C / W) ((k : Int) % C)

structure DBd (d : DD) (k : Int) : Prop where
  n0 : 0 ≤ d.n
  n1 : d.n ≤ k
  m0 : 0 ≤ d.m
  m1 : d.m ≤ 65535
  s0 : 0 ≤ d.s
  s1 : d.s ≤ 65535 * k
  q0 : 0 ≤ d.q
  q1 : d.q ≤ 4294836225 * k

theorem absd_bd {a b : Int} (ha : 0 ≤ a ∧ a ≤ 65535) (hb : 0 ≤ b ∧ b ≤ 65535) : 0 ≤ absd a b ∧ absd a b ≤ 65535 := by
  unfold absd
  split <;> omega
theorem absd_comm (a b : Int) : absd a b = absd b a := by
  unfold absd
  split <;> split <;> omega
theorem absd_self (a : Int) : absd a a = 0 := by
  unfold absd
  split <;> omega
theorem sq_bd {b : Int} (h0 : 0 ≤ b) (h1 : b ≤ 65535) : 0 ≤ b * b ∧ b * b ≤ 4294836225 := by
  have e1 : 0 ≤ b * b := Int.mul_nonneg h0 h0
  have e2 : b * b ≤ 65535 * 65535 := Int.mul_le_mul h1 h1 h0 (by omega)
  omega
theorem DBd.step {d : DD} {k b x y c : Int} (h : DBd d k) (h0 : 0 ≤ b) (h1 : b ≤ 65535) : DBd (d.step b x y c) (k + 1) := by
  obtain ⟨a1, a2, a3, a4, a5, a6, a7, a8⟩ := h
  have hs := sq_bd h0 h1
  unfold DD.step
  split
  · exact ⟨a1, by omega, a3, a4, a5, by omega, a7, by omega⟩
  · refine ⟨by show 0 ≤ d.n + 1; omega, by show d.n + 1 ≤ k + 1; omega, ?_, ?_, by show 0 ≤ d.s + b; omega, by show d.s + b ≤ _; omega, by show 0 ≤ d.q + b * b; omega, by show d.q + b * b ≤ _; omega⟩
    · show 0 ≤ if d.m < b then b else d.m
      split <;> omega
    · show (if d.m < b then b else d.m) ≤ 65535
      split <;> omega
def U16 (l : List Int) : Prop := ∀ q ∈ l, 0 ≤ q ∧ q ≤ 65535
theorem U16.getD {l : List Int} (h : U16 l) (k : Nat) : 0 ≤ l.getD k 0 ∧ l.getD k 0 ≤ 65535 := by
  rw [List.getD_eq_getElem?_getD]
  by_cases hk : k < l.length
  · rw [List.getElem?_eq_getElem hk]
    exact h _ (List.getElem_mem _)
  · rw [List.getElem?_eq_none (by omega)]
    simp
theorem dTo_bd (W C : Int) {xs ys : List Int} (hx : U16 xs) (hy : U16 ys) (k : Nat) : DBd (dTo W C xs ys k) k := by
  induction k with
  | zero => exact ⟨by simp [dTo, DD.zero], by simp [dTo, DD.zero], by simp [dTo, DD.zero], by simp [dTo, DD.zero], by simp [dTo, DD.zero], by simp [dTo, DD.zero], by simp [dTo, DD.zero], by simp [dTo, DD.zero]⟩
  | succ k ih =>
    have hb := absd_bd (hx.getD k) (hy.getD k)
    have := ih.step (x := (k : Int) / C % W) (y := (k : Int) / C / W) (c := (k : Int) % C) hb.1 hb.2
    rw [Int.natCast_add]
    exact this
theorem dTo_comm (W C : Int) (xs ys : List Int) (k : Nat) : dTo W C xs ys k = dTo W C ys xs k := by
  induction k with
  | zero => rfl
  | succ k ih => rw [dTo, dTo, ih, absd_comm]
theorem dTo_self (W C : Int) (xs : List Int) (k : Nat) : dTo W C xs xs k = DD.zero := by
  induction k with
  | zero => rfl
  | succ k ih => rw [dTo, ih, absd_self]; rfl

/-- where a place stands -/
theorem idx_parts {W C y x c : Nat} (hx : x < W) (hc : c < C) : ((y * W + x) * C + c) / C = y * W + x ∧ ((y * W + x) * C + c) % C = c ∧ (y * W + x) / W = y ∧ (y * W + x) % W = x := by
  refine ⟨?_, ?_, ?_, ?_⟩
  · rw [Nat.mul_comm, Nat.mul_add_div (by omega), Nat.div_eq_of_lt hc, Nat.add_zero]
  · rw [Nat.mul_comm, Nat.mul_add_mod, Nat.mod_eq_of_lt hc]
  · rw [Nat.mul_comm, Nat.mul_add_div (by omega), Nat.div_eq_of_lt hx, Nat.add_zero]
  · rw [Nat.mul_comm, Nat.mul_add_mod, Nat.mod_eq_of_lt hx]
theorem dTo_place {W C y x c : Nat} (hx : x < W) (hc : c < C) (xs ys : List Int) :
    dTo W C xs ys ((y * W + x) * C + c + 1) = (dTo W C xs ys ((y * W + x) * C + c)).step (absd (xs.getD ((y * W + x) * C + c) 0) (ys.getD ((y * W + x) * C + c) 0)) x y c := by
  obtain ⟨e1, e2, e3, e4⟩ := idx_parts (y := y) hx hc
  rw [dTo, ← Int.natCast_ediv, e1, ← Int.natCast_emod, e4, ← Int.natCast_ediv, e3, ← Int.natCast_emod, e2]
theorem place_nat (W C x y c : Nat) : (placeI W C x y c).toNat = (y * W + x) * C + c := by
  unfold placeI
  rw [← Int.natCast_mul, ← Int.natCast_add, ← Int.natCast_mul, ← Int.natCast_add, Int.toNat_natCast]
end Go.Proofs.Ytnpkkcbgfnnfmaa
