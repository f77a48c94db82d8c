import Derived.WalkKit
/- What sizes an image may have, and the code of what is wrong, as plain numbers. -/
namespace Go.Proofs.Ytnpkkcbgfnnfmaa
open Go.RowKit
set_option linter.unusedVariables false
set_option linter.unusedSimpArgs false

def fitsB (w h c : Int) : Bool := decide (1 ≤ w ∧ w ≤ 65536 ∧ 1 ≤ h ∧ h ≤ 65536 ∧ (c = 1 ∨ c = 3) ∧ w * h * c ≤ 268435456)
def codeR (w h c m : Int) : Int := if m < 1 ∨ 65535 < m then 2 else if c ≠ 1 ∧ c ≠ 3 then 2 else if fitsB w h c = true then 0 else 5

theorem mul_bd {a b : Int} (ha : 1 ≤ a) (ha' : a ≤ 65536) (hb : 1 ≤ b) (hb' : b ≤ 65536) : 1 ≤ a * b ∧ a * b ≤ 4294967296 := by
  have h1 : 1 * 1 ≤ a * b := Int.mul_le_mul ha hb (by omega) (by omega)
  have h2 : a * b ≤ 65536 * 65536 := Int.mul_le_mul ha' hb' (by omega) (by omega)
  omega

theorem wrap_in {x : Int} (h : -9223372036854775808 ≤ x) (h' : x ≤ 9223372036854775807) : wrap64 x = x := by unfold wrap64; omega

theorem codeR_zero {w h c m : Int} (e : codeR w h c m = 0) : 1 ≤ m ∧ m ≤ 65535 ∧ (c = 1 ∨ c = 3) ∧ 1 ≤ w ∧ w ≤ 65536 ∧ 1 ≤ h ∧ h ≤ 65536 ∧ 1 ≤ w * h ∧ w * h ≤ 4294967296 ∧ 1 ≤ w * h * c ∧ w * h * c ≤ 268435456 := by
  unfold codeR fitsB at e
  split at e
  · omega
  split at e
  · omega
  split at e
  · rename_i h1 h2 h3
    simp only [decide_eq_true_eq] at h3
    obtain ⟨a1, a2, a3, a4, a5, a6⟩ := h3
    have hb := mul_bd a1 a2 a3 a4
    refine ⟨by omega, by omega, a5, a1, a2, a3, a4, hb.1, hb.2, ?_, a6⟩
    rcases a5 with rfl | rfl <;> omega
  · omega

theorem codeR_ok {w h c m : Int} (h1 : 1 ≤ m) (h2 : m ≤ 65535) (h3 : c = 1 ∨ c = 3) (h4 : fitsB w h c = true) : codeR w h c m = 0 := by
  unfold codeR
  rw [if_neg (by omega), if_neg (by omega), if_pos h4]

theorem codeR_vals (w h c m : Int) : codeR w h c m = 0 ∨ codeR w h c m = 2 ∨ codeR w h c m = 5 := by
  unfold codeR
  split
  · omega
  split
  · omega
  split <;> omega

/-! ### where a sample stands -/
def inB (W H C x y c : Int) : Bool := decide (0 ≤ x ∧ x < W ∧ 0 ≤ y ∧ y < H ∧ 0 ≤ c ∧ c < C)
def placeI (W C x y c : Int) : Int := (y * W + x) * C + c
theorem inB_true {W H C x y c : Int} (h : inB W H C x y c = true) : 0 ≤ x ∧ x < W ∧ 0 ≤ y ∧ y < H ∧ 0 ≤ c ∧ c < C := by
  unfold inB at h
  simpa using h

theorem place_bd {W H C M x y c : Int} (hv : codeR W H C M = 0) (h : inB W H C x y c = true) :
    0 ≤ y * W ∧ y * W + x + 1 ≤ W * H ∧ W * H ≤ 4294967296 ∧ 0 ≤ (y * W + x) * C ∧ (y * W + x) * C + C ≤ W * H * C ∧ W * H * C ≤ 268435456 := by
  obtain ⟨m1, m2, hc, a1, a2, b1, b2, p1, p2, q1, q2⟩ := codeR_zero hv
  obtain ⟨x1, x2, y1, y2, c1, c2⟩ := inB_true h
  have e1 : 0 ≤ y * W := Int.mul_nonneg y1 (by omega)
  have e2 : (y + 1) * W ≤ H * W := Int.mul_le_mul_of_nonneg_right (by omega) (by omega)
  rw [Int.add_mul, Int.mul_comm H W, Int.one_mul] at e2
  have e3 : 0 ≤ (y * W + x) * C := Int.mul_nonneg (by omega) (by omega)
  have e4 : (y * W + x + 1) * C ≤ W * H * C := Int.mul_le_mul_of_nonneg_right (by omega) (by omega)
  rw [Int.add_mul (y * W + x) 1 C, Int.one_mul] at e4
  exact ⟨e1, by omega, p2, e3, e4, q2⟩

/-! ### lists -/
theorem take_succ_getD {xs : List Int} {k : Nat} (h : k < xs.length) : xs.take (k + 1) = xs.take k ++ [xs.getD k 0] := by
  rw [List.take_succ_eq_append_getElem h]
  simp [List.getD_eq_getElem?_getD, h]

def mx2 (a b : Int) : Int := if a < b then b else a
/-- the greatest of a list -/
def maxl : List Int → Int
  | [] => 0
  | x :: l => l.foldl mx2 x
theorem maxl_snoc {l : List Int} (h : l ≠ []) (y : Int) : maxl (l ++ [y]) = mx2 (maxl l) y := by
  cases l with
  | nil => exact absurd rfl h
  | cons a l => simp [maxl, List.foldl_append]
theorem maxl_take {xs : List Int} {k : Nat} (h1 : 1 ≤ k) (h2 : k < xs.length) : maxl (xs.take (k + 1)) = if maxl (xs.take k) < xs.getD k 0 then xs.getD k 0 else maxl (xs.take k) := by
  rw [take_succ_getD h2, maxl_snoc]
  · rfl
  · intro e
    have := congrArg List.length e
    rw [List.length_take, List.length_nil] at this
    omega
theorem maxl_one {xs : List Int} (h : 0 < xs.length) : maxl (xs.take 1) = xs.getD 0 0 := by
  cases xs with
  | nil => simp at h
  | cons a l => simp [maxl]
theorem maxl_ge {l : List Int} {m : Int} (h : ∀ x ∈ l, m ≤ x) (hl : l ≠ []) : m ≤ maxl l := by
  cases l with
  | nil => exact absurd rfl hl
  | cons a l =>
    have key : ∀ (l : List Int) (a : Int), m ≤ a → (∀ x ∈ l, m ≤ x) → m ≤ l.foldl mx2 a := by
      intro l
      induction l with
      | nil => intro a h _; exact h
      | cons b l ih =>
        intro a ha hl
        refine ih _ ?_ fun x hx => hl x (List.mem_cons_of_mem _ hx)
        unfold mx2
        split
        · exact hl b List.mem_cons_self
        · exact ha
    exact key l a (h a List.mem_cons_self) fun x hx => h x (List.mem_cons_of_mem _ hx)
theorem maxl_le_foldl (l : List Int) (a M : Int) : l.foldl mx2 a ≤ M ↔ a ≤ M ∧ ∀ x ∈ l, x ≤ M := by
  induction l generalizing a with
  | nil => simp
  | cons b l ih =>
    simp only [List.foldl_cons, ih, List.mem_cons, forall_eq_or_imp]
    unfold mx2
    split <;> constructor <;> intro h
    · exact ⟨by omega, h⟩
    · exact h.2
    · exact ⟨h.1, by omega, h.2⟩
    · exact ⟨h.1, h.2.2⟩
theorem maxl_le {l : List Int} (hl : l ≠ []) (M : Int) : maxl l ≤ M ↔ ∀ x ∈ l, x ≤ M := by
  cases l with
  | nil => exact absurd rfl hl
  | cons a l => simp [maxl, maxl_le_foldl]

/-! ### small images -/
structure Small (X Y K T : Int) (xs : List Int) : Prop where
  code : codeR X Y K T = 0
  lx : X ≤ 20
  ly : Y ≤ 20
  len : (xs.length : Int) = X * Y * K
  all : ∀ q ∈ xs, 0 ≤ q ∧ q ≤ T

theorem Small.bd {X Y K T : Int} {xs : List Int} (h : Small X Y K T xs) : 1 ≤ X ∧ 1 ≤ Y ∧ (K = 1 ∨ K = 3) ∧ 1 ≤ T ∧ T ≤ 65535 ∧ 1 ≤ X * Y ∧ X * Y ≤ 400 ∧ 1 ≤ X * Y * K ∧ X * Y * K ≤ 1200 ∧ 1 ≤ xs.length ∧ xs.length ≤ 1200 := by
  obtain ⟨m1, m2, hc, a1, a2, b1, b2, p1, p2, q1, q2⟩ := codeR_zero h.code
  have hx := h.lx
  have hy := h.ly
  have hl := h.len
  have h2 : X * Y ≤ 20 * 20 := Int.mul_le_mul hx hy (by omega) (by omega)
  have h3 : X * Y * K ≤ 1200 := by rcases hc with rfl | rfl <;> omega
  omega
theorem Small.ne {X Y K T : Int} {xs : List Int} (h : Small X Y K T xs) : xs ≠ [] := by
  have := h.bd
  rintro rfl
  simp at this
theorem Small.u16 {X Y K T : Int} {xs : List Int} (h : Small X Y K T xs) : ∀ q ∈ xs, 0 ≤ q ∧ q ≤ 65535 := fun q hq => by
  have := h.all q hq
  have := h.bd
  omega
theorem Small.set {X Y K T : Int} {xs : List Int} (h : Small X Y K T xs) (p : Nat) {v : Int} (h0 : 0 ≤ v) (h1 : v ≤ T) : Small X Y K T (xs.set p v) :=
  ⟨h.code, h.lx, h.ly, by rw [List.length_set]; exact h.len, fun q hq => by
    rcases List.mem_or_eq_of_mem_set hq with hq | rfl
    · exact h.all q hq
    · exact ⟨h0, h1⟩⟩
end Go.Proofs.Ytnpkkcbgfnnfmaa
