import Derived.Test.YtnpkkcbgfnnfmaaDoorShelf
import Derived.Test.YtnpkkcbgfnnfmaaDoorHi
/- strconv.Itoa; the document's Decimal of whatever int. -/
namespace Go.Proofs.YtnpkkcbgfnnfmaaDoor
open Go.RowKit Go.Sort
set_option linter.unusedVariables false
set_option linter.unusedSimpArgs false
set_option maxRecDepth 100000

/-- an int's numeral -/
def decL (n : Int) : List Int := if n < 0 then 45 :: posL n.natAbs else posL n.toNat

theorem dec_pos (n : Nat) : Lib.decDigits n = (posL n).map fun x => UInt8.ofNat x.toNat := by
  induction n using Nat.strongRecOn with
  | _ n ih =>
    by_cases h : n ≤ 9
    · rw [posL_small h, Lib.decDigits, dif_pos (by omega), List.map_singleton]
      congr 1
    · rw [posL_big (by omega), Lib.decDigits, dif_neg (by omega), ih (n / 10) (by omega), List.map_append, List.map_singleton]
      congr 1
theorem itoa_str (n : Int) : (⟨(Lib.itoa n).toArray⟩ : ByteArray) = strOfNums (decL n) := by
  unfold Lib.itoa decL strOfNums
  split
  · rw [dec_pos]
    rfl
  · rw [dec_pos]

theorem posL_lenK (k n : Nat) (hk : 1 ≤ k) (h : n < 10 ^ k) : (posL n).length ≤ k := by
  induction k generalizing n with
  | zero => omega
  | succ k ih =>
    by_cases h9 : n ≤ 9
    · rw [posL_small h9]; simp
    · rw [posL_big (by omega), List.length_append]
      rcases Nat.eq_zero_or_pos k with hk0 | hk0
      · subst hk0
        omega
      · have := ih (n / 10) hk0 (by rw [Nat.pow_succ] at h; omega)
        simp
        omega
theorem posL_len20 (n : Nat) (h : n ≤ 9223372036854775808) : (posL n).length ≤ 20 :=
  Nat.le_trans (posL_lenK 19 n (by omega) (by
    have : (10 : Nat) ^ 19 = 10000000000000000000 := by decide
    omega)) (by omega)
theorem decL_len (n : Int) (h0 : -9223372036854775808 ≤ n) (h1 : n ≤ 9223372036854775807) : (decL n).length ≤ 21 := by
  unfold decL
  split
  · rw [List.length_cons]
    have := posL_len20 n.natAbs (by omega)
    omega
  · have := posL_len20 n.toNat (by omega)
    omega
theorem posL_b (n : Nat) : ∀ x ∈ posL n, 0 ≤ x ∧ x ≤ 255 := by
  induction n using Nat.strongRecOn with
  | _ n ih =>
    intro x hx
    by_cases h : n ≤ 9
    · rw [posL_small h] at hx
      simp at hx
      omega
    · rw [posL_big (by omega)] at hx
      rcases List.mem_append.1 hx with hx | hx
      · exact ih _ (by omega) x hx
      · simp at hx
        omega
theorem decL_b (n : Int) : ∀ x ∈ decL n, 0 ≤ x ∧ x ≤ 255 := by
  intro x hx
  unfold decL at hx
  split at hx
  · rcases List.mem_cons.1 hx with rfl | hx
    · omega
    · exact posL_b _ x hx
  · exact posL_b _ x hx

/-- the library's table of powers lies as its text lays it -/
def Tab (w : World) : Prop := Lib.TabIs Tryd.prog w "internal/strconv.uint64pow10" .u64 Lib.pow10Tab
theorem Tab.below {w w' : World} (h : Tab w) (hb : Below w.heap.size w w') : Tab w' := by
  unfold Tab Lib.TabIs World.var? at h ⊢
  cases hg : Tryd.prog.globalNamed "internal/strconv.uint64pow10" with
  | none => simp [hg] at h
  | some g =>
    simp only [hg, Option.bind_some] at h ⊢
    have hlt : g < w.heap.size := by
      rcases Nat.lt_or_ge g w.heap.size with h' | h'
      · exact h'
      · simp [Array.getElem?_eq_none h'] at h
    rw [hb.block g hlt]
    exact h
theorem Tab.kept {w w' : World} (h : Tab w) {B : Nat} (hB : B = w.heap.size) (hb : Below B w w') : Tab w' := by
  subst hB
  exact h.below hb

theorem below_grow (w : World) (k : Nat) (os : Array Obj) : Below w.heap.size w (grow (w.drewN k) os) :=
  ⟨rfl, rfl, rfl, by simp [grow], fun j hj => by simp [grow, Array.getElem?_append, hj]⟩

theorem itoa_any (n : Int) (h0 : -9223372036854775808 ≤ n) (h1 : n ≤ 9223372036854775807) (w : World) (ht : Tab w) :
    Calls Tryd.prog 28 #[.int .i64 n] w fun e w' => e = .returned (.string (strOfNums (decL n))) ∧ Below w.heap.size w w' :=
  (Tryd.strconv_Itoa n h0 h1 w ht).mono fun e w' ⟨he, k, os, hw⟩ => ⟨by rw [he, itoa_str], by rw [hw]; exact below_grow w k os⟩

theorem decimal_any (n : Int) (h0 : -9223372036854775808 ≤ n) (h1 : n ≤ 9223372036854775807) (w : World) :
    Calls Tryd.prog 29 #[.int .i64 n] w fun e w' => e = .returned (.string (strOfNums (decL n))) ∧ Below w.heap.size w w' := by
  by_cases hn : n < 0
  · obtain ⟨m, hm⟩ : ∃ m : Nat, n = -(m : Int) := ⟨n.natAbs, by omega⟩
    have hm1 : 1 ≤ m := by omega
    have hm2 : m ≤ 9223372036854775808 := by omega
    have hd : decL n = 45 :: posL m := by unfold decL; rw [if_pos hn, hm]; simp
    rw [hd]
    subst hm
    have HP := Lib.hid fun w => positive_any m (by omega) w
    have hx : -(-(m : Int) + 1) + 1 = (m : Int) := by omega
    clear hd h0 h1
    go_enter Tryd.func29, Tryd.ntmps29
    go_wp2_with fail
    refine (HP.out _).mono ?_
    rintro e w1 ⟨rfl, hB⟩
    have HB := Lib.hid hB
    clear hB
    have hl : (posL m).length ≤ 20 := posL_len20 m (by omega)
    have hcat : (⟨#[45]⟩ : ByteArray) ++ strOfNums (posL m) = strOfNums (45 :: posL m) := son_app [45] (posL m)
    have hsz : (strOfNums (45 :: posL m)).size ≤ 21 := by rw [son_size, List.length_cons]; omega
    have hs1 : (strOfNums (posL m)).size ≤ 20 := by rw [son_size]; exact hl
    have hs2 : (⟨#[45]⟩ : ByteArray).size = 1 := rfl
    go_wp2_with fail
    go_ret
    exact ⟨rfl, HB.out⟩
  · obtain ⟨m, rfl⟩ : ∃ m : Nat, n = (m : Int) := ⟨n.toNat, by omega⟩
    have hd : decL (m : Int) = posL m := by unfold decL; rw [if_neg hn, Int.toNat_natCast]
    rw [hd]
    exact nonneg_dec m (by omega) w
end Go.Proofs.YtnpkkcbgfnnfmaaDoor
