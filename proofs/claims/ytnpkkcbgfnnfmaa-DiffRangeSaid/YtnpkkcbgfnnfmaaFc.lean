import Derived.Test.YtnpkkcbgfnnfmaaFb
import Derived.Test.YtnpkkcbgfnnfmaaFMath
/- fixed.Div and smaltoref01.Div of a number that isn't below nought by one above nought. -/
namespace Go.Proofs.Ytnpkkcbgfnnfmaa
open Go.RowKit
set_option linter.unusedVariables false
set_option linter.unusedSimpArgs false
set_option maxRecDepth 100000

set_option maxHeartbeats 4000000 in
theorem nearest_any (a b : Int) (w : World) (a0 : 0 ≤ a) (a1 : a < 4611686018427387904) (b0 : 1 ≤ b) (b1 : b < 1152921504606846976) :
    Calls Try.prog 95 #[bigV 0 a, .int .u64 b, .bool false] w fun e w' => e = .returned (.int .i64 (rdiv a b)) ∧ Below w.heap.size w w' := by
  have q0 := Int.ediv_nonneg a0 (show 0 ≤ b by omega)
  have q1 := Int.ediv_le_self b a0
  have r0 := Int.emod_nonneg a (show b ≠ 0 by omega)
  have r1 := Int.emod_lt_of_pos a (show 0 < b by omega)
  have HO := Lib.hid fun w' => over_any a b w' a0 a1 b0 b1
  have HF : Hid (rdiv a b = if a % b * 2 < b then a / b else a / b + 1) := Lib.hid rfl
  obtain ⟨q, hq⟩ : ∃ q, a / b = q := ⟨_, rfl⟩
  obtain ⟨r, hr⟩ : ∃ r, a % b = r := ⟨_, rfl⟩
  rw [hq, hr] at HO HF
  rw [hq] at q0 q1
  rw [hr] at r0 r1
  have qb : q < 4611686018427387904 := by omega
  clear hq hr
  go_enter Try.func95, Try.ntmps95
  go_wp2_with (first
    | (go_at_call 97; refine (HO.out _).mono ?_; rintro e w1 ⟨rfl, hB⟩; have HB1 := Lib.hid ((bel1 w _).trans (hB.mono (bel1 w _).size)); clear hB))
  refine (twice0_any r _ r0 (by omega)).mono ?_
  rintro e w2 ⟨rfl, hB⟩
  have HN2 := Lib.hid (row_below (heap_alloc_new w1 (.cells #[.int .u64 0, .int .u64 q] 142)) hB)
  have HB2 := Lib.hid ((HB1.out.alloc HB1.out.size (.cells #[.int .u64 0, .int .u64 q] 142)).trans (hB.mono (by have := HB1.out.size; simp; omega)))
  clear hB
  go_wp2_with fail
  refine (less_any _ _ _).mono ?_
  rintro e w3 ⟨rfl, hB⟩
  have hq3 := row_below (row_alloc HN2.out (.cells #[.int .u64 0, .int .u64 (r * 2)] 142)) hB
  have HB3 := Lib.hid ((HB2.out.alloc HB2.out.size (.cells #[.int .u64 0, .int .u64 (r * 2)] 142)).trans (hB.mono (by have := HB2.out.size; simp; omega)))
  have hb1s : w.heap.size ≤ w1.heap.size := HB1.out.size
  have HQ3 := Lib.hid hq3
  obtain ⟨⟨t0, t1⟩, f0, f1⟩ := row2 hq3
  clear hB hq3
  by_cases hlt : r * 2 < b
  · have hd : decide (r * 2 < b) = true := decide_eq_true hlt
    have HE : Hid (rdiv a b = q) := Lib.hid (by rw [HF.out, if_pos hlt])
    go_wp2_with (go_at_call 101; refine (bighold_any q _ q0 (by omega)).mono ?_; rintro e w4 ⟨rfl, hB⟩; have HB4 := Lib.hid (HB3.out.trans (hB.mono HB3.out.size)); clear hB)
    go_ret
    exact ⟨ret_int HE.out.symm, HB4.out⟩
  · have hd : decide (r * 2 < b) = false := decide_eq_false hlt
    have HE : Hid (rdiv a b = q + 1) := Lib.hid (by rw [HF.out, if_neg hlt])
    go_wp2_with (first
      | (go_at_call 100; refine (plus1_any q _ q0 (by omega)).mono ?_; rintro e w4 ⟨rfl, hB⟩; have hq4 := row_below HQ3.out hB; have HQ4 := Lib.hid (row_set2 hq4 (.int .u64 0) (.int .u64 (q + 1))); have HB4 : Hid (Below w.heap.size w ((w4.setCell ⟨w1.heap.size, 0, none⟩ (.int .u64 0)).setCell ⟨w1.heap.size, 1, none⟩ (.int .u64 (q + 1)))) := Lib.hid (((HB3.out.trans (hB.mono HB3.out.size)).setCell hb1s _).setCell hb1s _); clear t0 t1 f0 f1 hB; obtain ⟨⟨t0, t1⟩, f0, f1⟩ := row2 hq4; clear hq4)
      | (go_at_call 101; refine (bighold_any (q + 1) _ (by omega) (by omega)).mono ?_; rintro e w5 ⟨rfl, hB⟩; have HB5 := Lib.hid (HB4.out.trans (hB.mono HB4.out.size)); clear hB))
    go_ret
    exact ⟨ret_int HE.out.symm, HB5.out⟩

theorem refDiv_any (a b : Int) (w : World) (a0 : 0 ≤ a) (a1 : a < 4611686018427387904) (b0 : 1 ≤ b) (b1 : b < 1152921504606846976) :
    Calls Try.prog 91 #[.int .i64 a, .int .i64 b] w fun e w' => e = .returned (.int .i64 (rdiv a b)) ∧ Below w.heap.size w w' := by
  have hb0 : (b == 0) = false := by rw [beq_eq_false_iff_ne]; omega
  have hd1 : decide (a < 0) = false := decide_eq_false (by omega)
  have hd2 : decide (b < 0) = false := decide_eq_false (by omega)
  go_enter Try.func91, Try.ntmps91
  go_wp2_with (first
    | (go_at_call_of 96 (Value.int IntKind.i64 a); refine (bigsize_any a _ a0 (by omega)).mono ?_; rintro e w1 ⟨rfl, rfl⟩)
    | (go_at_call_of 96 (Value.int IntKind.i64 b); refine (bigsize_any b _ (by omega) (by omega)).mono ?_; rintro e w1 ⟨rfl, rfl⟩)
    | (go_at_call 95; refine (nearest_any a b _ a0 a1 b0 b1).mono ?_; rintro e w2 ⟨rfl, hB⟩; have HB := Lib.hid hB; clear hB))
  go_ret
  exact ⟨rfl, HB.out⟩

theorem fixDiv_any (a b : Int) (w : World) (a0 : 0 ≤ a) (a1 : a < 4611686018427387904) (b0 : 1 ≤ b) (b1 : b < 1152921504606846976) :
    Calls Try.prog 90 #[.int .i64 a, .int .i64 b] w fun e w' => e = .returned (.int .i64 (rdiv a b)) ∧ ∃ m, w' = w.drewN m := by
  have hb0 : (b == 0) = false := by rw [beq_eq_false_iff_ne]; omega
  have hd1 : decide (a < 0) = false := decide_eq_false (by omega)
  have hd2 : decide (b < 0) = false := decide_eq_false (by omega)
  have q0 := Int.ediv_nonneg a0 (show 0 ≤ b by omega)
  have q1 := Int.ediv_le_self b a0
  have r0 := Int.emod_nonneg a (show b ≠ 0 by omega)
  have r1 := Int.emod_lt_of_pos a (show 0 < b by omega)
  go_enter Try.func90, Try.ntmps90
  go_wp2_with fail
  go_quiet (first
    | (go_at_call_of 93 (Value.int IntKind.i64 a); refine Calls.quiet_of_same (fsize_any a _ a0 (by omega)))
    | (go_at_call_of 93 (Value.int IntKind.i64 b); refine Calls.quiet_of_same (fsize_any b _ (by omega) (by omega))))
  have HF : Hid (rdiv a b = if a % b * 2 < b then a / b else a / b + 1) := Lib.hid rfl
  obtain ⟨q, hq⟩ : ∃ q, a / b = q := ⟨_, rfl⟩
  obtain ⟨r, hr⟩ : ∃ r, a % b = r := ⟨_, rfl⟩
  rw [hq, hr] at HF ⊢
  rw [hq] at q0 q1
  rw [hr] at r0 r1
  have qb : q < 4611686018427387904 := by omega
  clear hq hr
  by_cases hlt : r * 2 < b
  · have hd : decide (b - r ≤ r) = false := decide_eq_false (by omega)
    have HE : Hid (rdiv a b = q) := Lib.hid (by rw [HF.out, if_pos hlt])
    go_wp2_with (first
      | (go_at_call 93; refine (fsize_any b _ (by omega) (by omega)).mono ?_; rintro e w1 ⟨rfl, rfl⟩)
      | (go_at_call 94; refine (fhold_any q _ q0 (by omega)).mono ?_; rintro e w1 ⟨rfl, rfl⟩))
    go_ret
    exact ⟨ret_int HE.out.symm, _, rfl⟩
  · have hd : decide (b - r ≤ r) = true := decide_eq_true (by omega)
    have HE : Hid (rdiv a b = q + 1) := Lib.hid (by rw [HF.out, if_neg hlt])
    go_wp2_with (first
      | (go_at_call 93; refine (fsize_any b _ (by omega) (by omega)).mono ?_; rintro e w1 ⟨rfl, rfl⟩)
      | (go_at_call 94; refine (fhold_any (q + 1) _ (by omega) (by omega)).mono ?_; rintro e w1 ⟨rfl, rfl⟩))
    go_ret
    exact ⟨ret_int HE.out.symm, _, rfl⟩
theorem fixDiv_zero (a : Int) (w : World) :
    Calls Try.prog 90 #[.int .i64 a, .int .i64 0] w fun e w' => e = .returned (.int .i64 0) ∧ w' = w := by
  go_enter Try.func90, Try.ntmps90
  go_wp2
  go_ret
  exact ⟨rfl, rfl⟩
end Go.Proofs.Ytnpkkcbgfnnfmaa
