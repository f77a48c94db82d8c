import Derived.Test.YtnpkkcbgfnnfmaaEc
import Derived.Test.YtnpkkcbgfnnfmaaDe
import Derived.Laws.BitsLemmas
/- Package smaltoref01: numbers without sign of 128 bits, whose upper half is nought. -/
namespace Go.Proofs.Ytnpkkcbgfnnfmaa
open Go.RowKit
set_option linter.unusedVariables false
set_option linter.unusedSimpArgs false
set_option maxRecDepth 100000

abbrev bigV (h l : Int) : Value := .agg #[.int .u64 h, .int .u64 l]
theorem row2 {w : World} {g : Nat} {a b : Value} {t : TypeId} (h : w.heap[g]? = some (.cells #[a, b] t (0, 0))) :
    (w.cell? ⟨g, 0, none⟩ = some a ∧ w.cell? ⟨g, 1, none⟩ = some b) ∧ w.frozen? ⟨g, 0, none⟩ = false ∧ w.frozen? ⟨g, 1, none⟩ = false :=
  ⟨⟨cell_of_row w g 0 _ _ _ h, cell_of_row w g 1 _ _ _ h⟩, by simp [World.frozen?, h], by simp [World.frozen?, h]⟩
theorem row_set2 {w : World} {g : Nat} {a b : Value} {t : TypeId} (h : w.heap[g]? = some (.cells #[a, b] t (0, 0))) (a' b' : Value) :
    ((w.setCell ⟨g, 0, none⟩ a').setCell ⟨g, 1, none⟩ b').heap[g]? = some (.cells #[a', b'] t (0, 0)) := by
  simp [World.setCell, Array.getElem?_modify, h]

theorem bel1 (w : World) (a : Obj) : Below w.heap.size w (w.alloc a) := (Below.refl _ _).alloc (Nat.le_refl _) _
theorem bel2 (w : World) (a b : Obj) : Below w.heap.size w ((w.alloc a).alloc b) := (bel1 w a).alloc (by simp) _
theorem bel4 (w : World) (a b c d : Obj) : Below w.heap.size w ((((w.alloc a).alloc b).alloc c).alloc d) := ((bel2 w a b).alloc (by simp; omega) _).alloc (by simp; omega) _
theorem and_one {x : Int} (h0 : 0 ≤ x) (h1 : x < 2 ^ 64) : bits .and .u64 x 1 = x % 2 :=
  bits_mask .u64 64 (by decide) (fun n h0 h1 => by simp [IntKind.wrap, IntKind.bits, IntKind.signed]; omega) 1 (by decide) x h0 h1

theorem alloc4_third (w : World) (a b : Obj) (cs : Array Value) (t : TypeId) (d : Obj) : ((((w.alloc a).alloc b).alloc (.cells cs t)).alloc d).heap[w.heap.size + 1 + 1]? = some (.cells cs t (0, 0)) := by
  have h := heap_alloc_new ((w.alloc a).alloc b) (.cells cs t)
  have hs : ((w.alloc a).alloc b).heap.size = w.heap.size + 1 + 1 := by simp
  rw [hs] at h
  exact row_alloc h d

set_option maxHeartbeats 2000000 in
theorem less_any (x y : Int) (w : World) :
    Calls Try.prog 99 #[bigV 0 x, bigV 0 y] w fun e w' => e = .returned (.bool (decide (x < y))) ∧ Below w.heap.size w w' := by
  go_enter Try.func99, Try.ntmps99
  go_wp2
  go_ret
  exact ⟨rfl, bel2 _ _ _⟩
set_option maxHeartbeats 2000000 in
theorem twice_any (x bit : Int) (w : World) (h0 : 0 ≤ x) (h1 : x < 4611686018427387904) (hb : 0 ≤ bit ∧ bit ≤ 1) :
    Calls Try.prog 98 #[bigV 0 x, .int .u64 bit] w fun e w' => e = .returned (bigV 0 (x * 2 + bit)) ∧ Below w.heap.size w w' := by
  have e1 : x / 9223372036854775808 = 0 := by omega
  go_enter Try.func98, Try.ntmps98
  go_wp2
  exact bodyPost_ret (results_cell_row rfl _ _ (w.heap.size + 1) 142 #[.int .u64 0, .int .u64 (x * 2 + bit)] (0, 0) _ rfl (heap_alloc2_new w _ _) Try.underlying142 rfl (by kernel_rfl)) rfl ⟨rfl, bel2 _ _ _⟩
set_option maxHeartbeats 2000000 in
theorem bit_lo (a : Int) (i : Nat) (w : World) (h0 : 0 ≤ a) (h1 : a < 2 ^ 64) (hi : i < 64) :
    Calls Try.prog 102 #[bigV 0 a, .int .i64 i] w fun e w' => e = .returned (.int .u64 (a / 2 ^ i % 2)) ∧ Below w.heap.size w w' := by
  go_enter Try.func102, Try.ntmps102
  go_wp2
  go_ret
  exact ⟨ret_int (and_one (Int.ediv_nonneg h0 (Int.le_of_lt (Int.pow_pos (by omega)))) (Int.lt_of_le_of_lt (Int.ediv_le_self _ h0) h1)), bel1 _ _⟩
set_option maxHeartbeats 2000000 in
theorem bit_hi (a : Int) (i : Nat) (w : World) (h0 : 0 ≤ a) (hi : 64 ≤ i) (hi2 : i < 128) :
    Calls Try.prog 102 #[bigV 0 a, .int .i64 i] w fun e w' => e = .returned (.int .u64 0) ∧ Below w.heap.size w w' := by
  go_enter Try.func102, Try.ntmps102
  go_wp2
  go_ret
  exact ⟨ret_int (and_one (by omega) (by omega)), bel1 _ _⟩
set_option maxHeartbeats 2000000 in
theorem minus_any (x y : Int) (w : World) (h0 : 0 ≤ y) (h1 : y ≤ x) (h2 : x < 9223372036854775808) :
    Calls Try.prog 103 #[bigV 0 x, bigV 0 y] w fun e w' => e = .returned (bigV 0 (x - y)) ∧ Below w.heap.size w w' := by
  go_enter Try.func103, Try.ntmps103
  go_wp2
  exact bodyPost_ret (results_cell_row rfl _ _ (w.heap.size + 1 + 1) 142 #[.int .u64 0, .int .u64 (x - y)] (0, 0) _ rfl (alloc4_third w _ _ _ _ _) Try.underlying142 rfl (by kernel_rfl)) rfl ⟨rfl, bel4 _ _ _ _ _⟩
set_option maxHeartbeats 2000000 in
theorem plus1_any (x : Int) (w : World) (h0 : 0 ≤ x) (h2 : x < 9223372036854775807) :
    Calls Try.prog 100 #[bigV 0 x, bigV 0 1] w fun e w' => e = .returned (bigV 0 (x + 1)) ∧ Below w.heap.size w w' := by
  go_enter Try.func100, Try.ntmps100
  go_wp2
  exact bodyPost_ret (results_cell_row rfl _ _ (w.heap.size + 1 + 1) 142 #[.int .u64 0, .int .u64 (x + 1)] (0, 0) _ rfl (alloc4_third w _ _ _ _ _) Try.underlying142 rfl (by kernel_rfl)) rfl ⟨rfl, bel4 _ _ _ _ _⟩
set_option maxHeartbeats 2000000 in
theorem bighold_any (x : Int) (w : World) (h0 : 0 ≤ x) (h2 : x < 9223372036854775808) :
    Calls Try.prog 101 #[bigV 0 x, .bool false] w fun e w' => e = .returned (.int .i64 x) ∧ Below w.heap.size w w' := by
  go_enter Try.func101, Try.ntmps101
  go_wp2
  go_ret
  exact ⟨rfl, bel1 _ _⟩
set_option maxHeartbeats 2000000 in
theorem bigsize_any (x : Int) (w : World) (h0 : 0 ≤ x) (h2 : x < 9223372036854775808) :
    Calls Try.prog 96 #[.int .i64 x] w fun e w' => e = .returned (.int .u64 x) ∧ w' = w := by
  go_enter Try.func96, Try.ntmps96
  go_wp2
  go_ret
  exact ⟨rfl, rfl⟩
set_option maxHeartbeats 2000000 in
theorem fsize_any (x : Int) (w : World) (h0 : 0 ≤ x) (h2 : x < 9223372036854775808) :
    Calls Try.prog 93 #[.int .i64 x] w fun e w' => e = .returned (.int .u64 x) ∧ w' = w := by
  go_enter Try.func93, Try.ntmps93
  go_wp2
  go_ret
  exact ⟨rfl, rfl⟩
set_option maxHeartbeats 2000000 in
theorem fhold_any (x : Int) (w : World) (h0 : 0 ≤ x) (h2 : x < 9223372036854775808) :
    Calls Try.prog 94 #[.int .u64 x, .bool false] w fun e w' => e = .returned (.int .i64 x) ∧ w' = w := by
  go_enter Try.func94, Try.ntmps94
  go_wp2
  go_ret
  exact ⟨rfl, rfl⟩
end Go.Proofs.Ytnpkkcbgfnnfmaa
