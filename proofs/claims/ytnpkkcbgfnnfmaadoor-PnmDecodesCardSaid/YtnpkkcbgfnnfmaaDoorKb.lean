import Derived.Test.YtnpkkcbgfnnfmaaDoorKa
import Derived.Test.YtnpkkcbgfnnfmaaDoorKMath
import Derived.Lib.QuietBelow
import Derived.BigQuiet
/- A head's text: the program's, the document's. -/
namespace Go.Proofs.YtnpkkcbgfnnfmaaDoor
open Go.RowKit Go.Sort
set_option linter.unusedVariables false
set_option linter.unusedSimpArgs false
set_option maxRecDepth 100000

/-- a head's text -/
def tL (c W H M : Int) : List Int := [80, if c = 3 then 54 else 53] ++ [10] ++ decL W ++ [32] ++ decL H ++ [10] ++ decL M ++ [10]
theorem tL_nat (c : Int) (W H M : Nat) : tL c W H M = txL c W H M := by
  have e : ∀ n : Nat, decL (n : Int) = posL n := fun n => by unfold decL; rw [if_neg (by omega), Int.toNat_natCast]
  unfold tL txL
  rw [e, e, e]
  simp
theorem tL_b (c W H M : Int) : ∀ x ∈ tL c W H M, 0 ≤ x ∧ x ≤ 255 := by
  intro x hx
  unfold tL at hx
  simp only [List.mem_append] at hx
  rcases hx with ((((((hx | hx) | hx) | hx) | hx) | hx) | hx) | hx
  · have : x = 80 ∨ x = 53 ∨ x = 54 := by
      split at hx <;> simp at hx <;> omega
    omega
  · simp at hx; omega
  · exact decL_b _ x hx
  · simp at hx; omega
  · exact decL_b _ x hx
  · simp at hx; omega
  · exact decL_b _ x hx
  · simp at hx; omega
def I64 (n : Int) : Prop := -9223372036854775808 ≤ n ∧ n ≤ 9223372036854775807
theorem tL_len (c W H M : Int) (hW : I64 W) (hH : I64 H) (hM : I64 M) : (tL c W H M).length ≤ 69 := by
  have := decL_len W hW.1 hW.2
  have := decL_len H hH.1 hH.2
  have := decL_len M hM.1 hM.2
  unfold tL
  simp
  omega

theorem cat_f (a b : List Int) (A : ByteArray) (hA : A = strOfNums a) (m : Nat) (hm : (a ++ b).length ≤ m) : ∃ L k, L = a ++ b ∧ A ++ strOfNums b = strOfNums L ∧ (strOfNums L).size = k ∧ k ≤ m := by
  subst hA
  exact ⟨a ++ b, _, rfl, son_app a b, rfl, by rw [son_size]; exact hm⟩

set_option maxHeartbeats 4000000 in
theorem text_any (c W H M S : Int) (w : World) (hW : I64 W) (hH : I64 H) (hM : I64 M) (ht : Tab w) :
    Calls Tryd.prog 11 #[headV c W H M S] w fun e w' => e = .returned (.string (strOfNums (tL c W H M))) ∧ Below w.heap.size w w' := by
  have lW := decL_len W hW.1 hW.2
  have lH := decL_len H hH.1 hH.2
  have lM := decL_len M hM.1 hM.2
  have HIT := Lib.hid fun (n : Int) (hn : I64 n) w' (ht : Tab w') => itoa_any n hn.1 hn.2 w' ht
  have HW := Lib.hid hW
  have HH := Lib.hid hH
  have HM := Lib.hid hM
  have HT := Lib.hid fun o => ht.below ((Below.refl w.heap.size w).alloc (Nat.le_refl _) o)
  obtain ⟨B, hB⟩ : ∃ B, (if c = 3 then (54 : Int) else 53) = B := ⟨_, rfl⟩
  obtain ⟨L1, k1, hL1, e1, s1, b1⟩ := cat_f [80, B] [10] _ rfl 3 (by simp)
  obtain ⟨L2, k2, hL2, e2, s2, b2⟩ := cat_f L1 (decL W) _ rfl 30 (by rw [hL1]; simp; omega)
  obtain ⟨L3, k3, hL3, e3, s3, b3⟩ := cat_f L2 [32] _ rfl 31 (by rw [hL2, hL1]; simp; omega)
  obtain ⟨L4, k4, hL4, e4, s4, b4⟩ := cat_f L3 (decL H) _ rfl 60 (by rw [hL3, hL2, hL1]; simp; omega)
  obtain ⟨L5, k5, hL5, e5, s5, b5⟩ := cat_f L4 [10] _ rfl 61 (by rw [hL4, hL3, hL2, hL1]; simp; omega)
  obtain ⟨L6, k6, hL6, e6, s6, b6⟩ := cat_f L5 (decL M) _ rfl 90 (by rw [hL5, hL4, hL3, hL2, hL1]; simp; omega)
  obtain ⟨L7, k7, hL7, e7, s7, b7⟩ := cat_f L6 [10] _ rfl 91 (by rw [hL6, hL5, hL4, hL3, hL2, hL1]; simp; omega)
  have HL : Hid (L7 = tL c W H M) := Lib.hid (by rw [hL7, hL6, hL5, hL4, hL3, hL2, hL1, ← hB]; rfl)
  rw [← HL.out]
  clear hL1 hL2 hL3 hL4 hL5 hL6 hL7
  have e3' : strOfNums L2 ++ ⟨#[32]⟩ = strOfNums L3 := e3
  have e5' : strOfNums L4 ++ ⟨#[10]⟩ = strOfNums L5 := e5
  have e7' : strOfNums L6 ++ ⟨#[10]⟩ = strOfNums L7 := e7
  clear e3 e5 e7
  have z3 : (strOfNums (decL W)).size ≤ 21 := by rw [son_size]; exact lW
  have z4 : (strOfNums (decL H)).size ≤ 21 := by rw [son_size]; exact lH
  have z5 : (strOfNums (decL M)).size ≤ 21 := by rw [son_size]; exact lM
  have z7 : (ByteArray.mk #[10]).size = 1 := rfl
  have z8 : (ByteArray.mk #[32]).size = 1 := rfl
  clear hW hH hM ht lW lH lM
  by_cases hc : c = 3
  · subst hc
    rw [if_pos rfl] at hB
    subst hB
    have e1' : (⟨#[80, 54]⟩ : ByteArray) ++ ⟨#[10]⟩ = strOfNums L1 := e1
    have z6 : (ByteArray.mk #[80, 54]).size = 2 := rfl
    clear e1
    go_enter Tryd.func11, Tryd.ntmps11
    go_wp2_with fail
    obtain ⟨⟨t0, t1, t2, t3, t4⟩, -⟩ := row5 (heap_alloc_new w (.cells #[.int .i64 3, .int .i64 W, .int .i64 H, .int .i64 M, .int .i64 S] 23))
    have q1 := cell_regrown t1
    have q2 := cell_regrown t2
    have q3 := cell_regrown t3
    have HQ : Hid (∀ (n : Int), I64 n → ∀ d os, Calls Tryd.prog 28 #[.int .i64 n] (grow (redrawn (w.alloc (.cells #[.int .i64 3, .int .i64 W, .int .i64 H, .int .i64 M, .int .i64 S] 23)) d) os) fun e w'' => e = .returned (.string (strOfNums (decL n))) ∧ ∃ p : Regrown, w'' = grow (redrawn (w.alloc (.cells #[.int .i64 3, .int .i64 W, .int .i64 H, .int .i64 M, .int .i64 S] 23)) p.d) p.os) :=
      Lib.hid fun n hn d os => Calls.regrown_of (HIT.out n hn _ ((HT.out _).below (below_regrown _ d os)))
    clear t0 t1 t2 t3 t4
    refine wp_region_quiet_below (by kernel_rfl) (by kernel_rfl) ?_
    repeat (go_big_quiet_step ((with_reducible (first | exact HQ.out W HW.out _ _ | exact HQ.out H HH.out _ _ | exact HQ.out M HM.out _ _))))
    refine wpQuiet_nil ?_
    intro _ hw'
    obtain ⟨⟨dq, osq⟩, hw''⟩ := hw'
    subst hw''
    go_wp2_with fail
    go_ret
    exact ⟨rfl, ((Below.refl w.heap.size w).alloc (Nat.le_refl _) _).trans ((below_regrown _ dq osq).mono (by simp))⟩
  · have hcb : (c == 3) = false := by rw [beq_eq_false_iff_ne]; exact hc
    rw [if_neg hc] at hB
    subst hB
    have e1' : (⟨#[80, 53]⟩ : ByteArray) ++ ⟨#[10]⟩ = strOfNums L1 := e1
    have z6 : (ByteArray.mk #[80, 53]).size = 2 := rfl
    clear e1 hc
    go_enter Tryd.func11, Tryd.ntmps11
    go_wp2_with fail
    obtain ⟨⟨t0, t1, t2, t3, t4⟩, -⟩ := row5 (heap_alloc_new w (.cells #[.int .i64 c, .int .i64 W, .int .i64 H, .int .i64 M, .int .i64 S] 23))
    have q1 := cell_regrown t1
    have q2 := cell_regrown t2
    have q3 := cell_regrown t3
    have HQ : Hid (∀ (n : Int), I64 n → ∀ d os, Calls Tryd.prog 28 #[.int .i64 n] (grow (redrawn (w.alloc (.cells #[.int .i64 c, .int .i64 W, .int .i64 H, .int .i64 M, .int .i64 S] 23)) d) os) fun e w'' => e = .returned (.string (strOfNums (decL n))) ∧ ∃ p : Regrown, w'' = grow (redrawn (w.alloc (.cells #[.int .i64 c, .int .i64 W, .int .i64 H, .int .i64 M, .int .i64 S] 23)) p.d) p.os) :=
      Lib.hid fun n hn d os => Calls.regrown_of (HIT.out n hn _ ((HT.out _).below (below_regrown _ d os)))
    clear t0 t1 t2 t3 t4
    refine wp_region_quiet_below (by kernel_rfl) (by kernel_rfl) ?_
    repeat (go_big_quiet_step ((with_reducible (first | exact HQ.out W HW.out _ _ | exact HQ.out H HH.out _ _ | exact HQ.out M HM.out _ _))))
    refine wpQuiet_nil ?_
    intro _ hw'
    obtain ⟨⟨dq, osq⟩, hw''⟩ := hw'
    subst hw''
    go_wp2_with fail
    go_ret
    exact ⟨rfl, ((Below.refl w.heap.size w).alloc (Nat.le_refl _) _).trans ((below_regrown _ dq osq).mono (by simp))⟩
set_option maxHeartbeats 4000000 in
theorem refText_any (c W H M S : Int) (w : World) (hW : I64 W) (hH : I64 H) (hM : I64 M) (ht : Tab w) :
    Calls Tryd.prog 12 #[headV c W H M S] w fun e w' => e = .returned (.string (strOfNums (tL c W H M))) ∧ Below w.heap.size w w' := by
  have lW := decL_len W hW.1 hW.2
  have lH := decL_len H hH.1 hH.2
  have lM := decL_len M hM.1 hM.2
  have HIT := Lib.hid fun (n : Int) (hn : I64 n) w' (ht : Tab w') => decimal_any n hn.1 hn.2 w'
  have HW := Lib.hid hW
  have HH := Lib.hid hH
  have HM := Lib.hid hM
  have HT := Lib.hid fun o => ht.below ((Below.refl w.heap.size w).alloc (Nat.le_refl _) o)
  obtain ⟨B, hB⟩ : ∃ B, (if c = 3 then (54 : Int) else 53) = B := ⟨_, rfl⟩
  obtain ⟨L1, k1, hL1, e1, s1, b1⟩ := cat_f [80, B] [10] _ rfl 3 (by simp)
  obtain ⟨L2, k2, hL2, e2, s2, b2⟩ := cat_f L1 (decL W) _ rfl 30 (by rw [hL1]; simp; omega)
  obtain ⟨L3, k3, hL3, e3, s3, b3⟩ := cat_f L2 [32] _ rfl 31 (by rw [hL2, hL1]; simp; omega)
  obtain ⟨L4, k4, hL4, e4, s4, b4⟩ := cat_f L3 (decL H) _ rfl 60 (by rw [hL3, hL2, hL1]; simp; omega)
  obtain ⟨L5, k5, hL5, e5, s5, b5⟩ := cat_f L4 [10] _ rfl 61 (by rw [hL4, hL3, hL2, hL1]; simp; omega)
  obtain ⟨L6, k6, hL6, e6, s6, b6⟩ := cat_f L5 (decL M) _ rfl 90 (by rw [hL5, hL4, hL3, hL2, hL1]; simp; omega)
  obtain ⟨L7, k7, hL7, e7, s7, b7⟩ := cat_f L6 [10] _ rfl 91 (by rw [hL6, hL5, hL4, hL3, hL2, hL1]; simp; omega)
  have HL : Hid (L7 = tL c W H M) := Lib.hid (by rw [hL7, hL6, hL5, hL4, hL3, hL2, hL1, ← hB]; rfl)
  rw [← HL.out]
  clear hL1 hL2 hL3 hL4 hL5 hL6 hL7
  have e3' : strOfNums L2 ++ ⟨#[32]⟩ = strOfNums L3 := e3
  have e5' : strOfNums L4 ++ ⟨#[10]⟩ = strOfNums L5 := e5
  have e7' : strOfNums L6 ++ ⟨#[10]⟩ = strOfNums L7 := e7
  clear e3 e5 e7
  have z3 : (strOfNums (decL W)).size ≤ 21 := by rw [son_size]; exact lW
  have z4 : (strOfNums (decL H)).size ≤ 21 := by rw [son_size]; exact lH
  have z5 : (strOfNums (decL M)).size ≤ 21 := by rw [son_size]; exact lM
  have z7 : (ByteArray.mk #[10]).size = 1 := rfl
  have z8 : (ByteArray.mk #[32]).size = 1 := rfl
  clear hW hH hM ht lW lH lM
  by_cases hc : c = 3
  · subst hc
    rw [if_pos rfl] at hB
    subst hB
    have e1' : (⟨#[80, 54]⟩ : ByteArray) ++ ⟨#[10]⟩ = strOfNums L1 := e1
    have z6 : (ByteArray.mk #[80, 54]).size = 2 := rfl
    clear e1
    go_enter Tryd.func12, Tryd.ntmps12
    go_wp2_with fail
    obtain ⟨⟨t0, t1, t2, t3, t4⟩, -⟩ := row5 (heap_alloc_new w (.cells #[.int .i64 3, .int .i64 W, .int .i64 H, .int .i64 M, .int .i64 S] 28))
    have q1 := cell_regrown t1
    have q2 := cell_regrown t2
    have q3 := cell_regrown t3
    have HQ : Hid (∀ (n : Int), I64 n → ∀ d os, Calls Tryd.prog 29 #[.int .i64 n] (grow (redrawn (w.alloc (.cells #[.int .i64 3, .int .i64 W, .int .i64 H, .int .i64 M, .int .i64 S] 28)) d) os) fun e w'' => e = .returned (.string (strOfNums (decL n))) ∧ ∃ p : Regrown, w'' = grow (redrawn (w.alloc (.cells #[.int .i64 3, .int .i64 W, .int .i64 H, .int .i64 M, .int .i64 S] 28)) p.d) p.os) :=
      Lib.hid fun n hn d os => Calls.regrown_of (HIT.out n hn _ ((HT.out _).below (below_regrown _ d os)))
    clear t0 t1 t2 t3 t4
    refine wp_region_quiet_below (by kernel_rfl) (by kernel_rfl) ?_
    repeat (go_big_quiet_step ((with_reducible (first | exact HQ.out W HW.out _ _ | exact HQ.out H HH.out _ _ | exact HQ.out M HM.out _ _))))
    refine wpQuiet_nil ?_
    intro _ hw'
    obtain ⟨⟨dq, osq⟩, hw''⟩ := hw'
    subst hw''
    go_wp2_with fail
    go_ret
    exact ⟨rfl, ((Below.refl w.heap.size w).alloc (Nat.le_refl _) _).trans ((below_regrown _ dq osq).mono (by simp))⟩
  · have hcb : (c == 3) = false := by rw [beq_eq_false_iff_ne]; exact hc
    rw [if_neg hc] at hB
    subst hB
    have e1' : (⟨#[80, 53]⟩ : ByteArray) ++ ⟨#[10]⟩ = strOfNums L1 := e1
    have z6 : (ByteArray.mk #[80, 53]).size = 2 := rfl
    clear e1 hc
    go_enter Tryd.func12, Tryd.ntmps12
    go_wp2_with fail
    obtain ⟨⟨t0, t1, t2, t3, t4⟩, -⟩ := row5 (heap_alloc_new w (.cells #[.int .i64 c, .int .i64 W, .int .i64 H, .int .i64 M, .int .i64 S] 28))
    have q1 := cell_regrown t1
    have q2 := cell_regrown t2
    have q3 := cell_regrown t3
    have HQ : Hid (∀ (n : Int), I64 n → ∀ d os, Calls Tryd.prog 29 #[.int .i64 n] (grow (redrawn (w.alloc (.cells #[.int .i64 c, .int .i64 W, .int .i64 H, .int .i64 M, .int .i64 S] 28)) d) os) fun e w'' => e = .returned (.string (strOfNums (decL n))) ∧ ∃ p : Regrown, w'' = grow (redrawn (w.alloc (.cells #[.int .i64 c, .int .i64 W, .int .i64 H, .int .i64 M, .int .i64 S] 28)) p.d) p.os) :=
      Lib.hid fun n hn d os => Calls.regrown_of (HIT.out n hn _ ((HT.out _).below (below_regrown _ d os)))
    clear t0 t1 t2 t3 t4
    refine wp_region_quiet_below (by kernel_rfl) (by kernel_rfl) ?_
    repeat (go_big_quiet_step ((with_reducible (first | exact HQ.out W HW.out _ _ | exact HQ.out H HH.out _ _ | exact HQ.out M HM.out _ _))))
    refine wpQuiet_nil ?_
    intro _ hw'
    obtain ⟨⟨dq, osq⟩, hw''⟩ := hw'
    subst hw''
    go_wp2_with fail
    go_ret
    exact ⟨rfl, ((Below.refl w.heap.size w).alloc (Nat.le_refl _) _).trans ((below_regrown _ dq osq).mono (by simp))⟩
end Go.Proofs.YtnpkkcbgfnnfmaaDoor
