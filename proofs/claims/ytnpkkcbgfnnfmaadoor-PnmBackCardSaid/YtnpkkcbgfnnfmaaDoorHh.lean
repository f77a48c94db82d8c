import Derived.Test.YtnpkkcbgfnnfmaaDoorHf
/- The document's Decimal; HeaderRemarks' gap. -/
namespace Go.Proofs.YtnpkkcbgfnnfmaaDoor
open Go.RowKit
set_option linter.unusedVariables false
set_option linter.unusedSimpArgs false
set_option maxRecDepth 100000

theorem son_app (a b : List Int) : strOfNums a ++ strOfNums b = strOfNums (a ++ b) := by
  apply ByteArray.ext
  simp [strOfNums, ByteArray.data_append]

/-- the digits of a number -/
def posL (n : Nat) : List Int := if h : n ≤ 9 then [48 + (n : Int)] else posL (n / 10) ++ [48 + ((n % 10 : Nat) : Int)]
  termination_by n
  decreasing_by omega
theorem posL_small {n : Nat} (h : n ≤ 9) : posL n = [48 + (n : Int)] := by rw [posL, dif_pos h]
theorem posL_big {n : Nat} (h : 9 < n) : posL n = posL (n / 10) ++ [48 + ((n % 10 : Nat) : Int)] := by rw [posL, dif_neg (by omega)]

theorem one_conv (w : World) (v : Int) : (convert 24 9 (.slice (some ⟨w.heap.size, 0, none⟩) 1 1)).run Tryd.prog (w.alloc (.cells #[.int .u8 v] 5)) = .ok (.string (strOfNums [v])) (w.alloc (.cells #[.int .u8 v] 5)) := by
  refine run_convert_bytes_arg _ _ _ Tryd.underlying24 Tryd.underlying5 w.heap.size 0 1 1 [v] rfl (fun i hi => ?_) _ Tryd.underlying9
  have : i = 0 := by omega
  subst this
  rw [cell_of_row _ _ _ _ _ _ (heap_alloc_new w _)]
  rfl

theorem positive_any (n : Nat) (hn : n ≤ 18446744073709551615) (w : World) :
    Calls Tryd.prog 46 #[.int .u64 n] w fun e w' => e = .returned (.string (strOfNums (posL n))) ∧ Below w.heap.size w w' := by
  have kc := fun w v => one_conv w v
  have happ := fun a b => son_app a b
  go_enter Tryd.func46, Tryd.ntmps46
  go_wp2
  have hs0 := fun l => son_size l
  have HP : Hid (posL n = posL n) := Lib.hid rfl
  go_loopw [0, 3] (fun t o wr => ∃ (m : Nat) (rest : List Int), t = .int .u64 m ∧ o = .string (strOfNums ((48 + ((m % 10 : Nat) : Int)) :: rest)) ∧ posL m ++ rest = posL n ∧ 9 * rest.length + m ≤ n ∧ Below w.heap.size w wr) (fun t _ _ => (intOf t).toNat)
  case atStart => exact ⟨n, [], rfl, rfl, by simp, by simp, (Below.refl _ _).alloc (Nat.le_refl _) _⟩
  case round =>
    obtain ⟨m, rest, rfl, rfl, hp, hr, hB⟩ := hrel
    have HPP := Lib.hid hp
    have HB := Lib.hid hB
    clear hp hB
    by_cases h9 : 9 < m
    · go_wp2
      refine ⟨⟨m / 10, (48 + ((m % 10 : Nat) : Int)) :: rest, by push_cast; rfl, by push_cast; rfl, ?_, by rw [List.length_cons]; omega, HB.out.alloc HB.out.size _⟩, by simp [intOf]; omega⟩
      rw [← HPP.out, posL_big h9]
      simp
    · have hps : posL m = [48 + ((m % 10 : Nat) : Int)] := by rw [posL_small (by omega), Nat.mod_eq_of_lt (by omega)]
      have HPS := Lib.hid hps
      clear hps
      go_wp2
      go_ret
      refine ⟨?_, HB.out⟩
      rw [← HPP.out, HPS.out]
      rfl

def gapL (l : List Int) : List Int := 35 :: (l.filter (fun x => x != 10 && x != 13)) ++ [10]
theorem nonneg_dec (n : Nat) (hn : n ≤ 9223372036854775807) (w : World) :
    Calls Tryd.prog 29 #[.int .i64 n] w fun e w' => e = .returned (.string (strOfNums (posL n))) ∧ Below w.heap.size w w' := by
  have HP := Lib.hid fun w => positive_any n (by omega) w
  go_enter Tryd.func29, Tryd.ntmps29
  go_wp2_with (go_at_call 46; refine (HP.out _).mono ?_; rintro e w2 ⟨rfl, hB⟩; have HB := Lib.hid hB; clear hB)
  go_ret
  exact ⟨rfl, HB.out⟩

end Go.Proofs.YtnpkkcbgfnnfmaaDoor
