import Derived.Test.YtnpkkcbgfnnfmaaHf
/- The document's Decimal; HeaderRemarks' gap. -/
namespace Go.Proofs.Ytnpkkcbgfnnfmaa
open Go.RowKit
set_option linter.unusedVariables false
set_option linter.unusedSimpArgs false
set_option maxRecDepth 100000

theorem son_app (a b : List Int) : strOfNums a ++ strOfNums b = strOfNums (a ++ b) := by
  apply ByteArray.ext
  simp [strOfNums, ByteArray.data_append]

/-- the digits of a number -/
def posL (n : Nat) : List Int := if h : n ≤ 9 then [48 + (n : Int)] else posL (n / 10) ++ [48 + ((n % 10 : Nat) : Int)]
  termination_by n
  decreasing_by omega
theorem posL_small {n : Nat} (h : n ≤ 9) : posL n = [48 + (n : Int)] := by rw [posL, dif_pos h]
theorem posL_big {n : Nat} (h : 9 < n) : posL n = posL (n / 10) ++ [48 + ((n % 10 : Nat) : Int)] := by rw [posL, dif_neg (by omega)]

theorem one_conv (w : World) (v : Int) : (convert 47 9 (.slice (some ⟨w.heap.size, 0, none⟩) 1 1)).run Try.prog (w.alloc (.cells #[.int .u8 v] 5)) = .ok (.string (strOfNums [v])) (w.alloc (.cells #[.int .u8 v] 5)) := by
  refine run_convert_bytes_arg _ _ _ Try.underlying47 Try.underlying5 w.heap.size 0 1 1 [v] rfl (fun i hi => ?_) _ Try.underlying9
  have : i = 0 := by omega
  subst this
  rw [cell_of_row _ _ _ _ _ _ (heap_alloc_new w _)]
  rfl

theorem positive_any (n : Nat) (hn : n ≤ 18446744073709551615) (w : World) :
    Calls Try.prog 85 #[.int .u64 n] w fun e w' => e = .returned (.string (strOfNums (posL n))) ∧ Below w.heap.size w w' := by
  have kc := fun w v => one_conv w v
  have happ := fun a b => son_app a b
  go_enter Try.func85, Try.ntmps85
  go_wp2
  have hs0 := fun l => son_size l
  have HP : Hid (posL n = posL n) := Lib.hid rfl
  go_loopw [0, 3] (fun t o wr => ∃ (m : Nat) (rest : List Int), t = .int .u64 m ∧ o = .string (strOfNums ((48 + ((m % 10 : Nat) : Int)) :: rest)) ∧ posL m ++ rest = posL n ∧ 9 * rest.length + m ≤ n ∧ Below w.heap.size w wr) (fun t _ _ => (intOf t).toNat)
  case atStart => exact ⟨n, [], rfl, rfl, by simp, by simp, (Below.refl _ _).alloc (Nat.le_refl _) _⟩
  case round =>
    obtain ⟨m, rest, rfl, rfl, hp, hr, hB⟩ := hrel
    have HPP := Lib.hid hp
    have HB := Lib.hid hB
    clear hp hB
    by_cases h9 : 9 < m
    · go_wp2
      refine ⟨⟨m / 10, (48 + ((m % 10 : Nat) : Int)) :: rest, by push_cast; rfl, by push_cast; rfl, ?_, by rw [List.length_cons]; omega, HB.out.alloc HB.out.size _⟩, by simp [intOf]; omega⟩
      rw [← HPP.out, posL_big h9]
      simp
    · have hps : posL m = [48 + ((m % 10 : Nat) : Int)] := by rw [posL_small (by omega), Nat.mod_eq_of_lt (by omega)]
      have HPS := Lib.hid hps
      clear hps
      go_wp2
      go_ret
      refine ⟨?_, HB.out⟩
      rw [← HPP.out, HPS.out]
      rfl

def gapL (l : List Int) : List Int := 35 :: (l.filter (fun x => x != 10 && x != 13)) ++ [10]
theorem nonneg_dec (n : Nat) (hn : n ≤ 9223372036854775807) (w : World) :
    Calls Try.prog 56 #[.int .i64 n] w fun e w' => e = .returned (.string (strOfNums (posL n))) ∧ Below w.heap.size w w' := by
  have HP := Lib.hid fun w => positive_any n (by omega) w
  go_enter Try.func56, Try.ntmps56
  go_wp2_with (go_at_call 85; refine (HP.out _).mono ?_; rintro e w2 ⟨rfl, hB⟩; have HB := Lib.hid hB; clear hB)
  go_ret
  exact ⟨rfl, HB.out⟩

theorem gap_any (v : Value) (xs : List Int) (w : World) (h : Rd w .u8 v xs) (hl : xs.length ≤ 4503599627370496) :
    Calls Try.prog 54 #[v] w fun e w' => e = .returned (.string (strOfNums (gapL xs))) ∧ Below w.heap.size w w' := by
  have HR := Lib.hid h
  obtain ⟨xo, cc, rfl, h1, h2, hx⟩ := h.form
  unfold maxLen at h1
  obtain ⟨n, hn⟩ : ∃ n, xs.length = n := ⟨_, rfl⟩
  rw [hn] at hl h2 HR ⊢
  have HN := Lib.hid hn
  clear hx hn h
  have kc := fun w v => one_conv w v
  have happ := fun a b => son_app a b
  have hs0 := fun l => son_size l
  go_enter Try.func54, Try.ntmps54
  go_wp2
  go_loopw [3, 8] (fun s i wr => ∃ (k : Nat) (l : List Int), k ≤ n ∧ i = .int .i64 k ∧ s = .string (strOfNums l) ∧ l = 35 :: ((xs.take k).filter (fun x => x != 10 && x != 13)) ∧ l.length ≤ k + 1 ∧ Below w.heap.size w wr) (fun _ i _ => n - (intOf i).toNat)
  case atStart => exact ⟨0, [35], by omega, rfl, rfl, rfl, by simp, Below.refl _ _⟩
  case round =>
    obtain ⟨k, l, hk, rfl, rfl, hl2, hll, hB⟩ := hrel
    have HL2 := Lib.hid hl2
    have HB := Lib.hid hB
    clear hl2 hB
    by_cases hlt : k < n
    · have hkx : k < xs.length := by have := HN.out; omega
      obtain ⟨x, rfl⟩ := HR.out.some_ (by omega)
      obtain ⟨u, HU, cu⟩ := (HR.out.below HB.out).get rfl hkx
      have HTK : Hid (xs.take (k + 1) = xs.take k ++ [u]) := Lib.hid (by rw [take_succ_getD hkx, HU.out])
      clear HU
      by_cases hu : u = 10 ∨ u = 13
      · have hnl : l = 35 :: ((xs.take (k + 1)).filter (fun x => x != 10 && x != 13)) := by
          rw [HL2.out, HTK.out, List.filter_append]
          rcases hu with rfl | rfl <;> simp
        have HNL := Lib.hid hnl
        clear hnl
        rcases hu with rfl | rfl
        · go_wp2
          exact ⟨⟨k + 1, l, by omega, by go_num, rfl, HNL.out, by omega, HB.out⟩, by simp [intOf]; omega⟩
        · go_wp2
          exact ⟨⟨k + 1, l, by omega, by go_num, rfl, HNL.out, by omega, HB.out⟩, by simp [intOf]; omega⟩
      · have hu1 : (u != 10) = true := by rw [bne_iff_ne]; omega
        have hu2 : (u != 13) = true := by rw [bne_iff_ne]; omega
        have hnl : l ++ [u] = 35 :: ((xs.take (k + 1)).filter (fun x => x != 10 && x != 13)) := by
          rw [HL2.out, HTK.out, List.filter_append]
          simp [hu1, hu2]
        have HNL := Lib.hid hnl
        clear hnl hu
        go_wp2
        exact ⟨⟨k + 1, l ++ [u], by omega, by go_num, rfl, HNL.out, by rw [List.length_append]; simp; omega, HB.out.alloc HB.out.size _⟩, by simp [intOf]; omega⟩
    · go_wp2
      go_ret
      refine ⟨?_, HB.out⟩
      have hfull : xs.take k = xs := List.take_of_length_le (by have := HN.out; omega)
      have hl3 := HL2.out
      rw [hfull] at hl3
      have e1 : strOfNums l ++ strOfNums [10] = strOfNums (gapL xs) := by rw [son_app, hl3]; rfl
      rw [← e1]
      rfl
end Go.Proofs.Ytnpkkcbgfnnfmaa
