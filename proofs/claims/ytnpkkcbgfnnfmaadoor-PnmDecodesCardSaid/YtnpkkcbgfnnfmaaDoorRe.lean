import Derived.Test.YtnpkkcbgfnnfmaaDoorRd
import Derived.Deep.RegionHeld3
/- Contracts of images' methods Row, Copy, Same; Of; and of the document's In, At, Set. -/
namespace Go.Proofs.YtnpkkcbgfnnfmaaDoor
open Go.RowKit
set_option linter.unusedVariables false
set_option linter.unusedSimpArgs false
set_option maxRecDepth 100000

section
variable {w : World} {g b : Nat} {W H C M : Int} {xs : List Int}

theorem same_any {g' b' : Nat} {W' H' C' M' : Int} {ys : List Int} (h : ImgR w g b W H C M xs) (h' : ImgR w g' b' W' H' C' M' ys) :
    Calls Tryd.prog 27 #[.pointer (some ⟨g, 0, none⟩), .pointer (some ⟨g', 0, none⟩)] w fun e w' => e = .returned (.bool (decide (W = W' ∧ H = H' ∧ C = C' ∧ M = M' ∧ xs = ys))) ∧ ∃ m, w' = w.drewN m := by
  obtain ⟨cap, ho, h1⟩ := h.own
  obtain ⟨c0, c1, c2, c3, c4⟩ := Img.cell h1
  obtain ⟨cap', ho', h1'⟩ := h'.own
  obtain ⟨c0', c1', c2', c3', c4'⟩ := Img.cell h1'
  have HR := Lib.hid ho.rd
  have HR' := Lib.hid ho'.rd
  have hW : (W == W') = true ∨ (W == W') = false := by cases (W == W') <;> simp
  have hH : (H == H') = true ∨ (H == H') = false := by cases (H == H') <;> simp
  have hC : (C == C') = true ∨ (C == C') = false := by cases (C == C') <;> simp
  have hM : (M == M') = true ∨ (M == M') = false := by cases (M == M') <;> simp
  clear h h1 ho h' h1' ho'
  have fin : ∀ q : Bool, q = (W == W' && (H == H' && (C == C' && (M == M' && decide (xs = ys))))) → q = decide (W = W' ∧ H = H' ∧ C = C' ∧ M = M' ∧ xs = ys) := by
    intro q hq
    rw [hq, Bool.eq_iff_iff]
    simp only [Bool.and_eq_true, beq_iff_eq, decide_eq_true_eq]
  have FIN := Lib.hid fin
  clear fin
  rcases hW with hW | hW
  · rcases hH with hH | hH
    · rcases hC with hC | hC
      · rcases hM with hM | hM
        · go_enter Tryd.func27, Tryd.ntmps27
          go_wp2
          go_quiet ((go_at_call 44; exact Calls.quiet_of (equal_any _ _ _ _ _ HR.out HR'.out)))
          go_wp2
          go_ret
          exact ⟨ret_bool (FIN.out _ (by rw [hW, hH, hC, hM]; simp)), nq, rfl⟩
        · go_enter Tryd.func27, Tryd.ntmps27
          go_wp2
          go_quiet (fail)
          go_wp2
          go_ret
          exact ⟨ret_bool (FIN.out _ (by rw [hW, hH, hC, hM]; simp)), nq, rfl⟩
      · go_enter Tryd.func27, Tryd.ntmps27
        go_wp2
        go_quiet (fail)
        go_wp2
        go_ret
        exact ⟨ret_bool (FIN.out _ (by rw [hW, hH, hC]; simp)), nq, rfl⟩
    · go_enter Tryd.func27, Tryd.ntmps27
      go_wp2
      go_quiet (fail)
      go_wp2
      go_ret
      exact ⟨ret_bool (FIN.out _ (by rw [hW, hH]; simp)), nq, rfl⟩
  · go_enter Tryd.func27, Tryd.ntmps27
    go_wp2
    go_quiet (fail)
    go_wp2
    go_ret
    exact ⟨ret_bool (FIN.out _ (by rw [hW]; simp)), nq, rfl⟩

theorem same_right_nil (g : Nat) (w : World) :
    Calls Tryd.prog 27 #[.pointer (some ⟨g, 0, none⟩), .pointer none] w fun e w' => e = .returned (.bool false) ∧ w = w' := by
  go_enter Tryd.func27, Tryd.ntmps27
  go_wp2
  go_ret
  exact ⟨rfl, rfl⟩
theorem same_left_nil (g : Nat) (w : World) :
    Calls Tryd.prog 27 #[.pointer none, .pointer (some ⟨g, 0, none⟩)] w fun e w' => e = .returned (.bool false) ∧ w = w' := by
  have he := fun (w : World) (p : Option Addr) => run_eql_nil_pointer (P := Tryd.prog) w 39 p Tryd.underlying39
  go_enter Tryd.func27, Tryd.ntmps27
  go_wp2
  go_ret
  exact ⟨rfl, rfl⟩
theorem same_both_nil (w : World) :
    Calls Tryd.prog 27 #[.pointer none, .pointer none] w fun e w' => e = .returned (.bool true) ∧ w = w' := by
  go_enter Tryd.func27, Tryd.ntmps27
  go_wp2
  go_ret
  exact ⟨rfl, rfl⟩
end
end Go.Proofs.YtnpkkcbgfnnfmaaDoor
