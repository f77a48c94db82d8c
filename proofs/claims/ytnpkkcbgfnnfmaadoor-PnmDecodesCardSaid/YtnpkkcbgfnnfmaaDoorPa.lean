import Derived.Test.YtnpkkcbgfnnfmaaDoorPMath
import Derived.Test.YtnpkkcbgfnnfmaaDoorKm
/- pnm.Width, pnm.Size. -/
namespace Go.Proofs.YtnpkkcbgfnnfmaaDoor
open Go.RowKit Go.Sort
set_option linter.unusedVariables false
set_option linter.unusedSimpArgs false
set_option maxRecDepth 100000

theorem pwidth_any (m : Int) (w : World) : Calls Tryd.prog 16 #[.int .i64 m] w fun e w' => e = .returned (.int .i64 (wdL m)) ∧ w = w' := by
  by_cases h : m < 256
  · have hw : wdL m = 1 := by unfold wdL; rw [if_pos h]
    rw [hw]
    clear hw
    go_enter Tryd.func16, Tryd.ntmps16
    go_wp2
    all_goals go_ret
    exact ⟨rfl, rfl⟩
  · have hw : wdL m = 2 := by unfold wdL; rw [if_neg h]
    rw [hw]
    clear hw
    go_enter Tryd.func16, Tryd.ntmps16
    go_wp2
    all_goals go_ret
    exact ⟨rfl, rfl⟩

theorem psize_any (c x y m s : Int) (w : World) : Calls Tryd.prog 17 #[headV c x y m s] w fun e w' => e = .returned (.int .i64 (szL c x y m)) ∧ Below w.heap.size w w' := by
  have HW : Hid (∀ w : World, Calls Tryd.prog 16 #[.int .i64 m] w fun e w' => e = .returned (.int .i64 (wdL m)) ∧ w' = w) := Lib.hid fun w => (pwidth_any m w).mono fun e w' h => ⟨h.1, h.2.symm⟩
  obtain ⟨fz, hfz⟩ : ∃ fz, fitsB x y c = fz := ⟨_, rfl⟩
  have HF := Lib.hid fun w => fits_any x y c w
  have HB : ∀ o, Hid (Below w.heap.size w (w.alloc o)) := fun o => Lib.hid ((Below.refl w.heap.size w).alloc (Nat.le_refl _) o)
  have hrow : (w.alloc (.cells #[.int .i64 c, .int .i64 x, .int .i64 y, .int .i64 m, .int .i64 s] 23)).heap[w.heap.size]? = some (.cells #[.int .i64 c, .int .i64 x, .int .i64 y, .int .i64 m, .int .i64 s] 23 (0, 0)) := heap_alloc_new w _
  obtain ⟨⟨t0, t1, t2, t3, t4⟩, -⟩ := row5 hrow
  rw [hfz] at HF
  have HFZ := Lib.hid hfz
  clear hfz hrow
  by_cases m1 : m < 1
  · have hs : szL c x y m = 0 := by unfold szL; rw [if_pos (.inl m1)]
    rw [hs]
    clear hs
    go_enter Tryd.func17, Tryd.ntmps17
    go_wp2_with fail
    go_ret
    exact ⟨rfl, (HB _).out⟩
  by_cases m2 : 65536 ≤ m
  · have hs : szL c x y m = 0 := by unfold szL; rw [if_pos (.inr (.inl (by omega)))]
    rw [hs]
    clear hs
    go_enter Tryd.func17, Tryd.ntmps17
    go_wp2_with fail
    go_ret
    exact ⟨rfl, (HB _).out⟩
  cases fz with
  | false =>
    have hs : szL c x y m = 0 := by unfold szL; rw [if_pos (.inr (.inr HFZ.out))]
    rw [hs]
    clear hs
    go_enter Tryd.func17, Tryd.ntmps17
    go_wp2_with (go_at_call 37; refine (HF.out _).mono ?_; rintro e w2 ⟨rfl, rfl⟩)
    go_ret
    exact ⟨rfl, (HB _).out⟩
  | true =>
    have hs : szL c x y m = x * y * c * wdL m := by unfold szL; rw [if_neg]; rw [HFZ.out]; rintro (h | h | h) <;> first | omega | cases h
    have hf := HFZ.out
    unfold fitsB at hf
    rw [decide_eq_true_eq] at hf
    obtain ⟨w1, w2, h1, h2, hc, p2⟩ := hf
    have hb := mul_bd w1 w2 h1 h2
    obtain ⟨k, hk⟩ : ∃ k, wdL m = k := ⟨_, rfl⟩
    have hk2 : k = 1 ∨ k = 2 := by rw [← hk]; exact wdL_vals m
    have p1 : 1 ≤ x * y * c := by rcases hc with rfl | rfl <;> omega
    have e1 : wrap64 (x * y) = x * y := wrap_in (by omega) (by omega)
    have e2 : wrap64 (x * y * c) = x * y * c := wrap_in (by omega) (by omega)
    have e3 : wrap64 (x * y * c * k) = x * y * c * k := by rcases hk2 with rfl | rfl <;> exact wrap_in (by omega) (by omega)
    rw [hk] at HW hs
    rw [hs]
    clear hs hb p1 p2 hk hc hk2 w1 w2 h1 h2
    go_enter Tryd.func17, Tryd.ntmps17
    go_wp2_with (go_at_call 37; refine (HF.out _).mono ?_; rintro e w2 ⟨rfl, rfl⟩)
    go_quiet (first | (go_at_call 16; exact Calls.quiet_of_same (HW.out _)))
    go_wp2_with fail
    go_ret
    exact ⟨ret_int e3, (HB _).out.trans (Below.drewN nq)⟩
end Go.Proofs.YtnpkkcbgfnnfmaaDoor
