import Derived.Test.YtnpkkcbgfnnfmaaDoorPc
/- The law PnmSizes: its walk. -/
namespace Go.Proofs.YtnpkkcbgfnnfmaaDoor
open Go.RowKit Go.Sort
set_option linter.unusedVariables false
set_option linter.unusedSimpArgs false
set_option maxRecDepth 100000

theorem szL_no {c x y m : Int} (h : codeR x y c m ≠ 0) : szL c x y m = 0 := by
  unfold szL
  split
  · rfl
  · rename_i hh
    exfalso
    have hf : fitsB x y c = true := by
      cases hfz : fitsB x y c with
      | true => rfl
      | false => exact absurd (.inr (.inr hfz)) hh
    have hc : c = 1 ∨ c = 3 := by
      unfold fitsB at hf
      rw [decide_eq_true_eq] at hf
      exact hf.2.2.2.2.1
    exact h (codeR_ok (by omega) (by omega) hc hf)

set_option maxHeartbeats 2000000 in
theorem pnmSizes_walk (c x y m s : Int) (w : World) (wc : (Lit.int .i64 c).wf = true) (wx : (Lit.int .i64 x).wf = true) (wy : (Lit.int .i64 y).wf = true) (wm : (Lit.int .i64 m).wf = true) (ws : (Lit.int .i64 s).wf = true) (ht : Tab w) :
    Calls Tryd.prog 5 #[headV c x y m s] w fun e w' => e = .returned (.bool true) ∧ Below w.heap.size w w' := by
  have HT := Lib.hid ht
  have HA : ∀ o, Hid (Below w.heap.size w (w.alloc o)) := fun o => Lib.hid ((Below.refl w.heap.size w).alloc (Nat.le_refl _) o)
  have HROW : Hid ((w.alloc (.cells #[.int .i64 c, .int .i64 x, .int .i64 y, .int .i64 m, .int .i64 s] 23)).heap[w.heap.size]? = some (.cells #[.int .i64 c, .int .i64 x, .int .i64 y, .int .i64 m, .int .i64 s] 23 (0, 0))) := Lib.hid (heap_alloc_new w _)
  obtain ⟨k, hk⟩ : ∃ k, wdL m = k := ⟨_, rfl⟩
  have hk2 : (m > 255 ∧ k = 2) ∨ (¬ m > 255 ∧ k = 1) := by
    rw [← hk]
    unfold wdL
    by_cases h : m < 256
    · rw [if_pos h]; exact .inr ⟨by omega, rfl⟩
    · rw [if_neg h]; exact .inl ⟨by omega, rfl⟩
  have HWD : Hid (∀ w : World, Calls Tryd.prog 16 #[.int .i64 m] w fun e w' => e = .returned (.int .i64 k) ∧ w = w') := Lib.hid fun w => by have := pwidth_any m w; rw [hk] at this; exact this
  obtain ⟨z, hz⟩ : ∃ z, szL c x y m = z := ⟨_, rfl⟩
  have HSZ : Hid (∀ w : World, Calls Tryd.prog 17 #[headV c x y m s] w fun e w' => e = .returned (.int .i64 z) ∧ Below w.heap.size w w') := Lib.hid fun w => by have := psize_any c x y m s w; rw [hz] at this; exact this
  obtain ⟨q, hq⟩ : ∃ q, codeR x y c m = q := ⟨_, rfl⟩
  have HCO : Hid (∀ w : World, Calls Tryd.prog 14 #[.int .i64 x, .int .i64 y, .int .i64 c, .int .i64 m] w fun e w' => e = .returned (.int .i64 q) ∧ w = w') := Lib.hid fun w => by have := refCode_any x y c m w; rw [hq] at this; exact this
  have hqz : (q = 0 ∧ wrap64 (wrap64 (wrap64 (x * y) * c) * k) = z) ∨ (q ≠ 0 ∧ z = 0) := by
    by_cases h0 : q = 0
    · left
      refine ⟨h0, ?_⟩
      rw [h0] at hq
      rw [← hz, szL_of hq, hk]
      obtain ⟨m1, m2, hc, w1, w2, h1, h2, a1, a2, p1, p2⟩ := codeR_zero hq
      rw [wrap_in (x := x * y) (by omega) (by omega), wrap_in (x := x * y * c) (by omega) (by omega)]
      rcases hk2 with ⟨_, rfl⟩ | ⟨_, rfl⟩ <;> exact wrap_in (by omega) (by omega)
    · right
      exact ⟨h0, by rw [← hz]; exact szL_no (by rw [hq]; exact h0)⟩
  clear ht wc wx wy wm ws hk hz hq
  rcases hk2 with ⟨hm, rfl⟩ | ⟨hm, rfl⟩ <;> rcases hqz with ⟨rfl, hw⟩ | ⟨hq0, rfl⟩
  all_goals
    try rw [Int.mul_one] at hw
    go_enter Tryd.func5, Tryd.ntmps5
    go_wp2_with fail
    refine (lives11_any _ (HT.out.below (HA _).out)).mono ?_
    rintro e wl ⟨rfl, hB⟩
    have HB := Lib.hid ((HA _).out.trans (hB.mono (HA _).out.size))
    have hrow := below_row (B := 0) hB HROW.out
    obtain ⟨⟨t0, t1, t2, t3, t4⟩, -⟩ := row5 hrow
    clear hB hrow
    go_wp2_with (first
      | (go_at_call 14; refine (HCO.out _).mono ?_; rintro e w2 ⟨rfl, rfl⟩)
      | (go_at_call 16; refine (HWD.out _).mono ?_; rintro e w2 ⟨rfl, rfl⟩)
      | (go_at_call 17; refine (HSZ.out _).mono ?_; rintro e w2 ⟨rfl, hB2⟩; have HB2 := Lib.hid (HB.out.trans (hB2.mono HB.out.size)); clear hB2))
    go_ret
    exact ⟨rfl, HB2.out⟩
end Go.Proofs.YtnpkkcbgfnnfmaaDoor
