import Derived.Test.YtnpkkcbgfnnfmaaRg
/- The law RasterCodes: its walk. -/
namespace Go.Proofs.Ytnpkkcbgfnnfmaa
open Go.RowKit
set_option linter.unusedVariables false
set_option linter.unusedSimpArgs false
set_option maxRecDepth 100000

theorem fitsB_of {w h c m : Int} (e : codeR w h c m = 0) : fitsB w h c = true := by
  obtain ⟨m1, m2, hc, a1, a2, b1, b2, p1, p2, q1, q2⟩ := codeR_zero e
  unfold fitsB
  simp [a1, a2, b1, b2, hc, q2]

set_option maxHeartbeats 1000000 in
theorem rasterCodes_walk (a0 a1 a2 a3 : Int) (w : World) (_ : (Lit.int .i64 a0).wf = true) (_ : (Lit.int .i64 a1).wf = true) (_ : (Lit.int .i64 a2).wf = true) (_ : (Lit.int .i64 a3).wf = true) :
    Calls Try.prog 3 #[.int .i64 a0, .int .i64 a1, .int .i64 a2, .int .i64 a3] w fun e w' => e = .returned (.bool true) ∧ Below w.heap.size w w' := by
  by_cases hc : codeR a0 a1 a2 a3 = 0
  · have HF := Lib.hid (fitsB_of hc)
    obtain ⟨m1, m2, hcc, x1, x2, y1, y2, p1, p2, q1, q2⟩ := codeR_zero hc
    have HN := fun w => Lib.hid (new_ok a0 a1 a2 a3 w hc)
    have HNN := Lib.hid HN
    clear HN
    obtain ⟨n, hn⟩ : ∃ n : Nat, (a0 * a1 * a2).toNat = n := ⟨_, rfl⟩
    have hnn : a0 * a1 * a2 = (n : Int) := by omega
    have HNT := Lib.hid hn
    have HNI := Lib.hid hnn
    have HC := Lib.hid hc
    clear hc hn hnn hcc
    by_cases hb : 5000 < a0 * a1 * a2
    · go_enter Try.func3, Try.ntmps3
      go_wp2_with (first
        | (go_at_call 20; refine (lives09_any _).mono ?_; rintro e w1 ⟨rfl, hB1⟩)
        | (go_at_call 21; refine (refCode_any _ _ _ _ _).mono ?_; rw [HC.out]; rintro e w2 ⟨rfl, rfl⟩)
        | (go_at_call 22; refine (fits_any _ _ _ _).mono ?_; rw [HF.out]; rintro e w2 ⟨rfl, rfl⟩)
        | (go_at_call 23; refine (refFits_any _ _ _ _).mono ?_; rw [HF.out]; rintro e w2 ⟨rfl, rfl⟩))
      go_ret
      exact ⟨rfl, hB1⟩
    · have hb' : a0 * a1 * a2 ≤ 5000 := by omega
      clear hb
      go_enter Try.func3, Try.ntmps3
      go_wp2_with (first
        | (go_at_call 20; refine (lives09_any _).mono ?_; rintro e w1 ⟨rfl, hB1⟩)
        | (go_at_call 21; refine (refCode_any _ _ _ _ _).mono ?_; rw [HC.out]; rintro e w2 ⟨rfl, rfl⟩)
        | (go_at_call 22; refine (fits_any _ _ _ _).mono ?_; rw [HF.out]; rintro e w2 ⟨rfl, rfl⟩)
        | (go_at_call 23; refine (refFits_any _ _ _ _).mono ?_; rw [HF.out]; rintro e w2 ⟨rfl, rfl⟩)
        | (go_at_call 24; refine (HNN.out _).out.mono ?_; rw [HNT.out]; rintro e w2 ⟨g, r, rfl, hg, hr, hi, hB2⟩; have HI := Lib.hid hi; clear hi))
      have hn5 : n ≤ 5000 := by have := HNI.out; omega
      refine (samples_any HI.out (by rw [List.length_replicate]; omega)).mono ?_
      rw [List.length_replicate]
      rintro e w3 ⟨x, c, rfl, hown, hB3⟩
      have HO := Lib.hid hown
      have HI3 := Lib.hid (HI.out.below hB3)
      clear hown
      go_wp2_with fail
      go_loop [13, 63] (fun _ i => ∃ k : Nat, k ≤ n ∧ i = .int .i64 k) (fun _ i => n - (intOf i).toNat)
      case atStart => exact ⟨0, by omega, rfl⟩
      case round =>
        obtain ⟨k, hk, rfl⟩ := hrel
        by_cases hlt : k < n
        · obtain ⟨x, rfl⟩ := HO.out.rd.some_ (by rw [List.length_replicate]; omega)
          obtain ⟨u, HU, cu⟩ := HO.out.rd.get rfl (j := k) (by rw [List.length_replicate]; exact hlt)
          have hu : u = 0 := by
            rw [← HU.out, List.getD_eq_getElem?_getD, List.getElem?_replicate, if_pos hlt]
            rfl
          subst hu
          go_wp2
          refine ⟨⟨k + 1, by omega, by go_num⟩, by simp [intOf]; omega⟩
        · go_wp2_with (first
            | (go_at_call 26; refine (width_any HI3.out).mono ?_; rintro e w4 ⟨rfl, rfl⟩)
            | (go_at_call 27; refine (height_any HI3.out).mono ?_; rintro e w4 ⟨rfl, rfl⟩)
            | (go_at_call 28; refine (channels_any HI3.out).mono ?_; rintro e w4 ⟨rfl, rfl⟩)
            | (go_at_call 29; refine (most_any HI3.out).mono ?_; rintro e w4 ⟨rfl, rfl⟩)
            | (go_at_call 25; refine (samples_any HI3.out (by rw [List.length_replicate]; omega)).mono ?_; rw [List.length_replicate]; rintro e w4 ⟨x4, c4, rfl, hown4, hB4⟩; clear hown4))
          go_ret
          refine ⟨ret_bool ?_, ?_⟩
          · have := HNI.out
            rw [beq_iff_eq]
            omega
          · exact (((hB1.trans (hB2.mono hB1.size)).trans (hB3.mono (Nat.le_trans hB1.size hB2.size))).trans (hB4.mono (Nat.le_trans hB1.size (Nat.le_trans hB2.size hB3.size))))
  · have hne : (codeR a0 a1 a2 a3 == 0) = false := by simpa using hc
    have hne' : (codeR a0 a1 a2 a3 != 0) = true := by simpa using hc
    have HN := fun w => (new_bad a0 a1 a2 a3 w hc)
    have HC0 := fun w => (refCode_any a0 a1 a2 a3 w)
    obtain ⟨q, hq⟩ : ∃ q, codeR a0 a1 a2 a3 = q := ⟨_, rfl⟩
    rw [hq] at hne hne' HN HC0
    have HNN := Lib.hid HN
    have HC := Lib.hid HC0
    clear hc HN HC0 hq
    cases hf : fitsB a0 a1 a2
    all_goals
      have HF := Lib.hid hf
      clear hf
      go_enter Try.func3, Try.ntmps3
      go_wp2_with (first
        | (go_at_call 20; refine (lives09_any _).mono ?_; rintro e w1 ⟨rfl, hB1⟩)
        | (go_at_call 21; refine (HC.out _).mono ?_; rintro e w2 ⟨rfl, rfl⟩)
        | (go_at_call 22; refine (fits_any _ _ _ _).mono ?_; rw [HF.out]; rintro e w2 ⟨rfl, rfl⟩)
        | (go_at_call 23; refine (refFits_any _ _ _ _).mono ?_; rw [HF.out]; rintro e w2 ⟨rfl, rfl⟩)
        | (go_at_call 24; refine (HNN.out _).mono ?_; rintro e w2 ⟨rfl, rfl⟩))
      go_ret
      exact ⟨rfl, hB1⟩
end Go.Proofs.Ytnpkkcbgfnnfmaa
