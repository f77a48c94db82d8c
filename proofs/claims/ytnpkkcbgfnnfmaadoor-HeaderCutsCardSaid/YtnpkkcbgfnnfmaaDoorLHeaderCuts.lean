import Derived.Test.YtnpkkcbgfnnfmaaDoorKb
/- The law HeaderCuts: its walk. -/
namespace Go.Proofs.YtnpkkcbgfnnfmaaDoor
open Go.RowKit Go.Sort
set_option linter.unusedVariables false
set_option linter.unusedSimpArgs false
set_option maxRecDepth 100000

set_option maxHeartbeats 2000000 in
theorem headerCuts_walk (a0 a1 a2 a3 : Int) (w : World) (w0 : (Lit.int .u16 a0).wf = true) (w1 : (Lit.int .u16 a1).wf = true) (w2 : (Lit.int .u16 a2).wf = true) (w3 : (Lit.int .u8 a3).wf = true) (ht : Tab w) :
    Calls Tryd.prog 4 #[.int .u16 a0, .int .u16 a1, .int .u16 a2, .int .u8 a3] w fun e w' => e = .returned (.bool true) ∧ Below w.heap.size w w' := by
  obtain ⟨p1, p2⟩ := of_wf_u16 w0
  obtain ⟨q1, q2⟩ := of_wf_u16 w1
  obtain ⟨r1, r2⟩ := of_wf_u16 w2
  obtain ⟨s1, s2⟩ := of_wf_u8 w3
  obtain ⟨W, hW⟩ : ∃ W : Nat, 1 + a0 % 2000 = (W : Int) := ⟨(1 + a0 % 2000).toNat, by omega⟩
  obtain ⟨H, hH⟩ : ∃ H : Nat, 1 + a1 % 2000 = (H : Int) := ⟨(1 + a1 % 2000).toNat, by omega⟩
  obtain ⟨M, hM⟩ : ∃ M : Nat, 1 + a2 % 65535 = (M : Int) := ⟨(1 + a2 % 65535).toNat, by omega⟩
  have W2 : W ≤ 2000 := by omega
  have H2 : H ≤ 2000 := by omega
  have M2 : M ≤ 65535 := by omega
  have HTX := Lib.hid fun w' (ht : Tab w') => text_any 3 W H M 0 w' ⟨by omega, by omega⟩ ⟨by omega, by omega⟩ ⟨by omega, by omega⟩ ht
  obtain ⟨L, hL⟩ : ∃ L, tL 3 W H M = L := ⟨_, rfl⟩
  obtain ⟨n, hn⟩ : ∃ n, L.length = n := ⟨_, rfl⟩
  have hb := tL_b 3 W H M
  have hn69 := tL_len 3 W H M ⟨by omega, by omega⟩ ⟨by omega, by omega⟩ ⟨by omega, by omega⟩
  have hn3 : 3 ≤ n := by rw [← hn, ← hL]; unfold tL; simp
  rw [hL] at hb hn69 HTX
  rw [hn] at hn69
  obtain ⟨k, hk⟩ : ∃ k : Nat, a3 % (n : Int) = (k : Int) := ⟨(a3 % (n : Int)).toNat, by have := Int.emod_nonneg a3 (show (n : Int) ≠ 0 by omega); omega⟩
  have hkn : k < n := by have := Int.emod_lt_of_pos a3 (show 0 < (n : Int) by omega); omega
  have hcut := tx_cut 3 (.inr rfl) W H M (by omega) (by omega) (by omega) k (by rw [← tL_nat, hL, hn]; exact hkn)
  rw [← tL_nat, hL] at hcut
  have HB := Lib.hid hb
  have HN := Lib.hid hn
  have HT := Lib.hid ht
  have hsz : (strOfNums L).size = n := by rw [son_size, hn]
  have HPA := Lib.hid fun v w' h => parse_any v (L.take k) w' h (by rw [List.length_take, HN.out]; omega)
  have hlt : (L.take k).length = k := by rw [List.length_take, HN.out]; omega
  have HLT := Lib.hid hlt
  clear hb hn hL w0 w1 w2 w3 ht hlt
  rw [hcut] at HPA
  clear hcut
  have n0 : ¬ (n : Int) = 0 := by omega
  by_cases hk2 : k < 2
  all_goals
    simp only [hk2, if_true, if_false] at HPA
    go_enter Tryd.func4, Tryd.ntmps4
    go_wp2_with fail
    refine (lives10_any _).mono ?_
    rintro e wl ⟨rfl, hBl⟩
    have HBl := Lib.hid hBl
    have HTl := Lib.hid (HT.out.below hBl)
    clear hBl
    go_wp2_with fail
    refine (HTX.out _ HTl.out).mono ?_
    rintro e wt ⟨rfl, hB⟩
    have HBt := Lib.hid (HBl.out.trans (hB.mono HBl.out.size))
    obtain ⟨cc, wc, hconv, hrd, hbc, hcs⟩ := conv_bytes wt L HB.out (by rw [HN.out]; unfold maxLen; omega)
    rw [HN.out] at hconv hrd
    have hcap : n ≤ cc ∧ cc ≤ 9223372036854775807 := by
      obtain ⟨_, _, he, h1, h2, _⟩ := hrd.form
      rw [HN.out] at h2 he
      injection he with e1 e2 e3
      unfold maxLen at h1
      omega
    obtain ⟨cp1, cp2⟩ := hcap
    have hsub := hrd.sub (lo := 0) (m := k) (by rw [HN.out]; omega)
    rw [Nat.add_zero, Nat.sub_zero, List.drop_zero] at hsub
    have HSUB := Lib.hid hsub
    have HBC := Lib.hid (HBt.out.trans (hbc.mono HBt.out.size))
    clear hB hrd hbc hcs hsub
    go_wp2_with fail
    refine (HPA.out _ _ HSUB.out).mono ?_
    rintro e wp ⟨rfl, hB⟩
    have HBP := Lib.hid (HBC.out.trans (hB.mono HBC.out.size))
    clear hB hconv
    go_wp2_with fail
    go_ret
    exact ⟨rfl, HBP.out.alloc HBP.out.size _⟩
end Go.Proofs.YtnpkkcbgfnnfmaaDoor
