import Derived.Test.YtnpkkcbgfnnfmaaDoorPf
/- The law PnmCuts: its walk. -/
namespace Go.Proofs.YtnpkkcbgfnnfmaaDoor
open Go.RowKit Go.Sort
set_option linter.unusedVariables false
set_option linter.unusedSimpArgs false
set_option maxRecDepth 100000

set_option maxHeartbeats 2000000 in
theorem pnmCuts_walk (a0 a1 a2 a3 : Int) (v4 : Value) (xs4 : List Int) (a5 : Int) (w : World) (w0 : (Lit.int .u16 a0).wf = true) (w1 : (Lit.int .u16 a1).wf = true) (w2 : (Lit.int .u16 a2).wf = true) (w3 : (Lit.int .u16 a3).wf = true)
    (rd : Rd w .u16 v4 xs4) (wf : ∀ x ∈ xs4, (Lit.int .u16 x).wf = true) (sz : xs4.length * 2 ≤ 140737488351232) (w5 : (Lit.int .u16 a5).wf = true) (ht : Tab w) :
    Calls Tryd.prog 7 #[.int .u16 a0, .int .u16 a1, .int .u16 a2, .int .u16 a3, v4, .int .u16 a5] w fun e w' => e = .returned (.bool true) ∧ Below w.heap.size w w' := by
  have HD := Lib.hid fun w' (h : Rd w' .u16 v4 xs4) => draw_small a0 a1 a2 a3 v4 xs4 w' (of_wf_u16 w0) (of_wf_u16 w1) (of_wf_u16 w2) (of_wf_u16 w3) h (fun x hx => of_wf_u16 (wf x hx)) sz
  obtain ⟨q1, q2⟩ := of_wf_u16 w5
  obtain ⟨x4, c4, rfl, -, -, -⟩ := rd.form
  have HR := Lib.hid rd
  have HT := Lib.hid ht
  have HL := Lib.hid (lives11_any w ht)
  clear rd wf sz w0 w1 w2 w3 w5 ht
  go_enter Tryd.func7, Tryd.ntmps7
  go_wp2_with fail
  refine HL.out.mono ?_
  rintro e wl ⟨rfl, hBl⟩
  have HBl := Lib.hid hBl
  clear hBl
  go_wp2_with fail
  refine (HD.out _ (HR.out.below HBl.out)).mono ?_
  rintro e wd ⟨g, r, X, Y, K, T, xs, rfl, -, -, hi, hs, -, hB⟩
  have HI := Lib.hid hi
  have HS := Lib.hid hs
  have HBd := Lib.hid (HBl.out.trans (hB.mono HBl.out.size))
  clear hi hs hB
  go_wp2_with fail
  refine (encode_any HI.out HS.out.u16r (by have := HS.out.bd; omega) HS.out.i64.1 HS.out.i64.2.1 HS.out.i64.2.2 (HT.out.below HBd.out)).mono ?_
  rintro e we ⟨b', c', rfl, ho, hB⟩
  have HBe := Lib.hid (HBd.out.trans (hB.mono HBd.out.size))
  obtain ⟨L, hL⟩ : ∃ L, encL X Y K T xs = L := ⟨_, rfl⟩
  obtain ⟨n, hn⟩ : ∃ n, L.length = n := ⟨_, rfl⟩
  obtain ⟨l1, l2, l3⟩ := enc_len HS.out
  have l4 := tL_two K X Y T
  have l5 := tL_len K X Y T HS.out.i64.1 HS.out.i64.2.1 HS.out.i64.2.2
  have HDC := Lib.hid fun v k w h hk => decode_cut HS.out v k w h hk
  rw [hL] at l3 ho HDC ⊢
  rw [hn] at l3 ho HDC ⊢
  have n3 : 3 ≤ n := by omega
  have n4 : n ≤ 2500 := by omega
  have HO := Lib.hid ho
  have hcap : n ≤ c' ∧ c' ≤ 9223372036854775807 := by
    obtain ⟨_, _, he, h1, h2, _⟩ := ho.rd.form
    rw [hn] at h2 he
    injection he with e1 e2 e3
    unfold maxLen at h1
    omega
  obtain ⟨p1, p2⟩ := hcap
  have HN := Lib.hid hn
  obtain ⟨k, hk⟩ : ∃ k : Nat, a5 % (n : Int) = (k : Int) := ⟨(a5 % (n : Int)).toNat, by have := Int.emod_nonneg a5 (show (n : Int) ≠ 0 by omega); omega⟩
  have hkn : k < n := by have := Int.emod_lt_of_pos a5 (show 0 < (n : Int) by omega); omega
  have hsub := ho.rd.sub (lo := 0) (m := k) (by rw [HN.out]; omega)
  rw [Nat.add_zero, Nat.sub_zero, List.drop_zero] at hsub
  have HSUB := Lib.hid hsub
  have n0 : ¬ (n : Int) = 0 := by omega
  have HDK := Lib.hid fun v w h => HDC.out v k w h hkn
  clear HDC ho hB hL hn l1 l2 l3 l4 l5 hsub HD HI HS
  by_cases hk2 : k < 2
  · have hk3 : (k : Int) < 2 := by omega
    have hk4 : ¬ 2 ≤ (k : Int) := by omega
    simp only [hk2, if_true, if_false] at HDK
    go_wp2_with fail
    refine (HDK.out _ _ HSUB.out).mono ?_
    rintro e wz ⟨rfl, hB⟩
    have HBz := Lib.hid (HBe.out.trans (hB.mono HBe.out.size))
    clear hB
    go_wp2_with fail
    go_ret
    exact ⟨rfl, HBz.out⟩
  · have hk3 : ¬ (k : Int) < 2 := by omega
    have hk4 : 2 ≤ (k : Int) := by omega
    simp only [hk2, if_true, if_false] at HDK
    go_wp2_with fail
    refine (HDK.out _ _ HSUB.out).mono ?_
    rintro e wz ⟨rfl, hB⟩
    have HBz := Lib.hid (HBe.out.trans (hB.mono HBe.out.size))
    clear hB
    go_wp2_with fail
    go_ret
    exact ⟨rfl, HBz.out⟩
end Go.Proofs.YtnpkkcbgfnnfmaaDoor
