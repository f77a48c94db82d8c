import Derived.Test.YtnpkkcbgfnnfmaaDoorPg
/- The law PnmSamples: its walk. -/
namespace Go.Proofs.YtnpkkcbgfnnfmaaDoor
open Go.RowKit Go.Sort
set_option linter.unusedVariables false
set_option linter.unusedSimpArgs false
set_option maxRecDepth 100000

set_option maxHeartbeats 2000000 in
theorem pnmSamples_walk (a0 a1 a2 : Int) (v3 : Value) (xs3 : List Int) (a4 : Int) (w : World) (w0 : (Lit.int .u16 a0).wf = true) (w1 : (Lit.int .u16 a1).wf = true) (w2 : (Lit.int .u16 a2).wf = true)
    (rd : Rd w .u16 v3 xs3) (wf : ∀ x ∈ xs3, (Lit.int .u16 x).wf = true) (sz : xs3.length * 2 ≤ 140737488351232) (w4 : (Lit.int .u16 a4).wf = true) (ht : Tab w) :
    Calls Tryd.prog 8 #[.int .u16 a0, .int .u16 a1, .int .u16 a2, v3, .int .u16 a4] w fun e w' => e = .returned (.bool true) ∧ Below w.heap.size w w' := by
  have HD := Lib.hid fun w' (h : Rd w' .u16 v3 xs3) => draw_small a0 a1 a2 99 v3 xs3 w' (of_wf_u16 w0) (of_wf_u16 w1) (of_wf_u16 w2) (by decide) h (fun x hx => of_wf_u16 (wf x hx)) sz
  obtain ⟨q1, q2⟩ := of_wf_u16 w4
  obtain ⟨x3, c3, rfl, -, -, -⟩ := rd.form
  have HR := Lib.hid rd
  have HT := Lib.hid ht
  have HL := Lib.hid (lives11_any w ht)
  clear rd wf sz w0 w1 w2 w4 ht
  go_enter Tryd.func8, Tryd.ntmps8
  go_wp2_with fail
  refine HL.out.mono ?_
  rintro e wl ⟨rfl, hBl⟩
  have HBl := Lib.hid hBl
  clear hBl
  go_wp2_with fail
  refine (HD.out _ (HR.out.below HBl.out)).mono ?_
  rintro e wd ⟨g, r, X, Y, K, T, xs, rfl, -, -, hi, hs, heq, hB⟩
  obtain ⟨-, -, -, hT, -⟩ := heq.out
  have hT2 : T = 100 := by omega
  subst hT2
  have HI := Lib.hid hi
  have HS := Lib.hid hs
  have HBd := Lib.hid (HBl.out.trans (hB.mono HBl.out.size))
  clear hi hs hB hT heq
  go_wp2_with (go_at_call 24; refine (most_any HI.out).mono ?_; rintro e w2 ⟨rfl, rfl⟩)
  refine (encode_any HI.out HS.out.u16r (by have := HS.out.bd; omega) HS.out.i64.1 HS.out.i64.2.1 HS.out.i64.2.2 (HT.out.below HBd.out)).mono ?_
  rintro e we ⟨b', c', rfl, ho, hB⟩
  have HBe := Lib.hid (HBd.out.trans (hB.mono HBd.out.size))
  have HIe := Lib.hid (HI.out.below hB)
  have hwd : w.heap.size ≤ wd.heap.size := HBd.out.size
  obtain ⟨L, hL⟩ : ∃ L, encL X Y K 100 xs = L := ⟨_, rfl⟩
  obtain ⟨n, hn⟩ : ∃ n, L.length = n := ⟨_, rfl⟩
  obtain ⟨l1, l2, l3⟩ := enc_len HS.out
  rw [pxL_small (T := 100) (by decide) HS.out.all] at l1 l2 l3
  obtain ⟨t, htl⟩ : ∃ t, (tL K X Y 100).length = t := ⟨_, rfl⟩
  obtain ⟨m, hm⟩ : ∃ m, xs.length = m := ⟨_, rfl⟩
  have l4 := tL_two K X Y 100
  have l5 := tL_len K X Y 100 HS.out.i64.1 HS.out.i64.2.1 HS.out.i64.2.2
  have hbd := HS.out.bd
  have m1 : 1 ≤ m := by omega
  have m2 : m ≤ 1200 := by omega
  rw [hL, hn, htl, hm] at l3
  rw [htl] at l4 l5
  rw [hL, hn] at ho ⊢
  have HN := Lib.hid hn
  have HM := Lib.hid hm
  obtain ⟨p, hp⟩ : ∃ p : Nat, a4 % (m : Int) = (p : Int) := ⟨(a4 % (m : Int)).toNat, by have := Int.emod_nonneg a4 (show (m : Int) ≠ 0 by omega); omega⟩
  have hpm : p < m := by have := Int.emod_lt_of_pos a4 (show 0 < (m : Int) by omega); omega
  have HDS := Lib.hid fun q hq v w h => decode_set HS.out p (by rw [HM.out]; exact hpm) q hq v w h
  rw [hL, htl] at HDS
  subst l3
  have HO := Lib.hid ho
  have hcap : t + m ≤ c' ∧ c' ≤ 9223372036854775807 := by
    obtain ⟨_, _, he, h1, h2, _⟩ := ho.rd.form
    rw [hn] at h2 he
    injection he with e1 e2 e3
    unfold maxLen at h1
    omega
  obtain ⟨p1, p2⟩ := hcap
  have hmx : maxl (xs.set p 100) ≤ 100 := (maxl_le (by intro he; have := congrArg List.length he; simp at this; rw [this] at hm; simp at hm; omega) 100).2 (fun z hz => by
    rcases List.mem_or_eq_of_mem_set hz with hz | rfl
    · exact (HS.out.all z hz).2
    · omega)
  have hmy : 101 ≤ maxl (xs.set p 101) := le_maxl (List.mem_set (by rw [hm]; exact hpm) _)
  have HMX := Lib.hid hmx
  have HMY := Lib.hid hmy
  have n0 : ¬ (m : Int) = 0 := by omega
  clear ho hB hL hn htl hm l1 l2 HD HI HS hbd hmx hmy
  go_wp2_with (go_at_call 25; refine (samples_any HIe.out (by rw [HM.out]; omega)).mono ?_; rw [HM.out]; rintro e ws ⟨xa, ca, rfl, -, hbs⟩; have HBs := Lib.hid (HBe.out.trans (hbs.mono HBe.out.size)); have HOS := Lib.hid (HO.out.below hbs); obtain ⟨uz, cs1, fs1⟩ := HOS.out.at_ (t + p) (by omega); have hx5 : b' < ws.heap.size := (by obtain ⟨b9, c9, he, -, h9, -⟩ := HOS.out; injection he with he; injection he with he; injection he with he; rw [he]; exact h9))
  have HO1 := Lib.hid (HOS.out.set (t + p) 100 (by omega))
  have HB1 : Hid (Below w.heap.size w (ws.setCell ⟨b', t + p, none⟩ (.int .u8 100))) := by
    obtain ⟨b9, c9, he, h8, -⟩ := HOS.out
    injection he with he
    injection he with he
    injection he with he
    exact Lib.hid (HBs.out.trans (grown_below_set _ _ _ _ _ (by omega)))
  refine (HDS.out 100 (by decide) _ _ HO1.out.rd).mono ?_
  rintro e wz ⟨hBz, hz | ⟨-, g2, r2, rfl, -, -, -⟩⟩
  · have := HMX.out
    omega
  have HBz := Lib.hid (HB1.out.trans (hBz.mono HB1.out.size))
  have HO2 := Lib.hid (HO1.out.below hBz)
  obtain ⟨uy, cs2, fs2⟩ := HO2.out.at_ (t + p) (by omega)
  clear hBz cs1 fs1
  go_wp2_with fail
  have HO3 := Lib.hid (HO2.out.set (t + p) 101 (by omega))
  rw [List.set_set] at HO3
  have HB3 : Hid (Below w.heap.size w (wz.setCell ⟨b', t + p, none⟩ (.int .u8 101))) := by
    obtain ⟨b9, c9, he, h8, -⟩ := HO2.out
    injection he with he
    injection he with he
    injection he with he
    exact Lib.hid (HBz.out.trans (grown_below_set _ _ _ _ _ (by omega)))
  refine (HDS.out 101 (by decide) _ _ HO3.out.rd).mono ?_
  rintro e wy ⟨hBy, ⟨-, rfl⟩ | ⟨hz, -⟩⟩
  · have HBy := Lib.hid (HB3.out.trans (hBy.mono HB3.out.size))
    clear hBy cs2 fs2
    go_wp2_with fail
    go_ret
    exact ⟨rfl, HBy.out⟩
  · have := HMY.out
    omega
end Go.Proofs.YtnpkkcbgfnnfmaaDoor
