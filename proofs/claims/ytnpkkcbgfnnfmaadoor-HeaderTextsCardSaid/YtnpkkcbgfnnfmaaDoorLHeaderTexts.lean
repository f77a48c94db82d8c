import Derived.Test.YtnpkkcbgfnnfmaaDoorKb
import Derived.Test.YtnpkkcbgfnnfmaaDoorKm
import Derived.Test.YtnpkkcbgfnnfmaaDoorRb
/- The law HeaderTexts: its walk. -/
namespace Go.Proofs.YtnpkkcbgfnnfmaaDoor
open Go.RowKit Go.Sort
set_option linter.unusedVariables false
set_option linter.unusedSimpArgs false
set_option maxRecDepth 100000

theorem head_any (c W H M S : Int) (hM : codeR W H c M = 0) (r : List Int) : parseL (tL c W H M ++ r) = (0, ⟨c, W, H, M, ((tL c W H M).length : Int)⟩) := by
  obtain ⟨m1, m2, hc, w1, w2, h1, h2, -, -, p1, p2⟩ := codeR_zero hM
  obtain ⟨a, rfl⟩ : ∃ a : Nat, W = a := ⟨W.toNat, by omega⟩
  obtain ⟨b, rfl⟩ : ∃ b : Nat, H = b := ⟨H.toNat, by omega⟩
  obtain ⟨d, rfl⟩ : ∃ d : Nat, M = d := ⟨M.toNat, by omega⟩
  rw [tL_nat]
  exact tx_parse c hc a b d (by unfold fitsB; rw [decide_eq_true_eq]; exact ⟨w1, w2, h1, h2, hc, p2⟩) (by omega) (by omega) r

set_option maxHeartbeats 2000000 in
theorem headerTexts_walk (c x y m s : Int) (v1 : Value) (xs1 : List Int) (w : World) (wc : (Lit.int .i64 c).wf = true) (wx : (Lit.int .i64 x).wf = true) (wy : (Lit.int .i64 y).wf = true) (wm : (Lit.int .i64 m).wf = true) (ws : (Lit.int .i64 s).wf = true)
    (rd : Rd w .u8 v1 xs1) (wf1 : ∀ x ∈ xs1, (Lit.int .u8 x).wf = true) (sz1 : xs1.length * 1 ≤ 140737488351232) (ht : Tab w) :
    Calls Tryd.prog 3 #[headV c x y m s, v1] w fun e w' => e = .returned (.bool true) ∧ Below w.heap.size w w' := by
  have ix : I64 x := of_wf_i64 wx
  have iy : I64 y := of_wf_i64 wy
  have im : I64 m := of_wf_i64 wm
  obtain ⟨x1, cp1, rfl, hcp, hcl, -⟩ := rd.form
  obtain ⟨n1, hn1⟩ : ∃ n1, xs1.length = n1 := ⟨_, rfl⟩
  have hb1 := rd
  rw [hn1] at hcl hb1 ⊢
  have HR := Lib.hid hb1
  have HN1 := Lib.hid hn1
  unfold maxLen at hcp
  have hn63 : n1 ≤ 9223372036854775807 := by omega
  have HT := Lib.hid ht
  clear hb1 rd sz1 wf1 hn1 hcp ht wc wx wy wm ws
  obtain ⟨L, hL⟩ : ∃ L, tL c x y m = L := ⟨_, rfl⟩
  obtain ⟨n, hn⟩ : ∃ n, L.length = n := ⟨_, rfl⟩
  have hb := tL_b c x y m
  have hn69 := tL_len c x y m ix iy im
  have HTX := Lib.hid fun w' (ht : Tab w') => text_any c x y m s w' ix iy im ht
  have HRT := Lib.hid fun w' => refText_any c x y m s w' ix iy im
  rw [hL] at hb hn69 HTX HRT
  rw [hn] at hn69
  have hHD : codeR x y c m = 0 → parseL (L ++ xs1) = (0, ⟨c, x, y, m, (n : Int)⟩) := fun h0 => by rw [← hn, ← hL]; exact head_any c x y m s h0 xs1
  have HHD := Lib.hid hHD
  have HB := Lib.hid hb
  have HN := Lib.hid hn
  have HBo : ∀ o, Hid (Below w.heap.size w (w.alloc o)) := fun o => Lib.hid ((Below.refl w.heap.size w).alloc (Nat.le_refl _) o)
  have HROW : Hid ((w.alloc (.cells #[.int .i64 c, .int .i64 x, .int .i64 y, .int .i64 m, .int .i64 s] 23)).heap[w.heap.size]? = some (.cells #[.int .i64 c, .int .i64 x, .int .i64 y, .int .i64 m, .int .i64 s] 23 (0, 0))) := Lib.hid (heap_alloc_new w _)
  clear hb hn hL hHD
  by_cases hl : n1 > 100
  · have hl' : ((n1 : Int) > 100) = true := by simp; omega
    go_enter Tryd.func3, Tryd.ntmps3
    go_wp2_with fail
    refine (lives10_any _).mono ?_
    rintro e wl ⟨rfl, hBl⟩
    have HBl := Lib.hid ((HBo _).out.trans (hBl.mono (HBo _).out.size))
    clear hBl
    go_wp2_with fail
    refine (lives10_any _).mono ?_
    rintro e wl2 ⟨rfl, hBl2⟩
    have HB2 := Lib.hid (HBl.out.trans (hBl2.mono HBl.out.size))
    clear hBl2
    go_wp2_with fail
    go_ret
    exact ⟨rfl, HB2.out⟩
  · have hl' : ¬ ((n1 : Int) > 100) := by omega
    go_enter Tryd.func3, Tryd.ntmps3
    go_wp2_with fail
    refine (lives10_any _).mono ?_
    rintro e wl ⟨rfl, hBl⟩
    have HBl := Lib.hid ((HBo _).out.trans (hBl.mono (HBo _).out.size))
    have hrow := below_row (B := 0) hBl HROW.out
    obtain ⟨⟨t0, t1, t2, t3, t4⟩, f0, f1, f2, f3, f4⟩ := row5 hrow
    have HROWL := Lib.hid hrow
    clear hBl hrow
    go_wp2_with fail
    refine (HTX.out _ (HT.out.below HBl.out)).mono ?_
    rintro e wt ⟨rfl, hBt⟩
    have HBt := Lib.hid (HBl.out.trans (hBt.mono HBl.out.size))
    clear t0 t1 t2 t3 t4 f0 f1 f2 f3 f4
    have hrow := below_row (B := 0) hBt HROWL.out
    obtain ⟨⟨t0, t1, t2, t3, t4⟩, f0, f1, f2, f3, f4⟩ := row5 hrow
    have HROWT := Lib.hid hrow
    clear hBt hrow
    go_wp2_with fail
    refine (HRT.out _ (HT.out.below HBt.out)).mono ?_
    rintro e wr ⟨rfl, hBr⟩
    have HBr := Lib.hid (HBt.out.trans (hBr.mono HBt.out.size))
    have HROWR := Lib.hid (below_row (B := 0) hBr HROWT.out)
    clear t0 t1 t2 t3 t4 f0 f1 f2 f3 f4 hBr
    obtain ⟨cc, wc, hconv, hown, hbc⟩ := conv_own wr L HB.out (by rw [HN.out]; unfold maxLen; omega)
    rw [HN.out] at hconv hown
    have HOWN := Lib.hid hown
    have HBC := Lib.hid (HBr.out.trans (hbc.mono HBr.out.size))
    have HROWC := Lib.hid (below_row (B := 0) hbc HROWR.out)
    have HRC := Lib.hid (HR.out.below HBC.out)
    have hcap : n ≤ cc ∧ cc ≤ 9223372036854775807 := by
      obtain ⟨_, _, he, h1, h2, _⟩ := HOWN.out.rd.form
      rw [HN.out] at h2 he
      injection he with e1 e2 e3
      unfold maxLen at h1
      omega
    obtain ⟨q1, q2⟩ := hcap
    have hwc : wr.heap.size ≤ wc.heap.size := hbc.size
    have hwr : w.heap.size ≤ wr.heap.size := HBr.out.size
    have hwg : w.heap.size < wr.heap.size := (Array.getElem?_eq_some_iff.1 HROWR.out).1
    clear hown hbc
    obtain ⟨r, c', x', y', m', s', hpar, hk⟩ : ∃ r c' x' y' m' s', parseL (L ++ xs1) = (r, ⟨c', x', y', m', s'⟩) ∧ (codeR x y c m = 0 → r = 0 ∧ c' = c ∧ x' = x ∧ y' = y ∧ m' = m ∧ s' = (n : Int)) := by
      obtain ⟨r, h0⟩ : ∃ r, parseL (L ++ xs1) = r := ⟨_, rfl⟩
      obtain ⟨r, ⟨c', x', y', m', s'⟩⟩ := r
      refine ⟨r, c', x', y', m', s', h0, fun hc => ?_⟩
      have := HHD.out hc
      rw [h0] at this
      injection this with e1 e2
      injection e2 with e3 e4 e5 e6 e7
      exact ⟨e1, e3, e4, e5, e6, e7⟩
    have HPA := Lib.hid fun v w' h => parse_any v (L ++ xs1) w' h (by rw [List.length_append, HN.out, HN1.out]; omega)
    rw [hpar] at HPA
    have HK := Lib.hid hk
    clear hpar hk HHD
    obtain ⟨i, hi, hz0, hz1, hz2⟩ := info_parts infoU8
    have HI := Lib.hid hi
    have HZ := Lib.hid hz0
    go_wp2_with (at_builtin; refine wpList_append_m _ rfl _ _ 24 rfl wr.heap.size 5 i .u8 1 Tryd.underlying24 hi hz0 hz1 hz2 _ L rfl HOWN.out _ xs1 rfl HRC.out (by rw [HN.out, HN1.out]; unfold maxLen; omega) (by rw [HN.out, HN1.out]; omega) (by omega) ?_; intro v' wa hown' hba; obtain ⟨xa, ca, rfl, -, -, -⟩ := hown'.rd.form; rw [List.length_append, HN.out, HN1.out] at hown' ⊢; have HO := Lib.hid hown'; have HBA := Lib.hid (HBC.out.trans (hba.mono hwr)); have HROWA := Lib.hid ((hba.block _ hwg).trans HROWC.out); clear hown' hba)
    all_goals skip
    all_goals (with_reducible refine (HPA.out _ _ HO.out.rd).mono ?_)
    all_goals (rintro e wp ⟨rfl, hB⟩)
    all_goals (have HBP := Lib.hid (HBA.out.trans (hB.mono HBA.out.size)))
    all_goals (have hrow := below_row (B := 0) hB HROWA.out)
    all_goals (obtain ⟨⟨t0, t1, t2, t3, t4⟩, f0, f1, f2, f3, f4⟩ := row5 hrow)
    all_goals (have hgl : w.heap.size < wp.heap.size := (Array.getElem?_eq_some_iff.1 hrow).1)
    all_goals (have HROWP := Lib.hid hrow)
    all_goals (clear hB hrow)
    all_goals go_wp2_with fail
    refine (refCode_any _ _ _ _ _).mono ?_
    rintro e w2 ⟨rfl, rfl⟩
    have hgp : w.heap.size ≤ wp.heap.size := HBP.out.size
    by_cases hq : codeR x y c m = 0
    · obtain ⟨rfl, rfl, rfl, rfl, rfl, rfl⟩ := HK.out hq
      rw [hq]
      have hsn : (strOfNums L).size = n := by rw [son_size, HN.out]
      go_wp2_with fail
      go_ret
      exact ⟨rfl, (HBP.out.setCell (Nat.le_refl _) _).alloc (by simp [World.setCell]; omega) _⟩
    · obtain ⟨q, hqq⟩ : ∃ q, codeR x y c m = q := ⟨_, rfl⟩
      rw [hqq] at hq ⊢
      clear hqq
      go_wp2_with fail
      go_ret
      exact ⟨rfl, HBP.out.alloc hgp _⟩
end Go.Proofs.YtnpkkcbgfnnfmaaDoor
