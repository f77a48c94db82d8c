import Derived.Test.YtnpkkcbgfnnfmaaDd
import Derived.Test.YtnpkkcbgfnnfmaaEc
import Derived.Test.YtnpkkcbgfnnfmaaESum
/- The law DiffHistogram: its walk. -/
namespace Go.Proofs.Ytnpkkcbgfnnfmaa
open Go.RowKit
set_option linter.unusedVariables false
set_option linter.unusedSimpArgs false
set_option maxRecDepth 100000

set_option maxHeartbeats 4000000 in
theorem diffHistogram_walk (a0 b0 c0 e0 : Int) (l0 : Value) (xs0 : List Int) (a1 a2 : Int) (w : World)
    (wa0 : (Lit.int .u16 a0).wf = true) (wb0 : (Lit.int .u16 b0).wf = true) (wc0 : (Lit.int .u16 c0).wf = true) (we0 : (Lit.int .u16 e0).wf = true) (rd0 : Rd w .u16 l0 xs0) (wf0 : ∀ x ∈ xs0, (Lit.int .u16 x).wf = true) (sz0 : xs0.length * 2 ≤ 140737488351232)
    (w1 : (Lit.int .i64 a1).wf = true) (w2 : (Lit.int .i64 a2).wf = true) :
    Calls Try.prog 18 #[picV a0 b0 c0 e0 l0, .int .i64 a1, .int .i64 a2] w fun e w' => e = .returned (.bool true) ∧ Below w.heap.size w w' := by
  have HDA := Lib.hid fun w' h => picdraw_any a0 b0 c0 e0 l0 xs0 w' (of_wf_u16 wa0) (of_wf_u16 wb0) (of_wf_u16 wc0) (of_wf_u16 we0) h (fun x hx => of_wf_u16 (wf0 x hx)) sz0
  have HR0 := Lib.hid rd0
  obtain ⟨x0, k0, rfl, -⟩ := rd0.form
  clear rd0 wf0 wa0 wb0 wc0 we0 sz0 w1 w2
  go_enter Try.func18, Try.ntmps18
  go_wp2_with fail
  refine (lives27_any _).mono ?_
  rintro e wl ⟨rfl, hBl⟩
  obtain ⟨t0, t1, t2, t3, t4⟩ := box5 hBl
  have HBl := Lib.hid (((Below.refl w.heap.size w).alloc (Nat.le_refl _) _).trans (hBl.mono (by simp)))
  clear hBl
  go_wp2_with fail
  refine (HDA.out _ (HR0.out.below HBl.out)).mono ?_
  rintro e w5 ⟨g, r, X, Y, K, T, xs, rfl, hg, hr, hi, hs, -, hB⟩
  have HIA := Lib.hid hi
  have HSA := Lib.hid hs
  have HB5 := Lib.hid (HBl.out.trans (hB.mono HBl.out.size))
  obtain ⟨s1, s2, hK, s3, s4, s5, s6, s7, s8, s9, s10⟩ := hs.bd
  clear hB hi hs hg hr t0 t1 t2 t3 t4
  go_wp2_with fail
  by_cases hc : a1 < 0 ∨ K ≤ a1
  · refine (hist_nil HIA.out a1 a2 hK (by omega) hc).mono ?_
    rintro e w6 ⟨rfl, hB⟩
    have HI6 := Lib.hid (HIA.out.below hB)
    have HB6 := Lib.hid (HB5.out.trans (hB.mono HB5.out.size))
    clear hB
    rcases hc with hc | hc
    · go_wp2_with (go_at_call 28; refine (channels_any HI6.out).mono ?_; rintro e w2 ⟨rfl, rfl⟩)
      all_goals go_ret
      all_goals exact ⟨rfl, HB6.out⟩
    · go_wp2_with (go_at_call 28; refine (channels_any HI6.out).mono ?_; rintro e w2 ⟨rfl, rfl⟩)
      all_goals go_ret
      all_goals exact ⟨rfl, HB6.out⟩
  · have c0' : 0 ≤ a1 := by omega
    have c1' : a1 < K := by omega
    by_cases hb : a2 < 1 ∨ 1024 < a2
    · refine (hist_bad HIA.out a1 a2 hK (by omega) c0' c1' hb).mono ?_
      rintro e w6 ⟨rfl, hB⟩
      have HI6 := Lib.hid (HIA.out.below hB)
      have HB6 := Lib.hid (HB5.out.trans (hB.mono HB5.out.size))
      clear hB hc
      rcases hb with hb | hb
      all_goals
        go_wp2_with (go_at_call 28; refine (channels_any HI6.out).mono ?_; rintro e w2 ⟨rfl, rfl⟩)
      all_goals go_ret
      all_goals exact ⟨rfl, HB6.out⟩
    · obtain ⟨n, rfl⟩ : ∃ n : Nat, a2 = n := ⟨a2.toNat, by omega⟩
      have n1 : 1 ≤ n := by omega
      have n2 : n ≤ 1024 := by omega
      obtain ⟨L, hL⟩ : ∃ L, chTo K a1 xs xs.length = L := ⟨_, rfl⟩
      have hxn : (xs.length : Nat) = (X * Y).toNat * K.toNat + 0 := by
        have h1 : 0 ≤ X * Y := by omega
        have h2 : ((X * Y).toNat : Int) = X * Y := Int.toNat_of_nonneg h1
        have h3 : (K.toNat : Int) = K := Int.toNat_of_nonneg (by omega)
        have h4 : ((((X * Y).toNat * K.toNat : Nat)) : Int) = X * Y * K := by push_cast; rw [h2, h3]
        have h5 := HSA.out.len
        omega
      have hLl : (L.length : Int) = X * Y := by
        have h1 := chTo_all (by omega : 1 ≤ K) c0' c1' xs (X * Y).toNat 0 (by omega)
        rw [← hxn, hL, if_neg (by omega)] at h1
        rw [h1, Int.toNat_of_nonneg (by omega)]
        omega
      have hLm : ∀ v ∈ L, 0 ≤ v ∧ v ≤ T := by
        rw [← hL]
        exact chTo_mem (P := fun z => 0 ≤ z ∧ z ≤ T) (fun k => by
          rw [List.getD_eq_getElem?_getD]
          by_cases hk : k < xs.length
          · rw [List.getElem?_eq_getElem hk]; exact HSA.out.all _ (List.getElem_mem _)
          · rw [List.getElem?_eq_none (by omega)]; exact ⟨Int.le_refl 0, (by show (0 : Int) ≤ T; omega)⟩) _
      have hsum : sumTo (histL n T L n) n = X * Y := by
        rw [sumTo_hist n T L n (fun v hv => binV_in (by omega) s3 (hLm v hv).1 (hLm v hv).2) n (Nat.le_refl _), ← hLl]
        rw [List.filter_eq_self.2]
        intro v hv
        exact decide_eq_true (binV_in (by omega) s3 (hLm v hv).1 (hLm v hv).2).2
      have HSUM := Lib.hid hsum
      have HLM : Hid (∀ v ∈ L, 0 ≤ binV n T v ∧ binV n T v < n) := Lib.hid fun v hv => binV_in (by omega) s3 (hLm v hv).1 (hLm v hv).2
      have HL := Lib.hid hL
      have HBI := Lib.hid fun w' (x6 : Option Addr) (n6 c6 : Nat) (k : Int) (h : Rd w' .u16 (.slice x6 n6 c6) xs) => bin_any (W := X) (H := Y) (C := K) (M := T) h a1 n k hK (by omega) n2 n1 s3 s4 HSA.out.all
      refine (hist_in HIA.out a1 n hK (by omega) c0' c1' n1 n2 s3 s4 HSA.out.all (by rw [hL]; omega)).mono ?_
      rintro e w6 ⟨ob, rfl, ho, hB⟩
      rw [hL] at ho
      have HO6 := Lib.hid ho
      have HI6 := Lib.hid (HIA.out.below hB)
      have HB6 := Lib.hid (HB5.out.trans (hB.mono HB5.out.size))
      clear ho hB hc hb hsum hLm hxn
      go_wp2_with (first
        | (go_at_call 28; refine (channels_any HI6.out).mono ?_; rintro e w2 ⟨rfl, rfl⟩)
        | (go_at_call 63; refine (ref_any HI6.out (by omega)).mono ?_; rintro e w7 ⟨xr, cr, rfl, hor, hbr⟩))
      have d1 : decide ((n : Int) < 1) = false := decide_eq_false (by omega)
      have d2 : decide ((1024 : Int) < n) = false := decide_eq_false (by omega)
      have d3 : decide (a1 < 0) = false := decide_eq_false (by omega)
      have d4 : decide (K ≤ a1) = false := decide_eq_false (by omega)
      simp only [d1, d2, d3, d4, Bool.or_false]
      clear d1 d2 d3 d4
      obtain ⟨wL, hwL⟩ : ∃ wL, w7.alloc (.cells #[.int .i64 X, .int .i64 Y, .int .i64 K, .int .i64 T, .slice xr xs.length cr] 87) = wL := ⟨_, rfl⟩
      have hb7 : Below w6.heap.size w6 wL := hwL ▸ hbr.alloc hbr.size _
      have HRW : Hid (wL.heap[w7.heap.size]? = some (.cells #[.int .i64 X, .int .i64 Y, .int .i64 K, .int .i64 T, .slice xr xs.length cr] 87 (0, 0))) := Lib.hid (hwL ▸ heap_alloc_new w7 _)
      have HHR : Hid (Rd wL .u16 (.slice xr xs.length cr) xs) := Lib.hid (hwL ▸ hor.rd.below ((Below.refl w7.heap.size w7).alloc (Nat.le_refl _) _))
      have HHL := Lib.hid (HO6.out.rd.below hb7)
      have HHI := Lib.hid (HI6.out.below hb7)
      have HHB := Lib.hid (HB6.out.trans (hb7.mono HB6.out.size))
      have hsz : w7.heap.size < wL.heap.size := by rw [← hwL]; simp
      rw [hwL]
      clear hwL hb7 hor hbr
      go_loopw [10, 50] (fun s i wr => ∃ k : Nat, k ≤ n ∧ i = .int .i64 k ∧ s = .int .i64 (sumTo (histL n T L n) k) ∧ Below wL.heap.size wL wr) (fun _ i _ => n - (intOf i).toNat)
      case atStart => exact ⟨0, by omega, rfl, rfl, Below.refl _ _⟩
      case round =>
        obtain ⟨k, hk, rfl, rfl, hBr⟩ := hrel
        have hrow := (hBr.block w7.heap.size hsz).trans HRW.out
        obtain ⟨⟨t0, t1, t2, t3, t4⟩, -⟩ := row5v hrow
        have HRR := Lib.hid (HHR.out.below hBr)
        have HIR := Lib.hid (HHI.out.below hBr)
        have HBR := Lib.hid (HHB.out.trans (hBr.mono HHB.out.size))
        have HBr := Lib.hid hBr
        have hget := HHL.out.below hBr
        clear hrow hBr
        obtain ⟨S, hS⟩ : ∃ S, sumTo (histL n T L n) k = S := ⟨_, rfl⟩
        have hSk : S ≤ L.length ∧ 0 ≤ S := by
          have h1 := sumTo_hist n T L n (fun v hv => HLM.out v hv) k hk
          have h2 := List.length_filter_le (fun v => decide (binV n T v < k)) L
          rw [hS] at h1
          omega
        by_cases hlt : k < n
        · obtain ⟨u, HU, cu⟩ := hget.get rfl (show k < (histL n T L n).length by rw [histL_len]; exact hlt)
          have hu1 : u = cntL n T L k := by rw [← HU.out]; exact histL_get _ _ _ hlt
          have hu2 := cntL_nn n T L k
          rw [← hu1] at hu2
          have HS1 : Hid (sumTo (histL n T L n) (k + 1) = S + u) := Lib.hid (by unfold sumTo; rw [hS, HU.out])
          have HU1 := Lib.hid hu1
          have cu' := cu
          rw [Addr.add_lit, Nat.zero_add] at cu'
          have e1 : wrap64 (S + u) = S + u := wrap_in (by omega) (by omega)
          rw [hS]
          clear hS hu1 hget
          by_cases h40 : k < 40
          · have hd : decide ((k : Int) < 40) = true := decide_eq_true (by omega)
            go_wp2_with (go_at_call 70; refine (HBI.out _ _ _ _ _ HRR.out).mono ?_; rintro e wb ⟨rfl, hBb⟩; rw [HL.out, ← HU1.out]; have HBb := Lib.hid hBb; clear hBb)
            exact ⟨⟨k + 1, by omega, by go_num, by rw [HS1.out], HBr.out.trans (HBb.out.mono HBr.out.size)⟩, by simp [intOf]; omega⟩
          · have hd : decide ((k : Int) < 40) = false := decide_eq_false (by omega)
            go_wp2_with fail
            exact ⟨⟨k + 1, by omega, by go_num, by rw [HS1.out], HBr.out⟩, by simp [intOf]; omega⟩
        · have hkn : k = n := by omega
          subst hkn
          have hSX : S = X * Y := by rw [← hS]; exact HSUM.out
          have e1 : wrap64 (X * Y) = X * Y := wrap_in (by omega) (by omega)
          rw [hS, hSX]
          clear hget hS hSX
          go_wp2_with (first
            | (go_at_call 26; refine (width_any HIR.out).mono ?_; rintro e w' ⟨rfl, rfl⟩)
            | (go_at_call 27; refine (height_any HIR.out).mono ?_; rintro e w' ⟨rfl, rfl⟩))
          go_ret
          exact ⟨rfl, HBR.out⟩
end Go.Proofs.Ytnpkkcbgfnnfmaa
