import Derived.Test.YtnpkkcbgfnnfmaaDd
import Derived.Test.YtnpkkcbgfnnfmaaFd
/- The law DiffRange: its walk. -/
namespace Go.Proofs.Ytnpkkcbgfnnfmaa
open Go.RowKit
set_option linter.unusedVariables false
set_option linter.unusedSimpArgs false
set_option maxRecDepth 100000

set_option maxHeartbeats 4000000 in
theorem diffRange_walk (a0 b0 c0 e0 : Int) (l0 : Value) (xs0 : List Int) (a1 : Int) (w : World)
    (wa0 : (Lit.int .u16 a0).wf = true) (wb0 : (Lit.int .u16 b0).wf = true) (wc0 : (Lit.int .u16 c0).wf = true) (we0 : (Lit.int .u16 e0).wf = true) (rd0 : Rd w .u16 l0 xs0) (wf0 : ∀ x ∈ xs0, (Lit.int .u16 x).wf = true) (sz0 : xs0.length * 2 ≤ 140737488351232)
    (w1 : (Lit.int .i64 a1).wf = true) :
    Calls Try.prog 19 #[picV a0 b0 c0 e0 l0, .int .i64 a1] w fun e w' => e = .returned (.bool true) ∧ Below w.heap.size w w' := by
  have HDA := Lib.hid fun w' h => picdraw_any a0 b0 c0 e0 l0 xs0 w' (of_wf_u16 wa0) (of_wf_u16 wb0) (of_wf_u16 wc0) (of_wf_u16 we0) h (fun x hx => of_wf_u16 (wf0 x hx)) sz0
  have HR0 := Lib.hid rd0
  obtain ⟨x0, k0, rfl, -⟩ := rd0.form
  clear rd0 wf0 wa0 wb0 wc0 we0 sz0 w1
  go_enter Try.func19, Try.ntmps19
  go_wp2_with fail
  refine (lives27_any _).mono ?_
  rintro e wl ⟨rfl, hBl⟩
  obtain ⟨t0, t1, t2, t3, t4⟩ := box5 hBl
  have HBl := Lib.hid (((Below.refl w.heap.size w).alloc (Nat.le_refl _) _).trans (hBl.mono (by simp)))
  clear hBl
  go_wp2_with fail
  refine (HDA.out _ (HR0.out.below HBl.out)).mono ?_
  rintro e w5 ⟨g, r, X, Y, K, T, xs, rfl, hg, hr, hi, hs, -, hB⟩
  have HIA := Lib.hid hi
  have HSA := Lib.hid hs
  have HB5 := Lib.hid (HBl.out.trans (hB.mono HBl.out.size))
  obtain ⟨s1, s2, hK, s3, s4, s5, s6, s7, s8, s9, s10⟩ := hs.bd
  clear hB hi hs hg hr t0 t1 t2 t3 t4
  have HX := Lib.hid (fun z hz => by have := HSA.out.all z hz; omega : ∀ z ∈ xs, 0 ≤ z ∧ z ≤ 65535)
  have hgd : ∀ k, 0 ≤ xs.getD k 0 ∧ xs.getD k 0 ≤ T := fun k => by
    rw [List.getD_eq_getElem?_getD]
    by_cases hk : k < xs.length
    · rw [List.getElem?_eq_getElem hk]; exact HSA.out.all _ (List.getElem_mem _)
    · rw [List.getElem?_eq_none (by omega)]; exact ⟨Int.le_refl 0, (by show (0 : Int) ≤ T; omega)⟩
  have HP := Lib.hid (by
    obtain ⟨m, hm⟩ : ∃ m, xs.length = m + 1 := ⟨xs.length - 1, by omega⟩
    rw [hm]
    exact mnTo_same (fun k => (hgd k).2) (fun k => by have := hgd k; omega) m : mnTo T xs xs.length = mnTo 65535 xs xs.length)
  have hpb := mnTo_bd (m := 65535) (xs := xs) (by omega) (fun k => by have := hgd k; omega) xs.length
  have hqb := mxTo_bd (m := 0) (xs := xs) (by omega) (fun k => by have := hgd k; omega) xs.length
  have hmb : ∀ v ∈ chTo K a1 xs xs.length, mnTo 65535 xs xs.length ≤ v ∧ v ≤ mxTo 0 xs xs.length := by
    have hin : ∀ k, k ≤ xs.length → ∀ v ∈ chTo K a1 xs k, mnTo 65535 xs xs.length ≤ v ∧ v ≤ mxTo 0 xs xs.length := by
      intro k
      induction k with
      | zero => intro _ v hv; simp [chTo] at hv
      | succ k ih =>
        intro hk v hv
        unfold chTo at hv
        rw [List.mem_append] at hv
        rcases hv with hv | hv
        · exact ih (by omega) v hv
        · split at hv
          · rw [List.mem_singleton] at hv
            rw [hv]
            exact ⟨mnTo_le _ _ (by omega), le_mxTo _ _ (by omega)⟩
          · cases hv
    exact hin _ (Nat.le_refl _)
  have HRG := Lib.hid (range_any HIA.out (by omega) HX.out)
  rw [HP.out] at HRG
  clear HP hgd
  obtain ⟨p, hp⟩ : ∃ p, mnTo 65535 xs xs.length = p := ⟨_, rfl⟩
  obtain ⟨q, hq⟩ : ∃ q, mxTo 0 xs xs.length = q := ⟨_, rfl⟩
  rw [hp] at HRG hpb hmb
  rw [hq] at HRG hqb hmb
  have HMB := Lib.hid hmb
  have HPE := Lib.hid hp
  have HQE := Lib.hid hq
  clear hp hq hmb
  obtain ⟨n, hn⟩ : ∃ n, xs.length = n := ⟨_, rfl⟩
  have HN := Lib.hid hn
  rw [hn] at HPE HQE
  go_wp2_with (first
    | (go_at_call 71; refine HRG.out.mono ?_; rintro e w6 ⟨rfl, hB⟩; have HI6 := Lib.hid (HIA.out.below hB); have HB6 := Lib.hid (HB5.out.trans (hB.mono HB5.out.size)); clear hB)
    | (go_at_call 25; refine (samples_any HI6.out (by omega)).mono ?_; rw [HN.out]; rintro e w7 ⟨xa, ca, rfl, ho, hB⟩; have HI7 := Lib.hid (HI6.out.below hB); have HB7 := Lib.hid (HB6.out.trans (hB.mono HB6.out.size)); have HSM := Lib.hid ho.rd; clear hB ho))
  have n1 : 1 ≤ n := by omega
  have n2 : n ≤ 1200 := by omega
  have HL := Lib.hid (show 0 ≤ a1 → a1 < K → ((chTo K a1 xs n).length : Int) = X * Y from fun c0 c1 => by
    have h2 : ((X * Y).toNat : Int) = X * Y := Int.toNat_of_nonneg (by omega)
    have h3 : (K.toNat : Int) = K := Int.toNat_of_nonneg (by omega)
    have h4 : ((((X * Y).toNat * K.toNat : Nat)) : Int) = X * Y * K := by push_cast; rw [h2, h3]
    have h5 := HSA.out.len
    have h1 := chTo_all (by omega : 1 ≤ K) c0 c1 xs (X * Y).toNat 0 (by omega)
    rw [show (X * Y).toNat * K.toNat + 0 = n by omega, if_neg (by omega)] at h1
    rw [h1, h2]
    omega)
  rw [hn] at HMB
  clear hn s7 s8 s9 s10
  go_loop [8, 9, 11, 27] (fun a b _ i => ∃ k : Nat, k ≤ n ∧ i = .int .i64 k ∧ a = .int .i64 (mnTo 65535 xs k) ∧ b = .int .i64 (mxTo 0 xs k)) (fun _ _ _ i => n - (intOf i).toNat)
  case atStart => exact ⟨0, by omega, rfl, rfl, rfl⟩
  case round =>
    obtain ⟨k, hk, rfl, rfl, rfl⟩ := hrel
    by_cases hlt : k < n
    · have hkx : k < xs.length := by have := HN.out; omega
      obtain ⟨x, rfl⟩ := HSM.out.some_ (by omega)
      obtain ⟨u, HU, cu⟩ := HSM.out.get rfl hkx
      have H1 := Lib.hid (mnTo_step (m := 65535) HU.out)
      have H2 := Lib.hid (mxTo_step (m := 0) HU.out)
      have hub := HX.out u (by rw [← HU.out, List.getD_eq_getElem?_getD, List.getElem?_eq_getElem hkx]; exact List.getElem_mem _)
      have e1 : wrap64 u = u := wrap_in (by omega) (by omega)
      clear hub
      obtain ⟨p', hp'⟩ : ∃ p', mnTo 65535 xs k = p' := ⟨_, rfl⟩
      obtain ⟨q', hq'⟩ : ∃ q', mxTo 0 xs k = q' := ⟨_, rfl⟩
      rw [hp'] at H1
      rw [hq'] at H2
      rw [hp', hq']
      clear hp' hq'
      go_wp2_with fail
      exact ⟨⟨k + 1, by omega, by go_num, by rw [H1.out], by rw [H2.out]⟩, by simp [intOf]; omega⟩
    · have hkn : k = n := by omega
      subst hkn
      rw [HPE.out, HQE.out]
      by_cases hc : a1 < 0 ∨ K ≤ a1
      · have HM := Lib.hid (mean_out HI7.out a1 hc)
        have hz : (p != p) = false := by simp
        have hz2 : (q != q) = false := by simp
        rcases hc with hc | hc
        · have hd : decide (a1 < 0) = true := decide_eq_true hc
          go_wp2_with (first
            | (go_at_call 72; refine HM.out.mono ?_; rintro e w8 ⟨rfl, rfl⟩)
            | (go_at_call 28; refine (channels_any HI7.out).mono ?_; rintro e w9 ⟨rfl, rfl⟩))
          go_ret
          exact ⟨rfl, HB7.out⟩
        · have hd : decide (K ≤ a1) = true := decide_eq_true hc
          go_wp2_with (first
            | (go_at_call 72; refine HM.out.mono ?_; rintro e w8 ⟨rfl, rfl⟩)
            | (go_at_call 28; refine (channels_any HI7.out).mono ?_; rintro e w9 ⟨rfl, rfl⟩))
          all_goals go_ret
          all_goals exact ⟨rfl, HB7.out⟩
      · have c0 : 0 ≤ a1 := by omega
        have c1 : a1 < K := by omega
        have hLl := HL.out c0 c1
        have hN := HN.out
        have hsb := sm_bd HMB.out
        have HM := Lib.hid (mean_in HI7.out a1 c0 c1 hK (by omega) HX.out (by rw [hN]; omega))
        have HRM := Lib.hid fun w' (x6 : Option Addr) (n6 c6 : Nat) (h : Rd w' .u16 (.slice x6 n6 c6) xs) => refMean_any (W := X) (H := Y) (C := K) (M := T) h a1 hK (by omega) HX.out (by omega)
        rw [hN, hLl] at HM
        obtain ⟨S, hS⟩ : ∃ S, sm (chTo K a1 xs k) = S := ⟨_, rfl⟩
        rw [hLl, hS] at hsb
        rw [hS] at HM
        have HS := Lib.hid hS
        have hmv := rdiv_bd (a := S * 65536) (n := X * Y) (lo := p * 65536) (hi := q * 65536) (by omega) (by rw [Int.mul_right_comm]; omega) (by rw [Int.mul_right_comm q]; omega)
        have HMV : Hid (rdiv (S * 65536) (X * Y) = rdiv (S * 65536) (X * Y)) := Lib.hid rfl
        obtain ⟨mv, hmve⟩ : ∃ mv, rdiv (S * 65536) (X * Y) = mv := ⟨_, rfl⟩
        have HME := Lib.hid hmve
        rw [hmve] at hmv HM
        clear hS hsb hLl hN hc hmve HMV
        have hz : (p != p) = false := by simp
        have hz2 : (q != q) = false := by simp
        have hd1 : decide (a1 < 0) = false := decide_eq_false (by omega)
        have hd2 : decide (K ≤ a1) = false := decide_eq_false (by omega)
        have hd3 : decide (p * 65536 ≤ mv) = true := decide_eq_true hmv.1
        have hd4 : decide (mv ≤ q * 65536) = true := decide_eq_true hmv.2
        go_wp2_with (first
          | (go_at_call 72; refine HM.out.mono ?_; rintro e w8 ⟨rfl, hB⟩; have HI8 := Lib.hid (HI7.out.below hB); have HB8 := Lib.hid (HB7.out.trans (hB.mono HB7.out.size)); clear hB)
          | (go_at_call 28; refine (channels_any HI8.out).mono ?_; rintro e w9 ⟨rfl, rfl⟩)
          | (go_at_call 63; refine (ref_any HI8.out (by rw [HN.out]; omega)).mono ?_; rw [HN.out]; rintro e w9 ⟨xr, cr, rfl, ho, hB⟩; have HR9 := Lib.hid ho.rd; have HB9 := Lib.hid (HB8.out.trans (hB.mono HB8.out.size)); clear hB ho)
          | (go_at_call 73; refine (HRM.out _ _ _ _ HR9.out).mono ?_; rw [HS.out, HME.out]; rintro e w10 ⟨rfl, hB⟩; have HB10 := Lib.hid (HB9.out.trans (hB.mono HB9.out.size)); clear hB))
        go_ret
        exact ⟨rfl, HB10.out⟩
end Go.Proofs.Ytnpkkcbgfnnfmaa
