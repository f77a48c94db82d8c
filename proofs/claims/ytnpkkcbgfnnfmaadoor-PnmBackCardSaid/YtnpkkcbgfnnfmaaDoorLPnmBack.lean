import Derived.Test.YtnpkkcbgfnnfmaaDoorPi
import Derived.Test.YtnpkkcbgfnnfmaaDoorRe
/- The law PnmBack: its walk. -/
namespace Go.Proofs.YtnpkkcbgfnnfmaaDoor
open Go.RowKit Go.Sort
set_option linter.unusedVariables false
set_option linter.unusedSimpArgs false
set_option maxRecDepth 100000

set_option maxHeartbeats 2000000 in
theorem pnmBack_walk (a0 a1 a2 a3 : Int) (v4 : Value) (xs4 : List Int) (v5 : Value) (xs5 : List Int) (w : World) (w0 : (Lit.int .u16 a0).wf = true) (w1 : (Lit.int .u16 a1).wf = true) (w2 : (Lit.int .u16 a2).wf = true) (w3 : (Lit.int .u16 a3).wf = true)
    (rd : Rd w .u16 v4 xs4) (wf : ∀ x ∈ xs4, (Lit.int .u16 x).wf = true) (sz : xs4.length * 2 ≤ 140737488351232) (rd5 : Rd w .u8 v5 xs5) (wf5 : ∀ x ∈ xs5, (Lit.int .u8 x).wf = true) (sz5 : xs5.length * 1 ≤ 140737488351232) (ht : Tab w) :
    Calls Tryd.prog 9 #[.int .u16 a0, .int .u16 a1, .int .u16 a2, .int .u16 a3, v4, v5] w fun e w' => e = .returned (.bool true) ∧ Below w.heap.size w w' := by
  have HD := Lib.hid fun w' (h : Rd w' .u16 v4 xs4) => draw_small a0 a1 a2 a3 v4 xs4 w' (of_wf_u16 w0) (of_wf_u16 w1) (of_wf_u16 w2) (of_wf_u16 w3) h (fun x hx => of_wf_u16 (wf x hx)) sz
  obtain ⟨x4, c4, rfl, -, -, -⟩ := rd.form
  obtain ⟨x5, c5, rfl, hc5, hl5, -⟩ := rd5.form
  obtain ⟨n5, hn5⟩ : ∃ n5, xs5.length = n5 := ⟨_, rfl⟩
  have hR5 := rd5
  rw [hn5] at hl5 hR5 ⊢
  unfold maxLen at hc5
  have hn63 : n5 ≤ 9223372036854775807 := by omega
  have HR := Lib.hid rd
  have HR5 := Lib.hid hR5
  have HN5 := Lib.hid hn5
  have HBY : Hid (Byt xs5) := Lib.hid fun z hz => of_wf_u8 (wf5 z hz)
  have HT := Lib.hid ht
  have HL := Lib.hid fun w' (ht : Tab w') => lives11_any w' ht
  clear rd wf sz w0 w1 w2 w3 ht rd5 wf5 sz5 hR5 hn5 hc5
  by_cases hl : n5 > 100
  · have hl' : ((n5 : Int) > 100) = true := by simp; omega
    go_enter Tryd.func9, Tryd.ntmps9
    go_wp2_with fail
    refine (HL.out _ HT.out).mono ?_
    rintro e wl ⟨rfl, hBl⟩
    have HBl := Lib.hid hBl
    clear hBl
    go_wp2_with fail
    refine (HL.out _ (HT.out.below HBl.out)).mono ?_
    rintro e wl2 ⟨rfl, hB⟩
    have HBl2 := Lib.hid (HBl.out.trans (hB.mono HBl.out.size))
    clear hB
    go_wp2_with fail
    go_ret
    exact ⟨rfl, HBl2.out⟩
  · have hl' : ¬ ((n5 : Int) > 100) := by omega
    have h100 : n5 ≤ 100 := by omega
    go_enter Tryd.func9, Tryd.ntmps9
    go_wp2_with fail
    refine (HL.out _ HT.out).mono ?_
    rintro e wl ⟨rfl, hBl⟩
    have HBl := Lib.hid hBl
    clear hBl
    go_wp2_with fail
    refine (HD.out _ (HR.out.below HBl.out)).mono ?_
    rintro e wd ⟨g, r, X, Y, K, T, xs, rfl, hg, hr, hi, hs, -, hB⟩
    have HI := Lib.hid hi
    have HS := Lib.hid hs
    have HBd := Lib.hid (HBl.out.trans (hB.mono HBl.out.size))
    clear hi hs hB
    go_wp2_with fail
    refine (encode_any HI.out HS.out.u16r (by have := HS.out.bd; omega) HS.out.i64.1 HS.out.i64.2.1 HS.out.i64.2.2 (HT.out.below HBd.out)).mono ?_
    rintro e we ⟨b', c', rfl, ho, hB⟩
    have HBe := Lib.hid (HBd.out.trans (hB.mono HBd.out.size))
    have HIe := Lib.hid (HI.out.below hB)
    obtain ⟨l1, l2, l3⟩ := enc_len HS.out
    have l5 := tL_len K X Y T HS.out.i64.1 HS.out.i64.2.1 HS.out.i64.2.2
    have HDB := Lib.hid fun v w h => decode_back HS.out HBY.out (by rw [HN5.out]; exact h100) v w h
    have HTX := Lib.hid fun w (x0 : Option Addr) (n0 c0 : Nat) (h : Rd w .u16 (.slice x0 n0 c0) xs) (ht : Tab w) => refText11_any HS.out h ht
    obtain ⟨L, hL⟩ : ∃ L, encL X Y K T xs = L := ⟨_, rfl⟩
    obtain ⟨n, hn⟩ : ∃ n, L.length = n := ⟨_, rfl⟩
    rw [hL] at l3 ho HDB HTX ⊢
    rw [hn] at l3 ho ⊢
    have hn2 : n ≤ 2500 := by omega
    have HO := Lib.hid ho
    have HN := Lib.hid hn
    have hcap : n ≤ c' ∧ c' ≤ 9223372036854775807 := by
      obtain ⟨_, _, he, h1, h2, _⟩ := ho.rd.form
      rw [hn] at h2 he
      injection he with e1 e2 e3
      unfold maxLen at h1
      omega
    obtain ⟨p1, p2⟩ := hcap
    have hbd := HS.out.bd
    have hxl : xs.length * 2 ≤ 140737488351232 := by omega
    obtain ⟨m, hm⟩ : ∃ m, xs.length = m := ⟨_, rfl⟩
    have HXL := Lib.hid hxl
    have hkc : ∀ w', Below we.heap.size we w' → (convert 24 9 (.slice (some ⟨b', 0, none⟩) n c')).run Tryd.prog w' = .ok (.string (strOfNums L)) w' := fun w' h => conv_str (HO.out.below h).rd
    have HKC := Lib.hid hkc
    have hb0 : Below we.heap.size we we.drew := Below.drew (Below.refl _ _)
    have HM := Lib.hid hm
    clear ho hB l1 l2 l3 l5 hbd hxl hm hkc hL hn hg hr
    go_wp2_with fail
    go_region_held3 (fun w' => (convert 24 9 (.slice (some ⟨b', 0, none⟩) n c')).run Tryd.prog w' = .ok (.string (strOfNums L)) w' ∧ Below we.heap.size we w')
      ((first | assumption | exact ⟨HKC.out _ hb0, hb0⟩ | exact ⟨HKC.out _ hbN, hbN⟩))
      ((first
        | (go_at_call 21; obtain ⟨-, hbX⟩ : _ ∧ Below we.heap.size we _ := (by assumption); (with_reducible refine (ref_any (HIe.out.below hbX) HXL.out).mono ?_); rintro e w5 ⟨x6, c6, rfl, ho6, hB6⟩; have hbN := hbX.trans (hB6.mono hbX.size); rw [HM.out] at ho6 ⊢; have HO6 := Lib.hid ho6; clear hbX ho6 hB6)
        | (go_at_call 26; obtain ⟨-, hbX⟩ : _ ∧ Below we.heap.size we _ := (by assumption); (with_reducible refine (HTX.out _ _ _ _ HO6.out.rd (HT.out.below (HBe.out.trans (hbX.mono HBe.out.size)))).mono ?_); rintro e w6 ⟨rfl, hB6⟩; have hbN := hbX.trans (hB6.mono hbX.size); clear hbX hB6)))
    have HB6 := Lib.hid (HBe.out.trans (hbN.mono HBe.out.size))
    have HL6 := Lib.hid (HO.out.below hbN).rd
    have HM6 := Lib.hid (HR5.out.below HB6.out)
    have HI6 := Lib.hid (HIe.out.below hbN)
    have hw6 : w.heap.size ≤ w6.heap.size := HB6.out.size
    have HAL : ∀ o, Hid (Below w6.heap.size w6 (w6.alloc o)) := fun o => Lib.hid ((Below.refl w6.heap.size w6).alloc (Nat.le_refl _) o)
    obtain ⟨i, hi, hz0, hz1, hz2⟩ := info_parts infoU8
    clear hbN hb0
    go_wp2_with (first
      | (at_builtin; refine wpList_append_m _ rfl _ _ 24 rfl w6.heap.size 5 i .u8 1 Tryd.underlying24 hi hz0 hz1 hz2 _ L rfl HO7.out _ xs5 rfl (HM6.out.below HB7.out) (by rw [HN.out, HN5.out]; unfold maxLen; omega) (by rw [HN.out, HN5.out]; omega) HB7.out.size ?_; intro v8 w8 ho8 hb8; obtain ⟨b8, c8, rfl, -⟩ := id ho8; have hl8 : (L ++ xs5).length = n + n5 := (by rw [List.length_append, HN.out, HN5.out]); rw [hl8] at ho8 ⊢; have HO8 := Lib.hid ho8; have HB8 := Lib.hid (HB7.out.trans hb8); clear ho8 hb8 hl8)
      | (at_builtin; refine wpList_append_m _ rfl _ _ 24 rfl w6.heap.size 5 i .u8 1 Tryd.underlying24 hi hz0 hz1 hz2 _ [] rfl (OwnM.empty w6 _ .u8 _ (Nat.le_refl _)) _ L rfl (HL6.out.below (HAL _).out) (by rw [HN.out]; unfold maxLen; simp only [List.length_nil]; omega) (by rw [HN.out]; simp only [List.length_nil]; omega) (HAL _).out.size ?_; intro v7 w7 ho7 hb7; rw [List.nil_append] at ho7; obtain ⟨b7, c7, rfl, -⟩ := id ho7; rw [HN.out] at ho7 ⊢; have HO7 := Lib.hid ho7; have HB7 := Lib.hid ((HAL _).out.trans hb7); clear ho7 hb7))
    with_reducible refine (HDB.out _ _ HO8.out.rd).mono ?_
    rintro e w9 ⟨g9, r9, rfl, hg9, hr9, hi9, hB9⟩
    have HB9 := Lib.hid (HB8.out.trans (hB9.mono HB8.out.size))
    have HI9 := Lib.hid (HI6.out.below HB9.out)
    have HJ9 := Lib.hid hi9
    clear hg9 hr9 hi9 hB9
    go_wp2_with fail
    refine (same_any HJ9.out HI9.out).mono ?_
    rintro e wa ⟨rfl, q, rfl⟩
    go_wp2_with fail
    go_ret
    exact ⟨rfl, (HB6.out.trans (HB9.out.mono hw6)).trans (Below.drewN q)⟩
end Go.Proofs.YtnpkkcbgfnnfmaaDoor
