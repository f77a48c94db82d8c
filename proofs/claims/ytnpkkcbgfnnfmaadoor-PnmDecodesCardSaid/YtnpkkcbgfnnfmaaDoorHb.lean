import Derived.Test.YtnpkkcbgfnnfmaaDoorHa
/- The contract of header's number. -/
namespace Go.Proofs.YtnpkkcbgfnnfmaaDoor
open Go.RowKit
set_option linter.unusedVariables false
set_option linter.unusedSimpArgs false
set_option maxRecDepth 100000

/-- what holds at the labels of 'number': l = 0: ahead of a number; l = 1: in a remark -/
def numJ (xo : Option Addr) (n cc : Nat) (xs : List Int) (T : Int × Int × List Int) (w : World) (l : Nat) (a : Act) (w' : World) : Prop :=
  w' = w ∧ l ≤ 1 ∧ ∃ (k : Nat) (ap : Bool) (u8 : Value), (l = 0 → k ≤ n + 1 ∧ resN (ovl false ap (xs.drop k)) = T) ∧ (l = 1 → k < n ∧ resN (ovl true true (xs.drop k)) = T) ∧
    ∃ (u9 u10 u11 u12 u13 u14 u15 u16 u17 u18 u19 u20 u21 u22 u23 u24 u25 u26 u27 u28 u29 u30 u31 u32 u33 u34 u35 u36 u37 u38 u39 u40 u41 u42 u43 u44 u45 u46 u47 u48 u49 u50 u51 u52 u53 u54 u55 u56 u57 u58 u59 u60 u61 u62 u63 u64 u65 u66 u67 u68 u69 u70 u71 u72 u73 u74 u75 u76 u77 u78 u79 u80 u81 u82 u83 u84 u85 u86 : Value), a = { tmps := #[.slice xo n cc, .int .i64 k, undef, undef, .int .i64 0, .int .i64 0, .int .i64 0, .bool ap, u8, u9, u10, u11, u12, u13, u14, u15, u16, u17, u18, u19, u20, u21, u22, u23, u24, u25, u26, u27, u28, u29, u30, u31, u32, u33, u34, u35, u36, u37, u38, u39, u40, u41, u42, u43, u44, u45, u46, u47, u48, u49, u50, u51, u52, u53, u54, u55, u56, u57, u58, u59, u60, u61, u62, u63, u64, u65, u66, u67, u68, u69, u70, u71, u72, u73, u74, u75, u76, u77, u78, u79, u80, u81, u82, u83, u84, u85, u86], defers := [] }

def atOf (a : Act) : Nat := match a.tmps.getD 1 undef with | .int _ q => q.toNat | _ => 0
/-- less with every pass -/
def numM (n : Nat) (l : Nat) (a : Act) (_ : World) : Nat := 2 * (n + 2 - atOf a) + (1 - l)

set_option maxHeartbeats 4000000 in
theorem number_any (v : Value) (xs : List Int) (w : World) (h : Rd w .u8 v xs) (hl : xs.length ≤ 4503599627370496) (at0 : Nat) (h0 : at0 ≤ xs.length) :
    Calls Tryd.prog 31 #[v, .int .i64 at0] w fun e w' => (∃ (N : Int) (k : Nat), e = .returned (.tuple #[.int .i64 N, .int .i64 k, .int .i64 (numL (xs.drop at0)).1]) ∧
      ((numL (xs.drop at0)).1 = 0 → k ≤ xs.length ∧ (numL (xs.drop at0)).2 = (N, xs.drop k))) ∧ w' = w := by
  obtain ⟨T, hT⟩ : ∃ T, numL (xs.drop at0) = T := ⟨_, rfl⟩
  have HT0 : Hid (resN (ovl false false (xs.drop at0)) = T) := Lib.hid hT
  rw [hT]
  clear hT
  have HR := Lib.hid h
  obtain ⟨xo, cc, rfl, h1, h2, hx⟩ := h.form
  unfold maxLen at h1
  obtain ⟨n, hn⟩ : ∃ n, xs.length = n := ⟨_, rfl⟩
  rw [hn] at h0 hl h2 HR ⊢
  have HN := Lib.hid hn
  have HX := Lib.hid hx
  clear hx hn h
  go_enter Tryd.func31, Tryd.ntmps31
  go_wp2
  refine wp_scope_two rfl rfl (numJ xo n cc xs T w) (numM n) (2 * (n + 2) + 2) (fun l a w' h => h.2.1) ?_ ?_ ?_
  · go_wp2
    go_step3
    have hk : at0 ≤ n + 1 := by omega
    have HT := HT0
    · by_cases hlt : at0 < n
      · have hkx : at0 < xs.length := by have := HN.out; omega
        obtain ⟨x, rfl⟩ := HR.out.some_ (by omega)
        obtain ⟨u, HU, cu⟩ := HR.out.get rfl hkx
        have HDR : Hid (xs.drop at0 = u :: xs.drop (at0 + 1)) := Lib.hid (by rw [drop_getD hkx, HU.out])
        clear HU
        have ht := HT.out
        rw [HDR.out] at ht
        cases hb : blankB u with
        | true =>
          have HB := Lib.hid hb
          rw [ovl_blank hb] at ht
          have HT2 := Lib.hid ht
          clear ht hb
          go_wp2_with (go_at_call 32; refine (blank_any u _).mono ?_; rw [HB.out]; rintro e w2 ⟨rfl, rfl⟩)
          go_step3
          exact ⟨⟨rfl, by omega, at0 + 1, true, _, fun _ => ⟨by omega, HT2.out⟩, fun h => by omega, _, _, _, _, _, _, _, _, _, _, _, _, _, _, _, _, _, _, _, _, _, _, _, _, _, _, _, _, _, _, _, _, _, _, _, _, _, _, _, _, _, _, _, _, _, _, _, _, _, _, _, _, _, _, _, _, _, _, _, _, _, _, _, _, _, _, _, _, _, _, _, _, _, _, _, _, _, _, rfl⟩, by simp [numM, atOf] <;> omega⟩
        | false =>
          have HB := Lib.hid hb
          by_cases h35 : u = 35
          · subst h35
            rw [ovl_mark] at ht
            have HT2 := Lib.hid ht
            clear ht hb
            go_wp2_with (go_at_call 32; refine (blank_any _ _).mono ?_; rw [HB.out]; rintro e w2 ⟨rfl, rfl⟩)
            go_step3
            exact ⟨⟨rfl, by omega, at0, false, _, fun h => by omega, fun _ => ⟨hlt, by rw [HDR.out]; exact HT2.out⟩, _, _, _, _, _, _, _, _, _, _, _, _, _, _, _, _, _, _, _, _, _, _, _, _, _, _, _, _, _, _, _, _, _, _, _, _, _, _, _, _, _, _, _, _, _, _, _, _, _, _, _, _, _, _, _, _, _, _, _, _, _, _, _, _, _, _, _, _, _, _, _, _, _, _, _, _, _, _, rfl⟩, by simp [numM, atOf] <;> omega⟩
          · have h35b : (u == 35) = false := by rw [beq_eq_false_iff_ne]; exact h35
            rw [ovl_stop hb h35] at ht
            have HT2 := Lib.hid ht
            clear ht hb h35
            rw [resN_bad (.inl rfl)] at HT2
            go_wp2_with (first
              | (go_at_call 32; refine (blank_any u _).mono ?_; rw [HB.out]; rintro e w2 ⟨rfl, rfl⟩))
            rw [jumpN_ret]
            go_ret3
            rw [← HT2.out]
            exact ⟨⟨0, at0, rfl, fun h => by cases h⟩, rfl⟩
      · have ht := HT.out
        rw [List.drop_of_length_le (by have := HN.out; omega), ovl, resN_nil] at ht
        have HT2 := Lib.hid ht
        clear ht
        go_wp2
        rw [jumpN_ret]
        go_ret3
        rw [← HT2.out]
        exact ⟨⟨0, at0, rfl, fun h => by cases h⟩, rfl⟩
  · rintro a w1 ⟨rfl, hl2, KK, ap, u8, hk0, hk1, u9, u10, u11, u12, u13, u14, u15, u16, u17, u18, u19, u20, u21, u22, u23, u24, u25, u26, u27, u28, u29, u30, u31, u32, u33, u34, u35, u36, u37, u38, u39, u40, u41, u42, u43, u44, u45, u46, u47, u48, u49, u50, u51, u52, u53, u54, u55, u56, u57, u58, u59, u60, u61, u62, u63, u64, u65, u66, u67, u68, u69, u70, u71, u72, u73, u74, u75, u76, u77, u78, u79, u80, u81, u82, u83, u84, u85, u86, rfl⟩
    have hk := (hk0 rfl).1
    have HT := Lib.hid (hk0 rfl).2
    clear hl2 hk0 hk1
    cases ap
    · by_cases hlt : KK < n
      · have hkx : KK < xs.length := by have := HN.out; omega
        obtain ⟨x, rfl⟩ := HR.out.some_ (by omega)
        obtain ⟨u, HU, cu⟩ := HR.out.get rfl hkx
        have HDR : Hid (xs.drop KK = u :: xs.drop (KK + 1)) := Lib.hid (by rw [drop_getD hkx, HU.out])
        clear HU
        have ht := HT.out
        rw [HDR.out] at ht
        cases hb : blankB u with
        | true =>
          have HB := Lib.hid hb
          rw [ovl_blank hb] at ht
          have HT2 := Lib.hid ht
          clear ht hb
          go_wp2_with (go_at_call 32; refine (blank_any u _).mono ?_; rw [HB.out]; rintro e w2 ⟨rfl, rfl⟩)
          go_step3
          exact ⟨⟨rfl, by omega, KK + 1, true, _, fun _ => ⟨by omega, HT2.out⟩, fun h => by omega, _, _, _, _, _, _, _, _, _, _, _, _, _, _, _, _, _, _, _, _, _, _, _, _, _, _, _, _, _, _, _, _, _, _, _, _, _, _, _, _, _, _, _, _, _, _, _, _, _, _, _, _, _, _, _, _, _, _, _, _, _, _, _, _, _, _, _, _, _, _, _, _, _, _, _, _, _, _, rfl⟩, by simp [numM, atOf] <;> omega⟩
        | false =>
          have HB := Lib.hid hb
          by_cases h35 : u = 35
          · subst h35
            rw [ovl_mark] at ht
            have HT2 := Lib.hid ht
            clear ht hb
            go_wp2_with (go_at_call 32; refine (blank_any _ _).mono ?_; rw [HB.out]; rintro e w2 ⟨rfl, rfl⟩)
            go_step3
            exact ⟨⟨rfl, by omega, KK, false, _, fun h => by omega, fun _ => ⟨hlt, by rw [HDR.out]; exact HT2.out⟩, _, _, _, _, _, _, _, _, _, _, _, _, _, _, _, _, _, _, _, _, _, _, _, _, _, _, _, _, _, _, _, _, _, _, _, _, _, _, _, _, _, _, _, _, _, _, _, _, _, _, _, _, _, _, _, _, _, _, _, _, _, _, _, _, _, _, _, _, _, _, _, _, _, _, _, _, _, _, rfl⟩, by simp [numM, atOf] <;> omega⟩
          · have h35b : (u == 35) = false := by rw [beq_eq_false_iff_ne]; exact h35
            rw [ovl_stop hb h35] at ht
            have HT2 := Lib.hid ht
            clear ht hb h35
            rw [resN_bad (.inl rfl)] at HT2
            go_wp2_with (first
              | (go_at_call 32; refine (blank_any u _).mono ?_; rw [HB.out]; rintro e w2 ⟨rfl, rfl⟩))
            rw [jumpN_ret]
            go_ret3
            rw [← HT2.out]
            exact ⟨⟨0, KK, rfl, fun h => by cases h⟩, rfl⟩
      · have ht := HT.out
        rw [List.drop_of_length_le (by have := HN.out; omega), ovl, resN_nil] at ht
        have HT2 := Lib.hid ht
        clear ht
        go_wp2
        rw [jumpN_ret]
        go_ret3
        rw [← HT2.out]
        exact ⟨⟨0, KK, rfl, fun h => by cases h⟩, rfl⟩
    · by_cases hlt : KK < n
      · have hkx : KK < xs.length := by have := HN.out; omega
        obtain ⟨x, rfl⟩ := HR.out.some_ (by omega)
        obtain ⟨u, HU, cu⟩ := HR.out.get rfl hkx
        have HDR : Hid (xs.drop KK = u :: xs.drop (KK + 1)) := Lib.hid (by rw [drop_getD hkx, HU.out])
        clear HU
        have ht := HT.out
        rw [HDR.out] at ht
        cases hb : blankB u with
        | true =>
          have HB := Lib.hid hb
          rw [ovl_blank hb] at ht
          have HT2 := Lib.hid ht
          clear ht hb
          go_wp2_with (go_at_call 32; refine (blank_any u _).mono ?_; rw [HB.out]; rintro e w2 ⟨rfl, rfl⟩)
          go_step3
          exact ⟨⟨rfl, by omega, KK + 1, true, _, fun _ => ⟨by omega, HT2.out⟩, fun h => by omega, _, _, _, _, _, _, _, _, _, _, _, _, _, _, _, _, _, _, _, _, _, _, _, _, _, _, _, _, _, _, _, _, _, _, _, _, _, _, _, _, _, _, _, _, _, _, _, _, _, _, _, _, _, _, _, _, _, _, _, _, _, _, _, _, _, _, _, _, _, _, _, _, _, _, _, _, _, _, rfl⟩, by simp [numM, atOf] <;> omega⟩
        | false =>
          have HB := Lib.hid hb
          by_cases h35 : u = 35
          · subst h35
            rw [ovl_mark] at ht
            have HT2 := Lib.hid ht
            clear ht hb
            go_wp2_with (go_at_call 32; refine (blank_any _ _).mono ?_; rw [HB.out]; rintro e w2 ⟨rfl, rfl⟩)
            go_step3
            exact ⟨⟨rfl, by omega, KK, true, _, fun h => by omega, fun _ => ⟨hlt, by rw [HDR.out]; exact HT2.out⟩, _, _, _, _, _, _, _, _, _, _, _, _, _, _, _, _, _, _, _, _, _, _, _, _, _, _, _, _, _, _, _, _, _, _, _, _, _, _, _, _, _, _, _, _, _, _, _, _, _, _, _, _, _, _, _, _, _, _, _, _, _, _, _, _, _, _, _, _, _, _, _, _, _, _, _, _, _, _, rfl⟩, by simp [numM, atOf] <;> omega⟩
          · have h35b : (u == 35) = false := by rw [beq_eq_false_iff_ne]; exact h35
            rw [ovl_stop hb h35] at ht
            have HT2 := Lib.hid ht
            clear ht hb h35
            cases hd : digitB u with
            | false =>
              have HD := Lib.hid hd
              rw [resN_bad (.inr hd)] at HT2
              clear hd
              go_wp2_with (first
                | (go_at_call 32; refine (blank_any u _).mono ?_; rw [HB.out]; rintro e w2 ⟨rfl, rfl⟩)
                | (go_at_call 47; refine (digit_any u _).mono ?_; rw [HD.out]; rintro e w2 ⟨rfl, rfl⟩))
              rw [jumpN_ret]
              go_ret3
              rw [← HT2.out]
              exact ⟨⟨0, KK, rfl, fun h => by cases h⟩, rfl⟩
            | true =>
              have HD := Lib.hid hd
              rw [resN_ok hd, ← HDR.out] at HT2
              clear hd
              go_wp2_with (first
                | (go_at_call 32; refine (blank_any u _).mono ?_; rw [HB.out]; rintro e w2 ⟨rfl, rfl⟩)
                | (go_at_call 47; refine (digit_any u _).mono ?_; rw [HD.out]; rintro e w2 ⟨rfl, rfl⟩))
              go_loop [1, 4] (fun t m => ∃ (j : Nat) (q : Int), j ≤ n ∧ t = .int .i64 j ∧ m = .int .i64 q ∧ 0 ≤ q ∧ q ≤ 1000000000 ∧ (0, dgl q (xs.drop j)) = T) (fun t _ => n - (intOf t).toNat)
              case atStart => exact ⟨KK, 0, by omega, rfl, rfl, by omega, by omega, HT2.out⟩
              case round =>
                obtain ⟨j, q, hj, rfl, rfl, q0, q1, hq⟩ := hrel
                have HQ := Lib.hid hq
                clear hq
                by_cases hlt2 : j < n
                · have hkx2 : j < xs.length := by have := HN.out; omega
                  obtain ⟨y, HY, cy⟩ := HR.out.get rfl hkx2
                  have HDR2 : Hid (xs.drop j = y :: xs.drop (j + 1)) := Lib.hid (by rw [drop_getD hkx2, HY.out])
                  clear HY
                  have hq := HQ.out
                  rw [HDR2.out] at hq
                  cases hy : digitB y with
                  | false =>
                    have HDY := Lib.hid hy
                    rw [dgl_stop hy] at hq
                    have HQ2 := Lib.hid hq
                    clear hq hy
                    go_wp2_with (go_at_call 47; refine (digit_any y _).mono ?_; rw [HDY.out]; rintro e w2 ⟨rfl, rfl⟩)
                    rw [jumpN_ret]
                    go_ret3
                    rw [← HQ2.out]
                    exact ⟨⟨q, j, rfl, fun _ => ⟨by omega, by rw [HDR2.out]⟩⟩, rfl⟩
                  | true =>
                    have HDY := Lib.hid hy
                    have hyb : 48 ≤ y ∧ y ≤ 57 := by simpa [digitB] using hy
                    obtain ⟨y1, y2⟩ := hyb
                    rw [dgl_digit hy] at hq
                    have HQ2 := Lib.hid hq
                    clear hq hy
                    go_wp2_with (go_at_call 47; refine (digit_any y _).mono ?_; rw [HDY.out]; rintro e w2 ⟨rfl, rfl⟩)
                    refine ⟨⟨j + 1, _, by omega, by go_num, rfl, by split <;> omega, by split <;> omega, HQ2.out⟩, by simp [intOf]; omega⟩
                · go_wp2
                  rw [jumpN_ret]
                  go_ret3
                  rw [← HQ.out]
                  have hdn : xs.drop j = [] := List.drop_of_length_le (by have := HN.out; omega)
                  exact ⟨⟨q, j, rfl, fun _ => ⟨by omega, by rw [hdn]; rfl⟩⟩, rfl⟩
      · have ht := HT.out
        rw [List.drop_of_length_le (by have := HN.out; omega), ovl, resN_nil] at ht
        have HT2 := Lib.hid ht
        clear ht
        go_wp2
        rw [jumpN_ret]
        go_ret3
        rw [← HT2.out]
        exact ⟨⟨0, KK, rfl, fun h => by cases h⟩, rfl⟩
  · rintro a w1 ⟨rfl, hl2, KK, ap, u8, hk0, hk1, u9, u10, u11, u12, u13, u14, u15, u16, u17, u18, u19, u20, u21, u22, u23, u24, u25, u26, u27, u28, u29, u30, u31, u32, u33, u34, u35, u36, u37, u38, u39, u40, u41, u42, u43, u44, u45, u46, u47, u48, u49, u50, u51, u52, u53, u54, u55, u56, u57, u58, u59, u60, u61, u62, u63, u64, u65, u66, u67, u68, u69, u70, u71, u72, u73, u74, u75, u76, u77, u78, u79, u80, u81, u82, u83, u84, u85, u86, rfl⟩
    have hk := (hk1 rfl).1
    have HT := Lib.hid (hk1 rfl).2
    clear hl2 hk0 hk1
    go_wp2
    go_loop [1] (fun t => ∃ (j : Nat), j ≤ n ∧ t = .int .i64 j ∧ KK ≤ j ∧ resN (ovl true true (xs.drop j)) = T) (fun t => n - (intOf t).toNat)
    case atStart => exact ⟨KK, by omega, rfl, by omega, HT.out⟩
    case round =>
      obtain ⟨j, hj, rfl, hkj, hq⟩ := hrel
      have HQ := Lib.hid hq
      clear hq
      by_cases hlt : j < n
      · have hkx : j < xs.length := by have := HN.out; omega
        obtain ⟨x, rfl⟩ := HR.out.some_ (by omega)
        obtain ⟨u, HU, cu⟩ := HR.out.get rfl hkx
        have HDR : Hid (xs.drop j = u :: xs.drop (j + 1)) := Lib.hid (by rw [drop_getD hkx, HU.out])
        clear HU
        have hq := HQ.out
        rw [HDR.out] at hq
        by_cases hu : u = 10 ∨ u = 13
        · rw [ovl_out hu] at hq
          have HQ2 := Lib.hid hq
          clear hq
          rcases hu with rfl | rfl
          · go_wp2
            go_step3
            exact ⟨⟨rfl, by omega, j + 1, true, _, fun _ => ⟨by omega, HQ2.out⟩, fun h => by omega, _, _, _, _, _, _, _, _, _, _, _, _, _, _, _, _, _, _, _, _, _, _, _, _, _, _, _, _, _, _, _, _, _, _, _, _, _, _, _, _, _, _, _, _, _, _, _, _, _, _, _, _, _, _, _, _, _, _, _, _, _, _, _, _, _, _, _, _, _, _, _, _, _, _, _, _, _, _, rfl⟩, by simp [numM, atOf] <;> omega⟩
          · go_wp2
            go_step3
            exact ⟨⟨rfl, by omega, j + 1, true, _, fun _ => ⟨by omega, HQ2.out⟩, fun h => by omega, _, _, _, _, _, _, _, _, _, _, _, _, _, _, _, _, _, _, _, _, _, _, _, _, _, _, _, _, _, _, _, _, _, _, _, _, _, _, _, _, _, _, _, _, _, _, _, _, _, _, _, _, _, _, _, _, _, _, _, _, _, _, _, _, _, _, _, _, _, _, _, _, _, _, _, _, _, _, rfl⟩, by simp [numM, atOf] <;> omega⟩
        · have hu1 : (u != 10) = true := by rw [bne_iff_ne]; omega
          have hu2 : (u != 13) = true := by rw [bne_iff_ne]; omega
          rw [ovl_in (by omega) (by omega)] at hq
          have HQ2 := Lib.hid hq
          clear hq hu
          go_wp2
          exact ⟨⟨j + 1, by omega, by go_num, by omega, HQ2.out⟩, by simp [intOf]; omega⟩
      · have hq := HQ.out
        rw [List.drop_of_length_le (by have := HN.out; omega)] at hq
        have HQ2 := Lib.hid hq
        clear hq
        go_wp2
        go_step3
        exact ⟨⟨rfl, by omega, j + 1, true, _, fun _ => ⟨by omega, by rw [List.drop_of_length_le (by have := HN.out; omega)]; exact HQ2.out⟩, fun h => by omega, _, _, _, _, _, _, _, _, _, _, _, _, _, _, _, _, _, _, _, _, _, _, _, _, _, _, _, _, _, _, _, _, _, _, _, _, _, _, _, _, _, _, _, _, _, _, _, _, _, _, _, _, _, _, _, _, _, _, _, _, _, _, _, _, _, _, _, _, _, _, _, _, _, _, _, _, _, _, rfl⟩, by simp [numM, atOf] <;> omega⟩
end Go.Proofs.YtnpkkcbgfnnfmaaDoor
