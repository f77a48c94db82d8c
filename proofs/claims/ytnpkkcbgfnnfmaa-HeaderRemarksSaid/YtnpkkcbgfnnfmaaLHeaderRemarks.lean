import Derived.Test.YtnpkkcbgfnnfmaaHi
import Derived.BigQuiet
/- The law HeaderRemarks: its walk. -/
namespace Go.Proofs.Ytnpkkcbgfnnfmaa
open Go.RowKit Go.Sort
set_option linter.unusedVariables false
set_option linter.unusedSimpArgs false
set_option maxRecDepth 100000

theorem below_row {B : Nat} {w w' : World} {k : Nat} {o : Obj} (hB : Below w.heap.size w w') (h : w.heap[k]? = some o) : w'.heap[k]? = some o :=
  (hB.block k (Array.getElem?_eq_some_iff.1 h).1).trans h

theorem dec_any (n : Nat) (hn : n ≤ 9223372036854775807) (w : World) :
    Calls Try.prog 55 #[.int .i64 n] w fun e w' => e = .returned (.string (strOfNums (posL n))) ∧ Below w.heap.size w w' := by
  have HP := Lib.hid fun w => nonneg_dec n hn w
  go_enter Try.func55, Try.ntmps55
  go_wp2_with (go_at_call 56; refine (HP.out _).mono ?_; rintro e w2 ⟨rfl, hB⟩; have HB := Lib.hid hB; clear hB)
  go_ret
  exact ⟨rfl, HB.out⟩

theorem cat_fact (a b : List Int) (A : ByteArray) (hA : A = strOfNums a) (m : Nat) (hm : (a ++ b).length ≤ m) : ∃ L k, L = a ++ b ∧ A ++ strOfNums b = strOfNums L ∧ (strOfNums L).size = k ∧ k ≤ m := by
  subst hA
  exact ⟨a ++ b, _, rfl, son_app a b, rfl, by rw [son_size]; exact hm⟩

theorem posL_bytes (n : Nat) : ∀ x ∈ posL n, 0 ≤ x ∧ x ≤ 255 := by
  induction n using Nat.strongRecOn with
  | _ n ih =>
    intro x hx
    by_cases h : n ≤ 9
    · rw [posL_small h] at hx
      simp at hx
      omega
    · rw [posL_big (by omega)] at hx
      rcases List.mem_append.1 hx with hx | hx
      · exact ih _ (by omega) x hx
      · simp at hx
        omega
theorem gapL_bytes (l : List Int) (h : ∀ x ∈ l, 0 ≤ x ∧ x ≤ 255) : ∀ x ∈ gapL l, 0 ≤ x ∧ x ≤ 255 := by
  intro x hx
  unfold gapL at hx
  rw [List.cons_append, List.mem_cons, List.mem_append] at hx
  rcases hx with rfl | hx | hx
  · omega
  · exact h x (List.mem_filter.1 hx).1
  · simp at hx
    omega
theorem remL_bytes (a b c : List Int) (W H M : Nat) (ha : ∀ x ∈ a, 0 ≤ x ∧ x ≤ 255) (hb : ∀ x ∈ b, 0 ≤ x ∧ x ≤ 255) (hc : ∀ x ∈ c, 0 ≤ x ∧ x ≤ 255) : ∀ x ∈ remL a b c W H M, 0 ≤ x ∧ x ≤ 255 := by
  intro x hx
  unfold remL at hx
  simp only [List.mem_append] at hx
  rcases hx with ((((((((hx | hx) | hx) | hx) | hx) | hx) | hx) | hx) | hx) | hx
  · simp at hx; omega
  · exact gapL_bytes a ha x hx
  · exact posL_bytes W x hx
  · simp at hx; omega
  · exact gapL_bytes b hb x hx
  · simp at hx; omega
  · exact posL_bytes H x hx
  · exact gapL_bytes c hc x hx
  · exact posL_bytes M x hx
  · simp at hx; omega

set_option maxHeartbeats 4000000 in
theorem headerRemarks_walk (a0 a1 a2 : Int) (v3 : Value) (xs3 : List Int) (v4 : Value) (xs4 : List Int) (v5 : Value) (xs5 : List Int) (w : World) (w0 : (Lit.int .u16 a0).wf = true) (w1 : (Lit.int .u16 a1).wf = true) (w2 : (Lit.int .u16 a2).wf = true)
    (rd3 : Rd w .u8 v3 xs3) (wf3 : ∀ x ∈ xs3, (Lit.int .u8 x).wf = true) (sz3 : xs3.length * 1 ≤ 140737488351232) (rd4 : Rd w .u8 v4 xs4) (wf4 : ∀ x ∈ xs4, (Lit.int .u8 x).wf = true) (sz4 : xs4.length * 1 ≤ 140737488351232) (rd5 : Rd w .u8 v5 xs5) (wf5 : ∀ x ∈ xs5, (Lit.int .u8 x).wf = true) (sz5 : xs5.length * 1 ≤ 140737488351232) :
    Calls Try.prog 12 #[.int .u16 a0, .int .u16 a1, .int .u16 a2, v3, v4, v5] w fun e w' => e = .returned (.bool true) ∧ Below w.heap.size w w' := by
  obtain ⟨p1, p2⟩ := of_wf_u16 w0
  obtain ⟨q1, q2⟩ := of_wf_u16 w1
  obtain ⟨r1, r2⟩ := of_wf_u16 w2
  have HR3 := Lib.hid rd3
  have HR4 := Lib.hid rd4
  have HR5 := Lib.hid rd5
  obtain ⟨x3, c3, rfl, _⟩ := rd3.form
  obtain ⟨x4, c4, rfl, _⟩ := rd4.form
  obtain ⟨x5, c5, rfl, _⟩ := rd5.form
  have HW3 : Hid (∀ x ∈ xs3, 0 ≤ x ∧ x ≤ 255) := Lib.hid fun x hx => of_wf_u8 (wf3 x hx)
  have HW4 : Hid (∀ x ∈ xs4, 0 ≤ x ∧ x ≤ 255) := Lib.hid fun x hx => of_wf_u8 (wf4 x hx)
  have HW5 : Hid (∀ x ∈ xs5, 0 ≤ x ∧ x ≤ 255) := Lib.hid fun x hx => of_wf_u8 (wf5 x hx)
  obtain ⟨n3, hn3⟩ : ∃ n, xs3.length = n := ⟨_, rfl⟩
  obtain ⟨n4, hn4⟩ : ∃ n, xs4.length = n := ⟨_, rfl⟩
  obtain ⟨n5, hn5⟩ : ∃ n, xs5.length = n := ⟨_, rfl⟩
  rw [hn3] at sz3 HR3 ⊢
  rw [hn4] at sz4 HR4 ⊢
  rw [hn5] at sz5 HR5 ⊢
  have HN3 := Lib.hid hn3
  have HN4 := Lib.hid hn4
  have HN5 := Lib.hid hn5
  clear w0 w1 w2 rd3 rd4 rd5 wf3 wf4 wf5 hn3 hn4 hn5
  by_cases h5 : 60 < n3 + n4 + n5
  · go_enter Try.func12, Try.ntmps12
    go_wp2_with (first
      | (go_at_call 51; refine (lives10_any _).mono ?_; rintro e wl ⟨rfl, hBl⟩; have HBl := Lib.hid hBl; clear hBl))
    go_ret
    rename_i wx hbx _
    exact ⟨rfl, hbx.out.trans (HBl.out.mono hbx.out.size)⟩
  · have h5' : n3 + n4 + n5 ≤ 60 := by omega
    clear h5
    obtain ⟨W, hW⟩ : ∃ W : Nat, 1 + a0 % 2000 = (W : Int) := ⟨(1 + a0 % 2000).toNat, by omega⟩
    obtain ⟨H, hH⟩ : ∃ H : Nat, 1 + a1 % 2000 = (H : Int) := ⟨(1 + a1 % 2000).toNat, by omega⟩
    obtain ⟨M, hM⟩ : ∃ M : Nat, 1 + a2 % 65535 = (M : Int) := ⟨(1 + a2 % 65535).toNat, by omega⟩
    have W1 : 1 ≤ W := by omega
    have W2 : W ≤ 2000 := by omega
    have H1 : 1 ≤ H := by omega
    have H2 : H ≤ 2000 := by omega
    have M1 : 1 ≤ M := by omega
    have M2 : M ≤ 65535 := by omega
    go_enter Try.func12, Try.ntmps12
    go_wp2_with (first
      | (go_at_call 51; refine (lives10_any _).mono ?_; rintro e wl ⟨rfl, hBl⟩; have HBl := Lib.hid hBl; clear hBl))
    have HX3 : Hid (xs3.length ≤ 4503599627370496) := Lib.hid (by rw [HN3.out]; omega)
    have HX4 : Hid (xs4.length ≤ 4503599627370496) := Lib.hid (by rw [HN4.out]; omega)
    have HX5 : Hid (xs5.length ≤ 4503599627370496) := Lib.hid (by rw [HN5.out]; omega)
    have lg3 : (gapL xs3).length ≤ 62 := by have := gapL_len xs3; have := HN3.out; omega
    have lg4 : (gapL xs4).length ≤ 62 := by have := gapL_len xs4; have := HN4.out; omega
    have lg5 : (gapL xs5).length ≤ 62 := by have := gapL_len xs5; have := HN5.out; omega
    have lW := posL_len W (by omega)
    have lH := posL_len H (by omega)
    have lM := posL_len M (by omega)
    obtain ⟨L1, k1, hL1, e1, s1, b1⟩ := cat_fact [80, 53] (gapL xs3) ⟨#[80, 53]⟩ rfl 100 (by simp; omega)
    obtain ⟨L2, k2, hL2, e2, s2, b2⟩ := cat_fact L1 (posL W) _ rfl 110 (by rw [hL1]; simp; omega)
    obtain ⟨L3, k3, hL3, e3, s3, b3⟩ := cat_fact L2 [32, 9] _ rfl 120 (by rw [hL2, hL1]; simp; omega)
    obtain ⟨L4, k4, hL4, e4, s4, b4⟩ := cat_fact L3 (gapL xs4) _ rfl 200 (by rw [hL3, hL2, hL1]; simp; omega)
    obtain ⟨L5, k5, hL5, e5, s5, b5⟩ := cat_fact L4 [32] _ rfl 210 (by rw [hL4, hL3, hL2, hL1]; simp; omega)
    obtain ⟨L6, k6, hL6, e6, s6, b6⟩ := cat_fact L5 (posL H) _ rfl 220 (by rw [hL5, hL4, hL3, hL2, hL1]; simp; omega)
    obtain ⟨L7, k7, hL7, e7, s7, b7⟩ := cat_fact L6 (gapL xs5) _ rfl 300 (by rw [hL6, hL5, hL4, hL3, hL2, hL1]; simp; omega)
    obtain ⟨L8, k8, hL8, e8, s8, b8⟩ := cat_fact L7 (posL M) _ rfl 310 (by rw [hL7, hL6, hL5, hL4, hL3, hL2, hL1]; simp; omega)
    obtain ⟨L9, k9, hL9, e9, s9, b9⟩ := cat_fact L8 [13] _ rfl 320 (by rw [hL8, hL7, hL6, hL5, hL4, hL3, hL2, hL1]; simp; omega)
    have HL : Hid (L9 = remL xs3 xs4 xs5 W H M) := Lib.hid (by rw [hL9, hL8, hL7, hL6, hL5, hL4, hL3, hL2, hL1]; rfl)
    clear hL1 hL2 hL3 hL4 hL5 hL6 hL7 hL8 hL9
    have e3' : strOfNums L2 ++ ⟨#[32, 9]⟩ = strOfNums L3 := e3
    have e5' : strOfNums L4 ++ ⟨#[32]⟩ = strOfNums L5 := e5
    have e9' : strOfNums L8 ++ ⟨#[13]⟩ = strOfNums L9 := e9
    clear e3 e5 e9
    have z0 : (strOfNums (gapL xs3)).size ≤ 62 := by rw [son_size]; exact lg3
    have z1 : (strOfNums (gapL xs4)).size ≤ 62 := by rw [son_size]; exact lg4
    have z2 : (strOfNums (gapL xs5)).size ≤ 62 := by rw [son_size]; exact lg5
    have z3 : (strOfNums (posL W)).size ≤ 5 := by rw [son_size]; exact lW
    have z4 : (strOfNums (posL H)).size ≤ 5 := by rw [son_size]; exact lH
    have z5 : (strOfNums (posL M)).size ≤ 5 := by rw [son_size]; exact lM
    have z6 : (ByteArray.mk #[80, 53]).size = 2 := rfl
    have z7 : (ByteArray.mk #[32, 9]).size = 2 := rfl
    have z8 : (ByteArray.mk #[32]).size = 1 := rfl
    have z9 : (ByteArray.mk #[13]).size = 1 := rfl
    have HB0 : Hid (Below w.heap.size w (wl.alloc (.cells #[.int .i64 1, .int .i64 W, .int .i64 H, .int .i64 M, .int .i64 0] 65))) := Lib.hid (HBl.out.alloc HBl.out.size _)
    have hrow : (wl.alloc (.cells #[.int .i64 1, .int .i64 W, .int .i64 H, .int .i64 M, .int .i64 0] 65)).heap[wl.heap.size]? = some (.cells #[.int .i64 1, .int .i64 W, .int .i64 H, .int .i64 M, .int .i64 0] 65 (0, 0)) := heap_alloc_new wl _
    have HROW := Lib.hid hrow
    obtain ⟨wb, hwb⟩ : ∃ wb, wl.alloc (.cells #[.int .i64 1, .int .i64 W, .int .i64 H, .int .i64 M, .int .i64 0] 65) = wb := ⟨_, rfl⟩
    rw [hwb] at HB0 HROW ⊢
    have hgw : w.heap.size ≤ wl.heap.size := HBl.out.size
    obtain ⟨g, hg⟩ : ∃ g, wl.heap.size = g := ⟨_, rfl⟩
    rw [hg] at HROW hgw ⊢
    clear hwb hrow hg lg3 lg4 lg5 lW lH lM
    obtain ⟨⟨t0, t1, t2, t3, t4⟩, _⟩ := row5 HROW.out
    clear t0 t4
    have k1 := cell_regrown t1
    have k2 := cell_regrown t2
    have k3 := cell_regrown t3
    have HG3 : Hid (∀ d os, Calls Try.prog 54 #[.slice x3 n3 c3] (grow (redrawn wb d) os) fun e w'' => e = .returned (.string (strOfNums (gapL xs3))) ∧ ∃ p : Regrown, w'' = grow (redrawn wb p.d) p.os) :=
      Lib.hid fun d os => Calls.regrown_of (gap_any (.slice x3 n3 c3) xs3 _ (HR3.out.below (HB0.out.trans ((below_regrown wb d os).mono HB0.out.size))) HX3.out)
    have HG4 : Hid (∀ d os, Calls Try.prog 54 #[.slice x4 n4 c4] (grow (redrawn wb d) os) fun e w'' => e = .returned (.string (strOfNums (gapL xs4))) ∧ ∃ p : Regrown, w'' = grow (redrawn wb p.d) p.os) :=
      Lib.hid fun d os => Calls.regrown_of (gap_any (.slice x4 n4 c4) xs4 _ (HR4.out.below (HB0.out.trans ((below_regrown wb d os).mono HB0.out.size))) HX4.out)
    have HG5 : Hid (∀ d os, Calls Try.prog 54 #[.slice x5 n5 c5] (grow (redrawn wb d) os) fun e w'' => e = .returned (.string (strOfNums (gapL xs5))) ∧ ∃ p : Regrown, w'' = grow (redrawn wb p.d) p.os) :=
      Lib.hid fun d os => Calls.regrown_of (gap_any (.slice x5 n5 c5) xs5 _ (HR5.out.below (HB0.out.trans ((below_regrown wb d os).mono HB0.out.size))) HX5.out)
    have HDA : Hid (∀ (n : Nat), n ≤ 9223372036854775807 → ∀ d os, Calls Try.prog 55 #[.int .i64 n] (grow (redrawn wb d) os) fun e w'' => e = .returned (.string (strOfNums (posL n))) ∧ ∃ p : Regrown, w'' = grow (redrawn wb p.d) p.os) :=
      Lib.hid fun n hn d os => Calls.regrown_of (dec_any n hn _)
    refine wp_region_quiet_below (by kernel_rfl) (by kernel_rfl) ?_
    repeat (go_big_quiet_step ((with_reducible (first | exact HG3.out _ _ | exact HG4.out _ _ | exact HG5.out _ _ | exact HDA.out W (by omega) _ _ | exact HDA.out H (by omega) _ _ | exact HDA.out M (by omega) _ _))))
    refine wpQuiet_nil ?_
    intro _ hw'
    obtain ⟨⟨dq, osq⟩, hw''⟩ := hw'
    subst hw''
    obtain ⟨wr, hwr⟩ : ∃ wr, grow (redrawn wb dq) osq = wr := ⟨_, rfl⟩
    have HBR : Hid (Below w.heap.size w wr) := Lib.hid (by rw [← hwr]; exact HB0.out.trans ((below_regrown wb dq osq).mono HB0.out.size))
    have HROW2 : Hid (wr.heap[g]? = some (.cells #[.int .i64 1, .int .i64 W, .int .i64 H, .int .i64 M, .int .i64 0] 65 (0, 0))) := Lib.hid (by rw [← hwr]; exact ((below_regrown wb dq osq).block g (Array.getElem?_eq_some_iff.1 HROW.out).1).trans HROW.out)
    rw [hwr]
    clear hwr k1 k2 k3 t1 t2 t3 e1 e2 e3' e4 e5' e6 e7 e8 e9' s1 s2 s3 s4 s5 s6 s7 s8 z0 z1 z2 z3 z4 z5 z6 z7 z8 z9 HG3 HG4 HG5 HDA
    have hlen : L9.length = k9 := by rw [← s9, son_size]
    have hbytes : ∀ x ∈ L9, 0 ≤ x ∧ x ≤ 255 := by rw [HL.out]; exact remL_bytes _ _ _ _ _ _ HW3.out HW4.out HW5.out
    obtain ⟨cc, wc, hconv, hrd, hbc, hcs⟩ := conv_bytes wr L9 hbytes (by rw [hlen]; unfold maxLen; omega)
    have hpar := remL_parse xs3 xs4 xs5 W H M W1 W2 H1 H2 M1 M2
    rw [← HL.out, hlen] at hpar
    have HPA := Lib.hid fun v w' h => parse_any v L9 w' h (by rw [hlen]; omega)
    rw [hpar] at HPA
    rw [hlen] at hconv hrd
    have HRD := Lib.hid hrd
    have HBC := Lib.hid (HBR.out.trans (hbc.mono HBR.out.size))
    have HROW3 := Lib.hid (below_row (B := 0) hbc HROW2.out)
    clear hbytes hlen hpar hrd hbc hcs
    go_wp2_with (go_at_call 52; refine (HPA.out _ _ HRD.out).mono ?_; rintro e wp ⟨rfl, hB⟩; have HBP := Lib.hid (HBC.out.trans (hB.mono HBC.out.size)); have hrow4 := below_row (B := 0) hB HROW3.out; obtain ⟨⟨t0, t1, t2, t3, t4⟩, f0, f1, f2, f3, f4⟩ := row5 hrow4; have hgl : g < wp.heap.size := (Array.getElem?_eq_some_iff.1 hrow4).1; have HROW4 := Lib.hid hrow4; clear hB hrow4)
    go_ret
    exact ⟨rfl, (HBP.out.setCell hgw _).alloc (by have := HBP.out.size; simp [World.setCell]; omega) _⟩
end Go.Proofs.Ytnpkkcbgfnnfmaa
