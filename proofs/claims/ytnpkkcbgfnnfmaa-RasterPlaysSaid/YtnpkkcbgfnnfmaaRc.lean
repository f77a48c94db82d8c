import Derived.Test.YtnpkkcbgfnnfmaaRb
/- Contracts of package slices' Max and Equal, of the document's Same, and of images' methods. -/
namespace Go.Proofs.Ytnpkkcbgfnnfmaa
open Go.RowKit
set_option linter.unusedVariables false
set_option linter.unusedSimpArgs false
set_option maxRecDepth 100000

theorem max_any (v : Value) (xs : List Int) (w : World) (h : Rd w .u16 v xs) (hn : xs ≠ []) :
    Calls Try.prog 77 #[v] w fun e w' => e = .returned (.int .u16 (maxl xs)) ∧ w = w' := by
  have hpos : 0 < xs.length := List.length_pos_iff.2 hn
  have hl := h.cases.1
  obtain ⟨x, c, rfl, h2, h1, hx⟩ := h.form
  unfold maxLen at hl h2
  cases x with
  | none => exact absurd (hx rfl).1 hn
  | some x =>
    clear hx
    obtain ⟨n, hn'⟩ : ∃ n, n = xs.length := ⟨_, rfl⟩
    rw [← hn'] at hl h1 hpos ⊢
    obtain ⟨u0, HU0, c0⟩ := h.get rfl (j := 0) (by omega)
    rw [Addr.add_zero'] at c0
    have HN := Lib.hid hn'
    have HC := Lib.hid h
    clear h hn hn'
    go_enter Try.func77, Try.ntmps77
    go_wp2_with fail
    go_loop [3, 4] (fun m i => ∃ k : Nat, 1 ≤ k ∧ k ≤ n ∧ i = .int .i64 k ∧ m = .int .u16 (maxl (xs.take k))) (fun _ i => n - (intOf i).toNat)
    case atStart => exact ⟨1, by omega, by omega, rfl, by rw [maxl_one (by have := HN.out; omega), HU0.out]⟩
    case round =>
      obtain ⟨k, hk1, hk2, rfl, rfl⟩ := hrel
      by_cases hlt : k < n
      · have hkx : k < xs.length := by have := HN.out; omega
        obtain ⟨u, HU, ck⟩ := HC.out.get rfl hkx
        go_wp2
        refine ⟨⟨k + 1, by omega, by omega, by go_num, ?_⟩, by simp [intOf]; omega⟩
        rw [maxl_take hk1 hkx, HU.out]
      · go_wp2
        go_ret
        refine ⟨ret_int ?_, rfl⟩
        have := HN.out
        rw [List.take_of_length_le (by omega)]

theorem equal_any (v v' : Value) (xs ys : List Int) (w : World) (h : Rd w .u16 v xs) (h' : Rd w .u16 v' ys) :
    Calls Try.prog 79 #[v, v'] w fun e w' => e = .returned (.bool (decide (xs = ys))) ∧ ∃ m, w' = w.drewN m := by
  have hl := h.cases.1
  have hl' := h'.cases.1
  obtain ⟨x, c, rfl, h2, h1, hx⟩ := h.form
  obtain ⟨y, c', rfl, h2', h1', hy⟩ := h'.form
  unfold maxLen at hl hl'
  clear h1 h2 h1' h2'
  by_cases hln : xs.length = ys.length
  · obtain ⟨n, hn⟩ : ∃ n, n = xs.length := ⟨_, rfl⟩
    have hm : n = ys.length := by omega
    rw [← hn, ← hm]
    rw [← hn] at hl h
    rw [← hm] at h'
    have HN := Lib.hid hn
    have HM := Lib.hid hm
    have HX := Lib.hid hx
    have HY := Lib.hid hy
    have HC := Lib.hid h
    have HC' := Lib.hid h'
    clear h h' hln hn hm hl' hx hy
    go_enter Try.func79, Try.ntmps79
    go_wp2_with fail
    go_loopw [5, 13] (fun _ i wr => ∃ k m : Nat, k ≤ n ∧ i = .int .i64 k ∧ wr = w.drewN m ∧ xs.take k = ys.take k) (fun _ i _ => n - (intOf i).toNat)
    case atStart => exact ⟨0, 0, by omega, rfl, rfl, by simp⟩
    case round =>
      obtain ⟨k, m, hk, rfl, rfl, heq⟩ := hrel
      have HE := Lib.hid heq
      clear heq
      by_cases hlt : k < n
      · have hkx : k < xs.length := by have := HN.out; omega
        have hky : k < ys.length := by have := HM.out; omega
        cases x with
        | none => have := (HX.out rfl).1; rw [this] at hkx; simp at hkx
        | some x =>
        cases y with
        | none => have := (HY.out rfl).1; rw [this] at hky; simp at hky
        | some y =>
        obtain ⟨u, HU, ck⟩ := HC.out.get rfl hkx
        obtain ⟨u', HU', ck'⟩ := HC'.out.get rfl hky
        go_wp2
        go_quiet (fail)
        go_wp2
        · rename_i hne
          go_ret
          refine ⟨ret_bool ?_, m + nq, World.drewN_drewN _ _ _⟩
          have hne' : u ≠ u' := by simpa using hne
          symm
          rw [decide_eq_false_iff_not]
          rintro rfl
          exact hne' (HU.out.symm.trans HU'.out)
        · rename_i heq
          have heq' : u = u' := by simpa using heq
          refine ⟨⟨k + 1, m + nq, by omega, by go_num, rfl, ?_⟩, by simp [intOf]; omega⟩
          rw [take_succ_getD hkx, take_succ_getD hky, HU.out, HU'.out, HE.out, heq']
      · go_wp2
        go_ret
        have h1 := HN.out
        have h2 := HM.out
        have h3 := HE.out
        rw [List.take_of_length_le (by omega), List.take_of_length_le (by omega)] at h3
        exact ⟨ret_bool (by rw [h3]; simp), m, rfl⟩
  · obtain ⟨n, hn⟩ : ∃ n, n = xs.length := ⟨_, rfl⟩
    obtain ⟨n', hn'⟩ : ∃ n', n' = ys.length := ⟨_, rfl⟩
    rw [← hn, ← hn']
    rw [← hn] at hl
    rw [← hn'] at hl'
    have hne : (n : Int) ≠ n' := by omega
    have h3 : ((n : Int) != (n' : Int)) = true := by simpa using hne
    have HD : Hid (decide (xs = ys) = false) := by
      refine Lib.hid ?_
      rw [decide_eq_false_iff_not]
      rintro rfl
      exact hln rfl
    clear h h' hln hn hn' hx hy hne
    go_enter Try.func79, Try.ntmps79
    go_wp2
    go_ret
    exact ⟨ret_bool HD.out.symm, 0, (World.drewN_zero _).symm⟩


/-! ### the document's Same -/
theorem refSame_any (v v' : Value) (xs ys : List Int) (w : World) (h : Rd w .u16 v xs) (h' : Rd w .u16 v' ys) :
    Calls Try.prog 46 #[v, v'] w fun e w' => e = .returned (.bool (decide (xs = ys))) ∧ ∃ m, w' = w.drewN m := by
  have hl := h.cases.1
  have hl' := h'.cases.1
  obtain ⟨x, c, rfl, h2, h1, hx⟩ := h.form
  obtain ⟨y, c', rfl, h2', h1', hy⟩ := h'.form
  unfold maxLen at hl hl'
  clear h1 h2 h1' h2'
  by_cases hln : xs.length = ys.length
  · obtain ⟨n, hn⟩ : ∃ n, n = xs.length := ⟨_, rfl⟩
    have hm : n = ys.length := by omega
    rw [← hn, ← hm]
    rw [← hn] at hl h
    rw [← hm] at h'
    have HN := Lib.hid hn
    have HM := Lib.hid hm
    have HX := Lib.hid hx
    have HY := Lib.hid hy
    have HC := Lib.hid h
    have HC' := Lib.hid h'
    clear h h' hln hn hm hl' hx hy
    go_enter Try.func46, Try.ntmps46
    go_wp2_with fail
    go_loopw [5, 13] (fun _ i wr => ∃ k m : Nat, k ≤ n ∧ i = .int .i64 k ∧ wr = w.drewN m ∧ xs.take k = ys.take k) (fun _ i _ => n - (intOf i).toNat)
    case atStart => exact ⟨0, 0, by omega, rfl, rfl, by simp⟩
    case round =>
      obtain ⟨k, m, hk, rfl, rfl, heq⟩ := hrel
      have HE := Lib.hid heq
      clear heq
      by_cases hlt : k < n
      · have hkx : k < xs.length := by have := HN.out; omega
        have hky : k < ys.length := by have := HM.out; omega
        cases x with
        | none => have := (HX.out rfl).1; rw [this] at hkx; simp at hkx
        | some x =>
        cases y with
        | none => have := (HY.out rfl).1; rw [this] at hky; simp at hky
        | some y =>
        obtain ⟨u, HU, ck⟩ := HC.out.get rfl hkx
        obtain ⟨u', HU', ck'⟩ := HC'.out.get rfl hky
        go_wp2
        go_quiet (fail)
        go_wp2
        · rename_i hne
          go_ret
          refine ⟨ret_bool ?_, m + nq, World.drewN_drewN _ _ _⟩
          have hne' : u ≠ u' := by simpa using hne
          symm
          rw [decide_eq_false_iff_not]
          rintro rfl
          exact hne' (HU.out.symm.trans HU'.out)
        · rename_i heq
          have heq' : u = u' := by simpa using heq
          refine ⟨⟨k + 1, m + nq, by omega, by go_num, rfl, ?_⟩, by simp [intOf]; omega⟩
          rw [take_succ_getD hkx, take_succ_getD hky, HU.out, HU'.out, HE.out, heq']
      · go_wp2
        go_ret
        have h1 := HN.out
        have h2 := HM.out
        have h3 := HE.out
        rw [List.take_of_length_le (by omega), List.take_of_length_le (by omega)] at h3
        exact ⟨ret_bool (by rw [h3]; simp), m, rfl⟩
  · obtain ⟨n, hn⟩ : ∃ n, n = xs.length := ⟨_, rfl⟩
    obtain ⟨n', hn'⟩ : ∃ n', n' = ys.length := ⟨_, rfl⟩
    rw [← hn, ← hn']
    rw [← hn] at hl
    rw [← hn'] at hl'
    have hne : (n : Int) ≠ n' := by omega
    have h3 : ((n : Int) != (n' : Int)) = true := by simpa using hne
    have HD : Hid (decide (xs = ys) = false) := by
      refine Lib.hid ?_
      rw [decide_eq_false_iff_not]
      rintro rfl
      exact hln rfl
    clear h h' hln hn hn' hx hy hne
    go_enter Try.func46, Try.ntmps46
    go_wp2
    go_ret
    exact ⟨ret_bool HD.out.symm, 0, (World.drewN_zero _).symm⟩

end Go.Proofs.Ytnpkkcbgfnnfmaa
