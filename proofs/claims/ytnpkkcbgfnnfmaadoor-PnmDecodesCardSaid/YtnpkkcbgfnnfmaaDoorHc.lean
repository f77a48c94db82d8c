import Derived.Test.YtnpkkcbgfnnfmaaDoorHb
import Derived.Test.YtnpkkcbgfnnfmaaDoorRa
/- Contracts of package header: magic, judge, Parse. -/
namespace Go.Proofs.YtnpkkcbgfnnfmaaDoor
open Go.RowKit
set_option linter.unusedVariables false
set_option linter.unusedSimpArgs false
set_option maxRecDepth 100000

theorem magic_any (v : Value) (xs : List Int) (w : World) (h : Rd w .u8 v xs) (hl : xs.length ≤ 4503599627370496) :
    Calls Tryd.prog 30 #[v] w fun e w' => e = .returned (.int .i64 (magicL xs)) ∧ w = w' := by
  have HR := Lib.hid h
  obtain ⟨xo, cc, rfl, h1, h2, hx⟩ := h.form
  unfold maxLen at h1
  obtain ⟨n, hn⟩ : ∃ n, xs.length = n := ⟨_, rfl⟩
  rw [hn] at hl h2 HR ⊢
  have HN := Lib.hid hn
  clear hx hn h
  by_cases hn2 : n < 2
  · have hm : magicL xs = 0 := by
      have := HN.out
      match xs, this with
      | [], _ => rfl
      | [a], _ => rfl
      | a :: b :: l, h => simp at h; omega
    have HM := Lib.hid hm
    clear hm
    go_enter Tryd.func30, Tryd.ntmps30
    go_wp2
    go_ret
    exact ⟨ret_int HM.out.symm, rfl⟩
  · obtain ⟨x, rfl⟩ := HR.out.some_ (by have := HN.out; omega)
    obtain ⟨a, HA, ca⟩ := HR.out.get rfl (j := 0) (by have := HN.out; omega)
    have ca : w.cell? x = some (.int .u8 a) := by simpa [Addr.add] using ca
    obtain ⟨b, HB, cb⟩ := HR.out.get rfl (j := 1) (by have := HN.out; omega)
    have cb : w.cell? { block := x.block, off := x.off + 1 } = some (.int .u8 b) := by simpa [Addr.add] using cb
    have hm : magicL xs = if a ≠ 80 then 0 else if b = 53 then 1 else if b = 54 then 3 else 0 := by
      have h1 := HN.out
      have h2 := HA.out
      have h3 := HB.out
      match xs, h1, h2, h3 with
      | a' :: b' :: l, _, h2, h3 => simp at h2 h3; subst h2; subst h3; rfl
      | [], h, _, _ => simp at h; omega
      | [a'], h, _, _ => simp at h; omega
    have HM := Lib.hid hm
    clear hm HA HB
    by_cases ha : a = 80
    · subst ha
      by_cases hb : b = 53
      · subst hb
        go_enter Tryd.func30, Tryd.ntmps30
        go_wp2
        go_ret
        exact ⟨ret_int HM.out.symm, rfl⟩
      · by_cases hb6 : b = 54
        · subst hb6
          go_enter Tryd.func30, Tryd.ntmps30
          go_wp2
          go_ret
          exact ⟨ret_int HM.out.symm, rfl⟩
        · have hm : magicL xs = 0 := by rw [HM.out, if_neg (by simp), if_neg hb, if_neg hb6]
          have HM2 := Lib.hid hm
          have h53 : (b == 53) = false := by rw [beq_eq_false_iff_ne]; exact hb
          have h54 : (b == 54) = false := by rw [beq_eq_false_iff_ne]; exact hb6
          clear hm hb hb6
          go_enter Tryd.func30, Tryd.ntmps30
          go_wp2
          go_ret
          exact ⟨ret_int HM2.out.symm, rfl⟩
    · have hm : magicL xs = 0 := by rw [HM.out, if_pos ha]
      have HM2 := Lib.hid hm
      have h80 : (a != 80) = true := by rw [bne_iff_ne]; exact ha
      clear hm ha
      go_enter Tryd.func30, Tryd.ntmps30
      go_wp2
      go_ret
      exact ⟨ret_int HM2.out.symm, rfl⟩

/-- a head as a value -/
abbrev headV (c x y m s : Int) : Value := .agg #[.int .i64 c, .int .i64 x, .int .i64 y, .int .i64 m, .int .i64 s]

theorem judge_any (c x y m s : Int) (w : World) :
    Calls Tryd.prog 33 #[headV c x y m s] w fun e w' => e = .returned (.int .i64 (judgeL c x y m)) ∧ Below w.heap.size w w' := by
  have HF := Lib.hid fun w => fits_any x y c w
  obtain ⟨F, hF⟩ : ∃ F, fitsB x y c = F := ⟨_, rfl⟩
  rw [hF] at HF
  have HFF := Lib.hid hF
  have hb : ∀ o, Below w.heap.size w (w.alloc o) := fun o => (Below.refl _ _).alloc (Nat.le_refl _) o
  have HB := Lib.hid hb
  clear hF hb
  rcases Classical.em (x = 0 ∨ y = 0 ∨ m = 0 ∨ 65535 < m) with hbad | hgood
  · have hj : judgeL c x y m = 2 := by unfold judgeL; rw [if_pos hbad]
    rw [hj]
    have h4 : x = 0 ∨ ((x == 0) = false ∧ y = 0) ∨ ((x == 0) = false ∧ (y == 0) = false ∧ m = 0) ∨ ((x == 0) = false ∧ (y == 0) = false ∧ (m == 0) = false ∧ 65535 < m) := by
      simp only [beq_eq_false_iff_ne]
      omega
    clear hbad hj
    rcases h4 with rfl | ⟨h1, rfl⟩ | ⟨h1, h2, rfl⟩ | ⟨h1, h2, h3, h4⟩
    all_goals
      go_enter Tryd.func33, Tryd.ntmps33
      go_wp2
      go_ret
      exact ⟨rfl, HB.out _⟩
  · have hj : judgeL c x y m = if F = true then 0 else 5 := by unfold judgeL; rw [if_neg hgood, HFF.out]
    have h1 : (x == 0) = false := by rw [beq_eq_false_iff_ne]; omega
    have h2 : (y == 0) = false := by rw [beq_eq_false_iff_ne]; omega
    have h3 : (m == 0) = false := by rw [beq_eq_false_iff_ne]; omega
    have h4 : ¬ 65535 < m := by omega
    rw [hj]
    clear hgood hj
    cases F
    · go_enter Tryd.func33, Tryd.ntmps33
      go_wp2_with (go_at_call 37; refine (HF.out _).mono ?_; rintro e w2 ⟨rfl, rfl⟩)
      go_ret
      exact ⟨rfl, HB.out _⟩
    · go_enter Tryd.func33, Tryd.ntmps33
      go_wp2_with (go_at_call 37; refine (HF.out _).mono ?_; rintro e w2 ⟨rfl, rfl⟩)
      go_ret
      exact ⟨rfl, HB.out _⟩
end Go.Proofs.YtnpkkcbgfnnfmaaDoor
