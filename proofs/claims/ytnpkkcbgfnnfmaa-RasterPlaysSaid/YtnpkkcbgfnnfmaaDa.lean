import Derived.Test.YtnpkkcbgfnnfmaaRe
import Derived.Test.YtnpkkcbgfnnfmaaDMath
import Derived.BigRegion
/- Contracts of package diff: add, alike, Of. -/
namespace Go.Proofs.Ytnpkkcbgfnnfmaa
open Go.RowKit
set_option linter.unusedVariables false
set_option linter.unusedSimpArgs false
set_option maxRecDepth 100000

abbrev ddC (d : DD) : Array Value := #[.int .i64 d.n, .int .i64 d.m, .int .i64 d.s, .int .i64 d.q, .int .i64 d.x, .int .i64 d.y, .int .i64 d.c]

theorem row7 {w : World} {h : Nat} {a b c d e f g : Value} {t : TypeId} (hr : w.heap[h]? = some (.cells #[a, b, c, d, e, f, g] t (0, 0))) :
    (w.cell? ⟨h, 0, none⟩ = some a ∧ w.cell? ⟨h, 1, none⟩ = some b ∧ w.cell? ⟨h, 2, none⟩ = some c ∧ w.cell? ⟨h, 3, none⟩ = some d ∧ w.cell? ⟨h, 4, none⟩ = some e ∧ w.cell? ⟨h, 5, none⟩ = some f ∧ w.cell? ⟨h, 6, none⟩ = some g) ∧
    w.frozen? ⟨h, 0, none⟩ = false ∧ w.frozen? ⟨h, 1, none⟩ = false ∧ w.frozen? ⟨h, 2, none⟩ = false ∧ w.frozen? ⟨h, 3, none⟩ = false ∧ w.frozen? ⟨h, 4, none⟩ = false ∧ w.frozen? ⟨h, 5, none⟩ = false ∧ w.frozen? ⟨h, 6, none⟩ = false :=
  ⟨⟨cell_of_row w h 0 _ _ _ hr, cell_of_row w h 1 _ _ _ hr, cell_of_row w h 2 _ _ _ hr, cell_of_row w h 3 _ _ _ hr, cell_of_row w h 4 _ _ _ hr, cell_of_row w h 5 _ _ _ hr, cell_of_row w h 6 _ _ _ hr⟩,
    by simp [World.frozen?, hr], by simp [World.frozen?, hr], by simp [World.frozen?, hr], by simp [World.frozen?, hr], by simp [World.frozen?, hr], by simp [World.frozen?, hr], by simp [World.frozen?, hr]⟩

theorem grown_drew (w : World) (row : Option Nat) : w.grownBy w.drew row := ⟨rfl, rfl, rfl, Nat.le_refl _, fun _ _ _ => rfl⟩
theorem grown7 (w : World) (g : Nat) (a b c d e f h : Value) : w.grownBy (((((((w.setCell ⟨g, 0, none⟩ a).setCell ⟨g, 2, none⟩ b).setCell ⟨g, 3, none⟩ c).setCell ⟨g, 1, none⟩ d).setCell ⟨g, 6, none⟩ e).setCell ⟨g, 4, none⟩ f).setCell ⟨g, 5, none⟩ h).drew.drew (some g) := by
  refine grown_trans (grown_trans ?_ (grown_drew _ _)) (grown_drew _ _)
  exact grown_trans (grown_trans (grown_trans (grown_trans (grown_trans (grown_trans (grown_setCell w g 0 a) (grown_setCell _ g 2 b)) (grown_setCell _ g 3 c)) (grown_setCell _ g 1 d)) (grown_setCell _ g 6 e)) (grown_setCell _ g 4 f)) (grown_setCell _ g 5 h)

set_option maxHeartbeats 1000000 in
theorem add_any (w : World) (g : Nat) (d : DD) (b k W C : Int) (hrow : w.heap[g]? = some (.cells (ddC d) 80 (0, 0))) (hb : DBd d 1200) (b0 : 0 ≤ b) (b1 : b ≤ 65535) (k0 : 0 ≤ k) (k1 : k ≤ 1200) (W1 : 1 ≤ W) (W2 : W ≤ 20) (C1 : 1 ≤ C) (C2 : C ≤ 3) :
    Calls Try.prog 87 #[.pointer (some ⟨g, 0, none⟩), .int .i64 b, .int .i64 k, .int .i64 W, .int .i64 C] w fun e w' => e = .returned (.tuple #[]) ∧
      w'.heap[g]? = some (.cells (ddC (d.step b (k / C % W) (k / C / W) (k % C))) 80 (0, 0)) ∧ w.grownBy w' (some g) := by
  obtain ⟨⟨c0, c1, c2, c3, c4, c5, c6⟩, f0, f1, f2, f3, f4, f5, f6⟩ := row7 hrow
  obtain ⟨a1, a2, a3, a4, a5, a6, a7, a8⟩ := hb
  obtain ⟨s1, s2⟩ := sq_bd b0 b1
  have HR := Lib.hid hrow
  clear hrow
  by_cases hb0 : b = 0
  · subst hb0
    go_enter Try.func87, Try.ntmps87
    go_wp2
    exact bodyPost_ret (v := .tuple #[]) (by simp [results, Try.results87, go_sem]) rfl ⟨rfl, HR.out, World.grownBy.refl _ _⟩
  · have hbb : (b == 0) = false := by rw [beq_eq_false_iff_ne]; exact hb0
    have HS : Hid (d.step b (k / C % W) (k / C / W) (k % C) = ⟨d.n + 1, if d.m < b then b else d.m, d.s + b, d.q + b * b, if d.m < b then k / C % W else d.x, if d.m < b then k / C / W else d.y, if d.m < b then k % C else d.c⟩) := Lib.hid (by unfold DD.step; rw [if_neg hb0])
    rw [HS.out]
    clear hb0
    have kc0 : 0 ≤ k / C := Int.ediv_nonneg k0 (by omega)
    have kc1 : k / C ≤ 1200 := Int.le_trans (Int.ediv_le_self C k0) k1
    have hC0 : ¬ C = 0 := by omega
    have hW0 : ¬ W = 0 := by omega
    by_cases hm : d.m < b
    · simp only [hm, if_true]
      go_enter Try.func87, Try.ntmps87
      go_wp2
      go_region
      go_wp2
      go_region
      go_end0
      refine ⟨rfl, ?_, ?_⟩
      · have := HR.out
        simp [World.setCell, World.drew, -World.drew_eq, Array.getElem?_modify, this]
      · exact grown7 _ _ _ _ _ _ _ _ _
    · simp only [hm, if_false]
      go_enter Try.func87, Try.ntmps87
      go_wp2
      go_end0
      refine ⟨rfl, ?_, ?_⟩
      · have := HR.out
        simp [World.setCell, Array.getElem?_modify, this]
      · exact grown_trans (grown_trans (grown_setCell _ _ _ _) (grown_setCell _ _ _ _)) (grown_setCell _ _ _ _)

/-! ### alike, Of -/
section
variable {w : World} {g b g' b' : Nat} {W H C M W' H' C' M' : Int} {xs ys : List Int}
theorem width_same (h : ImgR w g b W H C M xs) : Calls Try.prog 26 #[.pointer (some ⟨g, 0, none⟩)] w fun e w' => e = .returned (.int .i64 W) ∧ w' = w :=
  (width_any h).mono fun _ _ h => ⟨h.1, h.2.symm⟩
theorem height_same (h : ImgR w g b W H C M xs) : Calls Try.prog 27 #[.pointer (some ⟨g, 0, none⟩)] w fun e w' => e = .returned (.int .i64 H) ∧ w' = w :=
  (height_any h).mono fun _ _ h => ⟨h.1, h.2.symm⟩
theorem chan_same (h : ImgR w g b W H C M xs) : Calls Try.prog 28 #[.pointer (some ⟨g, 0, none⟩)] w fun e w' => e = .returned (.int .i64 C) ∧ w' = w :=
  (channels_any h).mono fun _ _ h => ⟨h.1, h.2.symm⟩

theorem alike_any (h : ImgR w g b W H C M xs) (h' : ImgR w g' b' W' H' C' M' ys) :
    Calls Try.prog 86 #[.pointer (some ⟨g, 0, none⟩), .pointer (some ⟨g', 0, none⟩)] w fun e w' => e = .returned (.bool (W == W' && (H == H' && C == C'))) ∧ w = w' := by
  have hW : (W == W') = true ∨ (W == W') = false := by cases (W == W') <;> simp
  have hH : (H == H') = true ∨ (H == H') = false := by cases (H == H') <;> simp
  have hC : (C == C') = true ∨ (C == C') = false := by cases (C == C') <;> simp
  have HI := Lib.hid h
  have HI' := Lib.hid h'
  clear h h'
  rcases hW with hW | hW <;> rcases hH with hH | hH <;> rcases hC with hC | hC
  all_goals
    go_enter Try.func86, Try.ntmps86
    go_wp2_with (first
      | (go_at_call_of 26 (Value.pointer (some ⟨g, 0, none⟩)); refine (width_any HI.out).mono ?_; rintro e w' ⟨rfl, rfl⟩)
      | (go_at_call_of 27 (Value.pointer (some ⟨g, 0, none⟩)); refine (height_any HI.out).mono ?_; rintro e w' ⟨rfl, rfl⟩)
      | (go_at_call_of 28 (Value.pointer (some ⟨g, 0, none⟩)); refine (channels_any HI.out).mono ?_; rintro e w' ⟨rfl, rfl⟩)
      | (go_at_call 26; refine (width_any HI'.out).mono ?_; rintro e w' ⟨rfl, rfl⟩)
      | (go_at_call 27; refine (height_any HI'.out).mono ?_; rintro e w' ⟨rfl, rfl⟩)
      | (go_at_call 28; refine (channels_any HI'.out).mono ?_; rintro e w' ⟨rfl, rfl⟩))
    go_ret
    exact ⟨ret_bool (by simp [hW, hH, hC]), rfl⟩
theorem alike_left_nil (x : Option Addr) (w : World) :
    Calls Try.prog 86 #[.pointer none, .pointer x] w fun e w' => e = .returned (.bool false) ∧ w = w' := by
  go_enter Try.func86, Try.ntmps86
  go_wp2
  go_ret
  exact ⟨rfl, rfl⟩
theorem alike_right_nil (g : Nat) (w : World) :
    Calls Try.prog 86 #[.pointer (some ⟨g, 0, none⟩), .pointer none] w fun e w' => e = .returned (.bool false) ∧ w = w' := by
  go_enter Try.func86, Try.ntmps86
  go_wp2
  go_ret
  exact ⟨rfl, rfl⟩
end
end Go.Proofs.Ytnpkkcbgfnnfmaa
