import Derived.Test.YtnpkkcbgfnnfmaaRh
import Derived.Test.YtnpkkcbgfnnfmaaBase2
/- The document's In, At, Set over an image as a value; Ref, Equal. -/
namespace Go.Proofs.Ytnpkkcbgfnnfmaa
open Go.RowKit
set_option linter.unusedVariables false
set_option linter.unusedSimpArgs false
set_option maxRecDepth 100000

/-- a boxed struct of five parts, behind a call that leaves it alone -/
theorem box5 {w w' : World} {a b c d e : Value} {t : TypeId} (hB : Below (w.alloc (.cells #[a, b, c, d, e] t)).heap.size (w.alloc (.cells #[a, b, c, d, e] t)) w') :
    w'.cell? ⟨w.heap.size, 0, none⟩ = some a ∧ w'.cell? ⟨w.heap.size, 1, none⟩ = some b ∧ w'.cell? ⟨w.heap.size, 2, none⟩ = some c ∧ w'.cell? ⟨w.heap.size, 3, none⟩ = some d ∧ w'.cell? ⟨w.heap.size, 4, none⟩ = some e :=
  ⟨cell_later hB (by simp), cell_later hB (by simp), cell_later hB (by simp), cell_later hB (by simp), cell_later hB (by simp)⟩

/-- an image as a value -/
abbrev imgV (W H C M : Int) (v : Value) : Value := .agg #[.int .i64 W, .int .i64 H, .int .i64 C, .int .i64 M, v]

theorem refIn_any (W H C M : Int) (x : Option Addr) (n cap : Nat) (a b c : Int) (w : World) :
    Calls Try.prog 88 #[imgV W H C M (.slice x n cap), .int .i64 a, .int .i64 b, .int .i64 c] w fun e w' => e = .returned (.bool (inB W H C a b c)) ∧ Below w.heap.size w w' := by
  go_enter Try.func88, Try.ntmps88
  go_wp2
  all_goals
    go_ret
    refine ⟨ret_bool ?_, (Below.refl _ _).alloc (Nat.le_refl _) _⟩
    unfold inB
    go_tidy
  all_goals first
    | (symm; rw [decide_eq_false_iff_not]; omega)
    | (rw [decide_eq_decide]; omega)

theorem refAt_in (W H C M : Int) (x : Option Addr) (n cap : Nat) (xs : List Int) (a b c : Int) (w : World) (hr : Rd w .u16 (.slice x n cap) xs) (hv : codeR W H C M = 0) (hl : (xs.length : Int) = W * H * C) (hi : inB W H C a b c = true) :
    Calls Try.prog 67 #[imgV W H C M (.slice x n cap), .int .i64 a, .int .i64 b, .int .i64 c] w fun e w' => e = .returned (.int .u16 (xs.getD (placeI W C a b c).toNat 0)) ∧ Below w.heap.size w w' := by
  obtain ⟨e1, e2, e3, e4, e5, e6⟩ := place_bd hv hi
  obtain ⟨x1, x2, y1, y2, z1, z2⟩ := inB_true hi
  obtain ⟨p, hp⟩ : ∃ p : Nat, placeI W C a b c = (p : Int) := ⟨(placeI W C a b c).toNat, by unfold placeI; omega⟩
  have hpl : p < xs.length := by unfold placeI at hp; omega
  have hl2 : xs.length ≤ 268435456 := by omega
  have hform := hr.form
  obtain ⟨_, _, he, hcap, hnc, _⟩ := hform
  injection he with f1 f2 f3
  subst f2
  subst f3
  clear f1
  unfold maxLen at hcap
  obtain ⟨xa, rfl⟩ := hr.some_ (by omega)
  obtain ⟨u, HU, cu⟩ := hr.get rfl hpl
  have cu2 := cell_later ((Below.refl w.heap.size w).alloc (Nat.le_refl _) (.cells #[.int .i64 W, .int .i64 H, .int .i64 C, .int .i64 M, .slice (some xa) xs.length cap] 87)) cu
  rw [hp, Int.toNat_natCast, HU.out]
  have eP : b * W * C + a * C + c = (p : Int) := by rw [← hp]; unfold placeI; rw [Int.add_mul]
  have g1 : 0 ≤ b * W * C := Int.mul_nonneg e1 (by have := codeR_zero hv; omega)
  have g2 : 0 ≤ a * C := Int.mul_nonneg x1 (by have := codeR_zero hv; omega)
  have g3 : b * W * C + a * C + C ≤ 268435456 := by have := Int.add_mul (b * W) a C; omega
  have hC : C ≤ 3 := by have := codeR_zero hv; omega
  have g4 : b * W ≤ 4294967296 := by omega
  have HIN := Lib.hid fun w => refIn_any W H C M (some xa) xs.length cap a b c w
  rw [hi] at HIN
  clear hp hr hv hi hl e2 e3 e4 e5 e6 cu
  go_enter Try.func67, Try.ntmps67
  go_wp2_with (go_at_call 88; refine (HIN.out _).mono ?_; rintro e w' ⟨rfl, hB⟩; have hc := cell_later hB cu2; obtain ⟨k0, k1, k2, k3, k4⟩ := box5 hB; have HB := Lib.hid hB; clear hB)
  go_ret
  exact ⟨rfl, ((Below.refl _ _).alloc (Nat.le_refl _) _).trans (HB.out.mono (by simp))⟩

theorem refAt_out (W H C M : Int) (x : Option Addr) (n cap : Nat) (a b c : Int) (w : World) (hi : inB W H C a b c = false) :
    Calls Try.prog 67 #[imgV W H C M (.slice x n cap), .int .i64 a, .int .i64 b, .int .i64 c] w fun e w' => e = .returned (.int .u16 0) ∧ Below w.heap.size w w' := by
  have HIN := Lib.hid fun w => refIn_any W H C M x n cap a b c w
  rw [hi] at HIN
  clear hi
  go_enter Try.func67, Try.ntmps67
  go_wp2_with (go_at_call 88; refine (HIN.out _).mono ?_; rintro e w' ⟨rfl, hB⟩; have HB := Lib.hid hB; clear hB)
  go_ret
  exact ⟨rfl, ((Below.refl _ _).alloc (Nat.le_refl _) _).trans (HB.out.mono (by simp))⟩

/-! ### Ref, Equal -/
theorem row5v {w : World} {g : Nat} {a b c d e : Value} {t : TypeId} (h : w.heap[g]? = some (.cells #[a, b, c, d, e] t (0, 0))) :
    (w.cell? ⟨g, 0, none⟩ = some a ∧ w.cell? ⟨g, 1, none⟩ = some b ∧ w.cell? ⟨g, 2, none⟩ = some c ∧ w.cell? ⟨g, 3, none⟩ = some d ∧ w.cell? ⟨g, 4, none⟩ = some e) ∧
    w.frozen? ⟨g, 0, none⟩ = false ∧ w.frozen? ⟨g, 1, none⟩ = false ∧ w.frozen? ⟨g, 2, none⟩ = false ∧ w.frozen? ⟨g, 3, none⟩ = false ∧ w.frozen? ⟨g, 4, none⟩ = false :=
  ⟨⟨cell_of_row w g 0 _ _ _ h, cell_of_row w g 1 _ _ _ h, cell_of_row w g 2 _ _ _ h, cell_of_row w g 3 _ _ _ h, cell_of_row w g 4 _ _ _ h⟩, by simp [World.frozen?, h], by simp [World.frozen?, h], by simp [World.frozen?, h], by simp [World.frozen?, h], by simp [World.frozen?, h]⟩
theorem row_set5v {w : World} {g : Nat} {a b c d e : Value} {t : TypeId} (h : w.heap[g]? = some (.cells #[a, b, c, d, e] t (0, 0))) (a' b' c' d' e' : Value) :
    (((((w.setCell ⟨g, 0, none⟩ a').setCell ⟨g, 1, none⟩ b').setCell ⟨g, 2, none⟩ c').setCell ⟨g, 3, none⟩ d').setCell ⟨g, 4, none⟩ e').heap[g]? = some (.cells #[a', b', c', d', e'] t (0, 0)) := by
  simp [World.setCell, Array.getElem?_modify, h]
theorem below_set5v {B : Nat} {w w' : World} {g : Nat} (h : Below B w w') (hg : B ≤ g) (a' b' c' d' e' : Value) :
    Below B w (((((w'.setCell ⟨g, 0, none⟩ a').setCell ⟨g, 1, none⟩ b').setCell ⟨g, 2, none⟩ c').setCell ⟨g, 3, none⟩ d').setCell ⟨g, 4, none⟩ e') :=
  ((((h.setCell hg _).setCell hg _).setCell hg _).setCell hg _).setCell hg _
theorem own_set5v {w : World} {g base : Nat} {t : TypeId} {k : IntKind} {v : Value} {xs : List Int} (h : Own w base t k v xs) (hg : g < base) (a' b' c' d' e' : Value) :
    Own (((((w.setCell ⟨g, 0, none⟩ a').setCell ⟨g, 1, none⟩ b').setCell ⟨g, 2, none⟩ c').setCell ⟨g, 3, none⟩ d').setCell ⟨g, 4, none⟩ e') base t k v xs :=
  h.kept fun q hq _ => by
    have := (World.ownsRow.lt h q hq).1
    rw [Below.heap_setCell _ _ _ _ (by show q ≠ g; omega), Below.heap_setCell _ _ _ _ (by show q ≠ g; omega), Below.heap_setCell _ _ _ _ (by show q ≠ g; omega), Below.heap_setCell _ _ _ _ (by show q ≠ g; omega), Below.heap_setCell _ _ _ _ (by show q ≠ g; omega)]

section
variable {w : World} {g b : Nat} {W H C M : Int} {xs : List Int}
theorem ref_any (h : ImgR w g b W H C M xs) (hb : xs.length * 2 ≤ 140737488351232) :
    Calls Try.prog 63 #[.pointer (some ⟨g, 0, none⟩)] w fun e w' => ∃ x c, e = .returned (imgV W H C M (.slice x xs.length c)) ∧ Own w' w.heap.size 31 .u16 (.slice x xs.length c) xs ∧ Below w.heap.size w w' := by
  have HI := Lib.hid fun o => h.below ((Below.refl w.heap.size w).alloc (Nat.le_refl _) o)
  clear h
  go_enter Try.func63, Try.ntmps63
  go_wp2_with (first
    | (go_at_call 26; refine (width_any (HI.out _)).mono ?_; rintro e w' ⟨rfl, rfl⟩)
    | (go_at_call 27; refine (height_any (HI.out _)).mono ?_; rintro e w' ⟨rfl, rfl⟩)
    | (go_at_call 28; refine (channels_any (HI.out _)).mono ?_; rintro e w' ⟨rfl, rfl⟩)
    | (go_at_call 29; refine (most_any (HI.out _)).mono ?_; rintro e w' ⟨rfl, rfl⟩)
    | (go_at_call 25; refine (samples_any (HI.out _) hb).mono ?_; rintro e w1 ⟨x, c, rfl, ho, hB⟩; have hrow := (hB.block w.heap.size (by simp)).trans (heap_alloc_new w _); obtain ⟨⟨c0, c1, c2, c3, c4⟩, f0, f1, f2, f3, f4⟩ := row5v hrow; have HO := Lib.hid (ho.mono (base' := w.heap.size + 1) (by simp)); have HB := Lib.hid (((Below.refl w.heap.size w).alloc (Nat.le_refl _) _).trans (hB.mono (by simp))); have HR := Lib.hid hrow; clear ho hB hrow))
  refine bodyPost_ret (results_cell_row rfl _ _ w.heap.size 87 #[.int .i64 W, .int .i64 H, .int .i64 C, .int .i64 M, .slice x xs.length c] (0, 0) _ rfl (row_set5v HR.out _ _ _ _ _) Try.underlying87 rfl (by kernel_rfl)) rfl ⟨x, c, rfl, ?_, below_set5v HB.out (Nat.le_refl _) _ _ _ _ _⟩
  exact (own_set5v HO.out (by omega) _ _ _ _ _).mono (by omega)
end

theorem box55 {w w' : World} {cs ds : Array Value} {t t' : TypeId} (hB : Below ((w.alloc (.cells cs t)).alloc (.cells ds t')).heap.size ((w.alloc (.cells cs t)).alloc (.cells ds t')) w') :
    w'.heap[w.heap.size]? = some (.cells cs t (0, 0)) ∧ w'.heap[w.heap.size + 1]? = some (.cells ds t' (0, 0)) :=
  ⟨(hB.block _ (by simp; omega)).trans (heap_alloc2_old w _ _), (hB.block _ (by simp)).trans (heap_alloc2_new w _ _)⟩

theorem equalV_any (W H C M W' H' C' M' : Int) (x x' : Option Addr) (n n' c c' : Nat) (xs ys : List Int) (w : World) (h : Rd w .u16 (.slice x n c) xs) (h' : Rd w .u16 (.slice x' n' c') ys) :
    Calls Try.prog 68 #[imgV W H C M (.slice x n c), imgV W' H' C' M' (.slice x' n' c')] w fun e w' => e = .returned (.bool (decide (W = W' ∧ H = H' ∧ C = C' ∧ M = M' ∧ xs = ys))) ∧ Below w.heap.size w w' := by
  have hW : (W == W') = true ∨ (W == W') = false := by cases (W == W') <;> simp
  have hH : (H == H') = true ∨ (H == H') = false := by cases (H == H') <;> simp
  have hC : (C == C') = true ∨ (C == C') = false := by cases (C == C') <;> simp
  have hM : (M == M') = true ∨ (M == M') = false := by cases (M == M') <;> simp
  have HS := Lib.hid fun o1 o2 => refSame_any _ _ _ _ ((w.alloc o1).alloc o2) (h.below (((Below.refl w.heap.size w).alloc (Nat.le_refl _) o1).alloc (by simp) o2)) (h'.below (((Below.refl w.heap.size w).alloc (Nat.le_refl _) o1).alloc (by simp) o2))
  clear h h'
  have FIN := Lib.hid (show ∀ q : Bool, q = (W == W' && (H == H' && (C == C' && (M == M' && decide (xs = ys))))) → q = decide (W = W' ∧ H = H' ∧ C = C' ∧ M = M' ∧ xs = ys) by
    intro q hq
    rw [hq, Bool.eq_iff_iff]
    simp only [Bool.and_eq_true, beq_iff_eq, decide_eq_true_eq])
  have HBB := Lib.hid fun o1 o2 => ((Below.refl w.heap.size w).alloc (Nat.le_refl _) o1).alloc (by simp) o2
  rcases hW with hW | hW
  · rcases hH with hH | hH
    · rcases hC with hC | hC
      · rcases hM with hM | hM
        · go_enter Try.func68, Try.ntmps68
          go_wp2_with (go_at_call 46; refine (HS.out _ _).mono ?_; rintro e w' ⟨rfl, m, rfl⟩)
          go_ret
          exact ⟨ret_bool (FIN.out _ (by rw [hW, hH, hC, hM]; simp)), (HBB.out _ _).trans (Below.drewN m)⟩
        · go_enter Try.func68, Try.ntmps68
          go_wp2
          go_ret
          exact ⟨ret_bool (FIN.out _ (by rw [hW, hH, hC, hM]; simp)), HBB.out _ _⟩
      · go_enter Try.func68, Try.ntmps68
        go_wp2
        go_ret
        exact ⟨ret_bool (FIN.out _ (by rw [hW, hH, hC]; simp)), HBB.out _ _⟩
    · go_enter Try.func68, Try.ntmps68
      go_wp2
      go_ret
      exact ⟨ret_bool (FIN.out _ (by rw [hW, hH]; simp)), HBB.out _ _⟩
  · go_enter Try.func68, Try.ntmps68
    go_wp2
    go_ret
    exact ⟨ret_bool (FIN.out _ (by rw [hW]; simp)), HBB.out _ _⟩
end Go.Proofs.Ytnpkkcbgfnnfmaa
