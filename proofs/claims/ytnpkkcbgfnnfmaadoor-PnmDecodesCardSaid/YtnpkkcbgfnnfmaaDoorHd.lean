import Derived.Test.YtnpkkcbgfnnfmaaDoorHc
import Derived.BigQuiet
import Derived.BigRegion
/- The contract of header's Parse. -/
namespace Go.Proofs.YtnpkkcbgfnnfmaaDoor
open Go.RowKit
set_option linter.unusedVariables false
set_option linter.unusedSimpArgs false
set_option maxRecDepth 100000

abbrev hdV (h : Hd) : Value := headV h.c h.x h.y h.m h.s

theorem results_ct_row {P : Program} {fn : Func} {p u : Tmp} {ty : TypeId} (h : fn.results = #[.cell p ty, .tmp u]) (tmps : Array Value) (w : World) (g : Nat) (t : TypeId) (cs : Array Value) (fr : Nat × Nat) (d : TypeDesc)
    (hp : tmps.getD p undef = .pointer (some ⟨g, 0, none⟩)) (hg : w.heap[g]? = some (.cells cs t fr))
    (hu : P.underlying ty = some d) (hd : (match d with | .struct _ | .array _ _ => true | _ => false) = true) (hi : (P.info? ty).map (·.size) = some cs.size) :
    (results fn tmps).run P w = .ok (.tuple #[.agg cs, tmps.getD u undef]) w := by
  rw [results_cell_tmp h, hp]
  simp [asAddr, run_loadVar_row w g t ty cs fr d hg hu hd hi, Result.andThen]

theorem index3_0 (a b c : Option Addr) (w : World) : (Instr.index 62 (.agg #[.pointer a, .pointer b, .pointer c]) (.int .i64 0)).run Tryd.prog w = .ok (.pointer a) w := by kernel_rfl
theorem index3_1 (a b c : Option Addr) (w : World) : (Instr.index 62 (.agg #[.pointer a, .pointer b, .pointer c]) (.int .i64 1)).run Tryd.prog w = .ok (.pointer b) w := by kernel_rfl
theorem index3_2 (a b c : Option Addr) (w : World) : (Instr.index 62 (.agg #[.pointer a, .pointer b, .pointer c]) (.int .i64 2)).run Tryd.prog w = .ok (.pointer c) w := by kernel_rfl
theorem row5 {w : World} {g : Nat} {a b c d e : Value} {t : TypeId} (h : w.heap[g]? = some (.cells #[a, b, c, d, e] t (0, 0))) :
    (w.cell? ⟨g, 0, none⟩ = some a ∧ w.cell? ⟨g, 1, none⟩ = some b ∧ w.cell? ⟨g, 2, none⟩ = some c ∧ w.cell? ⟨g, 3, none⟩ = some d ∧ w.cell? ⟨g, 4, none⟩ = some e) ∧
    w.frozen? ⟨g, 0, none⟩ = false ∧ w.frozen? ⟨g, 1, none⟩ = false ∧ w.frozen? ⟨g, 2, none⟩ = false ∧ w.frozen? ⟨g, 3, none⟩ = false ∧ w.frozen? ⟨g, 4, none⟩ = false :=
  ⟨⟨cell_of_row w g 0 _ _ _ h, cell_of_row w g 1 _ _ _ h, cell_of_row w g 2 _ _ _ h, cell_of_row w g 3 _ _ _ h, cell_of_row w g 4 _ _ _ h⟩, by simp [World.frozen?, h], by simp [World.frozen?, h], by simp [World.frozen?, h], by simp [World.frozen?, h], by simp [World.frozen?, h]⟩
theorem row_set {w : World} {g : Nat} {cs : Array Value} {t : TypeId} (h : w.heap[g]? = some (.cells cs t (0, 0))) (i : Nat) (v : Value) : (w.setCell ⟨g, i, none⟩ v).heap[g]? = some (.cells (cs.setIfInBounds i v) t (0, 0)) := by
  simp [World.setCell, Array.getElem?_modify, h]

theorem row_set5 {w : World} {g : Nat} {a b c d e : Value} {t : TypeId} (h : w.heap[g]? = some (.cells #[a, b, c, d, e] t (0, 0))) (a' b' c' d' e' : Value) :
    (((((w.setCell ⟨g, 0, none⟩ a').setCell ⟨g, 1, none⟩ b').setCell ⟨g, 2, none⟩ c').setCell ⟨g, 3, none⟩ d').setCell ⟨g, 4, none⟩ e').heap[g]? = some (.cells #[a', b', c', d', e'] t (0, 0)) :=
  row_set (row_set (row_set (row_set (row_set h 0 a') 1 b') 2 c') 3 d') 4 e'
theorem below_set5 {B : Nat} {w w' : World} {g : Nat} (h : Below B w w') (hg : B ≤ g) (a' b' c' d' e' : Value) :
    Below B w (((((w'.setCell ⟨g, 0, none⟩ a').setCell ⟨g, 1, none⟩ b').setCell ⟨g, 2, none⟩ c').setCell ⟨g, 3, none⟩ d').setCell ⟨g, 4, none⟩ e') :=
  ((((h.setCell hg _).setCell hg _).setCell hg _).setCell hg _).setCell hg _

set_option maxHeartbeats 4000000 in
theorem parse_any (v : Value) (xs : List Int) (w : World) (h : Rd w .u8 v xs) (hl : xs.length ≤ 4503599627370496) :
    Calls Tryd.prog 13 #[v] w fun e w' => e = .returned (.tuple #[hdV (parseL xs).2, .int .i64 (parseL xs).1]) ∧ Below w.heap.size w w' := by
  have HR := Lib.hid h
  obtain ⟨xo, cc, rfl, h1, h2, hx⟩ := h.form
  unfold maxLen at h1
  have HM := Lib.hid fun w' (h' : Rd w' .u8 (.slice xo xs.length cc) xs) => magic_any _ xs w' h' hl
  obtain ⟨n, hn⟩ : ∃ n, xs.length = n := ⟨_, rfl⟩
  rw [hn] at hl h2 HR HM ⊢
  have HN := Lib.hid hn
  clear hx hn h
  obtain ⟨c, hc⟩ : ∃ c, magicL xs = c := ⟨_, rfl⟩
  rw [hc] at HM
  have HC := Lib.hid hc
  clear hc
  by_cases hc0 : c = 0
  · subst hc0
    have hp : parseL xs = (1, Hd.none) := by unfold parseL; rw [if_pos HC.out]
    rw [hp]
    clear hp
    go_enter Tryd.func13, Tryd.ntmps13
    go_wp2_with (go_at_call 30; refine (HM.out _ (HR.out.below ((Below.refl _ _).alloc (Nat.le_refl _) _))).mono ?_; rintro e w2 ⟨rfl, rfl⟩)
    refine bodyPost_ret (results_ct_row rfl _ _ w.heap.size 23 #[.int .i64 0, .int .i64 0, .int .i64 0, .int .i64 0, .int .i64 0] (0, 0) _ rfl (heap_alloc2_old w _ _) Tryd.underlying23 rfl (by kernel_rfl)) rfl ⟨rfl, ((Below.refl _ _).alloc (Nat.le_refl _) _).alloc (by simp) _⟩
  · have hn2 : 2 ≤ n := by
      have := HN.out
      have h2 := HC.out
      match xs, this, h2 with
      | [], _, h => exact absurd h.symm hc0
      | [a], _, h => exact absurd h.symm hc0
      | a :: b :: l, h, _ => simp at h; omega
    have hcb : (c == 0) = false := by rw [beq_eq_false_iff_ne]; exact hc0
    have hp : parseL xs = contP c n 3 0 0 0 (xs.drop 2) := by unfold parseL; rw [if_neg (by rw [HC.out]; exact hc0), HC.out, HN.out]
    obtain ⟨T, hT⟩ : ∃ T, contP c n 3 0 0 0 (xs.drop 2) = T := ⟨_, rfl⟩
    have HT := Lib.hid hT
    rw [hp, hT]
    clear hp hT hc0
    go_enter Tryd.func13, Tryd.ntmps13
    go_wp2_with (go_at_call 30; refine (HM.out _ (HR.out.below ((Below.refl _ _).alloc (Nat.le_refl _) _))).mono ?_; rintro e w2 ⟨rfl, rfl⟩)
    go_loopw [5, 23] (fun t i wr => ∃ (q k : Nat) (X Y M : Int), q ≤ 3 ∧ i = .int .i64 q ∧ t = .int .i64 k ∧ k ≤ n ∧ contP c n (3 - q) X Y M (xs.drop k) = T ∧ wr.heap[w.heap.size + 1]? = some (.cells #[.int .i64 c, .int .i64 X, .int .i64 Y, .int .i64 M, .int .i64 0] 23 (0, 0)) ∧ wr.heap[w.heap.size]? = some (.cells #[.int .i64 0, .int .i64 0, .int .i64 0, .int .i64 0, .int .i64 0] 23 (0, 0)) ∧ Below w.heap.size w wr) (fun _ i _ => 3 - (intOf i).toNat)
    case atStart =>
      refine ⟨0, 2, 0, 0, 0, by omega, rfl, rfl, hn2, HT.out, ?_, ?_, ?_⟩
      · exact heap_alloc2_new w _ _
      · exact heap_alloc2_old w _ _
      · exact ((Below.refl _ _).alloc (Nat.le_refl _) _).alloc (by simp) _
    case round =>
      obtain ⟨q, k, X, Y, M, hq, rfl, rfl, hk, hcont, hg4, hg2, hbel⟩ := hrel
      have HCO := Lib.hid hcont
      have HG4 := Lib.hid hg4
      have HG2 := Lib.hid hg2
      have HB := Lib.hid hbel
      clear hcont
      by_cases hlt : q < 3
      · have HNUM := Lib.hid (number_any (.slice xo n cc) xs wr (HR.out.below HB.out) (by rw [HN.out]; exact hl) k (by rw [HN.out]; exact hk))
        obtain ⟨E, N, R, hE⟩ : ∃ E N R, numL (xs.drop k) = (E, N, R) := ⟨_, _, _, rfl⟩
        rw [hE] at HNUM
        have HE := Lib.hid hE
        clear hE hbel
        obtain ⟨⟨a0, a1, a2, a3, a4⟩, b0, b1, b2, b3, b4⟩ := row5 hg4
        obtain ⟨⟨d0, d1, d2, d3, d4⟩, f0, f1, f2, f3, f4⟩ := row5 hg2
        have ix0 := fun a b c w => index3_0 a b c w
        have ix1 := fun a b c w => index3_1 a b c w
        have ix2 := fun a b c w => index3_2 a b c w
        clear hg4 hg2
        by_cases hE0 : E = 0
        · subst hE0
          have hco := HCO.out
          rw [show 3 - q = (2 - q) + 1 by omega, contP, if_neg (by rw [HE.out]; simp), HE.out] at hco
          have HCO2 := Lib.hid hco
          clear hco
          rcases (show q = 0 ∨ q = 1 ∨ q = 2 by omega) with rfl | rfl | rfl
          · go_wp2_with (go_at_call 31; refine HNUM.out.mono ?_; rintro e w2 ⟨⟨N', k', rfl, hr⟩, rfl⟩; have HRR := Lib.hid (hr rfl); clear hr)
            have hco := HCO2.out
            obtain ⟨hk', hNR⟩ := HRR.out
            injection hNR with e1 e2
            rw [e1, e2] at hco
            rw [HN.out] at hk'
            exact ⟨⟨1, k', N', Y, M, by omega, rfl, rfl, hk', by simpa using hco, row_set HG4.out 1 _, (Below.heap_setCell _ _ _ _ (show w.heap.size ≠ w.heap.size + 1 by omega)).trans HG2.out, HB.out.setCell (show w.heap.size ≤ w.heap.size + 1 by omega) _⟩, by simp [intOf]⟩
          · go_wp2_with (go_at_call 31; refine HNUM.out.mono ?_; rintro e w2 ⟨⟨N', k', rfl, hr⟩, rfl⟩; have HRR := Lib.hid (hr rfl); clear hr)
            have hco := HCO2.out
            obtain ⟨hk', hNR⟩ := HRR.out
            injection hNR with e1 e2
            rw [e1, e2] at hco
            rw [HN.out] at hk'
            exact ⟨⟨2, k', X, N', M, by omega, rfl, rfl, hk', by simpa using hco, row_set HG4.out 2 _, (Below.heap_setCell _ _ _ _ (show w.heap.size ≠ w.heap.size + 1 by omega)).trans HG2.out, HB.out.setCell (show w.heap.size ≤ w.heap.size + 1 by omega) _⟩, by simp [intOf]⟩
          · go_wp2_with (go_at_call 31; refine HNUM.out.mono ?_; rintro e w2 ⟨⟨N', k', rfl, hr⟩, rfl⟩; have HRR := Lib.hid (hr rfl); clear hr)
            have hco := HCO2.out
            obtain ⟨hk', hNR⟩ := HRR.out
            injection hNR with e1 e2
            rw [e1, e2] at hco
            rw [HN.out] at hk'
            exact ⟨⟨3, k', X, Y, N', by omega, rfl, rfl, hk', by simpa using hco, row_set HG4.out 3 _, (Below.heap_setCell _ _ _ _ (show w.heap.size ≠ w.heap.size + 1 by omega)).trans HG2.out, HB.out.setCell (show w.heap.size ≤ w.heap.size + 1 by omega) _⟩, by simp [intOf]⟩
        · have hEb : (E != 0) = true := by rw [bne_iff_ne]; exact hE0
          have hco := HCO.out
          rw [show 3 - q = (2 - q) + 1 by omega, contP, if_pos (by rw [HE.out]; exact hE0), HE.out] at hco
          have HCO2 := Lib.hid hco
          clear hco hE0
          rcases (show q = 0 ∨ q = 1 ∨ q = 2 by omega) with rfl | rfl | rfl
          · go_wp2_with (go_at_call 31; refine HNUM.out.mono ?_; rintro e w2 ⟨⟨N', k', rfl, _⟩, rfl⟩)
            rw [← HCO2.out]
            exact bodyPost_ret (results_ct_row rfl _ _ w.heap.size 23 #[.int .i64 0, .int .i64 0, .int .i64 0, .int .i64 0, .int .i64 0] (0, 0) _ rfl (row_set5 HG2.out _ _ _ _ _) Tryd.underlying23 rfl (by kernel_rfl)) rfl ⟨rfl, below_set5 HB.out (Nat.le_refl _) _ _ _ _ _⟩
          · go_wp2_with (go_at_call 31; refine HNUM.out.mono ?_; rintro e w2 ⟨⟨N', k', rfl, _⟩, rfl⟩)
            rw [← HCO2.out]
            exact bodyPost_ret (results_ct_row rfl _ _ w.heap.size 23 #[.int .i64 0, .int .i64 0, .int .i64 0, .int .i64 0, .int .i64 0] (0, 0) _ rfl (row_set5 HG2.out _ _ _ _ _) Tryd.underlying23 rfl (by kernel_rfl)) rfl ⟨rfl, below_set5 HB.out (Nat.le_refl _) _ _ _ _ _⟩
          · go_wp2_with (go_at_call 31; refine HNUM.out.mono ?_; rintro e w2 ⟨⟨N', k', rfl, _⟩, rfl⟩)
            rw [← HCO2.out]
            exact bodyPost_ret (results_ct_row rfl _ _ w.heap.size 23 #[.int .i64 0, .int .i64 0, .int .i64 0, .int .i64 0, .int .i64 0] (0, 0) _ rfl (row_set5 HG2.out _ _ _ _ _) Tryd.underlying23 rfl (by kernel_rfl)) rfl ⟨rfl, below_set5 HB.out (Nat.le_refl _) _ _ _ _ _⟩
      · have hq3 : q = 3 := by omega
        subst hq3
        have hco := HCO.out
        rw [show 3 - 3 = 0 by rfl, contP] at hco
        obtain ⟨⟨a0, a1, a2, a3, a4⟩, b0, b1, b2, b3, b4⟩ := row5 hg4
        obtain ⟨⟨d0, d1, d2, d3, d4⟩, f0, f1, f2, f3, f4⟩ := row5 hg2
        clear hg4 hg2 hbel hlt hq
        by_cases hkn : k < n
        · have hkx : k < xs.length := by have := HN.out; omega
          obtain ⟨x, rfl⟩ := HR.out.some_ (by omega)
          obtain ⟨u, HU, cu⟩ := (HR.out.below HB.out).get rfl hkx
          have HDR : Hid (xs.drop k = u :: xs.drop (k + 1)) := Lib.hid (by rw [drop_getD hkx, HU.out])
          have hlen : (u :: xs.drop (k + 1)).length = n - k := by rw [← HDR.out, List.length_drop, HN.out]
          rw [HDR.out, tailP, hlen] at hco
          clear HU hlen
          cases hb : blankB u with
          | false =>
            have HBL := Lib.hid hb
            rw [if_pos hb] at hco
            have HCO2 := Lib.hid hco
            clear hco hb
            go_wp2_with (go_at_call 32; refine (blank_any u _).mono ?_; rw [HBL.out]; rintro e w2 ⟨rfl, rfl⟩)
            rw [← HCO2.out]
            exact bodyPost_ret (results_ct_row rfl _ _ w.heap.size 23 #[.int .i64 0, .int .i64 0, .int .i64 0, .int .i64 0, .int .i64 0] (0, 0) _ rfl (row_set5 HG2.out _ _ _ _ _) Tryd.underlying23 rfl (by kernel_rfl)) rfl ⟨rfl, below_set5 HB.out (Nat.le_refl _) _ _ _ _ _⟩
          | true =>
            have HBL := Lib.hid hb
            rw [if_neg (by rw [hb]; simp)] at hco
            obtain ⟨J, hJ⟩ : ∃ J, judgeL c X Y M = J := ⟨_, rfl⟩
            rw [hJ] at hco
            have HJ := Lib.hid fun s w => judge_any c X Y M s w
            rw [hJ] at HJ
            have HCO2 := Lib.hid hco
            have hsz : w.heap.size + 2 ≤ wr.heap.size := by
              have := (Array.getElem?_eq_some_iff.1 HG4.out).1
              omega
            clear hco hb hJ
            by_cases hJ0 : J = 0
            · subst hJ0
              go_wp2_with (first
                | (go_at_call 32; refine (blank_any u _).mono ?_; rw [HBL.out]; rintro e w2 ⟨rfl, rfl⟩)
                | (go_at_call 33; (refine (HJ.out _ _).mono ?_; rintro e w2 ⟨rfl, hBj⟩; have hs1 : (wr.setCell ⟨w.heap.size + 1, 4, none⟩ (Value.int IntKind.i64 (↑k + 1))).heap.size = wr.heap.size := by { simp [World.setCell] }; have hg4' := (hBj.block (w.heap.size + 1) (by omega)).trans (row_set HG4.out 4 (Value.int IntKind.i64 (↑k + 1))); have hg2' := (hBj.block w.heap.size (by omega)).trans ((Below.heap_setCell _ _ _ _ (show w.heap.size ≠ w.heap.size + 1 by omega)).trans HG2.out); have HBJ := Lib.hid ((HB.out.setCell (show w.heap.size ≤ w.heap.size + 1 by omega) (Value.int IntKind.i64 (↑k + 1))).trans (hBj.mono (by omega))); obtain ⟨⟨c0, c1, c2, c3, c4⟩, e0, e1, e2, e3, e4⟩ := row5 hg4'; obtain ⟨⟨i0, i1, i2, i3, i4⟩, j0, j1, j2, j3, j4⟩ := row5 hg2'; have HG2' := Lib.hid hg2'; clear hBj hg4' hg2' hs1)))
              have hco := HCO2.out
              rw [if_neg (by simp)] at hco
              have es : (n : Int) - ((n - k : Nat) : Int) + 1 = (k : Int) + 1 := by omega
              rw [es] at hco
              rw [← hco]
              exact bodyPost_ret (results_ct_row rfl _ _ w.heap.size 23 #[.int .i64 c, .int .i64 X, .int .i64 Y, .int .i64 M, .int .i64 (k + 1)] (0, 0) _ rfl (row_set5 HG2'.out _ _ _ _ _) Tryd.underlying23 rfl (by kernel_rfl)) rfl ⟨rfl, below_set5 HBJ.out (Nat.le_refl _) _ _ _ _ _⟩
            · have hJb : (J != 0) = true := by rw [bne_iff_ne]; exact hJ0
              have HJN := Lib.hid hJ0
              clear hJ0
              go_wp2_with (first
                | (go_at_call 32; refine (blank_any u _).mono ?_; rw [HBL.out]; rintro e w2 ⟨rfl, rfl⟩)
                | (go_at_call 33; (refine (HJ.out _ _).mono ?_; rintro e w2 ⟨rfl, hBj⟩; have hs1 : (wr.setCell ⟨w.heap.size + 1, 4, none⟩ (Value.int IntKind.i64 (↑k + 1))).heap.size = wr.heap.size := by { simp [World.setCell] }; have hg4' := (hBj.block (w.heap.size + 1) (by omega)).trans (row_set HG4.out 4 (Value.int IntKind.i64 (↑k + 1))); have hg2' := (hBj.block w.heap.size (by omega)).trans ((Below.heap_setCell _ _ _ _ (show w.heap.size ≠ w.heap.size + 1 by omega)).trans HG2.out); have HBJ := Lib.hid ((HB.out.setCell (show w.heap.size ≤ w.heap.size + 1 by omega) (Value.int IntKind.i64 (↑k + 1))).trans (hBj.mono (by omega))); obtain ⟨⟨c0, c1, c2, c3, c4⟩, e0, e1, e2, e3, e4⟩ := row5 hg4'; obtain ⟨⟨i0, i1, i2, i3, i4⟩, j0, j1, j2, j3, j4⟩ := row5 hg2'; have HG2' := Lib.hid hg2'; clear hBj hg4' hg2' hs1)))
              have hco := HCO2.out
              rw [if_pos HJN.out] at hco
              rw [← hco]
              exact bodyPost_ret (results_ct_row rfl _ _ w.heap.size 23 #[.int .i64 0, .int .i64 0, .int .i64 0, .int .i64 0, .int .i64 0] (0, 0) _ rfl (row_set5 HG2'.out _ _ _ _ _) Tryd.underlying23 rfl (by kernel_rfl)) rfl ⟨rfl, below_set5 HBJ.out (Nat.le_refl _) _ _ _ _ _⟩
        · have hdn : xs.drop k = [] := List.drop_of_length_le (by have := HN.out; omega)
          rw [hdn, tailP] at hco
          have HCO2 := Lib.hid hco
          clear hco hdn
          go_wp2
          rw [← HCO2.out]
          exact bodyPost_ret (results_ct_row rfl _ _ w.heap.size 23 #[.int .i64 0, .int .i64 0, .int .i64 0, .int .i64 0, .int .i64 0] (0, 0) _ rfl (row_set5 HG2.out _ _ _ _ _) Tryd.underlying23 rfl (by kernel_rfl)) rfl ⟨rfl, below_set5 HB.out (Nat.le_refl _) _ _ _ _ _⟩
end Go.Proofs.YtnpkkcbgfnnfmaaDoor
