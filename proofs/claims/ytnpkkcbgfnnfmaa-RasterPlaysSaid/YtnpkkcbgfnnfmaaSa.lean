import Derived.Test.YtnpkkcbgfnnfmaaDe
/- The document's Set (smaltoref09). -/
namespace Go.Proofs.Ytnpkkcbgfnnfmaa
open Go.RowKit
set_option linter.unusedVariables false
set_option linter.unusedSimpArgs false
set_option maxRecDepth 100000

theorem grown_old {w' wa : World} {o' : Obj} {k : Nat} (h : (w'.alloc o').grownBy wa (Value.slice (some ⟨w'.heap.size, 0, none⟩) 0 0).ownBlock) (hk : k < w'.heap.size) : wa.heap[k]? = w'.heap[k]? :=
  (h.block k (by simp; omega) (by show some k ≠ some w'.heap.size; intro e; injection e with e; omega)).trans (heap_alloc_old w' _ hk)
theorem row_far {w : World} {g : Nat} {o : Obj} {a : Addr} (h : w.heap[g]? = some o) (hne : g ≠ a.block) (v : Value) : (w.setCell a v).heap[g]? = some o := by
  rw [Below.heap_setCell _ _ _ _ hne]
  exact h
theorem row_set4 {w : World} {g : Nat} {a b c d e : Value} {t : TypeId} (h : w.heap[g]? = some (.cells #[a, b, c, d, e] t (0, 0))) (s : Value) : (w.setCell ⟨g, 4, none⟩ s).heap[g]? = some (.cells #[a, b, c, d, s] t (0, 0)) := by
  simp [World.setCell, Array.getElem?_modify, h]
theorem Own.blkS {w : World} {base : Nat} {t : TypeId} {k : IntKind} {v : Value} {xs : List Int} (h : Own w base t k v xs) : ∀ q, v.ownBlock = some q → q < w.heap.size := fun q hq => (World.ownsRow.lt h q hq).2
theorem bel2' (w : World) (a b : Obj) : Below w.heap.size w ((w.alloc a).alloc b) := ((Below.refl w.heap.size w).alloc (Nat.le_refl _) a).alloc (by simp) b
theorem results_ct_rowS {P : Program} {fn : Func} {p u : Tmp} {ty : TypeId} (h : fn.results = #[.cell p ty, .tmp u]) (tmps : Array Value) (w : World) (g : Nat) (t : TypeId) (cs : Array Value) (fr : Nat × Nat) (d : TypeDesc)
    (hp : tmps.getD p undef = .pointer (some ⟨g, 0, none⟩)) (hg : w.heap[g]? = some (.cells cs t fr))
    (hu : P.underlying ty = some d) (hd : (match d with | .struct _ | .array _ _ => true | _ => false) = true) (hi : (P.info? ty).map (·.size) = some cs.size) :
    (results fn tmps).run P w = .ok (.tuple #[.agg cs, tmps.getD u undef]) w := by
  rw [results_cell_tmp h, hp]
  simp [asAddr, run_loadVar_row w g t ty cs fr d hg hu hd hi, Result.andThen]

set_option maxHeartbeats 2000000 in
theorem refSet_no (W H C M : Int) (x : Option Addr) (n cap : Nat) (a b c v : Int) (w : World) (v0 : 0 ≤ v) (v1 : v ≤ 65535) (hi : inB W H C a b c = false ∨ M < v) :
    Calls Try.prog 65 #[imgV W H C M (.slice x n cap), .int .i64 a, .int .i64 b, .int .i64 c, .int .u16 v] w fun e w' => e = .returned (.tuple #[imgV W H C M (.slice x n cap), .bool false]) ∧ Below w.heap.size w w' := by
  have HIN := Lib.hid fun w => refIn_any W H C M x n cap a b c w
  cases hin : inB W H C a b c
  · rw [hin] at HIN
    clear hi hin
    go_enter Try.func65, Try.ntmps65
    go_wp2_with (go_at_call 88; refine (HIN.out _).mono ?_; rintro e w' ⟨rfl, hB⟩; obtain ⟨hr0, hr1⟩ := box55 hB; obtain ⟨⟨c0, c1, c2, c3, c4⟩, -⟩ := row5v hr0; obtain ⟨⟨d0, d1, d2, d3, d4⟩, f0, f1, f2, f3, f4⟩ := row5v hr1; have HR1 := Lib.hid hr1; have HB := Lib.hid ((bel2' w _ _).trans (hB.mono (bel2' w _ _).size)); clear hB hr0 hr1)
    exact bodyPost_ret (results_ct_rowS rfl _ _ (w.heap.size + 1) 87 #[.int .i64 W, .int .i64 H, .int .i64 C, .int .i64 M, .slice x n cap] (0, 0) _ rfl (row_set5v HR1.out _ _ _ _ _) Try.underlying87 rfl (by kernel_rfl)) rfl ⟨rfl, below_set5v HB.out (by omega) _ _ _ _ _⟩
  · have hMv : M < v := by
      rcases hi with hi | hi
      · rw [hin] at hi; cases hi
      · exact hi
    have hd : decide (M < v) = true := decide_eq_true hMv
    rw [hin] at HIN
    clear hi hin
    go_enter Try.func65, Try.ntmps65
    go_wp2_with (go_at_call 88; refine (HIN.out _).mono ?_; rintro e w' ⟨rfl, hB⟩; obtain ⟨hr0, hr1⟩ := box55 hB; obtain ⟨⟨c0, c1, c2, c3, c4⟩, -⟩ := row5v hr0; obtain ⟨⟨d0, d1, d2, d3, d4⟩, f0, f1, f2, f3, f4⟩ := row5v hr1; have HR1 := Lib.hid hr1; have HB := Lib.hid ((bel2' w _ _).trans (hB.mono (bel2' w _ _).size)); clear hB hr0 hr1)
    exact bodyPost_ret (results_ct_rowS rfl _ _ (w.heap.size + 1) 87 #[.int .i64 W, .int .i64 H, .int .i64 C, .int .i64 M, .slice x n cap] (0, 0) _ rfl (row_set5v HR1.out _ _ _ _ _) Try.underlying87 rfl (by kernel_rfl)) rfl ⟨rfl, below_set5v HB.out (by omega) _ _ _ _ _⟩

set_option maxHeartbeats 4000000 in
theorem refSet_ok (W H C M : Int) (x : Option Addr) (n cap : Nat) (xs : List Int) (a b c v : Int) (w : World) (hr : Rd w .u16 (.slice x n cap) xs) (hv : codeR W H C M = 0) (hl : (xs.length : Int) = W * H * C) (v0 : 0 ≤ v) (v1 : v ≤ M) (hin : inB W H C a b c = true) :
    Calls Try.prog 65 #[imgV W H C M (.slice x n cap), .int .i64 a, .int .i64 b, .int .i64 c, .int .u16 v] w fun e w' => ∃ (q c' : Nat), e = .returned (.tuple #[imgV W H C M (.slice (some ⟨q, 0, none⟩) n c'), .bool true]) ∧ w.heap.size ≤ q ∧ q < w'.heap.size ∧
      Rd w' .u16 (.slice (some ⟨q, 0, none⟩) n c') (xs.set (placeI W C a b c).toNat v) ∧ Below w.heap.size w w' := by
  have HIN := Lib.hid fun w => refIn_any W H C M x n cap a b c w
  obtain ⟨e1, e2, e3, e4, e5, e6⟩ := place_bd hv hin
  obtain ⟨x1, x2, y1, y2, z1, z2⟩ := inB_true hin
  obtain ⟨m1, m2, hC, -, -, -, -, -⟩ := codeR_zero hv
  obtain ⟨p, hp⟩ : ∃ p : Nat, placeI W C a b c = (p : Int) := ⟨(placeI W C a b c).toNat, by unfold placeI; omega⟩
  have hpl : p < xs.length := by unfold placeI at hp; omega
  have hn : n = xs.length := by
    obtain ⟨_, _, he, _⟩ := hr.form
    injection he with _ he2 _
  have hne : xs ≠ [] := by intro h; rw [h] at hpl; simp at hpl
  have hml := hr.1
  rw [List.length_map] at hml
  rw [hin] at HIN
  obtain ⟨i, hii, hz0, hz1, hz2⟩ := info_parts infoU16
  have HR := Lib.hid hr
  have HN := Lib.hid hn
  have HNE := Lib.hid hne
  have hxl : xs.length ≤ 268435456 := by omega
  have hd : decide (M < v) = false := decide_eq_false (by omega)
  have q1 : 0 ≤ b * W ∧ b * W ≤ 4294967296 := by omega
  have q3 : b * W * C + a * C + c = (p : Int) := by rw [← hp]; unfold placeI; rw [Int.add_mul]
  have q4 : 0 ≤ b * W * C := Int.mul_nonneg q1.1 (by omega)
  have q5 : 0 ≤ a * C := Int.mul_nonneg x1 (by omega)
  have f1 : wrap64 (b * W) = b * W := wrap_in (by omega) (by omega)
  have f2 : wrap64 (b * W * C) = b * W * C := wrap_in (by omega) (by omega)
  have f3 : wrap64 (a * C) = a * C := wrap_in (by omega) (by omega)
  have f4 : wrap64 (b * W * C + a * C) = b * W * C + a * C := wrap_in (by omega) (by omega)
  have f5 : wrap64 (b * W * C + a * C + c) = (p : Int) := by rw [q3]; exact wrap_in (by omega) (by omega)
  rw [hp, Int.toNat_natCast]
  clear hr hv hl hin hn hne hp q3 e1 e2 e3 e4 e5 e6
  go_enter Try.func65, Try.ntmps65
  go_wp2_with (first
    | (go_at_call 88; refine (HIN.out _).mono ?_; rintro e w' ⟨rfl, hB⟩; obtain ⟨hr0, hr1⟩ := box55 hB; obtain ⟨⟨c0, c1, c2, c3, c4⟩, -⟩ := row5v hr0; have ca : ∀ o, (w'.alloc o).cell? ⟨w.heap.size, 4, none⟩ = some (.slice x n cap) := (fun o => (row5v (row_alloc hr0 o)).1.2.2.2.2); have HR0 := Lib.hid hr0; have HSA := Lib.hid (HR.out.below ((bel2' w _ _).trans (hB.mono (bel2' w _ _).size))); have HR1 := Lib.hid hr1; have HB := Lib.hid ((bel2' w _ _).trans (hB.mono (bel2' w _ _).size)); have HSZ := Lib.hid (show w.heap.size + 1 + 1 ≤ w'.heap.size from by have := hB.size; simpa using this); clear hB hr0 hr1)
    | (at_builtin; go_loud (refine wpList_append_rd _ rfl _ _ 29 rfl w'.heap.size 31 i .u16 2 Try.underlying29 hii hz0 hz1 hz2 _ [] rfl (Own.empty w' 31 .u16 _ (Nat.le_refl _)) _ xs rfl (HSA.out.below ((Below.refl _ _).alloc (Nat.le_refl _) _)) (by unfold maxLen; simp; omega) (by simp; omega) (by simp) ?_; intro v' wa hown hgrow; rw [List.nil_append] at hown; obtain ⟨xa, ca', rfl, hf⟩ := hown.form; obtain ⟨q, rfl, hq1, hq2⟩ := hf HNE.out; rw [← HN.out] at hown ⊢; have HSS := HSZ.out; have hra := (grown_old hgrow (show w.heap.size < w'.heap.size by omega)).trans HR0.out; have hrb := (grown_old hgrow (show w.heap.size + 1 < w'.heap.size by omega)).trans HR1.out; have HBA : Hid (Below w.heap.size w wa) := Lib.hid ((HB.out.alloc HB.out.size _).grown hgrow (by simp; omega) (by intro k hk; cases hk; exact HB.out.size)); have HO := Lib.hid hown; have HRA := Lib.hid hra; have HRB := Lib.hid hrb; clear c0 c1 c2 c3 c4 ca hown hgrow; obtain ⟨⟨c0, c1, c2, c3, c4⟩, k0, k1, k2, k3, k4⟩ := row5v hra; obtain ⟨⟨d0, d1, d2, d3, d4⟩, g0, g1, g2, g3, g4⟩ := row5v hrb; obtain ⟨u, HU, cu⟩ := HO.out.rd.get rfl hpl; have cu' := cu; rw [Addr.add_lit, Nat.zero_add] at cu'; have fu := HO.out.frozen p; have n1 : ¬ q = w.heap.size := (by omega); have n2 : ¬ w.heap.size = q := (by omega); have n3 : ¬ q = w.heap.size + 1 := (by omega); have n4 : ¬ w.heap.size + 1 = q := (by omega); have fz := (fun u => (row5v (row_far (a := ⟨q, p, none⟩) hra n2 u)).2.2.2.2.2); have cz := (fun u => (row5v (row_far (a := ⟨q, p, none⟩) hra n2 u)).1.2.2.2.2); have cy := (fun u s => (row5v (row_set4 (row_far (a := ⟨q, p, none⟩) hra n2 u) s)).1); have cx := (fun u s => row5v (row_far (a := ⟨w.heap.size, 4, none⟩) (row_far (a := ⟨q, p, none⟩) hrb n4 u) (by simp) s)); have fl := HN.out; clear hra hrb)))
  have hb4 : Below w.heap.size w ((wa.setCell ⟨q, p, none⟩ (.int .u16 v)).setCell ⟨w.heap.size, 4, none⟩ (.slice (some ⟨q, 0, none⟩) xs.length ca')) := (HBA.out.setCell (by show w.heap.size ≤ q; omega) _).setCell (Nat.le_refl _) _
  have ho4 : Own ((wa.setCell ⟨q, p, none⟩ (.int .u16 v)).setCell ⟨w.heap.size, 4, none⟩ (.slice (some ⟨q, 0, none⟩) xs.length ca')) w'.heap.size 31 .u16 (.slice (some ⟨q, 0, none⟩) n ca') (xs.set p v) :=
    (HO.out.set p v).kept fun k hk _ => by
      injection hk with hk
      subst hk
      exact Below.heap_setCell _ _ _ _ n1
  have hss := HSZ.out
  refine bodyPost_ret (results_ct_rowS rfl _ _ (w.heap.size + 1) 87 #[.int .i64 W, .int .i64 H, .int .i64 C, .int .i64 M, .slice (some ⟨q, 0, none⟩) xs.length ca'] (0, 0) _ rfl (row_set5v (row_far (row_far HRB.out n4 _) (by simp) _) _ _ _ _ _) Try.underlying87 rfl (by kernel_rfl)) rfl ⟨q, ca', by rw [fl]; rfl, by omega, ?_, (own_set5v ho4 (by omega) _ _ _ _ _).rd, below_set5v hb4 (by omega) _ _ _ _ _⟩
  have := ((own_set5v ho4 (show w.heap.size + 1 < w'.heap.size by omega) (.int .i64 W) (.int .i64 H) (.int .i64 C) (.int .i64 M) (.slice (some ⟨q, 0, none⟩) xs.length ca')).blkS q rfl)
  exact this
end Go.Proofs.Ytnpkkcbgfnnfmaa
