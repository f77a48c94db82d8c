import Derived.Test.YtnpkkcbgfnnfmaaDc
import Derived.Test.YtnpkkcbgfnnfmaaDd
import Derived.Test.YtnpkkcbgfnnfmaaDe
/- The law DiffOf: its walk. -/
namespace Go.Proofs.Ytnpkkcbgfnnfmaa
open Go.RowKit
set_option linter.unusedVariables false
set_option linter.unusedSimpArgs false
set_option maxRecDepth 100000

set_option maxHeartbeats 4000000 in
theorem diffOf_walk0 (a0 b0 c0 e0 : Int) (l0 : Value) (xs0 : List Int) (a1 b1 c1 e1 : Int) (l1 : Value) (xs1 : List Int) (w : World)
    (wa0 : (Lit.int .u16 a0).wf = true) (wb0 : (Lit.int .u16 b0).wf = true) (wc0 : (Lit.int .u16 c0).wf = true) (we0 : (Lit.int .u16 e0).wf = true) (rd0 : Rd w .u16 l0 xs0) (wf0 : ∀ x ∈ xs0, (Lit.int .u16 x).wf = true) (sz0 : xs0.length * 2 ≤ 140737488351232)
    (wa1 : (Lit.int .u16 a1).wf = true) (wb1 : (Lit.int .u16 b1).wf = true) (wc1 : (Lit.int .u16 c1).wf = true) (we1 : (Lit.int .u16 e1).wf = true) (rd1 : Rd w .u16 l1 xs1) (wf1 : ∀ x ∈ xs1, (Lit.int .u16 x).wf = true) (sz1 : xs1.length * 2 ≤ 140737488351232) :
    Calls Try.prog 14 #[picV a0 b0 c0 e0 l0, picV a1 b1 c1 e1 l1, .bool false] w fun e w' => e = .returned (.bool true) ∧ Below w.heap.size w w' := by
  have HDA := Lib.hid fun w' h => picdraw_any a0 b0 c0 e0 l0 xs0 w' (of_wf_u16 wa0) (of_wf_u16 wb0) (of_wf_u16 wc0) (of_wf_u16 we0) h (fun x hx => of_wf_u16 (wf0 x hx)) sz0
  have HDB := Lib.hid fun w' h => picdraw_any a1 b1 c1 e1 l1 xs1 w' (of_wf_u16 wa1) (of_wf_u16 wb1) (of_wf_u16 wc1) (of_wf_u16 we1) h (fun x hx => of_wf_u16 (wf1 x hx)) sz1
  have HR0 := Lib.hid rd0
  have HR1 := Lib.hid rd1
  obtain ⟨x0, k0, rfl, -⟩ := rd0.form
  obtain ⟨x1, k1, rfl, -⟩ := rd1.form
  clear rd0 rd1 wf0 wf1 wa0 wb0 wc0 we0 wa1 wb1 wc1 we1 sz0 sz1
  go_enter Try.func14, Try.ntmps14
  go_wp2_with fail
  refine (lives27_any _).mono ?_
  rintro e wl ⟨rfl, hBl⟩
  have HBX := Lib.hid (bx_start hBl)
  clear hBl
  obtain ⟨-, t0, t1, t2, t3, t4, u0, u1, u2, u3, u4⟩ := HBX.out.cells
  have hbx0 := HBX.out.below (Below.drew (Below.refl _ _))
  go_wp2_with fail
  go_region_held3 (fun w' => BX w w' #[.int .u16 a0, .int .u16 b0, .int .u16 c0, .int .u16 e0, .slice x0 xs0.length k0] #[.int .u16 a1, .int .u16 b1, .int .u16 c1, .int .u16 e1, .slice x1 xs1.length k1] ∧ w'.cell? ⟨w.heap.size, 0, none⟩ = some (.int .u16 a0) ∧ w'.cell? ⟨w.heap.size, 1, none⟩ = some (.int .u16 b0) ∧ w'.cell? ⟨w.heap.size, 2, none⟩ = some (.int .u16 c0) ∧ w'.cell? ⟨w.heap.size, 3, none⟩ = some (.int .u16 e0) ∧ w'.cell? ⟨w.heap.size, 4, none⟩ = some (.slice x0 xs0.length k0) ∧
      w'.cell? ⟨w.heap.size + 1, 0, none⟩ = some (.int .u16 a1) ∧ w'.cell? ⟨w.heap.size + 1, 1, none⟩ = some (.int .u16 b1) ∧ w'.cell? ⟨w.heap.size + 1, 2, none⟩ = some (.int .u16 c1) ∧ w'.cell? ⟨w.heap.size + 1, 3, none⟩ = some (.int .u16 e1) ∧ w'.cell? ⟨w.heap.size + 1, 4, none⟩ = some (.slice x1 xs1.length k1))
    ((first | assumption | exact BX.cells hbx0 | exact BX.cells hbxN))
    ((first
      | (go_at_call 60; obtain ⟨hbxX, -⟩ : BX w _ #[.int .u16 a0, .int .u16 b0, .int .u16 c0, .int .u16 e0, .slice x0 xs0.length k0] #[.int .u16 a1, .int .u16 b1, .int .u16 c1, .int .u16 e1, .slice x1 xs1.length k1] ∧ _ := (by assumption); (with_reducible refine (HDA.out _ (HR0.out.below hbxX.bel)).mono ?_); rintro e w5 ⟨g, r, X, Y, K, T, xs, rfl, hg, hr, hi, hs, hh, hB⟩; have hbxN := hbxX.below hB; have HIA := Lib.hid hi; have HSA := Lib.hid hs; clear hbxX hi hs hg hr hh hB)
      | (go_at_call 60; obtain ⟨hbxX, -⟩ : BX w _ #[.int .u16 a0, .int .u16 b0, .int .u16 c0, .int .u16 e0, .slice x0 xs0.length k0] #[.int .u16 a1, .int .u16 b1, .int .u16 c1, .int .u16 e1, .slice x1 xs1.length k1] ∧ _ := (by assumption); (with_reducible refine (HDB.out _ (HR1.out.below hbxX.bel)).mono ?_); rintro e w6 ⟨g', r', X', Y', K', T', ys, rfl, hg, hr, hi, hs, hh, hB⟩; have hbxN := hbxX.below hB; have HDS := Lib.hid (DS.mk (HIA.out.below hB) hi hbxN.bel); have HSB := Lib.hid hs; clear hbxX hi hs hg hr hh hB)))
  clear t0 t1 t2 t3 t4 u0 u1 u2 u3 u4 hbx0
  obtain ⟨D, hD⟩ : ∃ D, dOf X Y K X' Y' K' xs ys = D := ⟨_, rfl⟩
  obtain ⟨sz, hsz⟩ : ∃ sz, szB X Y K X' Y' K' = sz := ⟨_, rfl⟩
  have H1 := Lib.hid fun w' (h : DS w w' g r X Y K T xs g' r' X' Y' K' T' ys) => diffOf_all h.A h.B HSA.out HSB.out
  have H2 := Lib.hid fun w' (h : DS w w' g r X Y K T xs g' r' X' Y' K' T' ys) => diffOf_all h.A h.A HSA.out HSA.out
  have H3 := Lib.hid fun w' (h : DS w w' g r X Y K T xs g' r' X' Y' K' T' ys) => diffOf_all h.B h.A HSB.out HSA.out
  have H4 := Lib.hid fun w' x c x' c' (h : Rd w' .u16 (.slice x xs.length c) xs) (h' : Rd w' .u16 (.slice x' ys.length c') ys) => refOf_all h h' HSA.out HSB.out
  rw [hD, hsz] at H1 H4
  rw [dOf_self, szB_self] at H2
  rw [dOf_comm HSA.out HSB.out, szB_comm, hD, hsz] at H3
  clear hD hsz
  have hla : xs.length * 2 ≤ 140737488351232 := by have := HSA.out.bd; omega
  have hlb : ys.length * 2 ≤ 140737488351232 := by have := HSB.out.bd; omega
  go_wp2_with fail
  refine (H1.out _ HDS.out).mono ?_
  rintro e w7 ⟨rfl, hB⟩
  have HD7 := Lib.hid ((HDS.out.below hB).alloc (.cells (ddC D) 80))
  have HR7 := Lib.hid (heap_alloc_new w7 (.cells (ddC D) 80))
  clear hB
  go_wp2_with fail
  refine (ref_any HD7.out.A hla).mono ?_
  rintro e w8 ⟨x8, c8, rfl, ho, hB⟩
  have HD8 := Lib.hid (HD7.out.below hB)
  have HR8 := Lib.hid (row_below HR7.out hB)
  have HO8 := Lib.hid ho.rd
  clear hB ho
  go_wp2_with fail
  refine (ref_any HD8.out.B hlb).mono ?_
  rintro e w9 ⟨x9, c9, rfl, ho, hB⟩
  have HD9 := Lib.hid (HD8.out.below hB)
  have HR9 := Lib.hid (row_below HR8.out hB)
  have HO9 := Lib.hid ho.rd
  have HO8' := Lib.hid (HO8.out.below hB)
  clear hB ho
  go_wp2_with fail
  refine (H4.out _ _ _ _ _ HO8'.out HO9.out).mono ?_
  rintro e w10 ⟨rfl, hB⟩
  have HD10 := Lib.hid ((HD9.out.below hB).alloc (.cells (ddC D) 83))
  have hr9 := row_alloc (row_below HR9.out hB) (.cells (ddC D) 83)
  have HR10 := Lib.hid hr9
  obtain ⟨⟨a1, a2, a3, a4, a5, a6, a7⟩, -⟩ := row7 hr9
  clear hB hr9
  go_wp2_with fail
  refine (H2.out _ HD10.out).mono ?_
  rintro e w11 ⟨rfl, hB⟩
  have HD11 := Lib.hid ((HD10.out.below hB).alloc (.cells (ddC DD.zero) 80))
  have HR11 := Lib.hid (row_alloc (row_below HR10.out hB) (.cells (ddC DD.zero) 80))
  have HS11 := Lib.hid (heap_alloc_new w11 (.cells (ddC DD.zero) 80))
  clear hB a1 a2 a3 a4 a5 a6 a7
  go_wp2_with fail
  refine (H3.out _ HD11.out).mono ?_
  rintro e w12 ⟨rfl, hB⟩
  have HD12 := Lib.hid ((HD11.out.below hB).alloc (.cells (ddC D) 80))
  have HR12 := Lib.hid (row_alloc (row_below HR11.out hB) (.cells (ddC D) 80))
  have HS12 := Lib.hid (row_alloc (row_below HS11.out hB) (.cells (ddC D) 80))
  have HT12 := Lib.hid (heap_alloc_new w12 (.cells (ddC D) 80))
  clear hB
  go_wp2_with fail
  refine (diffOf_left _ _).mono ?_
  rintro e w13 ⟨rfl, hB⟩
  have HD13 := Lib.hid ((HD12.out.below hB).alloc (.cells (ddC DD.zero) 80))
  have HR13 := Lib.hid (row_alloc (row_below HR12.out hB) (.cells (ddC DD.zero) 80))
  have HS13 := Lib.hid (row_alloc (row_below HS12.out hB) (.cells (ddC DD.zero) 80))
  have HT13 := Lib.hid (row_alloc (row_below HT12.out hB) (.cells (ddC DD.zero) 80))
  clear hB
  go_wp2_with fail
  refine (diffOf_right _ _).mono ?_
  rintro e w14 ⟨rfl, hB⟩
  have HD14 := Lib.hid ((HD13.out.below hB).alloc (.cells (ddC DD.zero) 80))
  have qa := fun o => (row7 (row_alloc (row_below HR13.out hB) o)).1
  have a1 := fun o => (qa o).1
  have a2 := fun o => (qa o).2.1
  have a3 := fun o => (qa o).2.2.1
  have a4 := fun o => (qa o).2.2.2.1
  have a5 := fun o => (qa o).2.2.2.2.1
  have a6 := fun o => (qa o).2.2.2.2.2.1
  have a7 := fun o => (qa o).2.2.2.2.2.2
  have qb := fun o => (row7 (row_alloc (row_below HS13.out hB) o)).1
  have b1 := fun o => (qb o).1
  have b2 := fun o => (qb o).2.1
  have b3 := fun o => (qb o).2.2.1
  have b4 := fun o => (qb o).2.2.2.1
  have b5 := fun o => (qb o).2.2.2.2.1
  have b6 := fun o => (qb o).2.2.2.2.2.1
  have b7 := fun o => (qb o).2.2.2.2.2.2
  have qd := fun o => (row7 (row_alloc (row_below HT13.out hB) o)).1
  have d1 := fun o => (qd o).1
  have d2 := fun o => (qd o).2.1
  have d3 := fun o => (qd o).2.2.1
  have d4 := fun o => (qd o).2.2.2.1
  have d5 := fun o => (qd o).2.2.2.2.1
  have d6 := fun o => (qd o).2.2.2.2.2.1
  have d7 := fun o => (qd o).2.2.2.2.2.2
  clear hB qa qb qd
  go_wp2_with fail
  go_ret
  exact ⟨ret_bool (by simp), HD14.out.bel⟩
set_option maxHeartbeats 4000000 in
theorem diffOf_walk1 (a0 b0 c0 e0 : Int) (l0 : Value) (xs0 : List Int) (a1 b1 c1 e1 : Int) (l1 : Value) (xs1 : List Int) (w : World)
    (wa0 : (Lit.int .u16 a0).wf = true) (wb0 : (Lit.int .u16 b0).wf = true) (wc0 : (Lit.int .u16 c0).wf = true) (we0 : (Lit.int .u16 e0).wf = true) (rd0 : Rd w .u16 l0 xs0) (wf0 : ∀ x ∈ xs0, (Lit.int .u16 x).wf = true) (sz0 : xs0.length * 2 ≤ 140737488351232)
    (wa1 : (Lit.int .u16 a1).wf = true) (wb1 : (Lit.int .u16 b1).wf = true) (wc1 : (Lit.int .u16 c1).wf = true) (we1 : (Lit.int .u16 e1).wf = true) (rd1 : Rd w .u16 l1 xs1) (wf1 : ∀ x ∈ xs1, (Lit.int .u16 x).wf = true) (sz1 : xs1.length * 2 ≤ 140737488351232) :
    Calls Try.prog 14 #[picV a0 b0 c0 e0 l0, picV a1 b1 c1 e1 l1, .bool true] w fun e w' => e = .returned (.bool true) ∧ Below w.heap.size w w' := by
  have HDA := Lib.hid fun w' h => picdraw_any a0 b0 c0 e0 l0 xs0 w' (of_wf_u16 wa0) (of_wf_u16 wb0) (of_wf_u16 wc0) (of_wf_u16 we0) h (fun x hx => of_wf_u16 (wf0 x hx)) sz0
  have HDB := Lib.hid fun w' h => picdraw_any a0 b0 c0 e1 l1 xs1 w' (of_wf_u16 wa0) (of_wf_u16 wb0) (of_wf_u16 wc0) (of_wf_u16 we1) h (fun x hx => of_wf_u16 (wf1 x hx)) sz1
  have HR0 := Lib.hid rd0
  have HR1 := Lib.hid rd1
  obtain ⟨x0, k0, rfl, -⟩ := rd0.form
  obtain ⟨x1, k1, rfl, -⟩ := rd1.form
  clear rd0 rd1 wf0 wf1 wa0 wb0 wc0 we0 wa1 wb1 wc1 we1 sz0 sz1
  go_enter Try.func14, Try.ntmps14
  go_wp2_with fail
  refine (lives27_any _).mono ?_
  rintro e wl ⟨rfl, hBl⟩
  have HBX0 := Lib.hid (bx_start hBl)
  clear hBl
  obtain ⟨-, t0, t1, t2, t3, t4, u0, u1, u2, u3, u4⟩ := HBX0.out.cells
  obtain ⟨-, f0, f1, f2, f3, f4⟩ := row5v HBX0.out.b
  go_wp2_with fail
  go_region
  have HBX := Lib.hid (HBX0.out.same (.int .u16 a0) (.int .u16 b0) (.int .u16 c0))
  clear t0 t1 t2 t3 t4 u0 u1 u2 u3 u4 f0 f1 f2 f3 f4 HBX0
  obtain ⟨-, t0, t1, t2, t3, t4, u0, u1, u2, u3, u4⟩ := HBX.out.cells
  have hbx0 := HBX.out.below (Below.drew (Below.refl _ _))
  go_wp2_with fail
  go_region_held3 (fun w' => BX w w' #[.int .u16 a0, .int .u16 b0, .int .u16 c0, .int .u16 e0, .slice x0 xs0.length k0] #[.int .u16 a0, .int .u16 b0, .int .u16 c0, .int .u16 e1, .slice x1 xs1.length k1] ∧ w'.cell? ⟨w.heap.size, 0, none⟩ = some (.int .u16 a0) ∧ w'.cell? ⟨w.heap.size, 1, none⟩ = some (.int .u16 b0) ∧ w'.cell? ⟨w.heap.size, 2, none⟩ = some (.int .u16 c0) ∧ w'.cell? ⟨w.heap.size, 3, none⟩ = some (.int .u16 e0) ∧ w'.cell? ⟨w.heap.size, 4, none⟩ = some (.slice x0 xs0.length k0) ∧
      w'.cell? ⟨w.heap.size + 1, 0, none⟩ = some (.int .u16 a0) ∧ w'.cell? ⟨w.heap.size + 1, 1, none⟩ = some (.int .u16 b0) ∧ w'.cell? ⟨w.heap.size + 1, 2, none⟩ = some (.int .u16 c0) ∧ w'.cell? ⟨w.heap.size + 1, 3, none⟩ = some (.int .u16 e1) ∧ w'.cell? ⟨w.heap.size + 1, 4, none⟩ = some (.slice x1 xs1.length k1))
    ((first | assumption | exact BX.cells hbx0 | exact BX.cells hbxN))
    ((first
      | (go_at_call 60; obtain ⟨hbxX, -⟩ : BX w _ #[.int .u16 a0, .int .u16 b0, .int .u16 c0, .int .u16 e0, .slice x0 xs0.length k0] #[.int .u16 a0, .int .u16 b0, .int .u16 c0, .int .u16 e1, .slice x1 xs1.length k1] ∧ _ := (by assumption); (with_reducible refine (HDA.out _ (HR0.out.below hbxX.bel)).mono ?_); rintro e w5 ⟨g, r, X, Y, K, T, xs, rfl, hg, hr, hi, hs, hh, hB⟩; have hbxN := hbxX.below hB; have HIA := Lib.hid hi; have HSA := Lib.hid hs; clear hbxX hi hs hg hr hh hB)
      | (go_at_call 60; obtain ⟨hbxX, -⟩ : BX w _ #[.int .u16 a0, .int .u16 b0, .int .u16 c0, .int .u16 e0, .slice x0 xs0.length k0] #[.int .u16 a0, .int .u16 b0, .int .u16 c0, .int .u16 e1, .slice x1 xs1.length k1] ∧ _ := (by assumption); (with_reducible refine (HDB.out _ (HR1.out.below hbxX.bel)).mono ?_); rintro e w6 ⟨g', r', X', Y', K', T', ys, rfl, hg, hr, hi, hs, hh, hB⟩; have hbxN := hbxX.below hB; have HDS := Lib.hid (DS.mk (HIA.out.below hB) hi hbxN.bel); have HSB := Lib.hid hs; clear hbxX hi hs hg hr hh hB)))
  clear t0 t1 t2 t3 t4 u0 u1 u2 u3 u4 hbx0
  obtain ⟨D, hD⟩ : ∃ D, dOf X Y K X' Y' K' xs ys = D := ⟨_, rfl⟩
  obtain ⟨sz, hsz⟩ : ∃ sz, szB X Y K X' Y' K' = sz := ⟨_, rfl⟩
  have H1 := Lib.hid fun w' (h : DS w w' g r X Y K T xs g' r' X' Y' K' T' ys) => diffOf_all h.A h.B HSA.out HSB.out
  have H2 := Lib.hid fun w' (h : DS w w' g r X Y K T xs g' r' X' Y' K' T' ys) => diffOf_all h.A h.A HSA.out HSA.out
  have H3 := Lib.hid fun w' (h : DS w w' g r X Y K T xs g' r' X' Y' K' T' ys) => diffOf_all h.B h.A HSB.out HSA.out
  have H4 := Lib.hid fun w' x c x' c' (h : Rd w' .u16 (.slice x xs.length c) xs) (h' : Rd w' .u16 (.slice x' ys.length c') ys) => refOf_all h h' HSA.out HSB.out
  rw [hD, hsz] at H1 H4
  rw [dOf_self, szB_self] at H2
  rw [dOf_comm HSA.out HSB.out, szB_comm, hD, hsz] at H3
  clear hD hsz
  have hla : xs.length * 2 ≤ 140737488351232 := by have := HSA.out.bd; omega
  have hlb : ys.length * 2 ≤ 140737488351232 := by have := HSB.out.bd; omega
  go_wp2_with fail
  refine (H1.out _ HDS.out).mono ?_
  rintro e w7 ⟨rfl, hB⟩
  have HD7 := Lib.hid ((HDS.out.below hB).alloc (.cells (ddC D) 80))
  have HR7 := Lib.hid (heap_alloc_new w7 (.cells (ddC D) 80))
  clear hB
  go_wp2_with fail
  refine (ref_any HD7.out.A hla).mono ?_
  rintro e w8 ⟨x8, c8, rfl, ho, hB⟩
  have HD8 := Lib.hid (HD7.out.below hB)
  have HR8 := Lib.hid (row_below HR7.out hB)
  have HO8 := Lib.hid ho.rd
  clear hB ho
  go_wp2_with fail
  refine (ref_any HD8.out.B hlb).mono ?_
  rintro e w9 ⟨x9, c9, rfl, ho, hB⟩
  have HD9 := Lib.hid (HD8.out.below hB)
  have HR9 := Lib.hid (row_below HR8.out hB)
  have HO9 := Lib.hid ho.rd
  have HO8' := Lib.hid (HO8.out.below hB)
  clear hB ho
  go_wp2_with fail
  refine (H4.out _ _ _ _ _ HO8'.out HO9.out).mono ?_
  rintro e w10 ⟨rfl, hB⟩
  have HD10 := Lib.hid ((HD9.out.below hB).alloc (.cells (ddC D) 83))
  have hr9 := row_alloc (row_below HR9.out hB) (.cells (ddC D) 83)
  have HR10 := Lib.hid hr9
  obtain ⟨⟨a1, a2, a3, a4, a5, a6, a7⟩, -⟩ := row7 hr9
  clear hB hr9
  go_wp2_with fail
  refine (H2.out _ HD10.out).mono ?_
  rintro e w11 ⟨rfl, hB⟩
  have HD11 := Lib.hid ((HD10.out.below hB).alloc (.cells (ddC DD.zero) 80))
  have HR11 := Lib.hid (row_alloc (row_below HR10.out hB) (.cells (ddC DD.zero) 80))
  have HS11 := Lib.hid (heap_alloc_new w11 (.cells (ddC DD.zero) 80))
  clear hB a1 a2 a3 a4 a5 a6 a7
  go_wp2_with fail
  refine (H3.out _ HD11.out).mono ?_
  rintro e w12 ⟨rfl, hB⟩
  have HD12 := Lib.hid ((HD11.out.below hB).alloc (.cells (ddC D) 80))
  have HR12 := Lib.hid (row_alloc (row_below HR11.out hB) (.cells (ddC D) 80))
  have HS12 := Lib.hid (row_alloc (row_below HS11.out hB) (.cells (ddC D) 80))
  have HT12 := Lib.hid (heap_alloc_new w12 (.cells (ddC D) 80))
  clear hB
  go_wp2_with fail
  refine (diffOf_left _ _).mono ?_
  rintro e w13 ⟨rfl, hB⟩
  have HD13 := Lib.hid ((HD12.out.below hB).alloc (.cells (ddC DD.zero) 80))
  have HR13 := Lib.hid (row_alloc (row_below HR12.out hB) (.cells (ddC DD.zero) 80))
  have HS13 := Lib.hid (row_alloc (row_below HS12.out hB) (.cells (ddC DD.zero) 80))
  have HT13 := Lib.hid (row_alloc (row_below HT12.out hB) (.cells (ddC DD.zero) 80))
  clear hB
  go_wp2_with fail
  refine (diffOf_right _ _).mono ?_
  rintro e w14 ⟨rfl, hB⟩
  have HD14 := Lib.hid ((HD13.out.below hB).alloc (.cells (ddC DD.zero) 80))
  have qa := fun o => (row7 (row_alloc (row_below HR13.out hB) o)).1
  have a1 := fun o => (qa o).1
  have a2 := fun o => (qa o).2.1
  have a3 := fun o => (qa o).2.2.1
  have a4 := fun o => (qa o).2.2.2.1
  have a5 := fun o => (qa o).2.2.2.2.1
  have a6 := fun o => (qa o).2.2.2.2.2.1
  have a7 := fun o => (qa o).2.2.2.2.2.2
  have qb := fun o => (row7 (row_alloc (row_below HS13.out hB) o)).1
  have b1 := fun o => (qb o).1
  have b2 := fun o => (qb o).2.1
  have b3 := fun o => (qb o).2.2.1
  have b4 := fun o => (qb o).2.2.2.1
  have b5 := fun o => (qb o).2.2.2.2.1
  have b6 := fun o => (qb o).2.2.2.2.2.1
  have b7 := fun o => (qb o).2.2.2.2.2.2
  have qd := fun o => (row7 (row_alloc (row_below HT13.out hB) o)).1
  have d1 := fun o => (qd o).1
  have d2 := fun o => (qd o).2.1
  have d3 := fun o => (qd o).2.2.1
  have d4 := fun o => (qd o).2.2.2.1
  have d5 := fun o => (qd o).2.2.2.2.1
  have d6 := fun o => (qd o).2.2.2.2.2.1
  have d7 := fun o => (qd o).2.2.2.2.2.2
  clear hB qa qb qd
  go_wp2_with fail
  go_ret
  exact ⟨ret_bool (by simp), HD14.out.bel⟩

theorem diffOf_walk (a0 b0 c0 e0 : Int) (l0 : Value) (xs0 : List Int) (a1 b1 c1 e1 : Int) (l1 : Value) (xs1 : List Int) (a2 : Bool) (w : World)
    (wa0 : (Lit.int .u16 a0).wf = true) (wb0 : (Lit.int .u16 b0).wf = true) (wc0 : (Lit.int .u16 c0).wf = true) (we0 : (Lit.int .u16 e0).wf = true) (rd0 : Rd w .u16 l0 xs0) (wf0 : ∀ x ∈ xs0, (Lit.int .u16 x).wf = true) (sz0 : xs0.length * 2 ≤ 140737488351232)
    (wa1 : (Lit.int .u16 a1).wf = true) (wb1 : (Lit.int .u16 b1).wf = true) (wc1 : (Lit.int .u16 c1).wf = true) (we1 : (Lit.int .u16 e1).wf = true) (rd1 : Rd w .u16 l1 xs1) (wf1 : ∀ x ∈ xs1, (Lit.int .u16 x).wf = true) (sz1 : xs1.length * 2 ≤ 140737488351232) :
    Calls Try.prog 14 #[picV a0 b0 c0 e0 l0, picV a1 b1 c1 e1 l1, .bool a2] w fun e w' => e = .returned (.bool true) ∧ Below w.heap.size w w' := by
  cases a2
  · exact diffOf_walk0 a0 b0 c0 e0 l0 xs0 a1 b1 c1 e1 l1 xs1 w wa0 wb0 wc0 we0 rd0 wf0 sz0 wa1 wb1 wc1 we1 rd1 wf1 sz1
  · exact diffOf_walk1 a0 b0 c0 e0 l0 xs0 a1 b1 c1 e1 l1 xs1 w wa0 wb0 wc0 we0 rd0 wf0 sz0 wa1 wb1 wc1 we1 rd1 wf1 sz1
end Go.Proofs.Ytnpkkcbgfnnfmaa
