import Derived.Test.YtnpkkcbgfnnfmaaDe
import Derived.Test.YtnpkkcbgfnnfmaaDBMath
import Derived.Test.YtnpkkcbgfnnfmaaReg
import Derived.Lib.MinMax
import Derived.Deep.RegionHeld3
import Derived.Deep.RegionWith
import Derived.Deep.QuietTactic
import Derived.BigQuiet
/- The law DiffBounds: its walk. -/
namespace Go.Proofs.Ytnpkkcbgfnnfmaa
open Go.RowKit
set_option linter.unusedVariables false
set_option linter.unusedSimpArgs false
set_option maxRecDepth 100000

theorem same_sb {w : World} {g b g' b' : Nat} {X Y K T T' : Int} {xs ys : List Int} (h : ImgR w g b X Y K T xs) (h' : ImgR w g' b' X Y K T' ys) {sb : Bool} (hsb : sb = decide (T = T' ∧ xs = ys)) :
    Calls Try.prog 50 #[.pointer (some ⟨g, 0, none⟩), .pointer (some ⟨g', 0, none⟩)] w fun e w' => e = .returned (.bool sb) ∧ ∃ m, w' = w.drewN m :=
  (same_any h h').mono fun e w'' he => ⟨he.1.trans (ret_bool (by rw [hsb]; simp)), he.2⟩
theorem place_in3b {X Y K : Int} {p q r : Int} (hp : 0 ≤ p ∧ p < X) (hq : 0 ≤ q ∧ q < Y) (hr : 0 ≤ r ∧ r < K) : inB X Y K p q r = true := by
  unfold inB
  rw [decide_eq_true_eq]
  omega

theorem db_S {w w' : World} {g r : Nat} {X Y K T : Int} {xs : List Int} {g' r' : Nat} {X' Y' K' T' : Int} {ys : List Int} {b : Nat} {dn dm ds dq dx dy dc : Int} (h : DS w w' g r X Y K T xs g' r' X' Y' K' T' ys) (hr : w'.heap[b]? = some (.cells (ddC ⟨dn, dm, ds, dq, dx, dy, dc⟩) 80 (0, 0))) :
    DS w w' g r X Y K T xs g' r' X' Y' K' T' ys ∧ w'.heap[b]? = some (.cells (ddC ⟨dn, dm, ds, dq, dx, dy, dc⟩) 80 (0, 0)) ∧ w'.cell? ⟨b, 0, none⟩ = some (.int .i64 dn) ∧ w'.cell? ⟨b, 1, none⟩ = some (.int .i64 dm) :=
  ⟨h, hr, (row7 hr).1.1, (row7 hr).1.2.1⟩

set_option maxHeartbeats 4000000 in
theorem diffBounds_walk (a0 b0 c0 e0 : Int) (l0 : Value) (xs0 : List Int) (a1 b1 c1 e1 : Int) (l1 : Value) (xs1 : List Int) (w : World)
    (wa0 : (Lit.int .u16 a0).wf = true) (wb0 : (Lit.int .u16 b0).wf = true) (wc0 : (Lit.int .u16 c0).wf = true) (we0 : (Lit.int .u16 e0).wf = true) (rd0 : Rd w .u16 l0 xs0) (wf0 : ∀ x ∈ xs0, (Lit.int .u16 x).wf = true) (sz0 : xs0.length * 2 ≤ 140737488351232)
    (wa1 : (Lit.int .u16 a1).wf = true) (wb1 : (Lit.int .u16 b1).wf = true) (wc1 : (Lit.int .u16 c1).wf = true) (we1 : (Lit.int .u16 e1).wf = true) (rd1 : Rd w .u16 l1 xs1) (wf1 : ∀ x ∈ xs1, (Lit.int .u16 x).wf = true) (sz1 : xs1.length * 2 ≤ 140737488351232) :
    Calls Try.prog 17 #[picV a0 b0 c0 e0 l0, picV a1 b1 c1 e1 l1] w fun e w' => e = .returned (.bool true) ∧ Below w.heap.size w w' := by
  have HDA := Lib.hid fun w' h => picdraw_any a0 b0 c0 e0 l0 xs0 w' (of_wf_u16 wa0) (of_wf_u16 wb0) (of_wf_u16 wc0) (of_wf_u16 we0) h (fun x hx => of_wf_u16 (wf0 x hx)) sz0
  have HDB := Lib.hid fun w' h => picdraw_any a0 b0 c0 e1 l1 xs1 w' (of_wf_u16 wa0) (of_wf_u16 wb0) (of_wf_u16 wc0) (of_wf_u16 we1) h (fun x hx => of_wf_u16 (wf1 x hx)) sz1
  have HR0 := Lib.hid rd0
  have HR1 := Lib.hid rd1
  obtain ⟨x0, k0, rfl, -⟩ := rd0.form
  obtain ⟨x1, k1, rfl, -⟩ := rd1.form
  clear rd0 rd1 wf0 wf1 wa0 wb0 wc0 we0 wa1 wb1 wc1 we1 sz0 sz1
  go_enter Try.func17, Try.ntmps17
  go_wp2_with fail
  refine (lives27_any _).mono ?_
  rintro e wl ⟨rfl, hBl⟩
  have HBX0 := Lib.hid (bx_start hBl)
  clear hBl
  obtain ⟨-, t0, t1, t2, t3, t4, u0, u1, u2, u3, u4⟩ := HBX0.out.cells
  obtain ⟨-, f0, f1, f2, f3, f4⟩ := row5v HBX0.out.b
  go_wp2_with fail
  go_region
  have HBX := Lib.hid (HBX0.out.same (.int .u16 a0) (.int .u16 b0) (.int .u16 c0))
  clear t0 t1 t2 t3 t4 u0 u1 u2 u3 u4 f0 f1 f2 f3 f4 HBX0
  obtain ⟨-, t0, t1, t2, t3, t4, u0, u1, u2, u3, u4⟩ := HBX.out.cells
  have hbx0 := HBX.out.below (Below.drew (Below.refl _ _))
  go_wp2_with fail
  go_region_held3 (fun w' => BX w w' #[.int .u16 a0, .int .u16 b0, .int .u16 c0, .int .u16 e0, .slice x0 xs0.length k0] #[.int .u16 a0, .int .u16 b0, .int .u16 c0, .int .u16 e1, .slice x1 xs1.length k1] ∧ w'.cell? ⟨w.heap.size, 0, none⟩ = some (.int .u16 a0) ∧ w'.cell? ⟨w.heap.size, 1, none⟩ = some (.int .u16 b0) ∧ w'.cell? ⟨w.heap.size, 2, none⟩ = some (.int .u16 c0) ∧ w'.cell? ⟨w.heap.size, 3, none⟩ = some (.int .u16 e0) ∧ w'.cell? ⟨w.heap.size, 4, none⟩ = some (.slice x0 xs0.length k0) ∧
      w'.cell? ⟨w.heap.size + 1, 0, none⟩ = some (.int .u16 a0) ∧ w'.cell? ⟨w.heap.size + 1, 1, none⟩ = some (.int .u16 b0) ∧ w'.cell? ⟨w.heap.size + 1, 2, none⟩ = some (.int .u16 c0) ∧ w'.cell? ⟨w.heap.size + 1, 3, none⟩ = some (.int .u16 e1) ∧ w'.cell? ⟨w.heap.size + 1, 4, none⟩ = some (.slice x1 xs1.length k1))
    ((first | assumption | exact BX.cells hbx0 | exact BX.cells hbxN))
    ((first
      | (go_at_call 60; obtain ⟨hbxX, -⟩ : BX w _ #[.int .u16 a0, .int .u16 b0, .int .u16 c0, .int .u16 e0, .slice x0 xs0.length k0] #[.int .u16 a0, .int .u16 b0, .int .u16 c0, .int .u16 e1, .slice x1 xs1.length k1] ∧ _ := (by assumption); (with_reducible refine (HDA.out _ (HR0.out.below hbxX.bel)).mono ?_); rintro e w5 ⟨g, r, X, Y, K, T, xs, rfl, hg, hr, hi, hs, hh, hB⟩; have hbxN := hbxX.below hB; have HIA := Lib.hid hi; have HSA := Lib.hid hs; have HHA := hh; clear hbxX hi hs hg hr hh hB)
      | (go_at_call 60; obtain ⟨hbxX, -⟩ : BX w _ #[.int .u16 a0, .int .u16 b0, .int .u16 c0, .int .u16 e0, .slice x0 xs0.length k0] #[.int .u16 a0, .int .u16 b0, .int .u16 c0, .int .u16 e1, .slice x1 xs1.length k1] ∧ _ := (by assumption); (with_reducible refine (HDB.out _ (HR1.out.below hbxX.bel)).mono ?_); rintro e w6 ⟨g', r', X', Y', K', T', ys, rfl, hg, hr, hi, hs, hh, hB⟩; have hbxN := hbxX.below hB; have HDS := Lib.hid (DS.mk (HIA.out.below hB) hi hbxN.bel); have HSB := Lib.hid hs; have HHB := hh; clear hbxX hi hs hg hr hh hB)))
  clear t0 t1 t2 t3 t4 u0 u1 u2 u3 u4 hbx0
  have hXX : X' = X := HHB.out.1.trans HHA.out.1.symm
  have hYY : Y' = Y := HHB.out.2.1.trans HHA.out.2.1.symm
  have hKK : K' = K := HHB.out.2.2.trans HHA.out.2.2.symm
  subst hXX hYY hKK
  clear HHA HHB HDA HDB
  obtain ⟨s1, s2, hK, s3, s4, s5, s6, s7, s8, s9, s10⟩ := HSA.out.bd
  have hlen : ys.length = xs.length := by have := HSA.out.len; have := HSB.out.len; omega
  obtain ⟨d, hd⟩ : ∃ d, dTo X' K' xs ys xs.length = d := ⟨_, rfl⟩
  have hdi := dTo_DI s1 s2 (show 1 ≤ K' by omega) xs ys xs.length (by have := HSA.out.len; omega)
  have hbd := (dTo_bd X' K' HSA.out.u16 HSB.out.u16 xs.length).mono (l := 1200) (by omega)
  have H1 := Lib.hid fun w' (h : DS w w' g r X' Y' K' T xs g' r' X' Y' K' T' ys) => diffOf_yes h.A h.B HSA.out HSB.out
  rw [hd] at hdi hbd H1
  obtain ⟨dn, dm, ds, dq, dx, dy, dc⟩ := d
  have hext := getD_ext hlen
  obtain ⟨x0', x1', y0', y1', z0', z1', ns, snm, sq, qsm, n0, nk, ss0, m0, zm, zx, pm, eq⟩ := hdi
  obtain ⟨-, bn, -, bm, -, bs, -, bq⟩ := hbd
  simp only at x0' x1' y0' y1' z0' z1' ns snm sq qsm n0 nk ss0 m0 zm zx pm eq bn bm bs bq
  have HIN := Lib.hid (place_in3b ⟨x0', x1'⟩ ⟨y0', y1'⟩ ⟨z0', z1'⟩)
  obtain ⟨u, hu⟩ : ∃ u, xs.getD (placeI X' K' dx dy dc).toNat 0 = u := ⟨_, rfl⟩
  obtain ⟨v, hv⟩ : ∃ v, ys.getD (placeI X' K' dx dy dc).toNat 0 = v := ⟨_, rfl⟩
  have hub := (show U16 xs from HSA.out.u16).getD (placeI X' K' dx dy dc).toNat
  have hvb := (show U16 ys from HSB.out.u16).getD (placeI X' K' dx dy dc).toNat
  have HAA := Lib.hid fun w' (h : DS w w' g r X' Y' K' T xs g' r' X' Y' K' T' ys) => at_in h.A HSA.out.code HSA.out.len dx dy dc HIN.out
  have HAB := Lib.hid fun w' (h : DS w w' g r X' Y' K' T xs g' r' X' Y' K' T' ys) => at_in h.B HSB.out.code HSB.out.len dx dy dc HIN.out
  rw [hu] at hub HAA
  rw [hv] at hvb HAB
  rw [hu, hv] at pm
  have huv0 : xs = ys → u = v := by rintro rfl; rw [← hu, ← hv]
  obtain ⟨u0, u1⟩ := hub
  obtain ⟨v0, v1⟩ := hvb
  have hla : xs.length * 2 ≤ 140737488351232 := by omega
  have HSAME := Lib.hid fun w' (h : DS w w' g r X' Y' K' T xs g' r' X' Y' K' T' ys) (sb : Bool) (hsb : sb = decide (T = T' ∧ xs = ys)) => same_sb h.A h.B hsb
  clear hd hu hv hK s5 s6 s7 s8 hlen
  have e1 : dn = 0 ↔ xs = ys := eq.trans hext
  clear eq hext
  have hmx : max (u - v) (-(u - v)) = dm := by
    rcases Int.lt_or_le 0 dn with hn | hn
    · obtain ⟨-, p2⟩ := pm hn
      rw [← p2]
      unfold absd
      split <;> omega
    · have h0 : dn = 0 := by omega
      have h1 := huv0 (e1.1 h0)
      have h2 := zm h0
      omega
  obtain ⟨mx, hm1⟩ : ∃ mx, max 1 dm = mx := ⟨_, rfl⟩
  have mx0 : 1 ≤ mx ∧ dm ≤ mx ∧ mx ≤ 65535 := by omega
  have hqm : dq ≤ ds * mx := Int.le_trans qsm (Int.mul_le_mul_of_nonneg_left mx0.2.1 ss0)
  obtain ⟨b1, b2⟩ : 0 ≤ dn * dm ∧ dn * dm ≤ 78642000 := ⟨Int.mul_nonneg n0 m0, by have := Int.mul_le_mul bn bm m0 (by omega); omega⟩
  obtain ⟨b3, b4⟩ : 0 ≤ ds * mx ∧ ds * mx ≤ 5153803470000 := ⟨Int.mul_nonneg ss0 (by omega), by have := Int.mul_le_mul bs mx0.2.2 (by omega) (by omega); omega⟩
  obtain ⟨sb, hsb⟩ : ∃ sb, sb = decide (T = T' ∧ xs = ys) := ⟨_, rfl⟩
  have HSB2 := Lib.hid hsb
  obtain ⟨z, hz⟩ : ∃ z, (dn == 0) = z := ⟨_, rfl⟩
  have hzs : (z != sb) = false ∨ (z != sb) = true ∧ (T == T') = false := by
    by_cases h0 : dn = 0
    · have hz1 : z = true := by rw [← hz, h0]; rfl
      by_cases hT : T = T'
      · left
        rw [hz1, hsb, decide_eq_true ⟨hT, e1.1 h0⟩]
        rfl
      · right
        rw [hz1, hsb, decide_eq_false (fun h => hT h.1)]
        exact ⟨rfl, by rw [beq_eq_false_iff_ne]; exact hT⟩
    · have hz1 : z = false := by rw [← hz, beq_eq_false_iff_ne]; exact h0
      left
      rw [hz1, hsb, decide_eq_false (fun h => h0 (e1.2 h.2))]
      rfl
  obtain ⟨bv, hbv⟩ : ∃ bv, u - v = bv := ⟨_, rfl⟩
  rw [hbv] at hmx
  have HBV := Lib.hid hbv
  have hbb : -65535 ≤ bv ∧ bv ≤ 65535 := by omega
  have HZ := Lib.hid hz
  have HMX := Lib.hid hmx
  have HM1 := Lib.hid hm1
  have HGT := Lib.hid (decide_eq_false (show ¬ (xs.length : Int) < dn by omega))
  clear zm zx e1 huv0 pm hsb hbv hz hmx hm1 qsm
  go_wp2_with fail
  refine (H1.out _ HDS.out).mono ?_
  rintro e w7 ⟨rfl, hB⟩
  go_wp2_with fail
  have HD7 := Lib.hid ((HDS.out.below hB).alloc (.cells (ddC ⟨dn, dm, ds, dq, dx, dy, dc⟩) 80))
  have hr7 := heap_alloc_new w7 (.cells (ddC ⟨dn, dm, ds, dq, dx, dy, dc⟩) 80)
  obtain ⟨w8, hw8⟩ : ∃ w8, w7.alloc (.cells (ddC ⟨dn, dm, ds, dq, dx, dy, dc⟩) 80) = w8 := ⟨_, rfl⟩
  have hw8' : w7.alloc (.cells #[.int .i64 dn, .int .i64 dm, .int .i64 ds, .int .i64 dq, .int .i64 dx, .int .i64 dy, .int .i64 dc] 80) = w8 := hw8
  rw [hw8] at HD7 hr7
  rw [hw8']
  have HR7 := Lib.hid hr7
  obtain ⟨⟨t1, t2, t3, t4, t5, t6, t7⟩, -⟩ := row7 hr7
  clear hB hw8 hw8' hr7
  go_quiet (first | (go_at_call_of 49 (Value.pointer (some ⟨g, 0, none⟩)); exact Calls.quiet_of (HAA.out _ (HD7.out.below (Below.drewN _)))) | (go_at_call 49; exact Calls.quiet_of (HAB.out _ (HD7.out.below (Below.drewN _)))))
  go_wp2_with fail
  obtain ⟨w9, hw9⟩ : ∃ w9, w8.drewN nq = w9 := ⟨_, rfl⟩
  have HD9 : Hid (DS w w9 g r X' Y' K' T xs g' r' X' Y' K' T' ys) := Lib.hid (by rw [← hw9]; exact HD7.out.below (Below.drewN nq))
  have hr9 : w9.heap[w7.heap.size]? = some (.cells (ddC ⟨dn, dm, ds, dq, dx, dy, dc⟩) 80 (0, 0)) := by rw [← hw9]; exact HR7.out
  rw [hw9]
  clear hw9 t1 t2 t3 t4 t5 t6 t7
  have HR9 := Lib.hid hr9
  rw [HBV.out]
  clear hr9
  have hneg : IntKind.i64.wrap (-bv) = -bv := IntWalk.i64_in _ (by omega)
  have hmx := HMX.out
  have hm1 := HM1.out
  have hgt := HGT.out
  have hz := HZ.out
  have hmm : (dm != dm) = false := by simp
  rcases hzs with hzs | ⟨hzs, hTb⟩
  · skip
    refine rg_start (n := 40) (S := fun w' => DS w w' g r X' Y' K' T xs g' r' X' Y' K' T' ys ∧ w'.heap[w7.heap.size]? = some (.cells (ddC ⟨dn, dm, ds, dq, dx, dy, dc⟩) 80 (0, 0)) ∧ w'.cell? ⟨w7.heap.size, 0, none⟩ = some (.int .i64 dn) ∧ w'.cell? ⟨w7.heap.size, 1, none⟩ = some (.int .i64 dm)) #[false, false, false, false, false, false, false, false, false, false, false, false, false, false, false, false, false, false, false, false, false, false, false, false, false, false, false, false, false, false, false, false, false, false, false, false, false, false, false, false] (by kernel_rfl) rfl rfl (db_S (HD9.out.below (Below.drew (Below.refl _ _))) (row_below (w' := w9.drew) HR9.out (Below.drew (Below.refl _ _)))) (fun hHeld => ?_)
    refine rg_take (i := 0) (N := some 59) (v := ?vp0) (a' := ?ap0) #[true, false, false, false, false, false, false, false, false, false, false, false, false, false, false, false, false, false, false, false, false, false, false, false, false, false, false, false, false, false, false, false, false, false, false, false, false, false, false, false] rfl rfl (by kernel_rfl) (fun _ _ _ h => h) (Or.inl ⟨by rfl, ?yp0⟩) hHeld ?hp0 ?kp0
    case yp0 => (intro w' hSw; obtain ⟨sD, sR, s0, s1⟩ := hSw; go_simp <;> with_reducible rfl)
    case hp0 => (simp only [Act.put, List.setIfInBounds_toArray, List.set_cons_zero, List.set_cons_succ]; rfl)
    refine rg_take (i := 1) (N := some 60) (v := ?vp1) (a' := ?ap1) #[true, true, false, false, false, false, false, false, false, false, false, false, false, false, false, false, false, false, false, false, false, false, false, false, false, false, false, false, false, false, false, false, false, false, false, false, false, false, false, false] rfl rfl (by kernel_rfl) (fun _ _ _ h => h) (Or.inl ⟨by rfl, ?yp1⟩) hHeld ?hp1 ?kp1
    case yp1 => (intro w' hSw; obtain ⟨sD, sR, s0, s1⟩ := hSw; go_simp <;> with_reducible rfl)
    case hp1 => (simp only [Act.put, List.setIfInBounds_toArray, List.set_cons_zero, List.set_cons_succ]; rfl)
    refine rg_take (i := 2) (N := some 61) (v := ?vp2) (a' := ?ap2) #[true, true, true, false, false, false, false, false, false, false, false, false, false, false, false, false, false, false, false, false, false, false, false, false, false, false, false, false, false, false, false, false, false, false, false, false, false, false, false, false] rfl rfl (by kernel_rfl) (fun _ _ _ h => h) (Or.inl ⟨by rfl, ?yp2⟩) hHeld ?hp2 ?kp2
    case yp2 => (intro w' hSw; obtain ⟨sD, sR, s0, s1⟩ := hSw; go_simp <;> with_reducible rfl)
    case hp2 => (simp only [Act.put, List.setIfInBounds_toArray, List.set_cons_zero, List.set_cons_succ]; rfl)
    refine rg_take (i := 3) (N := some 62) (v := ?vp3) (a' := ?ap3) #[true, true, true, true, false, false, false, false, false, false, false, false, false, false, false, false, false, false, false, false, false, false, false, false, false, false, false, false, false, false, false, false, false, false, false, false, false, false, false, false] rfl rfl (by kernel_rfl) (fun _ _ _ h => h) (Or.inl ⟨by rfl, ?yp3⟩) hHeld ?hp3 ?kp3
    case yp3 => (intro w' hSw; obtain ⟨sD, sR, s0, s1⟩ := hSw; go_simp <;> with_reducible rfl)
    case hp3 => (simp only [Act.put, List.setIfInBounds_toArray, List.set_cons_zero, List.set_cons_succ]; rfl)
    refine rg_take (i := 4) (N := some 63) (v := ?vp4) (a' := ?ap4) #[true, true, true, true, true, false, false, false, false, false, false, false, false, false, false, false, false, false, false, false, false, false, false, false, false, false, false, false, false, false, false, false, false, false, false, false, false, false, false, false] rfl rfl (by kernel_rfl) (fun _ _ _ h => h) (Or.inl ⟨by rfl, ?yp4⟩) hHeld ?hp4 ?kp4
    case yp4 => (intro w' hSw; obtain ⟨sD, sR, s0, s1⟩ := hSw; go_simp <;> with_reducible rfl)
    case hp4 => (simp only [Act.put, List.setIfInBounds_toArray, List.set_cons_zero, List.set_cons_succ]; rfl)
    refine rg_take (i := 5) (N := some 64) (v := ?vp5) (a' := ?ap5) #[true, true, true, true, true, true, false, false, false, false, false, false, false, false, false, false, false, false, false, false, false, false, false, false, false, false, false, false, false, false, false, false, false, false, false, false, false, false, false, false] rfl rfl (by kernel_rfl) (fun _ _ _ h => h) (Or.inl ⟨by rfl, ?yp5⟩) hHeld ?hp5 ?kp5
    case yp5 => (intro w' hSw; obtain ⟨sD, sR, s0, s1⟩ := hSw; go_simp <;> with_reducible rfl)
    case hp5 => (simp only [Act.put, List.setIfInBounds_toArray, List.set_cons_zero, List.set_cons_succ]; rfl)
    refine rg_take (i := 6) (N := some 65) (v := ?vp6) (a' := ?ap6) #[true, true, true, true, true, true, true, false, false, false, false, false, false, false, false, false, false, false, false, false, false, false, false, false, false, false, false, false, false, false, false, false, false, false, false, false, false, false, false, false] rfl rfl (by kernel_rfl) (fun _ _ _ h => h) (Or.inl ⟨by rfl, ?yp6⟩) hHeld ?hp6 ?kp6
    case yp6 => (intro w' hSw; obtain ⟨sD, sR, s0, s1⟩ := hSw; go_simp <;> with_reducible rfl)
    case hp6 => (simp only [Act.put, List.setIfInBounds_toArray, List.set_cons_zero, List.set_cons_succ]; rfl)
    refine rg_take (i := 7) (N := some 66) (v := ?vp7) (a' := ?ap7) #[true, true, true, true, true, true, true, true, false, false, false, false, false, false, false, false, false, false, false, false, false, false, false, false, false, false, false, false, false, false, false, false, false, false, false, false, false, false, false, false] rfl rfl (by kernel_rfl) (fun _ _ _ h => h) (Or.inl ⟨by rfl, ?yp7⟩) hHeld ?hp7 ?kp7
    case yp7 => (intro w' hSw; obtain ⟨sD, sR, s0, s1⟩ := hSw; go_simp <;> with_reducible rfl)
    case hp7 => (simp only [Act.put, List.setIfInBounds_toArray, List.set_cons_zero, List.set_cons_succ]; rfl)
    refine rg_take (i := 8) (N := some 67) (v := ?vp8) (a' := ?ap8) #[true, true, true, true, true, true, true, true, true, false, false, false, false, false, false, false, false, false, false, false, false, false, false, false, false, false, false, false, false, false, false, false, false, false, false, false, false, false, false, false] rfl rfl (by kernel_rfl) (fun _ _ _ h => h) (Or.inl ⟨by rfl, ?yp8⟩) hHeld ?hp8 ?kp8
    case yp8 => (intro w' hSw; obtain ⟨sD, sR, s0, s1⟩ := hSw; go_simp <;> with_reducible rfl)
    case hp8 => (simp only [Act.put, List.setIfInBounds_toArray, List.set_cons_zero, List.set_cons_succ]; rfl)
    refine rg_take (i := 9) (N := some 68) (v := ?vp9) (a' := ?ap9) #[true, true, true, true, true, true, true, true, true, true, false, false, false, false, false, false, false, false, false, false, false, false, false, false, false, false, false, false, false, false, false, false, false, false, false, false, false, false, false, false] rfl rfl (by kernel_rfl) (fun _ _ _ h => h) (Or.inl ⟨by rfl, ?yp9⟩) hHeld ?hp9 ?kp9
    case yp9 => (intro w' hSw; obtain ⟨sD, sR, s0, s1⟩ := hSw; go_simp <;> with_reducible rfl)
    case hp9 => (simp only [Act.put, List.setIfInBounds_toArray, List.set_cons_zero, List.set_cons_succ]; rfl)
    refine rg_take (i := 10) (N := some 69) (v := ?vp10) (a' := ?ap10) #[true, true, true, true, true, true, true, true, true, true, true, false, false, false, false, false, false, false, false, false, false, false, false, false, false, false, false, false, false, false, false, false, false, false, false, false, false, false, false, false] rfl rfl (by kernel_rfl) (fun _ _ _ h => h) (Or.inl ⟨by rfl, ?yp10⟩) hHeld ?hp10 ?kp10
    case yp10 => (intro w' hSw; obtain ⟨sD, sR, s0, s1⟩ := hSw; go_simp <;> with_reducible rfl)
    case hp10 => (simp only [Act.put, List.setIfInBounds_toArray, List.set_cons_zero, List.set_cons_succ]; rfl)
    refine rg_take (i := 11) (N := some 70) (v := undef) (a' := ?ap11) #[true, true, true, true, true, true, true, true, true, true, true, true, false, false, false, false, false, false, false, false, false, false, false, false, false, false, false, false, false, false, false, false, false, false, false, false, false, false, false, false] rfl rfl (by kernel_rfl) (fun _ _ _ h => h) (Or.inr ⟨by rfl, rfl⟩) hHeld ?hp11 ?kp11
    case hp11 => (simp only [Act.put, List.setIfInBounds_toArray, List.set_cons_zero, List.set_cons_succ]; rfl)
    refine rg_take (i := 12) (N := some 71) (v := undef) (a' := ?ap12) #[true, true, true, true, true, true, true, true, true, true, true, true, true, false, false, false, false, false, false, false, false, false, false, false, false, false, false, false, false, false, false, false, false, false, false, false, false, false, false, false] rfl rfl (by kernel_rfl) (fun _ _ _ h => h) (Or.inr ⟨by rfl, rfl⟩) hHeld ?hp12 ?kp12
    case hp12 => (simp only [Act.put, List.setIfInBounds_toArray, List.set_cons_zero, List.set_cons_succ]; rfl)
    refine rg_take (i := 13) (N := some 72) (v := undef) (a' := ?ap13) #[true, true, true, true, true, true, true, true, true, true, true, true, true, true, false, false, false, false, false, false, false, false, false, false, false, false, false, false, false, false, false, false, false, false, false, false, false, false, false, false] rfl rfl (by kernel_rfl) (fun _ _ _ h => h) (Or.inr ⟨by rfl, rfl⟩) hHeld ?hp13 ?kp13
    case hp13 => (simp only [Act.put, List.setIfInBounds_toArray, List.set_cons_zero, List.set_cons_succ]; rfl)
    refine rg_take (i := 14) (N := some 73) (v := ?vp14) (a' := ?ap14) #[true, true, true, true, true, true, true, true, true, true, true, true, true, true, true, false, false, false, false, false, false, false, false, false, false, false, false, false, false, false, false, false, false, false, false, false, false, false, false, false] rfl rfl (by kernel_rfl) (fun _ _ _ h => h) (Or.inl ⟨by rfl, ?yp14⟩) hHeld ?hp14 ?kp14
    case yp14 => (intro w' hSw; obtain ⟨sD, sR, s0, s1⟩ := hSw; go_simp <;> with_reducible rfl)
    case hp14 => (simp only [Act.put, List.setIfInBounds_toArray, List.set_cons_zero, List.set_cons_succ]; rfl)
    refine rg_take (i := 15) (N := some 74) (v := ?vp15) (a' := ?ap15) #[true, true, true, true, true, true, true, true, true, true, true, true, true, true, true, true, false, false, false, false, false, false, false, false, false, false, false, false, false, false, false, false, false, false, false, false, false, false, false, false] rfl rfl (by kernel_rfl) (fun _ _ _ h => h) (Or.inl ⟨by rfl, ?yp15⟩) hHeld ?hp15 ?kp15
    case yp15 => (intro w' hSw; obtain ⟨sD, sR, s0, s1⟩ := hSw; go_simp <;> with_reducible rfl)
    case hp15 => (simp only [Act.put, List.setIfInBounds_toArray, List.set_cons_zero, List.set_cons_succ]; rfl)
    refine rg_take (i := 16) (N := some 75) (v := ?vp16) (a' := ?ap16) #[true, true, true, true, true, true, true, true, true, true, true, true, true, true, true, true, true, false, false, false, false, false, false, false, false, false, false, false, false, false, false, false, false, false, false, false, false, false, false, false] rfl rfl (by kernel_rfl) (fun _ _ _ h => h) (Or.inl ⟨by rfl, ?yp16⟩) hHeld ?hp16 ?kp16
    case yp16 => (intro w' hSw; obtain ⟨sD, sR, s0, s1⟩ := hSw; go_simp <;> with_reducible rfl)
    case hp16 => (simp only [Act.put, List.setIfInBounds_toArray, List.set_cons_zero, List.set_cons_succ]; rfl)
    refine rg_take (i := 17) (N := some 76) (v := ?vp17) (a' := ?ap17) #[true, true, true, true, true, true, true, true, true, true, true, true, true, true, true, true, true, true, false, false, false, false, false, false, false, false, false, false, false, false, false, false, false, false, false, false, false, false, false, false] rfl rfl (by kernel_rfl) (fun _ _ _ h => h) (Or.inl ⟨by rfl, ?yp17⟩) hHeld ?hp17 ?kp17
    case yp17 => (intro w' hSw; obtain ⟨sD, sR, s0, s1⟩ := hSw; go_simp <;> with_reducible rfl)
    case hp17 => (simp only [Act.put, List.setIfInBounds_toArray, List.set_cons_zero, List.set_cons_succ]; rfl)
    refine rg_take (i := 18) (N := some 77) (v := ?vp18) (a' := ?ap18) #[true, true, true, true, true, true, true, true, true, true, true, true, true, true, true, true, true, true, true, false, false, false, false, false, false, false, false, false, false, false, false, false, false, false, false, false, false, false, false, false] rfl rfl (by kernel_rfl) (fun _ _ _ h => h) (Or.inl ⟨by rfl, ?yp18⟩) hHeld ?hp18 ?kp18
    case yp18 => (intro w' hSw; obtain ⟨sD, sR, s0, s1⟩ := hSw; go_simp <;> with_reducible rfl)
    case hp18 => (simp only [Act.put, List.setIfInBounds_toArray, List.set_cons_zero, List.set_cons_succ]; rfl)
    refine rg_take (i := 19) (N := some 78) (v := ?vp19) (a' := ?ap19) #[true, true, true, true, true, true, true, true, true, true, true, true, true, true, true, true, true, true, true, true, false, false, false, false, false, false, false, false, false, false, false, false, false, false, false, false, false, false, false, false] rfl rfl (by kernel_rfl) (fun _ _ _ h => h) (Or.inl ⟨by rfl, ?yp19⟩) hHeld ?hp19 ?kp19
    case yp19 => (intro w' hSw; obtain ⟨sD, sR, s0, s1⟩ := hSw; go_simp <;> with_reducible rfl)
    case hp19 => (simp only [Act.put, List.setIfInBounds_toArray, List.set_cons_zero, List.set_cons_succ]; rfl)
    refine rg_one (i := 20) (N := some 79) #[true, true, true, true, true, true, true, true, true, true, true, true, true, true, true, true, true, true, true, true, true, false, false, false, false, false, false, false, false, false, false, false, false, false, false, false, false, false, false, false] rfl rfl (by kernel_rfl) (fun K hK => ?_)
    obtain ⟨sD, sR, s0, s1⟩ := hHeld
    refine rg_call Try.func25 (by kernel_rfl) rfl #[Value.pointer (some ⟨g, 0, none⟩)] (by rfl) rfl rfl (by simp only [List.map_toArray, List.map_cons, List.map_nil]; rfl) ?_
    with_reducible refine (samples_any sD.A hla).mono ?_
    rintro e w1 ⟨x10, c10, rfl, -, hB⟩
    refine ⟨_, rfl, ?_⟩
    refine hK.out _ _ (db_S (sD.below hB) (row_below sR hB)) (fun hHeld => ?_)
    clear hK K
    refine rg_norm (a' := ?ap20) ?hp20 ?kp20
    case hp20 => (simp only [Act.put, List.setIfInBounds_toArray, List.set_cons_zero, List.set_cons_succ]; rfl)
    refine rg_take (i := 21) (N := some 80) (v := ?vp21) (a' := ?ap21) #[true, true, true, true, true, true, true, true, true, true, true, true, true, true, true, true, true, true, true, true, true, true, false, false, false, false, false, false, false, false, false, false, false, false, false, false, false, false, false, false] rfl rfl (by kernel_rfl) (fun _ _ _ h => h) (Or.inl ⟨by rfl, ?yp21⟩) hHeld ?hp21 ?kp21
    case yp21 => (intro w' hSw; obtain ⟨sD, sR, s0, s1⟩ := hSw; go_simp <;> with_reducible rfl)
    case hp21 => (simp only [Act.put, List.setIfInBounds_toArray, List.set_cons_zero, List.set_cons_succ]; rfl)
    refine rg_take (i := 22) (N := some 81) (v := ?vp22) (a' := ?ap22) #[true, true, true, true, true, true, true, true, true, true, true, true, true, true, true, true, true, true, true, true, true, true, true, false, false, false, false, false, false, false, false, false, false, false, false, false, false, false, false, false] rfl rfl (by kernel_rfl) (fun _ _ _ h => h) (Or.inl ⟨by rfl, ?yp22⟩) hHeld ?hp22 ?kp22
    case yp22 => (intro w' hSw; obtain ⟨sD, sR, s0, s1⟩ := hSw; go_simp <;> with_reducible rfl)
    case hp22 => (simp only [Act.put, List.setIfInBounds_toArray, List.set_cons_zero, List.set_cons_succ]; rfl)
    refine rg_take (i := 23) (N := some 82) (v := ?vp23) (a' := ?ap23) #[true, true, true, true, true, true, true, true, true, true, true, true, true, true, true, true, true, true, true, true, true, true, true, true, false, false, false, false, false, false, false, false, false, false, false, false, false, false, false, false] rfl rfl (by kernel_rfl) (fun _ _ _ h => h) (Or.inl ⟨by rfl, ?yp23⟩) hHeld ?hp23 ?kp23
    case yp23 => (intro w' hSw; obtain ⟨sD, sR, s0, s1⟩ := hSw; go_simp <;> with_reducible rfl)
    case hp23 => (simp only [Act.put, List.setIfInBounds_toArray, List.set_cons_zero, List.set_cons_succ]; rfl)
    refine rg_take (i := 24) (N := some 83) (v := ?vp24) (a' := ?ap24) #[true, true, true, true, true, true, true, true, true, true, true, true, true, true, true, true, true, true, true, true, true, true, true, true, true, false, false, false, false, false, false, false, false, false, false, false, false, false, false, false] rfl rfl (by kernel_rfl) (fun _ _ _ h => h) (Or.inl ⟨by rfl, ?yp24⟩) hHeld ?hp24 ?kp24
    case yp24 => (intro w' hSw; obtain ⟨sD, sR, s0, s1⟩ := hSw; go_simp <;> with_reducible rfl)
    case hp24 => (simp only [Act.put, List.setIfInBounds_toArray, List.set_cons_zero, List.set_cons_succ]; rfl)
    refine rg_take (i := 25) (N := some 84) (v := ?vp25) (a' := ?ap25) #[true, true, true, true, true, true, true, true, true, true, true, true, true, true, true, true, true, true, true, true, true, true, true, true, true, true, false, false, false, false, false, false, false, false, false, false, false, false, false, false] rfl rfl (by kernel_rfl) (fun _ _ _ h => h) (Or.inl ⟨by rfl, ?yp25⟩) hHeld ?hp25 ?kp25
    case yp25 => (intro w' hSw; obtain ⟨sD, sR, s0, s1⟩ := hSw; go_simp <;> with_reducible rfl)
    case hp25 => (simp only [Act.put, List.setIfInBounds_toArray, List.set_cons_zero, List.set_cons_succ]; rfl)
    refine rg_take (i := 26) (N := some 85) (v := ?vp26) (a' := ?ap26) #[true, true, true, true, true, true, true, true, true, true, true, true, true, true, true, true, true, true, true, true, true, true, true, true, true, true, true, false, false, false, false, false, false, false, false, false, false, false, false, false] rfl rfl (by kernel_rfl) (fun _ _ _ h => h) (Or.inl ⟨by rfl, ?yp26⟩) hHeld ?hp26 ?kp26
    case yp26 => (intro w' hSw; obtain ⟨sD, sR, s0, s1⟩ := hSw; go_simp <;> with_reducible rfl)
    case hp26 => (simp only [Act.put, List.setIfInBounds_toArray, List.set_cons_zero, List.set_cons_succ]; rfl)
    refine rg_take (i := 27) (N := some 86) (v := ?vp27) (a' := ?ap27) #[true, true, true, true, true, true, true, true, true, true, true, true, true, true, true, true, true, true, true, true, true, true, true, true, true, true, true, true, false, false, false, false, false, false, false, false, false, false, false, false] rfl rfl (by kernel_rfl) (fun _ _ _ h => h) (Or.inl ⟨by rfl, ?yp27⟩) hHeld ?hp27 ?kp27
    case yp27 => (intro w' hSw; obtain ⟨sD, sR, s0, s1⟩ := hSw; go_simp <;> with_reducible rfl)
    case hp27 => (simp only [Act.put, List.setIfInBounds_toArray, List.set_cons_zero, List.set_cons_succ]; rfl)
    refine rg_take (i := 28) (N := some 87) (v := ?vp28) (a' := ?ap28) #[true, true, true, true, true, true, true, true, true, true, true, true, true, true, true, true, true, true, true, true, true, true, true, true, true, true, true, true, true, false, false, false, false, false, false, false, false, false, false, false] rfl rfl (by kernel_rfl) (fun _ _ _ h => h) (Or.inl ⟨by rfl, ?yp28⟩) hHeld ?hp28 ?kp28
    case yp28 => (intro w' hSw; obtain ⟨sD, sR, s0, s1⟩ := hSw; go_simp <;> with_reducible rfl)
    case hp28 => (simp only [Act.put, List.setIfInBounds_toArray, List.set_cons_zero, List.set_cons_succ]; rfl)
    refine rg_take (i := 29) (N := some 88) (v := ?vp29) (a' := ?ap29) #[true, true, true, true, true, true, true, true, true, true, true, true, true, true, true, true, true, true, true, true, true, true, true, true, true, true, true, true, true, true, false, false, false, false, false, false, false, false, false, false] rfl rfl (by kernel_rfl) (fun _ _ _ h => h) (Or.inl ⟨by rfl, ?yp29⟩) hHeld ?hp29 ?kp29
    case yp29 => (intro w' hSw; obtain ⟨sD, sR, s0, s1⟩ := hSw; go_simp <;> with_reducible rfl)
    case hp29 => (simp only [Act.put, List.setIfInBounds_toArray, List.set_cons_zero, List.set_cons_succ]; rfl)
    refine rg_one (i := 30) (N := some 89) #[true, true, true, true, true, true, true, true, true, true, true, true, true, true, true, true, true, true, true, true, true, true, true, true, true, true, true, true, true, true, true, false, false, false, false, false, false, false, false, false] rfl rfl (by kernel_rfl) (fun K hK => ?_)
    obtain ⟨sD, sR, s0, s1⟩ := hHeld
    refine rg_call Try.func50 (by kernel_rfl) rfl #[Value.pointer (some ⟨g, 0, none⟩), Value.pointer (some ⟨g', 0, none⟩)] (by rfl) rfl rfl (by simp only [List.map_toArray, List.map_cons, List.map_nil]; rfl) ?_
    with_reducible refine (HSAME.out _ sD _ HSB2.out).mono ?_
    rintro e w1 ⟨rfl, m11, rfl⟩
    refine ⟨_, rfl, ?_⟩
    refine hK.out _ _ (db_S (sD.below (Below.drewN m11)) (row_below sR (Below.drewN m11))) (fun hHeld => ?_)
    clear hK K
    refine rg_norm (a' := ?ap30) ?hp30 ?kp30
    case hp30 => (simp only [Act.put, List.setIfInBounds_toArray, List.set_cons_zero, List.set_cons_succ]; rfl)
    refine rg_take (i := 31) (N := some 90) (v := .bool false) (a' := ?ap31) #[true, true, true, true, true, true, true, true, true, true, true, true, true, true, true, true, true, true, true, true, true, true, true, true, true, true, true, true, true, true, true, true, false, false, false, false, false, false, false, false] rfl rfl (by kernel_rfl) (fun _ _ _ h => h) (Or.inl ⟨by rfl, ?yp31⟩) hHeld ?hp31 ?kp31
    case yp31 => (intro w' hSw; obtain ⟨sD, sR, s0, s1⟩ := hSw; go_simp <;> simpa using hzs)
    case hp31 => (simp only [Act.put, List.setIfInBounds_toArray, List.set_cons_zero, List.set_cons_succ]; rfl)
    refine rg_take (i := 32) (N := some 91) (v := ?vp32) (a' := ?ap32) #[true, true, true, true, true, true, true, true, true, true, true, true, true, true, true, true, true, true, true, true, true, true, true, true, true, true, true, true, true, true, true, true, true, false, false, false, false, false, false, false] rfl rfl (by kernel_rfl) (fun _ _ _ h => h) (Or.inl ⟨by rfl, ?yp32⟩) hHeld ?hp32 ?kp32
    case yp32 => (intro w' hSw; obtain ⟨sD, sR, s0, s1⟩ := hSw; go_simp <;> with_reducible rfl)
    case hp32 => (simp only [Act.put, List.setIfInBounds_toArray, List.set_cons_zero, List.set_cons_succ]; rfl)
    refine rg_take (i := 33) (N := some 92) (v := undef) (a' := ?ap33) #[true, true, true, true, true, true, true, true, true, true, true, true, true, true, true, true, true, true, true, true, true, true, true, true, true, true, true, true, true, true, true, true, true, true, false, false, false, false, false, false] rfl rfl (by kernel_rfl) (fun _ _ _ h => h) (Or.inr ⟨by rfl, rfl⟩) hHeld ?hp33 ?kp33
    case hp33 => (simp only [Act.put, List.setIfInBounds_toArray, List.set_cons_zero, List.set_cons_succ]; rfl)
    refine rg_take (i := 34) (N := some 93) (v := undef) (a' := ?ap34) #[true, true, true, true, true, true, true, true, true, true, true, true, true, true, true, true, true, true, true, true, true, true, true, true, true, true, true, true, true, true, true, true, true, true, true, false, false, false, false, false] rfl rfl (by kernel_rfl) (fun _ _ _ h => h) (Or.inr ⟨by rfl, rfl⟩) hHeld ?hp34 ?kp34
    case hp34 => (simp only [Act.put, List.setIfInBounds_toArray, List.set_cons_zero, List.set_cons_succ]; rfl)
    refine rg_take (i := 35) (N := some 94) (v := undef) (a' := ?ap35) #[true, true, true, true, true, true, true, true, true, true, true, true, true, true, true, true, true, true, true, true, true, true, true, true, true, true, true, true, true, true, true, true, true, true, true, true, false, false, false, false] rfl rfl (by kernel_rfl) (fun _ _ _ h => h) (Or.inr ⟨by rfl, rfl⟩) hHeld ?hp35 ?kp35
    case hp35 => (simp only [Act.put, List.setIfInBounds_toArray, List.set_cons_zero, List.set_cons_succ]; rfl)
    refine rg_take (i := 36) (N := some 95) (v := undef) (a' := ?ap36) #[true, true, true, true, true, true, true, true, true, true, true, true, true, true, true, true, true, true, true, true, true, true, true, true, true, true, true, true, true, true, true, true, true, true, true, true, true, false, false, false] rfl rfl (by kernel_rfl) (fun _ _ _ h => h) (Or.inr ⟨by rfl, rfl⟩) hHeld ?hp36 ?kp36
    case hp36 => (simp only [Act.put, List.setIfInBounds_toArray, List.set_cons_zero, List.set_cons_succ]; rfl)
    refine rg_take (i := 37) (N := some 96) (v := undef) (a' := ?ap37) #[true, true, true, true, true, true, true, true, true, true, true, true, true, true, true, true, true, true, true, true, true, true, true, true, true, true, true, true, true, true, true, true, true, true, true, true, true, true, false, false] rfl rfl (by kernel_rfl) (fun _ _ _ h => h) (Or.inr ⟨by rfl, rfl⟩) hHeld ?hp37 ?kp37
    case hp37 => (simp only [Act.put, List.setIfInBounds_toArray, List.set_cons_zero, List.set_cons_succ]; rfl)
    refine rg_take (i := 38) (N := some 97) (v := ?vp38) (a' := ?ap38) #[true, true, true, true, true, true, true, true, true, true, true, true, true, true, true, true, true, true, true, true, true, true, true, true, true, true, true, true, true, true, true, true, true, true, true, true, true, true, true, false] rfl rfl (by kernel_rfl) (fun _ _ _ h => h) (Or.inl ⟨by rfl, ?yp38⟩) hHeld ?hp38 ?kp38
    case yp38 => (intro w' hSw; obtain ⟨sD, sR, s0, s1⟩ := hSw; go_simp <;> with_reducible rfl)
    case hp38 => (simp only [Act.put, List.setIfInBounds_toArray, List.set_cons_zero, List.set_cons_succ]; rfl)
    refine rg_take (i := 39) (N := some 98) (v := ?vp39) (a' := ?ap39) #[true, true, true, true, true, true, true, true, true, true, true, true, true, true, true, true, true, true, true, true, true, true, true, true, true, true, true, true, true, true, true, true, true, true, true, true, true, true, true, true] rfl rfl (by kernel_rfl) (fun _ _ _ h => h) (Or.inl ⟨by rfl, ?yp39⟩) hHeld ?hp39 ?kp39
    case yp39 => (intro w' hSw; obtain ⟨sD, sR, s0, s1⟩ := hSw; go_simp <;> with_reducible rfl)
    case hp39 => (simp only [Act.put, List.setIfInBounds_toArray, List.set_cons_zero, List.set_cons_succ]; rfl)
    refine rg_done (by kernel_rfl) ?_
    obtain ⟨sD, sR, -, -⟩ := hHeld
    obtain ⟨⟨t1, t2, t3, t4, t5, t6, t7⟩, -⟩ := row7 sR
    go_wp2_with fail
    go_ret
    exact ⟨ret_bool (by simp), sD.bel⟩
  · skip
    refine rg_start (n := 40) (S := fun w' => DS w w' g r X' Y' K' T xs g' r' X' Y' K' T' ys ∧ w'.heap[w7.heap.size]? = some (.cells (ddC ⟨dn, dm, ds, dq, dx, dy, dc⟩) 80 (0, 0)) ∧ w'.cell? ⟨w7.heap.size, 0, none⟩ = some (.int .i64 dn) ∧ w'.cell? ⟨w7.heap.size, 1, none⟩ = some (.int .i64 dm)) #[false, false, false, false, false, false, false, false, false, false, false, false, false, false, false, false, false, false, false, false, false, false, false, false, false, false, false, false, false, false, false, false, false, false, false, false, false, false, false, false] (by kernel_rfl) rfl rfl (db_S (HD9.out.below (Below.drew (Below.refl _ _))) (row_below (w' := w9.drew) HR9.out (Below.drew (Below.refl _ _)))) (fun hHeld => ?_)
    refine rg_take (i := 0) (N := some 59) (v := ?vq0) (a' := ?aq0) #[true, false, false, false, false, false, false, false, false, false, false, false, false, false, false, false, false, false, false, false, false, false, false, false, false, false, false, false, false, false, false, false, false, false, false, false, false, false, false, false] rfl rfl (by kernel_rfl) (fun _ _ _ h => h) (Or.inl ⟨by rfl, ?yq0⟩) hHeld ?hq0 ?kq0
    case yq0 => (intro w' hSw; obtain ⟨sD, sR, s0, s1⟩ := hSw; go_simp <;> with_reducible rfl)
    case hq0 => (simp only [Act.put, List.setIfInBounds_toArray, List.set_cons_zero, List.set_cons_succ]; rfl)
    refine rg_take (i := 1) (N := some 60) (v := ?vq1) (a' := ?aq1) #[true, true, false, false, false, false, false, false, false, false, false, false, false, false, false, false, false, false, false, false, false, false, false, false, false, false, false, false, false, false, false, false, false, false, false, false, false, false, false, false] rfl rfl (by kernel_rfl) (fun _ _ _ h => h) (Or.inl ⟨by rfl, ?yq1⟩) hHeld ?hq1 ?kq1
    case yq1 => (intro w' hSw; obtain ⟨sD, sR, s0, s1⟩ := hSw; go_simp <;> with_reducible rfl)
    case hq1 => (simp only [Act.put, List.setIfInBounds_toArray, List.set_cons_zero, List.set_cons_succ]; rfl)
    refine rg_take (i := 2) (N := some 61) (v := ?vq2) (a' := ?aq2) #[true, true, true, false, false, false, false, false, false, false, false, false, false, false, false, false, false, false, false, false, false, false, false, false, false, false, false, false, false, false, false, false, false, false, false, false, false, false, false, false] rfl rfl (by kernel_rfl) (fun _ _ _ h => h) (Or.inl ⟨by rfl, ?yq2⟩) hHeld ?hq2 ?kq2
    case yq2 => (intro w' hSw; obtain ⟨sD, sR, s0, s1⟩ := hSw; go_simp <;> with_reducible rfl)
    case hq2 => (simp only [Act.put, List.setIfInBounds_toArray, List.set_cons_zero, List.set_cons_succ]; rfl)
    refine rg_take (i := 3) (N := some 62) (v := ?vq3) (a' := ?aq3) #[true, true, true, true, false, false, false, false, false, false, false, false, false, false, false, false, false, false, false, false, false, false, false, false, false, false, false, false, false, false, false, false, false, false, false, false, false, false, false, false] rfl rfl (by kernel_rfl) (fun _ _ _ h => h) (Or.inl ⟨by rfl, ?yq3⟩) hHeld ?hq3 ?kq3
    case yq3 => (intro w' hSw; obtain ⟨sD, sR, s0, s1⟩ := hSw; go_simp <;> with_reducible rfl)
    case hq3 => (simp only [Act.put, List.setIfInBounds_toArray, List.set_cons_zero, List.set_cons_succ]; rfl)
    refine rg_take (i := 4) (N := some 63) (v := ?vq4) (a' := ?aq4) #[true, true, true, true, true, false, false, false, false, false, false, false, false, false, false, false, false, false, false, false, false, false, false, false, false, false, false, false, false, false, false, false, false, false, false, false, false, false, false, false] rfl rfl (by kernel_rfl) (fun _ _ _ h => h) (Or.inl ⟨by rfl, ?yq4⟩) hHeld ?hq4 ?kq4
    case yq4 => (intro w' hSw; obtain ⟨sD, sR, s0, s1⟩ := hSw; go_simp <;> with_reducible rfl)
    case hq4 => (simp only [Act.put, List.setIfInBounds_toArray, List.set_cons_zero, List.set_cons_succ]; rfl)
    refine rg_take (i := 5) (N := some 64) (v := ?vq5) (a' := ?aq5) #[true, true, true, true, true, true, false, false, false, false, false, false, false, false, false, false, false, false, false, false, false, false, false, false, false, false, false, false, false, false, false, false, false, false, false, false, false, false, false, false] rfl rfl (by kernel_rfl) (fun _ _ _ h => h) (Or.inl ⟨by rfl, ?yq5⟩) hHeld ?hq5 ?kq5
    case yq5 => (intro w' hSw; obtain ⟨sD, sR, s0, s1⟩ := hSw; go_simp <;> with_reducible rfl)
    case hq5 => (simp only [Act.put, List.setIfInBounds_toArray, List.set_cons_zero, List.set_cons_succ]; rfl)
    refine rg_take (i := 6) (N := some 65) (v := ?vq6) (a' := ?aq6) #[true, true, true, true, true, true, true, false, false, false, false, false, false, false, false, false, false, false, false, false, false, false, false, false, false, false, false, false, false, false, false, false, false, false, false, false, false, false, false, false] rfl rfl (by kernel_rfl) (fun _ _ _ h => h) (Or.inl ⟨by rfl, ?yq6⟩) hHeld ?hq6 ?kq6
    case yq6 => (intro w' hSw; obtain ⟨sD, sR, s0, s1⟩ := hSw; go_simp <;> with_reducible rfl)
    case hq6 => (simp only [Act.put, List.setIfInBounds_toArray, List.set_cons_zero, List.set_cons_succ]; rfl)
    refine rg_take (i := 7) (N := some 66) (v := ?vq7) (a' := ?aq7) #[true, true, true, true, true, true, true, true, false, false, false, false, false, false, false, false, false, false, false, false, false, false, false, false, false, false, false, false, false, false, false, false, false, false, false, false, false, false, false, false] rfl rfl (by kernel_rfl) (fun _ _ _ h => h) (Or.inl ⟨by rfl, ?yq7⟩) hHeld ?hq7 ?kq7
    case yq7 => (intro w' hSw; obtain ⟨sD, sR, s0, s1⟩ := hSw; go_simp <;> with_reducible rfl)
    case hq7 => (simp only [Act.put, List.setIfInBounds_toArray, List.set_cons_zero, List.set_cons_succ]; rfl)
    refine rg_take (i := 8) (N := some 67) (v := ?vq8) (a' := ?aq8) #[true, true, true, true, true, true, true, true, true, false, false, false, false, false, false, false, false, false, false, false, false, false, false, false, false, false, false, false, false, false, false, false, false, false, false, false, false, false, false, false] rfl rfl (by kernel_rfl) (fun _ _ _ h => h) (Or.inl ⟨by rfl, ?yq8⟩) hHeld ?hq8 ?kq8
    case yq8 => (intro w' hSw; obtain ⟨sD, sR, s0, s1⟩ := hSw; go_simp <;> with_reducible rfl)
    case hq8 => (simp only [Act.put, List.setIfInBounds_toArray, List.set_cons_zero, List.set_cons_succ]; rfl)
    refine rg_take (i := 9) (N := some 68) (v := ?vq9) (a' := ?aq9) #[true, true, true, true, true, true, true, true, true, true, false, false, false, false, false, false, false, false, false, false, false, false, false, false, false, false, false, false, false, false, false, false, false, false, false, false, false, false, false, false] rfl rfl (by kernel_rfl) (fun _ _ _ h => h) (Or.inl ⟨by rfl, ?yq9⟩) hHeld ?hq9 ?kq9
    case yq9 => (intro w' hSw; obtain ⟨sD, sR, s0, s1⟩ := hSw; go_simp <;> with_reducible rfl)
    case hq9 => (simp only [Act.put, List.setIfInBounds_toArray, List.set_cons_zero, List.set_cons_succ]; rfl)
    refine rg_take (i := 10) (N := some 69) (v := ?vq10) (a' := ?aq10) #[true, true, true, true, true, true, true, true, true, true, true, false, false, false, false, false, false, false, false, false, false, false, false, false, false, false, false, false, false, false, false, false, false, false, false, false, false, false, false, false] rfl rfl (by kernel_rfl) (fun _ _ _ h => h) (Or.inl ⟨by rfl, ?yq10⟩) hHeld ?hq10 ?kq10
    case yq10 => (intro w' hSw; obtain ⟨sD, sR, s0, s1⟩ := hSw; go_simp <;> with_reducible rfl)
    case hq10 => (simp only [Act.put, List.setIfInBounds_toArray, List.set_cons_zero, List.set_cons_succ]; rfl)
    refine rg_take (i := 11) (N := some 70) (v := undef) (a' := ?aq11) #[true, true, true, true, true, true, true, true, true, true, true, true, false, false, false, false, false, false, false, false, false, false, false, false, false, false, false, false, false, false, false, false, false, false, false, false, false, false, false, false] rfl rfl (by kernel_rfl) (fun _ _ _ h => h) (Or.inr ⟨by rfl, rfl⟩) hHeld ?hq11 ?kq11
    case hq11 => (simp only [Act.put, List.setIfInBounds_toArray, List.set_cons_zero, List.set_cons_succ]; rfl)
    refine rg_take (i := 12) (N := some 71) (v := undef) (a' := ?aq12) #[true, true, true, true, true, true, true, true, true, true, true, true, true, false, false, false, false, false, false, false, false, false, false, false, false, false, false, false, false, false, false, false, false, false, false, false, false, false, false, false] rfl rfl (by kernel_rfl) (fun _ _ _ h => h) (Or.inr ⟨by rfl, rfl⟩) hHeld ?hq12 ?kq12
    case hq12 => (simp only [Act.put, List.setIfInBounds_toArray, List.set_cons_zero, List.set_cons_succ]; rfl)
    refine rg_take (i := 13) (N := some 72) (v := undef) (a' := ?aq13) #[true, true, true, true, true, true, true, true, true, true, true, true, true, true, false, false, false, false, false, false, false, false, false, false, false, false, false, false, false, false, false, false, false, false, false, false, false, false, false, false] rfl rfl (by kernel_rfl) (fun _ _ _ h => h) (Or.inr ⟨by rfl, rfl⟩) hHeld ?hq13 ?kq13
    case hq13 => (simp only [Act.put, List.setIfInBounds_toArray, List.set_cons_zero, List.set_cons_succ]; rfl)
    refine rg_take (i := 14) (N := some 73) (v := ?vq14) (a' := ?aq14) #[true, true, true, true, true, true, true, true, true, true, true, true, true, true, true, false, false, false, false, false, false, false, false, false, false, false, false, false, false, false, false, false, false, false, false, false, false, false, false, false] rfl rfl (by kernel_rfl) (fun _ _ _ h => h) (Or.inl ⟨by rfl, ?yq14⟩) hHeld ?hq14 ?kq14
    case yq14 => (intro w' hSw; obtain ⟨sD, sR, s0, s1⟩ := hSw; go_simp <;> with_reducible rfl)
    case hq14 => (simp only [Act.put, List.setIfInBounds_toArray, List.set_cons_zero, List.set_cons_succ]; rfl)
    refine rg_take (i := 15) (N := some 74) (v := ?vq15) (a' := ?aq15) #[true, true, true, true, true, true, true, true, true, true, true, true, true, true, true, true, false, false, false, false, false, false, false, false, false, false, false, false, false, false, false, false, false, false, false, false, false, false, false, false] rfl rfl (by kernel_rfl) (fun _ _ _ h => h) (Or.inl ⟨by rfl, ?yq15⟩) hHeld ?hq15 ?kq15
    case yq15 => (intro w' hSw; obtain ⟨sD, sR, s0, s1⟩ := hSw; go_simp <;> with_reducible rfl)
    case hq15 => (simp only [Act.put, List.setIfInBounds_toArray, List.set_cons_zero, List.set_cons_succ]; rfl)
    refine rg_take (i := 16) (N := some 75) (v := ?vq16) (a' := ?aq16) #[true, true, true, true, true, true, true, true, true, true, true, true, true, true, true, true, true, false, false, false, false, false, false, false, false, false, false, false, false, false, false, false, false, false, false, false, false, false, false, false] rfl rfl (by kernel_rfl) (fun _ _ _ h => h) (Or.inl ⟨by rfl, ?yq16⟩) hHeld ?hq16 ?kq16
    case yq16 => (intro w' hSw; obtain ⟨sD, sR, s0, s1⟩ := hSw; go_simp <;> with_reducible rfl)
    case hq16 => (simp only [Act.put, List.setIfInBounds_toArray, List.set_cons_zero, List.set_cons_succ]; rfl)
    refine rg_take (i := 17) (N := some 76) (v := ?vq17) (a' := ?aq17) #[true, true, true, true, true, true, true, true, true, true, true, true, true, true, true, true, true, true, false, false, false, false, false, false, false, false, false, false, false, false, false, false, false, false, false, false, false, false, false, false] rfl rfl (by kernel_rfl) (fun _ _ _ h => h) (Or.inl ⟨by rfl, ?yq17⟩) hHeld ?hq17 ?kq17
    case yq17 => (intro w' hSw; obtain ⟨sD, sR, s0, s1⟩ := hSw; go_simp <;> with_reducible rfl)
    case hq17 => (simp only [Act.put, List.setIfInBounds_toArray, List.set_cons_zero, List.set_cons_succ]; rfl)
    refine rg_take (i := 18) (N := some 77) (v := ?vq18) (a' := ?aq18) #[true, true, true, true, true, true, true, true, true, true, true, true, true, true, true, true, true, true, true, false, false, false, false, false, false, false, false, false, false, false, false, false, false, false, false, false, false, false, false, false] rfl rfl (by kernel_rfl) (fun _ _ _ h => h) (Or.inl ⟨by rfl, ?yq18⟩) hHeld ?hq18 ?kq18
    case yq18 => (intro w' hSw; obtain ⟨sD, sR, s0, s1⟩ := hSw; go_simp <;> with_reducible rfl)
    case hq18 => (simp only [Act.put, List.setIfInBounds_toArray, List.set_cons_zero, List.set_cons_succ]; rfl)
    refine rg_take (i := 19) (N := some 78) (v := ?vq19) (a' := ?aq19) #[true, true, true, true, true, true, true, true, true, true, true, true, true, true, true, true, true, true, true, true, false, false, false, false, false, false, false, false, false, false, false, false, false, false, false, false, false, false, false, false] rfl rfl (by kernel_rfl) (fun _ _ _ h => h) (Or.inl ⟨by rfl, ?yq19⟩) hHeld ?hq19 ?kq19
    case yq19 => (intro w' hSw; obtain ⟨sD, sR, s0, s1⟩ := hSw; go_simp <;> with_reducible rfl)
    case hq19 => (simp only [Act.put, List.setIfInBounds_toArray, List.set_cons_zero, List.set_cons_succ]; rfl)
    refine rg_one (i := 20) (N := some 79) #[true, true, true, true, true, true, true, true, true, true, true, true, true, true, true, true, true, true, true, true, true, false, false, false, false, false, false, false, false, false, false, false, false, false, false, false, false, false, false, false] rfl rfl (by kernel_rfl) (fun K hK => ?_)
    obtain ⟨sD, sR, s0, s1⟩ := hHeld
    refine rg_call Try.func25 (by kernel_rfl) rfl #[Value.pointer (some ⟨g, 0, none⟩)] (by rfl) rfl rfl (by simp only [List.map_toArray, List.map_cons, List.map_nil]; rfl) ?_
    with_reducible refine (samples_any sD.A hla).mono ?_
    rintro e w1 ⟨x10, c10, rfl, -, hB⟩
    refine ⟨_, rfl, ?_⟩
    refine hK.out _ _ (db_S (sD.below hB) (row_below sR hB)) (fun hHeld => ?_)
    clear hK K
    refine rg_norm (a' := ?aq20) ?hq20 ?kq20
    case hq20 => (simp only [Act.put, List.setIfInBounds_toArray, List.set_cons_zero, List.set_cons_succ]; rfl)
    refine rg_take (i := 21) (N := some 80) (v := ?vq21) (a' := ?aq21) #[true, true, true, true, true, true, true, true, true, true, true, true, true, true, true, true, true, true, true, true, true, true, false, false, false, false, false, false, false, false, false, false, false, false, false, false, false, false, false, false] rfl rfl (by kernel_rfl) (fun _ _ _ h => h) (Or.inl ⟨by rfl, ?yq21⟩) hHeld ?hq21 ?kq21
    case yq21 => (intro w' hSw; obtain ⟨sD, sR, s0, s1⟩ := hSw; go_simp <;> with_reducible rfl)
    case hq21 => (simp only [Act.put, List.setIfInBounds_toArray, List.set_cons_zero, List.set_cons_succ]; rfl)
    refine rg_take (i := 22) (N := some 81) (v := ?vq22) (a' := ?aq22) #[true, true, true, true, true, true, true, true, true, true, true, true, true, true, true, true, true, true, true, true, true, true, true, false, false, false, false, false, false, false, false, false, false, false, false, false, false, false, false, false] rfl rfl (by kernel_rfl) (fun _ _ _ h => h) (Or.inl ⟨by rfl, ?yq22⟩) hHeld ?hq22 ?kq22
    case yq22 => (intro w' hSw; obtain ⟨sD, sR, s0, s1⟩ := hSw; go_simp <;> with_reducible rfl)
    case hq22 => (simp only [Act.put, List.setIfInBounds_toArray, List.set_cons_zero, List.set_cons_succ]; rfl)
    refine rg_take (i := 23) (N := some 82) (v := ?vq23) (a' := ?aq23) #[true, true, true, true, true, true, true, true, true, true, true, true, true, true, true, true, true, true, true, true, true, true, true, true, false, false, false, false, false, false, false, false, false, false, false, false, false, false, false, false] rfl rfl (by kernel_rfl) (fun _ _ _ h => h) (Or.inl ⟨by rfl, ?yq23⟩) hHeld ?hq23 ?kq23
    case yq23 => (intro w' hSw; obtain ⟨sD, sR, s0, s1⟩ := hSw; go_simp <;> with_reducible rfl)
    case hq23 => (simp only [Act.put, List.setIfInBounds_toArray, List.set_cons_zero, List.set_cons_succ]; rfl)
    refine rg_take (i := 24) (N := some 83) (v := ?vq24) (a' := ?aq24) #[true, true, true, true, true, true, true, true, true, true, true, true, true, true, true, true, true, true, true, true, true, true, true, true, true, false, false, false, false, false, false, false, false, false, false, false, false, false, false, false] rfl rfl (by kernel_rfl) (fun _ _ _ h => h) (Or.inl ⟨by rfl, ?yq24⟩) hHeld ?hq24 ?kq24
    case yq24 => (intro w' hSw; obtain ⟨sD, sR, s0, s1⟩ := hSw; go_simp <;> with_reducible rfl)
    case hq24 => (simp only [Act.put, List.setIfInBounds_toArray, List.set_cons_zero, List.set_cons_succ]; rfl)
    refine rg_take (i := 25) (N := some 84) (v := ?vq25) (a' := ?aq25) #[true, true, true, true, true, true, true, true, true, true, true, true, true, true, true, true, true, true, true, true, true, true, true, true, true, true, false, false, false, false, false, false, false, false, false, false, false, false, false, false] rfl rfl (by kernel_rfl) (fun _ _ _ h => h) (Or.inl ⟨by rfl, ?yq25⟩) hHeld ?hq25 ?kq25
    case yq25 => (intro w' hSw; obtain ⟨sD, sR, s0, s1⟩ := hSw; go_simp <;> with_reducible rfl)
    case hq25 => (simp only [Act.put, List.setIfInBounds_toArray, List.set_cons_zero, List.set_cons_succ]; rfl)
    refine rg_take (i := 26) (N := some 85) (v := ?vq26) (a' := ?aq26) #[true, true, true, true, true, true, true, true, true, true, true, true, true, true, true, true, true, true, true, true, true, true, true, true, true, true, true, false, false, false, false, false, false, false, false, false, false, false, false, false] rfl rfl (by kernel_rfl) (fun _ _ _ h => h) (Or.inl ⟨by rfl, ?yq26⟩) hHeld ?hq26 ?kq26
    case yq26 => (intro w' hSw; obtain ⟨sD, sR, s0, s1⟩ := hSw; go_simp <;> with_reducible rfl)
    case hq26 => (simp only [Act.put, List.setIfInBounds_toArray, List.set_cons_zero, List.set_cons_succ]; rfl)
    refine rg_take (i := 27) (N := some 86) (v := ?vq27) (a' := ?aq27) #[true, true, true, true, true, true, true, true, true, true, true, true, true, true, true, true, true, true, true, true, true, true, true, true, true, true, true, true, false, false, false, false, false, false, false, false, false, false, false, false] rfl rfl (by kernel_rfl) (fun _ _ _ h => h) (Or.inl ⟨by rfl, ?yq27⟩) hHeld ?hq27 ?kq27
    case yq27 => (intro w' hSw; obtain ⟨sD, sR, s0, s1⟩ := hSw; go_simp <;> with_reducible rfl)
    case hq27 => (simp only [Act.put, List.setIfInBounds_toArray, List.set_cons_zero, List.set_cons_succ]; rfl)
    refine rg_take (i := 28) (N := some 87) (v := ?vq28) (a' := ?aq28) #[true, true, true, true, true, true, true, true, true, true, true, true, true, true, true, true, true, true, true, true, true, true, true, true, true, true, true, true, true, false, false, false, false, false, false, false, false, false, false, false] rfl rfl (by kernel_rfl) (fun _ _ _ h => h) (Or.inl ⟨by rfl, ?yq28⟩) hHeld ?hq28 ?kq28
    case yq28 => (intro w' hSw; obtain ⟨sD, sR, s0, s1⟩ := hSw; go_simp <;> with_reducible rfl)
    case hq28 => (simp only [Act.put, List.setIfInBounds_toArray, List.set_cons_zero, List.set_cons_succ]; rfl)
    refine rg_take (i := 29) (N := some 88) (v := ?vq29) (a' := ?aq29) #[true, true, true, true, true, true, true, true, true, true, true, true, true, true, true, true, true, true, true, true, true, true, true, true, true, true, true, true, true, true, false, false, false, false, false, false, false, false, false, false] rfl rfl (by kernel_rfl) (fun _ _ _ h => h) (Or.inl ⟨by rfl, ?yq29⟩) hHeld ?hq29 ?kq29
    case yq29 => (intro w' hSw; obtain ⟨sD, sR, s0, s1⟩ := hSw; go_simp <;> with_reducible rfl)
    case hq29 => (simp only [Act.put, List.setIfInBounds_toArray, List.set_cons_zero, List.set_cons_succ]; rfl)
    refine rg_one (i := 30) (N := some 89) #[true, true, true, true, true, true, true, true, true, true, true, true, true, true, true, true, true, true, true, true, true, true, true, true, true, true, true, true, true, true, true, false, false, false, false, false, false, false, false, false] rfl rfl (by kernel_rfl) (fun K hK => ?_)
    obtain ⟨sD, sR, s0, s1⟩ := hHeld
    refine rg_call Try.func50 (by kernel_rfl) rfl #[Value.pointer (some ⟨g, 0, none⟩), Value.pointer (some ⟨g', 0, none⟩)] (by rfl) rfl rfl (by simp only [List.map_toArray, List.map_cons, List.map_nil]; rfl) ?_
    with_reducible refine (HSAME.out _ sD _ HSB2.out).mono ?_
    rintro e w1 ⟨rfl, m11, rfl⟩
    refine ⟨_, rfl, ?_⟩
    refine hK.out _ _ (db_S (sD.below (Below.drewN m11)) (row_below sR (Below.drewN m11))) (fun hHeld => ?_)
    clear hK K
    refine rg_norm (a' := ?aq30) ?hq30 ?kq30
    case hq30 => (simp only [Act.put, List.setIfInBounds_toArray, List.set_cons_zero, List.set_cons_succ]; rfl)
    refine rg_take (i := 31) (N := some 90) (v := .bool true) (a' := ?aq31) #[true, true, true, true, true, true, true, true, true, true, true, true, true, true, true, true, true, true, true, true, true, true, true, true, true, true, true, true, true, true, true, true, false, false, false, false, false, false, false, false] rfl rfl (by kernel_rfl) (fun _ _ _ h => h) (Or.inl ⟨by rfl, ?yq31⟩) hHeld ?hq31 ?kq31
    case yq31 => (intro w' hSw; obtain ⟨sD, sR, s0, s1⟩ := hSw; go_simp <;> simpa using hzs)
    case hq31 => (simp only [Act.put, List.setIfInBounds_toArray, List.set_cons_zero, List.set_cons_succ]; rfl)
    refine rg_take (i := 32) (N := some 91) (v := ?vq32) (a' := ?aq32) #[true, true, true, true, true, true, true, true, true, true, true, true, true, true, true, true, true, true, true, true, true, true, true, true, true, true, true, true, true, true, true, true, true, false, false, false, false, false, false, false] rfl rfl (by kernel_rfl) (fun _ _ _ h => h) (Or.inl ⟨by rfl, ?yq32⟩) hHeld ?hq32 ?kq32
    case yq32 => (intro w' hSw; obtain ⟨sD, sR, s0, s1⟩ := hSw; go_simp <;> with_reducible rfl)
    case hq32 => (simp only [Act.put, List.setIfInBounds_toArray, List.set_cons_zero, List.set_cons_succ]; rfl)
    refine rg_take (i := 33) (N := some 92) (v := ?vq33) (a' := ?aq33) #[true, true, true, true, true, true, true, true, true, true, true, true, true, true, true, true, true, true, true, true, true, true, true, true, true, true, true, true, true, true, true, true, true, true, false, false, false, false, false, false] rfl rfl (by kernel_rfl) (fun _ _ _ h => h) (Or.inl ⟨by rfl, ?yq33⟩) hHeld ?hq33 ?kq33
    case yq33 => (intro w' hSw; obtain ⟨sD, sR, s0, s1⟩ := hSw; go_simp <;> with_reducible rfl)
    case hq33 => (simp only [Act.put, List.setIfInBounds_toArray, List.set_cons_zero, List.set_cons_succ]; rfl)
    refine rg_take (i := 35) (N := some 94) (v := ?vq35) (a' := ?aq35) #[true, true, true, true, true, true, true, true, true, true, true, true, true, true, true, true, true, true, true, true, true, true, true, true, true, true, true, true, true, true, true, true, true, true, false, true, false, false, false, false] rfl rfl (by kernel_rfl) (fun _ _ _ h => h) (Or.inl ⟨by rfl, ?yq35⟩) hHeld ?hq35 ?kq35
    case yq35 => (intro w' hSw; obtain ⟨sD, sR, s0, s1⟩ := hSw; go_simp <;> with_reducible rfl)
    case hq35 => (simp only [Act.put, List.setIfInBounds_toArray, List.set_cons_zero, List.set_cons_succ]; rfl)
    refine rg_one (i := 34) (N := some 93) #[true, true, true, true, true, true, true, true, true, true, true, true, true, true, true, true, true, true, true, true, true, true, true, true, true, true, true, true, true, true, true, true, true, true, true, true, false, false, false, false] rfl rfl (by kernel_rfl) (fun K hK => ?_)
    obtain ⟨sD, sR, s0, s1⟩ := hHeld
    refine rg_call Try.func29 (by kernel_rfl) rfl #[Value.pointer (some ⟨g, 0, none⟩)] (by rfl) rfl rfl (by simp only [List.map_toArray, List.map_cons, List.map_nil]; rfl) ?_
    with_reducible refine (most_any sD.A).mono ?_
    rintro e w1 ⟨rfl, rfl⟩
    refine ⟨_, rfl, ?_⟩
    refine hK.out _ _ ⟨sD, sR, s0, s1⟩ (fun hHeld => ?_)
    clear hK K
    refine rg_norm (a' := ?aq34) ?hq34 ?kq34
    case hq34 => (simp only [Act.put, List.setIfInBounds_toArray, List.set_cons_zero, List.set_cons_succ]; rfl)
    refine rg_one (i := 36) (N := some 95) #[true, true, true, true, true, true, true, true, true, true, true, true, true, true, true, true, true, true, true, true, true, true, true, true, true, true, true, true, true, true, true, true, true, true, true, true, true, false, false, false] rfl rfl (by kernel_rfl) (fun K hK => ?_)
    obtain ⟨sD, sR, s0, s1⟩ := hHeld
    refine rg_call Try.func29 (by kernel_rfl) rfl #[Value.pointer (some ⟨g', 0, none⟩)] (by rfl) rfl rfl (by simp only [List.map_toArray, List.map_cons, List.map_nil]; rfl) ?_
    with_reducible refine (most_any sD.B).mono ?_
    rintro e w1 ⟨rfl, rfl⟩
    refine ⟨_, rfl, ?_⟩
    refine hK.out _ _ ⟨sD, sR, s0, s1⟩ (fun hHeld => ?_)
    clear hK K
    refine rg_norm (a' := ?aq36) ?hq36 ?kq36
    case hq36 => (simp only [Act.put, List.setIfInBounds_toArray, List.set_cons_zero, List.set_cons_succ]; rfl)
    refine rg_take (i := 37) (N := some 96) (v := ?vq37) (a' := ?aq37) #[true, true, true, true, true, true, true, true, true, true, true, true, true, true, true, true, true, true, true, true, true, true, true, true, true, true, true, true, true, true, true, true, true, true, true, true, true, true, false, false] rfl rfl (by kernel_rfl) (fun _ _ _ h => h) (Or.inl ⟨by rfl, ?yq37⟩) hHeld ?hq37 ?kq37
    case yq37 => (intro w' hSw; obtain ⟨sD, sR, s0, s1⟩ := hSw; go_simp <;> with_reducible rfl)
    case hq37 => (simp only [Act.put, List.setIfInBounds_toArray, List.set_cons_zero, List.set_cons_succ]; rfl)
    refine rg_take (i := 38) (N := some 97) (v := ?vq38) (a' := ?aq38) #[true, true, true, true, true, true, true, true, true, true, true, true, true, true, true, true, true, true, true, true, true, true, true, true, true, true, true, true, true, true, true, true, true, true, true, true, true, true, true, false] rfl rfl (by kernel_rfl) (fun _ _ _ h => h) (Or.inl ⟨by rfl, ?yq38⟩) hHeld ?hq38 ?kq38
    case yq38 => (intro w' hSw; obtain ⟨sD, sR, s0, s1⟩ := hSw; go_simp <;> with_reducible rfl)
    case hq38 => (simp only [Act.put, List.setIfInBounds_toArray, List.set_cons_zero, List.set_cons_succ]; rfl)
    refine rg_take (i := 39) (N := some 98) (v := ?vq39) (a' := ?aq39) #[true, true, true, true, true, true, true, true, true, true, true, true, true, true, true, true, true, true, true, true, true, true, true, true, true, true, true, true, true, true, true, true, true, true, true, true, true, true, true, true] rfl rfl (by kernel_rfl) (fun _ _ _ h => h) (Or.inl ⟨by rfl, ?yq39⟩) hHeld ?hq39 ?kq39
    case yq39 => (intro w' hSw; obtain ⟨sD, sR, s0, s1⟩ := hSw; go_simp <;> with_reducible rfl)
    case hq39 => (simp only [Act.put, List.setIfInBounds_toArray, List.set_cons_zero, List.set_cons_succ]; rfl)
    refine rg_done (by kernel_rfl) ?_
    obtain ⟨sD, sR, -, -⟩ := hHeld
    obtain ⟨⟨t1, t2, t3, t4, t5, t6, t7⟩, -⟩ := row7 sR
    go_wp2_with fail
    go_ret
    exact ⟨ret_bool (by simp), sD.bel⟩
end Go.Proofs.Ytnpkkcbgfnnfmaa
