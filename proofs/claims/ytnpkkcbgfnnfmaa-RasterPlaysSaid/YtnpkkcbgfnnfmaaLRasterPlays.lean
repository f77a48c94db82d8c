import Derived.Test.YtnpkkcbgfnnfmaaSb
import Derived.Test.YtnpkkcbgfnnfmaaReg
import Derived.Deep.Slices
import Derived.Deep.RegionWith
import Derived.Deep.QuietTactic
import Derived.BigQuiet
/- The law RasterPlays: its walk. (The drawn regions' moves are printed by wip/mkrp.py.) -/
namespace Go.Proofs.Ytnpkkcbgfnnfmaa
open Go.RowKit
set_option linter.unusedVariables false
set_option linter.unusedSimpArgs false
set_option maxRecDepth 100000

theorem add_lit1 (x : Addr) (i j : Nat) : x.add (i + (j + 1)) = ⟨(x.add i).block, (x.add i).off + (j + 1), none⟩ := by
  rw [← Go.Deep.add_add]
  rfl
theorem rdA_form {w : World} {v : Value} {al : List ActI} (h : RdA w v al) : ∃ x c, v = .slice x al.length c ∧ al.length ≤ maxLen ∧ ∀ j, j < al.length → ∃ (a : ActI) (xa : Addr), x = some xa ∧ (0 ≤ a.v ∧ a.v ≤ 65535) ∧
    w.cell? (xa.add (j * 4)) = some (.int .i64 a.x) ∧ w.cell? (xa.add (j * 4 + 1)) = some (.int .i64 a.y) ∧ w.cell? (xa.add (j * 4 + 2)) = some (.int .i64 a.c) ∧ w.cell? (xa.add (j * 4 + 3)) = some (.int .u16 a.v) := by
  obtain ⟨hl, h⟩ := h
  rcases h with ⟨rfl, rfl⟩ | ⟨x, c, rfl, h⟩
  · exact ⟨none, 0, rfl, hl, fun j hj => by simp at hj⟩
  · exact ⟨some x, c, rfl, hl, fun j hj => ⟨al[j], x, rfl, h j _ (List.getElem?_eq_getElem hj)⟩⟩

theorem row_natP {w : World} {g b : Nat} {W H C M : Int} {xs : List Int} (h : ImgR w g b W H C M xs) (hv : codeR W H C M = 0) (hl : (xs.length : Int) = W * H * C) {n y : Nat} (hn : W * C = n) (hy : (y : Int) < H) :
    Calls Try.prog 48 #[.pointer (some ⟨g, 0, none⟩), .int .i64 y] w fun e w' => ∃ x c, e = .returned (.slice x n c) ∧ Own w' w.heap.size 31 .u16 (.slice x n c) ((xs.drop (y * n)).take n) ∧ Below w.heap.size w w' := by
  have := row_in h hv hl y (by omega) hy
  rw [hn, ← Int.natCast_mul, Int.toNat_natCast, Int.toNat_natCast] at this
  exact this
theorem rp_S {w' : World} {ba bx q c n : Nat} {a : ActI} {X Y K T : Int} (hA : w'.heap[ba]? = some (.cells #[.int .i64 a.x, .int .i64 a.y, .int .i64 a.c, .int .u16 a.v] 92 (0, 0))) (hB : w'.heap[bx]? = some (.cells #[.int .i64 X, .int .i64 Y, .int .i64 K, .int .i64 T, .slice (some ⟨q, 0, none⟩) n c] 87 (0, 0))) :
    w'.heap[ba]? = some (.cells #[.int .i64 a.x, .int .i64 a.y, .int .i64 a.c, .int .u16 a.v] 92 (0, 0)) ∧ w'.heap[bx]? = some (.cells #[.int .i64 X, .int .i64 Y, .int .i64 K, .int .i64 T, .slice (some ⟨q, 0, none⟩) n c] 87 (0, 0)) ∧
    (w'.cell? ⟨ba, 0, none⟩ = some (.int .i64 a.x) ∧ w'.cell? ⟨ba, 1, none⟩ = some (.int .i64 a.y) ∧ w'.cell? ⟨ba, 2, none⟩ = some (.int .i64 a.c) ∧ w'.cell? ⟨ba, 3, none⟩ = some (.int .u16 a.v)) ∧
    (w'.cell? ⟨bx, 0, none⟩ = some (.int .i64 X) ∧ w'.cell? ⟨bx, 1, none⟩ = some (.int .i64 Y) ∧ w'.cell? ⟨bx, 2, none⟩ = some (.int .i64 K) ∧ w'.cell? ⟨bx, 3, none⟩ = some (.int .i64 T) ∧ w'.cell? ⟨bx, 4, none⟩ = some (.slice (some ⟨q, 0, none⟩) n c)) :=
  ⟨hA, hB, row4v hA, (row5v hB).1⟩
theorem eqv {X Y K T : Int} {x x' : Option Addr} {n n' c c' : Nat} {xs ys : List Int} {w : World} (h : Rd w .u16 (.slice x n c) xs) (h' : Rd w .u16 (.slice x' n' c') ys) {sb : Bool} (hsb : sb = decide (xs = ys)) :
    Calls Try.prog 68 #[imgV X Y K T (.slice x n c), imgV X Y K T (.slice x' n' c')] w fun e w' => e = .returned (.bool sb) ∧ Below w.heap.size w w' :=
  (equalV_any X Y K T X Y K T x x' n n' c c' xs ys w h h').mono fun e w' he => ⟨he.1.trans (ret_bool (by rw [hsb]; simp)), he.2⟩
theorem same_sb2 {w : World} {g b g' b' : Nat} {X Y K T : Int} {xs ys : List Int} (h : ImgR w g b X Y K T xs) (h' : ImgR w g' b' X Y K T ys) {sb : Bool} (hsb : sb = decide (xs = ys)) :
    Calls Try.prog 50 #[.pointer (some ⟨g, 0, none⟩), .pointer (some ⟨g', 0, none⟩)] w fun e w' => e = .returned (.bool sb) ∧ ∃ m, w' = w.drewN m :=
  (same_any h h').mono fun e w'' he => ⟨he.1.trans (ret_bool (by rw [hsb]; simp)), he.2⟩

set_option maxHeartbeats 8000000 in
theorem rasterPlays_walk (a0 a1 a2 a3 : Int) (v4 : Value) (xs4 : List Int) (v5 : Value) (al : List ActI) (w : World) (w0 : (Lit.int .u16 a0).wf = true) (w1 : (Lit.int .u16 a1).wf = true) (w2 : (Lit.int .u16 a2).wf = true) (w3 : (Lit.int .u16 a3).wf = true)
    (rd : Rd w .u16 v4 xs4) (wf : ∀ x ∈ xs4, (Lit.int .u16 x).wf = true) (sz : xs4.length * 2 ≤ 140737488351232) (ra : RdA w v5 al) :
    Calls Try.prog 15 #[.int .u16 a0, .int .u16 a1, .int .u16 a2, .int .u16 a3, v4, v5] w fun e w' => e = .returned (.bool true) ∧ Below w.heap.size w w' := by
  have HD := fun w' (h : Rd w' .u16 v4 xs4) => draw_small a0 a1 a2 a3 v4 xs4 w' (of_wf_u16 w0) (of_wf_u16 w1) (of_wf_u16 w2) (of_wf_u16 w3) h (fun x hx => of_wf_u16 (wf x hx)) sz
  have HDH := Lib.hid HD
  have HR := Lib.hid rd
  obtain ⟨x, c, rfl, _⟩ := rd.form
  obtain ⟨x5, c5, rfl, hml, hact⟩ := rdA_form ra
  obtain ⟨m, hm⟩ : ∃ m, al.length = m := ⟨_, rfl⟩
  rw [hm] at hact hml ⊢
  have HACT := Lib.hid hact
  clear HD rd wf sz w0 w1 w2 w3 ra hact hm
  by_cases hm30 : 30 < m
  · have hd : decide (30 < (m : Int)) = true := decide_eq_true (by omega)
    go_enter Try.func15, Try.ntmps15
    go_wp2_with fail
    refine (lives09_any _).mono ?_
    rintro e wl ⟨rfl, hB1⟩
    go_wp2_with fail
    refine (lives09_any _).mono ?_
    rintro e wl2 ⟨rfl, hB2⟩
    go_wp2_with fail
    go_ret
    exact ⟨rfl, hB1.trans (hB2.mono hB1.size)⟩
  · have hd : decide (30 < (m : Int)) = false := decide_eq_false (by omega)
    go_enter Try.func15, Try.ntmps15
    go_wp2_with fail
    refine (lives09_any _).mono ?_
    rintro e wl ⟨rfl, hB1⟩
    have HB1 := Lib.hid hB1
    clear hB1
    go_wp2_with fail
    refine (HDH.out _ (HR.out.below HB1.out)).mono ?_
    rintro e wd ⟨g, r, X, Y, K, T, xs, rfl, hg, hr, hi, hs, -, hB2⟩
    have HI := Lib.hid hi
    have HB2 := Lib.hid (HB1.out.trans (hB2.mono HB1.out.size))
    have HS := Lib.hid hs
    have hwr : w.heap.size ≤ r := Nat.le_trans HB1.out.size hr
    have hgw := hi.lt_g
    have hrw := hi.lt_b
    obtain ⟨s1, s2, hK, s3, s4, s5, s6, s7, s8, s9, s10⟩ := hs.bd
    obtain ⟨n, hn⟩ : ∃ n, xs.length = n := ⟨_, rfl⟩
    have HN := Lib.hid hn
    have n1 : 1 ≤ n := by omega
    have n2 : n ≤ 1200 := by omega
    have HNE := Lib.hid (by intro h; rw [h] at s9; simp at s9 : xs ≠ [])
    clear hi hB2 hs hg hr hn s9 s10
    go_wp2_with (go_at_call 63; refine (ref_any HI.out (by rw [HN.out]; omega)).mono ?_; rw [HN.out]; rintro e wf ⟨xq, cr, rfl, ho, hB⟩; obtain ⟨q, rfl, hq0, hq1⟩ := ho.at_ HNE.out; have HQ := Lib.hid ho.rd; have HIF := Lib.hid (HI.out.below hB); have HBF := Lib.hid (HB2.out.trans (hB.mono HB2.out.size)); have hsz := hB.size; clear hB ho)
    have hb1 := bel1' wf (.cells #[.int .i64 X, .int .i64 Y, .int .i64 K, .int .i64 T, .slice (some ⟨q, 0, none⟩) n cr] 87)
    have hbw := HBF.out.size
    refine (copy_any (HIF.out.below hb1) HNE.out (by rw [HN.out]; omega)).mono ?_
    rintro e wc ⟨g1, r1, rfl, hg1, hr1, hi1, hBc⟩
    have hsz1 : (wf.alloc (.cells #[.int .i64 X, .int .i64 Y, .int .i64 K, .int .i64 T, .slice (some ⟨q, 0, none⟩) n cr] 87)).heap.size = wf.heap.size + 1 := by simp
    have hszc := hBc.size
    rw [hsz1] at hg1 hr1 hszc
    have hPS : PS w wc g r wf.heap.size g1 r1 q n cr X Y K T xs xs xs :=
      ⟨(HIF.out.below hb1).below hBc, hi1, row_below (heap_alloc_new wf _) hBc, (HQ.out.below hb1).below hBc, by omega, by omega, by omega, by omega, by omega, by omega, by omega, by omega, by omega, (HBF.out.trans (hb1.mono HBF.out.size)).trans (hBc.mono (by omega)), hwr, by omega⟩
    have HP0 := Lib.hid hPS
    obtain ⟨bx, hbx⟩ : ∃ bx, wf.heap.size = bx := ⟨_, rfl⟩
    rw [hbx] at HP0 hq1 hg1 hr1 ⊢
    clear hPS hi1 hBc hb1 hsz1 hszc hbw hgw hrw hwr hsz hbx hq0 HIF HBF HQ HI HB2 HDH HB1 hd
    go_wp2_with fail
    go_loopw [45] (fun i wr => ∃ (k : Nat) (xm : List Int) (q cr : Nat), k ≤ m ∧ i = .int .i64 k ∧ Hid (PS w wr g r bx g1 r1 q n cr X Y K T xm xm xs) ∧ Hid (Small X Y K T xm)) (fun i _ => m - (intOf i).toNat)
    case atStart => exact ⟨0, xs, q, cr, by omega, rfl, HP0, HS⟩
    case round =>
      obtain ⟨k, xm, q', cr', hk, rfl, HP, HSM⟩ := hrel
      by_cases hlt : k < m
      · obtain ⟨a, xa, hx5, hv, c0, c1, c2, c3⟩ := HACT.out k hlt
        subst hx5
        obtain ⟨v0, v1⟩ := hv
        have hbel := HP.out.bel
        have e0 := (hbel.cell (block_lt_of_cell c0)).trans c0
        have e1 := (hbel.cell (block_lt_of_cell c1)).trans c1
        have e2 := (hbel.cell (block_lt_of_cell c2)).trans c2
        have e3 := (hbel.cell (block_lt_of_cell c3)).trans c3
        rw [add_lit1 xa (k * 4) 0] at e1
        rw [add_lit1 xa (k * 4) 1] at e2
        rw [add_lit1 xa (k * 4) 2] at e3
        simp only [Nat.zero_add, Nat.reduceAdd] at e1 e2 e3
        clear c0 c1 c2 c3 hbel
        obtain ⟨ok, hok⟩ : ∃ ok, okB X Y K T a.x a.y a.c a.v = ok := ⟨_, rfl⟩
        obtain ⟨xm', hxm⟩ : ∃ xm', setL X Y K T xm a.x a.y a.c a.v = xm' := ⟨_, rfl⟩
        have HS2 := Lib.hid (HSM.out.setL (x := a.x) (y := a.y) (c := a.c) (v := a.v) v0)
        rw [hxm] at HS2
        have HRS := Lib.hid fun w' (q1 c1 : Nat) (h : Rd w' .u16 (.slice (some ⟨q1, 0, none⟩) n c1) xm) (hq : q1 < w'.heap.size) => refSet_any h HSM.out hq a.x a.y a.c a.v v0 v1
        have HMS := Lib.hid fun w' (h : ImgR w' g r X Y K T xm) => mset_any h HSM.out a.x a.y a.c a.v v0 v1
        rw [hok, hxm] at HRS HMS
        clear hok hxm
        have cb := fun o => (row5v (row_alloc HP.out.B o)).1
        go_wp2_with fail
        clear cb e0 e1 e2 e3
        have HPA := Lib.hid (HP.out.below (bel1' wr (.cells #[.int .i64 a.x, .int .i64 a.y, .int .i64 a.c, .int .u16 a.v] 92)))
        refine (HRS.out _ _ _ HPA.out.R HPA.out.ql).mono ?_
        rintro e w2 ⟨q2, c2, rfl, hq2, hq3, hR2, hB2⟩
        have hA2 := row_below (heap_alloc_new wr (.cells #[.int .i64 a.x, .int .i64 a.y, .int .i64 a.c, .int .u16 a.v] 92)) hB2
        have hrlt := HP.out.M.lt_b
        have hbxl : bx < wr.heap.size := (Array.getElem?_eq_some_iff.1 HP.out.B).1
        have hqr : q2 ≠ r := by
          rcases hq2 with rfl | hq2
          · exact HP.out.qr
          · simp at hq2; omega
        have hqb : q2 ≠ bx := by
          rcases hq2 with rfl | hq2
          · exact HP.out.qb
          · simp at hq2; omega
        have HP3 := Lib.hid ((HPA.out.below hB2).below (bel1' w2 (.cells #[.int .i64 X, .int .i64 Y, .int .i64 K, .int .i64 T, .slice (some ⟨q2, 0, none⟩) n c2] 87)))
        have hA3 := row_alloc hA2 (.cells #[.int .i64 X, .int .i64 Y, .int .i64 K, .int .i64 T, .slice (some ⟨q2, 0, none⟩) n c2] 87)
        have hR3 := hR2.below (bel1' w2 (.cells #[.int .i64 X, .int .i64 Y, .int .i64 K, .int .i64 T, .slice (some ⟨q2, 0, none⟩) n c2] 87))
        obtain ⟨⟨t0, t1, t2, t3, t4⟩, -⟩ := row5v (heap_alloc_new w2 (.cells #[.int .i64 X, .int .i64 Y, .int .i64 K, .int .i64 T, .slice (some ⟨q2, 0, none⟩) n c2] 87))
        obtain ⟨⟨d0, d1, d2, d3, d4⟩, f0, f1, f2, f3, f4⟩ := row5v HP3.out.B
        have HPS4 := Lib.hid (fun w4 hw => HP3.out.setBox (w' := w4) hR3 hqr hqb (by simp; omega) hw)
        have HA3 := Lib.hid hA3
        clear hA2 hA3 hR2 hR3 hB2 hq2 hq3 hqr hqb HPA HRS
        go_wp2_with fail
        obtain ⟨w4, hw4⟩ : ∃ w4, ((((((w2.alloc (.cells #[.int .i64 X, .int .i64 Y, .int .i64 K, .int .i64 T, .slice (some ⟨q2, 0, none⟩) n c2] 87)).setCell ⟨bx, 0, none⟩ (.int .i64 X)).setCell ⟨bx, 1, none⟩ (.int .i64 Y)).setCell ⟨bx, 2, none⟩ (.int .i64 K)).setCell ⟨bx, 3, none⟩ (.int .i64 T)).setCell ⟨bx, 4, none⟩ (.slice (some ⟨q2, 0, none⟩) n c2)) = w4 := ⟨_, rfl⟩
        have HP4 := Lib.hid (HPS4.out w4 hw4)
        have hA4 : w4.heap[wr.heap.size]? = some (.cells #[.int .i64 a.x, .int .i64 a.y, .int .i64 a.c, .int .u16 a.v] 92 (0, 0)) := by rw [← hw4]; exact (far_set5v (show wr.heap.size ≠ bx by omega) _ _ _ _ _).trans HA3.out
        rw [hw4]
        clear hw4 t0 t1 t2 t3 t4 d0 d1 d2 d3 d4 f0 f1 f2 f3 f4 HPS4 HP3 HA3
        have hml4 := HSM.out.bd
        refine (copy_any HP4.out.M HSM.out.ne (by omega)).mono ?_
        rintro e w5 ⟨g2, r2, rfl, hg2, hr2, hi2, hB5⟩
        have hr4 := HP4.out.M.lt_b
        obtain ⟨ba, hba⟩ : ∃ ba, wr.heap.size = ba := ⟨_, rfl⟩
        rw [hba] at hA4 hrlt ⊢
        have HT5 := Lib.hid (PT.mk (HP4.out.below hB5) (row_below hA4 hB5) (by omega) hi2 (by omega) (by omega))
        clear hA4 hg2 hr2 hi2 hB5 hr4 hba hrlt hbxl HP4 HP hml4
        go_wp2_with fail
        obtain ⟨u, hu⟩ : ∃ u, atV X Y K xm' a.x a.y a.c = u := ⟨_, rfl⟩
        have HAT := Lib.hid fun w' (h : ImgR w' g r X Y K T xm') => at_any h HS2.out a.x a.y a.c
        have HRA := Lib.hid fun w' (q1 c1 : Nat) (h : Rd w' .u16 (.slice (some ⟨q1, 0, none⟩) n c1) xm') => refAt_any h HS2.out a.x a.y a.c
        rw [hu] at HAT HRA
        have hl1 : xm.length = n := by have := HS.out.len; have := HSM.out.len; have := HN.out; omega
        have hl2 : xm'.length = n := by have := HS2.out.len; have := HSM.out.len; omega
        have HREF := Lib.hid fun w' (h : ImgR w' g r X Y K T xm') => ref_any h (by omega)
        have HREK := Lib.hid fun w' (h : ImgR w' g2 r2 X Y K T xm) => ref_any h (by omega)
        rw [hl2] at HREF
        rw [hl1] at HREK
        have HL1 := Lib.hid hl1
        obtain ⟨sb, hsb⟩ : ∃ sb, sb = decide (xm' = xm) := ⟨_, rfl⟩
        have HSB := Lib.hid hsb
        have HSB' : Hid (sb = decide (xm = xm')) := Lib.hid (by rw [hsb, decide_eq_decide]; exact eq_comm)
        clear hu hl1 hl2 hsb
        have HT5d := Lib.hid (HT5.out.below (Below.drew (Below.refl _ _)))
        refine rg_start (n := 38) (S := fun w' => w'.heap[ba]? = some (.cells #[.int .i64 a.x, .int .i64 a.y, .int .i64 a.c, .int .u16 a.v] 92 (0, 0)) ∧ w'.heap[bx]? = some (.cells #[.int .i64 X, .int .i64 Y, .int .i64 K, .int .i64 T, .slice (some ⟨q2, 0, none⟩) n c2] 87 (0, 0)) ∧ (w'.cell? ⟨ba, 0, none⟩ = some (.int .i64 a.x) ∧ w'.cell? ⟨ba, 1, none⟩ = some (.int .i64 a.y) ∧ w'.cell? ⟨ba, 2, none⟩ = some (.int .i64 a.c) ∧ w'.cell? ⟨ba, 3, none⟩ = some (.int .u16 a.v)) ∧ (w'.cell? ⟨bx, 0, none⟩ = some (.int .i64 X) ∧ w'.cell? ⟨bx, 1, none⟩ = some (.int .i64 Y) ∧ w'.cell? ⟨bx, 2, none⟩ = some (.int .i64 K) ∧ w'.cell? ⟨bx, 3, none⟩ = some (.int .i64 T) ∧ w'.cell? ⟨bx, 4, none⟩ = some (.slice (some ⟨q2, 0, none⟩) n c2))) #[false, false, false, false, false, false, false, false, false, false, false, false, false, false, false, false, false, false, false, false, false, false, false, false, false, false, false, false, false, false, false, false, false, false, false, false, false, false] (by kernel_rfl) rfl rfl (rp_S HT5d.out.A HT5d.out.P.B) (fun hHeld => ?_)
        refine rg_take (i := 0) (N := some 65) (v := ?vp0) (a' := ?ap0) #[true, false, false, false, false, false, false, false, false, false, false, false, false, false, false, false, false, false, false, false, false, false, false, false, false, false, false, false, false, false, false, false, false, false, false, false, false, false] rfl rfl (by kernel_rfl) (fun _ _ _ h => h) (Or.inl ⟨by rfl, ?yp0⟩) hHeld ?hp0 ?kp0
        case yp0 => (intro w' hSw; obtain ⟨sA, sB, ⟨s0, s1, s2, s3⟩, ⟨s4, s5, s6, s7, s8⟩⟩ := hSw; go_simp <;> with_reducible rfl)
        case hp0 => (simp only [Act.put, List.setIfInBounds_toArray, List.set_cons_zero, List.set_cons_succ]; rfl)
        refine rg_take (i := 1) (N := some 66) (v := ?vp1) (a' := ?ap1) #[true, true, false, false, false, false, false, false, false, false, false, false, false, false, false, false, false, false, false, false, false, false, false, false, false, false, false, false, false, false, false, false, false, false, false, false, false, false] rfl rfl (by kernel_rfl) (fun _ _ _ h => h) (Or.inl ⟨by rfl, ?yp1⟩) hHeld ?hp1 ?kp1
        case yp1 => (intro w' hSw; obtain ⟨sA, sB, ⟨s0, s1, s2, s3⟩, ⟨s4, s5, s6, s7, s8⟩⟩ := hSw; go_simp <;> with_reducible rfl)
        case hp1 => (simp only [Act.put, List.setIfInBounds_toArray, List.set_cons_zero, List.set_cons_succ]; rfl)
        refine rg_take (i := 2) (N := some 67) (v := ?vp2) (a' := ?ap2) #[true, true, true, false, false, false, false, false, false, false, false, false, false, false, false, false, false, false, false, false, false, false, false, false, false, false, false, false, false, false, false, false, false, false, false, false, false, false] rfl rfl (by kernel_rfl) (fun _ _ _ h => h) (Or.inl ⟨by rfl, ?yp2⟩) hHeld ?hp2 ?kp2
        case yp2 => (intro w' hSw; obtain ⟨sA, sB, ⟨s0, s1, s2, s3⟩, ⟨s4, s5, s6, s7, s8⟩⟩ := hSw; go_simp <;> with_reducible rfl)
        case hp2 => (simp only [Act.put, List.setIfInBounds_toArray, List.set_cons_zero, List.set_cons_succ]; rfl)
        refine rg_take (i := 3) (N := some 68) (v := ?vp3) (a' := ?ap3) #[true, true, true, true, false, false, false, false, false, false, false, false, false, false, false, false, false, false, false, false, false, false, false, false, false, false, false, false, false, false, false, false, false, false, false, false, false, false] rfl rfl (by kernel_rfl) (fun _ _ _ h => h) (Or.inl ⟨by rfl, ?yp3⟩) hHeld ?hp3 ?kp3
        case yp3 => (intro w' hSw; obtain ⟨sA, sB, ⟨s0, s1, s2, s3⟩, ⟨s4, s5, s6, s7, s8⟩⟩ := hSw; go_simp <;> with_reducible rfl)
        case hp3 => (simp only [Act.put, List.setIfInBounds_toArray, List.set_cons_zero, List.set_cons_succ]; rfl)
        refine rg_take (i := 4) (N := some 69) (v := ?vp4) (a' := ?ap4) #[true, true, true, true, true, false, false, false, false, false, false, false, false, false, false, false, false, false, false, false, false, false, false, false, false, false, false, false, false, false, false, false, false, false, false, false, false, false] rfl rfl (by kernel_rfl) (fun _ _ _ h => h) (Or.inl ⟨by rfl, ?yp4⟩) hHeld ?hp4 ?kp4
        case yp4 => (intro w' hSw; obtain ⟨sA, sB, ⟨s0, s1, s2, s3⟩, ⟨s4, s5, s6, s7, s8⟩⟩ := hSw; go_simp <;> with_reducible rfl)
        case hp4 => (simp only [Act.put, List.setIfInBounds_toArray, List.set_cons_zero, List.set_cons_succ]; rfl)
        refine rg_take (i := 5) (N := some 70) (v := ?vp5) (a' := ?ap5) #[true, true, true, true, true, true, false, false, false, false, false, false, false, false, false, false, false, false, false, false, false, false, false, false, false, false, false, false, false, false, false, false, false, false, false, false, false, false] rfl rfl (by kernel_rfl) (fun _ _ _ h => h) (Or.inl ⟨by rfl, ?yp5⟩) hHeld ?hp5 ?kp5
        case yp5 => (intro w' hSw; obtain ⟨sA, sB, ⟨s0, s1, s2, s3⟩, ⟨s4, s5, s6, s7, s8⟩⟩ := hSw; go_simp <;> with_reducible rfl)
        case hp5 => (simp only [Act.put, List.setIfInBounds_toArray, List.set_cons_zero, List.set_cons_succ]; rfl)
        refine rg_take (i := 6) (N := some 71) (v := ?vp6) (a' := ?ap6) #[true, true, true, true, true, true, true, false, false, false, false, false, false, false, false, false, false, false, false, false, false, false, false, false, false, false, false, false, false, false, false, false, false, false, false, false, false, false] rfl rfl (by kernel_rfl) (fun _ _ _ h => h) (Or.inl ⟨by rfl, ?yp6⟩) hHeld ?hp6 ?kp6
        case yp6 => (intro w' hSw; obtain ⟨sA, sB, ⟨s0, s1, s2, s3⟩, ⟨s4, s5, s6, s7, s8⟩⟩ := hSw; go_simp <;> with_reducible rfl)
        case hp6 => (simp only [Act.put, List.setIfInBounds_toArray, List.set_cons_zero, List.set_cons_succ]; rfl)
        refine rg_take (i := 7) (N := some 72) (v := ?vp7) (a' := ?ap7) #[true, true, true, true, true, true, true, true, false, false, false, false, false, false, false, false, false, false, false, false, false, false, false, false, false, false, false, false, false, false, false, false, false, false, false, false, false, false] rfl rfl (by kernel_rfl) (fun _ _ _ h => h) (Or.inl ⟨by rfl, ?yp7⟩) hHeld ?hp7 ?kp7
        case yp7 => (intro w' hSw; obtain ⟨sA, sB, ⟨s0, s1, s2, s3⟩, ⟨s4, s5, s6, s7, s8⟩⟩ := hSw; go_simp <;> with_reducible rfl)
        case hp7 => (simp only [Act.put, List.setIfInBounds_toArray, List.set_cons_zero, List.set_cons_succ]; rfl)
        refine rg_take (i := 8) (N := some 73) (v := ?vp8) (a' := ?ap8) #[true, true, true, true, true, true, true, true, true, false, false, false, false, false, false, false, false, false, false, false, false, false, false, false, false, false, false, false, false, false, false, false, false, false, false, false, false, false] rfl rfl (by kernel_rfl) (fun _ _ _ h => h) (Or.inl ⟨by rfl, ?yp8⟩) hHeld ?hp8 ?kp8
        case yp8 => (intro w' hSw; obtain ⟨sA, sB, ⟨s0, s1, s2, s3⟩, ⟨s4, s5, s6, s7, s8⟩⟩ := hSw; go_simp <;> with_reducible rfl)
        case hp8 => (simp only [Act.put, List.setIfInBounds_toArray, List.set_cons_zero, List.set_cons_succ]; rfl)
        refine rg_take (i := 10) (N := some 75) (v := ?vp10) (a' := ?ap10) #[true, true, true, true, true, true, true, true, true, false, true, false, false, false, false, false, false, false, false, false, false, false, false, false, false, false, false, false, false, false, false, false, false, false, false, false, false, false] rfl rfl (by kernel_rfl) (fun _ _ _ h => h) (Or.inl ⟨by rfl, ?yp10⟩) hHeld ?hp10 ?kp10
        case yp10 => (intro w' hSw; obtain ⟨sA, sB, ⟨s0, s1, s2, s3⟩, ⟨s4, s5, s6, s7, s8⟩⟩ := hSw; go_simp <;> with_reducible rfl)
        case hp10 => (simp only [Act.put, List.setIfInBounds_toArray, List.set_cons_zero, List.set_cons_succ]; rfl)
        refine rg_one (i := 9) (N := some 74) #[true, true, true, true, true, true, true, true, true, true, true, false, false, false, false, false, false, false, false, false, false, false, false, false, false, false, false, false, false, false, false, false, false, false, false, false, false, false] rfl rfl (by kernel_rfl) (fun KQ hKQ => ?_)
        obtain ⟨sA, sB, ⟨s0, s1, s2, s3⟩, ⟨s4, s5, s6, s7, s8⟩⟩ := hHeld
        refine rg_call Try.func66 (by kernel_rfl) rfl #[Value.pointer (some ⟨g, 0, none⟩), .int .i64 a.x, .int .i64 a.y, .int .i64 a.c, .int .u16 a.v] (by rfl) rfl rfl (by simp only [List.map_toArray, List.map_cons, List.map_nil]; rfl) ?_
        with_reducible refine (HMS.out _ HT5d.out.P.M).mono ?_
        rintro e w6 ⟨rfl, hi6, hg6⟩
        have HT6 := Lib.hid (HT5d.out.setImg hi6 hg6)
        clear hi6 hg6
        refine ⟨_, rfl, ?_⟩
        refine hKQ.out _ _ (rp_S HT6.out.A HT6.out.P.B) (fun hHeld => ?_)
        clear hKQ KQ
        refine rg_norm (a' := ?ap9) ?hp9 ?kp9
        case hp9 => (simp only [Act.put, List.setIfInBounds_toArray, List.set_cons_zero, List.set_cons_succ]; rfl)
        refine rg_take (i := 11) (N := some 76) (v := .bool false) (a' := ?ap11) #[true, true, true, true, true, true, true, true, true, true, true, true, false, false, false, false, false, false, false, false, false, false, false, false, false, false, false, false, false, false, false, false, false, false, false, false, false, false] rfl rfl (by kernel_rfl) (fun _ _ _ h => h) (Or.inl ⟨by rfl, ?yp11⟩) hHeld ?hp11 ?kp11
        case yp11 => (intro w' hSw; obtain ⟨sA, sB, ⟨s0, s1, s2, s3⟩, ⟨s4, s5, s6, s7, s8⟩⟩ := hSw; go_simp <;> simp)
        case hp11 => (simp only [Act.put, List.setIfInBounds_toArray, List.set_cons_zero, List.set_cons_succ]; rfl)
        refine rg_take (i := 12) (N := some 77) (v := ?vp12) (a' := ?ap12) #[true, true, true, true, true, true, true, true, true, true, true, true, true, false, false, false, false, false, false, false, false, false, false, false, false, false, false, false, false, false, false, false, false, false, false, false, false, false] rfl rfl (by kernel_rfl) (fun _ _ _ h => h) (Or.inl ⟨by rfl, ?yp12⟩) hHeld ?hp12 ?kp12
        case yp12 => (intro w' hSw; obtain ⟨sA, sB, ⟨s0, s1, s2, s3⟩, ⟨s4, s5, s6, s7, s8⟩⟩ := hSw; go_simp <;> with_reducible rfl)
        case hp12 => (simp only [Act.put, List.setIfInBounds_toArray, List.set_cons_zero, List.set_cons_succ]; rfl)
        refine rg_take (i := 13) (N := some 78) (v := ?vp13) (a' := ?ap13) #[true, true, true, true, true, true, true, true, true, true, true, true, true, true, false, false, false, false, false, false, false, false, false, false, false, false, false, false, false, false, false, false, false, false, false, false, false, false] rfl rfl (by kernel_rfl) (fun _ _ _ h => h) (Or.inl ⟨by rfl, ?yp13⟩) hHeld ?hp13 ?kp13
        case yp13 => (intro w' hSw; obtain ⟨sA, sB, ⟨s0, s1, s2, s3⟩, ⟨s4, s5, s6, s7, s8⟩⟩ := hSw; go_simp <;> with_reducible rfl)
        case hp13 => (simp only [Act.put, List.setIfInBounds_toArray, List.set_cons_zero, List.set_cons_succ]; rfl)
        refine rg_take (i := 14) (N := some 79) (v := ?vp14) (a' := ?ap14) #[true, true, true, true, true, true, true, true, true, true, true, true, true, true, true, false, false, false, false, false, false, false, false, false, false, false, false, false, false, false, false, false, false, false, false, false, false, false] rfl rfl (by kernel_rfl) (fun _ _ _ h => h) (Or.inl ⟨by rfl, ?yp14⟩) hHeld ?hp14 ?kp14
        case yp14 => (intro w' hSw; obtain ⟨sA, sB, ⟨s0, s1, s2, s3⟩, ⟨s4, s5, s6, s7, s8⟩⟩ := hSw; go_simp <;> with_reducible rfl)
        case hp14 => (simp only [Act.put, List.setIfInBounds_toArray, List.set_cons_zero, List.set_cons_succ]; rfl)
        refine rg_take (i := 15) (N := some 80) (v := ?vp15) (a' := ?ap15) #[true, true, true, true, true, true, true, true, true, true, true, true, true, true, true, true, false, false, false, false, false, false, false, false, false, false, false, false, false, false, false, false, false, false, false, false, false, false] rfl rfl (by kernel_rfl) (fun _ _ _ h => h) (Or.inl ⟨by rfl, ?yp15⟩) hHeld ?hp15 ?kp15
        case yp15 => (intro w' hSw; obtain ⟨sA, sB, ⟨s0, s1, s2, s3⟩, ⟨s4, s5, s6, s7, s8⟩⟩ := hSw; go_simp <;> with_reducible rfl)
        case hp15 => (simp only [Act.put, List.setIfInBounds_toArray, List.set_cons_zero, List.set_cons_succ]; rfl)
        refine rg_take (i := 16) (N := some 81) (v := ?vp16) (a' := ?ap16) #[true, true, true, true, true, true, true, true, true, true, true, true, true, true, true, true, true, false, false, false, false, false, false, false, false, false, false, false, false, false, false, false, false, false, false, false, false, false] rfl rfl (by kernel_rfl) (fun _ _ _ h => h) (Or.inl ⟨by rfl, ?yp16⟩) hHeld ?hp16 ?kp16
        case yp16 => (intro w' hSw; obtain ⟨sA, sB, ⟨s0, s1, s2, s3⟩, ⟨s4, s5, s6, s7, s8⟩⟩ := hSw; go_simp <;> with_reducible rfl)
        case hp16 => (simp only [Act.put, List.setIfInBounds_toArray, List.set_cons_zero, List.set_cons_succ]; rfl)
        refine rg_take (i := 17) (N := some 82) (v := ?vp17) (a' := ?ap17) #[true, true, true, true, true, true, true, true, true, true, true, true, true, true, true, true, true, true, false, false, false, false, false, false, false, false, false, false, false, false, false, false, false, false, false, false, false, false] rfl rfl (by kernel_rfl) (fun _ _ _ h => h) (Or.inl ⟨by rfl, ?yp17⟩) hHeld ?hp17 ?kp17
        case yp17 => (intro w' hSw; obtain ⟨sA, sB, ⟨s0, s1, s2, s3⟩, ⟨s4, s5, s6, s7, s8⟩⟩ := hSw; go_simp <;> with_reducible rfl)
        case hp17 => (simp only [Act.put, List.setIfInBounds_toArray, List.set_cons_zero, List.set_cons_succ]; rfl)
        refine rg_take (i := 18) (N := some 83) (v := ?vp18) (a' := ?ap18) #[true, true, true, true, true, true, true, true, true, true, true, true, true, true, true, true, true, true, true, false, false, false, false, false, false, false, false, false, false, false, false, false, false, false, false, false, false, false] rfl rfl (by kernel_rfl) (fun _ _ _ h => h) (Or.inl ⟨by rfl, ?yp18⟩) hHeld ?hp18 ?kp18
        case yp18 => (intro w' hSw; obtain ⟨sA, sB, ⟨s0, s1, s2, s3⟩, ⟨s4, s5, s6, s7, s8⟩⟩ := hSw; go_simp <;> with_reducible rfl)
        case hp18 => (simp only [Act.put, List.setIfInBounds_toArray, List.set_cons_zero, List.set_cons_succ]; rfl)
        refine rg_take (i := 19) (N := some 84) (v := ?vp19) (a' := ?ap19) #[true, true, true, true, true, true, true, true, true, true, true, true, true, true, true, true, true, true, true, true, false, false, false, false, false, false, false, false, false, false, false, false, false, false, false, false, false, false] rfl rfl (by kernel_rfl) (fun _ _ _ h => h) (Or.inl ⟨by rfl, ?yp19⟩) hHeld ?hp19 ?kp19
        case yp19 => (intro w' hSw; obtain ⟨sA, sB, ⟨s0, s1, s2, s3⟩, ⟨s4, s5, s6, s7, s8⟩⟩ := hSw; go_simp <;> with_reducible rfl)
        case hp19 => (simp only [Act.put, List.setIfInBounds_toArray, List.set_cons_zero, List.set_cons_succ]; rfl)
        refine rg_take (i := 21) (N := some 86) (v := ?vp21) (a' := ?ap21) #[true, true, true, true, true, true, true, true, true, true, true, true, true, true, true, true, true, true, true, true, false, true, false, false, false, false, false, false, false, false, false, false, false, false, false, false, false, false] rfl rfl (by kernel_rfl) (fun _ _ _ h => h) (Or.inl ⟨by rfl, ?yp21⟩) hHeld ?hp21 ?kp21
        case yp21 => (intro w' hSw; obtain ⟨sA, sB, ⟨s0, s1, s2, s3⟩, ⟨s4, s5, s6, s7, s8⟩⟩ := hSw; go_simp <;> with_reducible rfl)
        case hp21 => (simp only [Act.put, List.setIfInBounds_toArray, List.set_cons_zero, List.set_cons_succ]; rfl)
        refine rg_take (i := 22) (N := some 87) (v := ?vp22) (a' := ?ap22) #[true, true, true, true, true, true, true, true, true, true, true, true, true, true, true, true, true, true, true, true, false, true, true, false, false, false, false, false, false, false, false, false, false, false, false, false, false, false] rfl rfl (by kernel_rfl) (fun _ _ _ h => h) (Or.inl ⟨by rfl, ?yp22⟩) hHeld ?hp22 ?kp22
        case yp22 => (intro w' hSw; obtain ⟨sA, sB, ⟨s0, s1, s2, s3⟩, ⟨s4, s5, s6, s7, s8⟩⟩ := hSw; go_simp <;> with_reducible rfl)
        case hp22 => (simp only [Act.put, List.setIfInBounds_toArray, List.set_cons_zero, List.set_cons_succ]; rfl)
        refine rg_take (i := 23) (N := some 88) (v := ?vp23) (a' := ?ap23) #[true, true, true, true, true, true, true, true, true, true, true, true, true, true, true, true, true, true, true, true, false, true, true, true, false, false, false, false, false, false, false, false, false, false, false, false, false, false] rfl rfl (by kernel_rfl) (fun _ _ _ h => h) (Or.inl ⟨by rfl, ?yp23⟩) hHeld ?hp23 ?kp23
        case yp23 => (intro w' hSw; obtain ⟨sA, sB, ⟨s0, s1, s2, s3⟩, ⟨s4, s5, s6, s7, s8⟩⟩ := hSw; go_simp <;> with_reducible rfl)
        case hp23 => (simp only [Act.put, List.setIfInBounds_toArray, List.set_cons_zero, List.set_cons_succ]; rfl)
        refine rg_take (i := 24) (N := some 89) (v := ?vp24) (a' := ?ap24) #[true, true, true, true, true, true, true, true, true, true, true, true, true, true, true, true, true, true, true, true, false, true, true, true, true, false, false, false, false, false, false, false, false, false, false, false, false, false] rfl rfl (by kernel_rfl) (fun _ _ _ h => h) (Or.inl ⟨by rfl, ?yp24⟩) hHeld ?hp24 ?kp24
        case yp24 => (intro w' hSw; obtain ⟨sA, sB, ⟨s0, s1, s2, s3⟩, ⟨s4, s5, s6, s7, s8⟩⟩ := hSw; go_simp <;> with_reducible rfl)
        case hp24 => (simp only [Act.put, List.setIfInBounds_toArray, List.set_cons_zero, List.set_cons_succ]; rfl)
        refine rg_take (i := 25) (N := some 90) (v := ?vp25) (a' := ?ap25) #[true, true, true, true, true, true, true, true, true, true, true, true, true, true, true, true, true, true, true, true, false, true, true, true, true, true, false, false, false, false, false, false, false, false, false, false, false, false] rfl rfl (by kernel_rfl) (fun _ _ _ h => h) (Or.inl ⟨by rfl, ?yp25⟩) hHeld ?hp25 ?kp25
        case yp25 => (intro w' hSw; obtain ⟨sA, sB, ⟨s0, s1, s2, s3⟩, ⟨s4, s5, s6, s7, s8⟩⟩ := hSw; go_simp <;> with_reducible rfl)
        case hp25 => (simp only [Act.put, List.setIfInBounds_toArray, List.set_cons_zero, List.set_cons_succ]; rfl)
        refine rg_take (i := 26) (N := some 91) (v := ?vp26) (a' := ?ap26) #[true, true, true, true, true, true, true, true, true, true, true, true, true, true, true, true, true, true, true, true, false, true, true, true, true, true, true, false, false, false, false, false, false, false, false, false, false, false] rfl rfl (by kernel_rfl) (fun _ _ _ h => h) (Or.inl ⟨by rfl, ?yp26⟩) hHeld ?hp26 ?kp26
        case yp26 => (intro w' hSw; obtain ⟨sA, sB, ⟨s0, s1, s2, s3⟩, ⟨s4, s5, s6, s7, s8⟩⟩ := hSw; go_simp <;> with_reducible rfl)
        case hp26 => (simp only [Act.put, List.setIfInBounds_toArray, List.set_cons_zero, List.set_cons_succ]; rfl)
        refine rg_take (i := 27) (N := some 92) (v := ?vp27) (a' := ?ap27) #[true, true, true, true, true, true, true, true, true, true, true, true, true, true, true, true, true, true, true, true, false, true, true, true, true, true, true, true, false, false, false, false, false, false, false, false, false, false] rfl rfl (by kernel_rfl) (fun _ _ _ h => h) (Or.inl ⟨by rfl, ?yp27⟩) hHeld ?hp27 ?kp27
        case yp27 => (intro w' hSw; obtain ⟨sA, sB, ⟨s0, s1, s2, s3⟩, ⟨s4, s5, s6, s7, s8⟩⟩ := hSw; go_simp <;> with_reducible rfl)
        case hp27 => (simp only [Act.put, List.setIfInBounds_toArray, List.set_cons_zero, List.set_cons_succ]; rfl)
        refine rg_one (i := 20) (N := some 85) #[true, true, true, true, true, true, true, true, true, true, true, true, true, true, true, true, true, true, true, true, true, true, true, true, true, true, true, true, false, false, false, false, false, false, false, false, false, false] rfl rfl (by kernel_rfl) (fun KQ hKQ => ?_)
        obtain ⟨sA, sB, ⟨s0, s1, s2, s3⟩, ⟨s4, s5, s6, s7, s8⟩⟩ := hHeld
        refine rg_call Try.func49 (by kernel_rfl) rfl #[Value.pointer (some ⟨g, 0, none⟩), .int .i64 a.x, .int .i64 a.y, .int .i64 a.c] (by rfl) rfl rfl (by simp only [List.map_toArray, List.map_cons, List.map_nil]; rfl) ?_
        with_reducible refine (HAT.out _ HT6.out.P.M).mono ?_
        rintro e w7 ⟨rfl, m7, rfl⟩
        have HT7 := Lib.hid (HT6.out.below (Below.drewN m7))
        refine ⟨_, rfl, ?_⟩
        refine hKQ.out _ _ (rp_S HT7.out.A HT7.out.P.B) (fun hHeld => ?_)
        clear hKQ KQ
        refine rg_norm (a' := ?ap20) ?hp20 ?kp20
        case hp20 => (simp only [Act.put, List.setIfInBounds_toArray, List.set_cons_zero, List.set_cons_succ]; rfl)
        refine rg_one (i := 28) (N := some 93) #[true, true, true, true, true, true, true, true, true, true, true, true, true, true, true, true, true, true, true, true, true, true, true, true, true, true, true, true, true, false, false, false, false, false, false, false, false, false] rfl rfl (by kernel_rfl) (fun KQ hKQ => ?_)
        obtain ⟨sA, sB, ⟨s0, s1, s2, s3⟩, ⟨s4, s5, s6, s7, s8⟩⟩ := hHeld
        refine rg_call Try.func67 (by kernel_rfl) rfl #[imgV X Y K T (.slice (some ⟨q2, 0, none⟩) n c2), .int .i64 a.x, .int .i64 a.y, .int .i64 a.c] (by rfl) rfl rfl (by simp only [List.map_toArray, List.map_cons, List.map_nil]; rfl) ?_
        with_reducible refine (HRA.out _ _ _ HT7.out.P.R).mono ?_
        rintro e w8 ⟨rfl, hB8⟩
        have HT8 := Lib.hid (HT7.out.below hB8)
        clear hB8
        refine ⟨_, rfl, ?_⟩
        refine hKQ.out _ _ (rp_S HT8.out.A HT8.out.P.B) (fun hHeld => ?_)
        clear hKQ KQ
        refine rg_norm (a' := ?ap28) ?hp28 ?kp28
        case hp28 => (simp only [Act.put, List.setIfInBounds_toArray, List.set_cons_zero, List.set_cons_succ]; rfl)
        refine rg_take (i := 29) (N := some 94) (v := .bool false) (a' := ?ap29) #[true, true, true, true, true, true, true, true, true, true, true, true, true, true, true, true, true, true, true, true, true, true, true, true, true, true, true, true, true, true, false, false, false, false, false, false, false, false] rfl rfl (by kernel_rfl) (fun _ _ _ h => h) (Or.inl ⟨by rfl, ?yp29⟩) hHeld ?hp29 ?kp29
        case yp29 => (intro w' hSw; obtain ⟨sA, sB, ⟨s0, s1, s2, s3⟩, ⟨s4, s5, s6, s7, s8⟩⟩ := hSw; go_simp <;> simp)
        case hp29 => (simp only [Act.put, List.setIfInBounds_toArray, List.set_cons_zero, List.set_cons_succ]; rfl)
        refine rg_take (i := 30) (N := some 95) (v := ?vp30) (a' := ?ap30) #[true, true, true, true, true, true, true, true, true, true, true, true, true, true, true, true, true, true, true, true, true, true, true, true, true, true, true, true, true, true, true, false, false, false, false, false, false, false] rfl rfl (by kernel_rfl) (fun _ _ _ h => h) (Or.inl ⟨by rfl, ?yp30⟩) hHeld ?hp30 ?kp30
        case yp30 => (intro w' hSw; obtain ⟨sA, sB, ⟨s0, s1, s2, s3⟩, ⟨s4, s5, s6, s7, s8⟩⟩ := hSw; go_simp <;> with_reducible rfl)
        case hp30 => (simp only [Act.put, List.setIfInBounds_toArray, List.set_cons_zero, List.set_cons_succ]; rfl)
        refine rg_take (i := 31) (N := some 96) (v := ?vp31) (a' := ?ap31) #[true, true, true, true, true, true, true, true, true, true, true, true, true, true, true, true, true, true, true, true, true, true, true, true, true, true, true, true, true, true, true, true, false, false, false, false, false, false] rfl rfl (by kernel_rfl) (fun _ _ _ h => h) (Or.inl ⟨by rfl, ?yp31⟩) hHeld ?hp31 ?kp31
        case yp31 => (intro w' hSw; obtain ⟨sA, sB, ⟨s0, s1, s2, s3⟩, ⟨s4, s5, s6, s7, s8⟩⟩ := hSw; go_simp <;> with_reducible rfl)
        case hp31 => (simp only [Act.put, List.setIfInBounds_toArray, List.set_cons_zero, List.set_cons_succ]; rfl)
        refine rg_take (i := 32) (N := some 97) (v := ?vp32) (a' := ?ap32) #[true, true, true, true, true, true, true, true, true, true, true, true, true, true, true, true, true, true, true, true, true, true, true, true, true, true, true, true, true, true, true, true, true, false, false, false, false, false] rfl rfl (by kernel_rfl) (fun _ _ _ h => h) (Or.inl ⟨by rfl, ?yp32⟩) hHeld ?hp32 ?kp32
        case yp32 => (intro w' hSw; obtain ⟨sA, sB, ⟨s0, s1, s2, s3⟩, ⟨s4, s5, s6, s7, s8⟩⟩ := hSw; go_simp <;> with_reducible rfl)
        case hp32 => (simp only [Act.put, List.setIfInBounds_toArray, List.set_cons_zero, List.set_cons_succ]; rfl)
        refine rg_take (i := 34) (N := some 99) (v := ?vp34) (a' := ?ap34) #[true, true, true, true, true, true, true, true, true, true, true, true, true, true, true, true, true, true, true, true, true, true, true, true, true, true, true, true, true, true, true, true, true, false, true, false, false, false] rfl rfl (by kernel_rfl) (fun _ _ _ h => h) (Or.inl ⟨by rfl, ?yp34⟩) hHeld ?hp34 ?kp34
        case yp34 => (intro w' hSw; obtain ⟨sA, sB, ⟨s0, s1, s2, s3⟩, ⟨s4, s5, s6, s7, s8⟩⟩ := hSw; go_simp <;> with_reducible rfl)
        case hp34 => (simp only [Act.put, List.setIfInBounds_toArray, List.set_cons_zero, List.set_cons_succ]; rfl)
        refine rg_one (i := 33) (N := some 98) #[true, true, true, true, true, true, true, true, true, true, true, true, true, true, true, true, true, true, true, true, true, true, true, true, true, true, true, true, true, true, true, true, true, true, true, false, false, false] rfl rfl (by kernel_rfl) (fun KQ hKQ => ?_)
        obtain ⟨sA, sB, ⟨s0, s1, s2, s3⟩, ⟨s4, s5, s6, s7, s8⟩⟩ := hHeld
        refine rg_call Try.func63 (by kernel_rfl) rfl #[Value.pointer (some ⟨g, 0, none⟩)] (by rfl) rfl rfl (by simp only [List.map_toArray, List.map_cons, List.map_nil]; rfl) ?_
        with_reducible refine (HREF.out _ HT8.out.P.M).mono ?_
        rintro e w9 ⟨x9, c9, rfl, ho9, hB9⟩
        have HT9 := Lib.hid (HT8.out.below hB9)
        have HR9 := Lib.hid ho9.rd
        clear hB9 ho9
        refine ⟨_, rfl, ?_⟩
        refine hKQ.out _ _ (rp_S HT9.out.A HT9.out.P.B) (fun hHeld => ?_)
        clear hKQ KQ
        refine rg_norm (a' := ?ap33) ?hp33 ?kp33
        case hp33 => (simp only [Act.put, List.setIfInBounds_toArray, List.set_cons_zero, List.set_cons_succ]; rfl)
        refine rg_one (i := 35) (N := some 100) #[true, true, true, true, true, true, true, true, true, true, true, true, true, true, true, true, true, true, true, true, true, true, true, true, true, true, true, true, true, true, true, true, true, true, true, true, false, false] rfl rfl (by kernel_rfl) (fun KQ hKQ => ?_)
        obtain ⟨sA, sB, ⟨s0, s1, s2, s3⟩, ⟨s4, s5, s6, s7, s8⟩⟩ := hHeld
        refine rg_call Try.func68 (by kernel_rfl) rfl #[imgV X Y K T (.slice x9 n c9), imgV X Y K T (.slice (some ⟨q2, 0, none⟩) n c2)] (by rfl) rfl rfl (by simp only [List.map_toArray, List.map_cons, List.map_nil]; rfl) ?_
        with_reducible refine (eqv (sb := true) HR9.out HT9.out.P.R (by simp)).mono ?_
        rintro e w10 ⟨rfl, hB10⟩
        have HT10 := Lib.hid (HT9.out.below hB10)
        clear hB10
        refine ⟨_, rfl, ?_⟩
        refine hKQ.out _ _ (rp_S HT10.out.A HT10.out.P.B) (fun hHeld => ?_)
        clear hKQ KQ
        refine rg_norm (a' := ?ap35) ?hp35 ?kp35
        case hp35 => (simp only [Act.put, List.setIfInBounds_toArray, List.set_cons_zero, List.set_cons_succ]; rfl)
        refine rg_take (i := 36) (N := some 101) (v := .bool false) (a' := ?ap36) #[true, true, true, true, true, true, true, true, true, true, true, true, true, true, true, true, true, true, true, true, true, true, true, true, true, true, true, true, true, true, true, true, true, true, true, true, true, false] rfl rfl (by kernel_rfl) (fun _ _ _ h => h) (Or.inl ⟨by rfl, ?yp36⟩) hHeld ?hp36 ?kp36
        case yp36 => (intro w' hSw; obtain ⟨sA, sB, ⟨s0, s1, s2, s3⟩, ⟨s4, s5, s6, s7, s8⟩⟩ := hSw; go_simp <;> simp)
        case hp36 => (simp only [Act.put, List.setIfInBounds_toArray, List.set_cons_zero, List.set_cons_succ]; rfl)
        refine rg_take (i := 37) (N := some 102) (v := ?vp37) (a' := ?ap37) #[true, true, true, true, true, true, true, true, true, true, true, true, true, true, true, true, true, true, true, true, true, true, true, true, true, true, true, true, true, true, true, true, true, true, true, true, true, true] rfl rfl (by kernel_rfl) (fun _ _ _ h => h) (Or.inl ⟨by rfl, ?yp37⟩) hHeld ?hp37 ?kp37
        case yp37 => (intro w' hSw; obtain ⟨sA, sB, ⟨s0, s1, s2, s3⟩, ⟨s4, s5, s6, s7, s8⟩⟩ := hSw; go_simp <;> with_reducible rfl)
        case hp37 => (simp only [Act.put, List.setIfInBounds_toArray, List.set_cons_zero, List.set_cons_succ]; rfl)
        refine rg_done (by kernel_rfl) ?_
        clear hHeld
        go_wp2_with fail
        have HT10d := Lib.hid (HT10.out.below (Below.drew (Below.refl _ _)))
        refine rg_start (n := 15) (S := fun w' => w'.heap[ba]? = some (.cells #[.int .i64 a.x, .int .i64 a.y, .int .i64 a.c, .int .u16 a.v] 92 (0, 0)) ∧ w'.heap[bx]? = some (.cells #[.int .i64 X, .int .i64 Y, .int .i64 K, .int .i64 T, .slice (some ⟨q2, 0, none⟩) n c2] 87 (0, 0)) ∧ (w'.cell? ⟨ba, 0, none⟩ = some (.int .i64 a.x) ∧ w'.cell? ⟨ba, 1, none⟩ = some (.int .i64 a.y) ∧ w'.cell? ⟨ba, 2, none⟩ = some (.int .i64 a.c) ∧ w'.cell? ⟨ba, 3, none⟩ = some (.int .u16 a.v)) ∧ (w'.cell? ⟨bx, 0, none⟩ = some (.int .i64 X) ∧ w'.cell? ⟨bx, 1, none⟩ = some (.int .i64 Y) ∧ w'.cell? ⟨bx, 2, none⟩ = some (.int .i64 K) ∧ w'.cell? ⟨bx, 3, none⟩ = some (.int .i64 T) ∧ w'.cell? ⟨bx, 4, none⟩ = some (.slice (some ⟨q2, 0, none⟩) n c2))) #[false, false, false, false, false, false, false, false, false, false, false, false, false, false, false] (by kernel_rfl) rfl rfl (rp_S HT10d.out.A HT10d.out.P.B) (fun hHeld => ?_)
        refine rg_take (i := 0) (N := some 103) (v := ?vq0) (a' := ?aq0) #[true, false, false, false, false, false, false, false, false, false, false, false, false, false, false] rfl rfl (by kernel_rfl) (fun _ _ _ h => h) (Or.inl ⟨by rfl, ?yq0⟩) hHeld ?hq0 ?kq0
        case yq0 => (intro w' hSw; obtain ⟨sA, sB, ⟨s0, s1, s2, s3⟩, ⟨s4, s5, s6, s7, s8⟩⟩ := hSw; go_simp <;> with_reducible rfl)
        case hq0 => (simp only [Act.put, List.setIfInBounds_toArray, List.set_cons_zero, List.set_cons_succ]; rfl)
        refine rg_take (i := 1) (N := some 104) (v := ?vq1) (a' := ?aq1) #[true, true, false, false, false, false, false, false, false, false, false, false, false, false, false] rfl rfl (by kernel_rfl) (fun _ _ _ h => h) (Or.inl ⟨by rfl, ?yq1⟩) hHeld ?hq1 ?kq1
        case yq1 => (intro w' hSw; obtain ⟨sA, sB, ⟨s0, s1, s2, s3⟩, ⟨s4, s5, s6, s7, s8⟩⟩ := hSw; go_simp <;> with_reducible rfl)
        case hq1 => (simp only [Act.put, List.setIfInBounds_toArray, List.set_cons_zero, List.set_cons_succ]; rfl)
        refine rg_take (i := 3) (N := some 106) (v := ?vq3) (a' := ?aq3) #[true, true, false, true, false, false, false, false, false, false, false, false, false, false, false] rfl rfl (by kernel_rfl) (fun _ _ _ h => h) (Or.inl ⟨by rfl, ?yq3⟩) hHeld ?hq3 ?kq3
        case yq3 => (intro w' hSw; obtain ⟨sA, sB, ⟨s0, s1, s2, s3⟩, ⟨s4, s5, s6, s7, s8⟩⟩ := hSw; go_simp <;> with_reducible rfl)
        case hq3 => (simp only [Act.put, List.setIfInBounds_toArray, List.set_cons_zero, List.set_cons_succ]; rfl)
        refine rg_take (i := 5) (N := some 108) (v := ?vq5) (a' := ?aq5) #[true, true, false, true, false, true, false, false, false, false, false, false, false, false, false] rfl rfl (by kernel_rfl) (fun _ _ _ h => h) (Or.inl ⟨by rfl, ?yq5⟩) hHeld ?hq5 ?kq5
        case yq5 => (intro w' hSw; obtain ⟨sA, sB, ⟨s0, s1, s2, s3⟩, ⟨s4, s5, s6, s7, s8⟩⟩ := hSw; go_simp <;> with_reducible rfl)
        case hq5 => (simp only [Act.put, List.setIfInBounds_toArray, List.set_cons_zero, List.set_cons_succ]; rfl)
        refine rg_one (i := 2) (N := some 105) #[true, true, true, true, false, true, false, false, false, false, false, false, false, false, false] rfl rfl (by kernel_rfl) (fun KQ hKQ => ?_)
        obtain ⟨sA, sB, ⟨s0, s1, s2, s3⟩, ⟨s4, s5, s6, s7, s8⟩⟩ := hHeld
        refine rg_call Try.func50 (by kernel_rfl) rfl #[Value.pointer (some ⟨g, 0, none⟩), Value.pointer (some ⟨g2, 0, none⟩)] (by rfl) rfl rfl (by simp only [List.map_toArray, List.map_cons, List.map_nil]; rfl) ?_
        with_reducible refine (same_sb2 HT10d.out.P.M HT10d.out.K2 HSB.out).mono ?_
        rintro e w11 ⟨rfl, m11, rfl⟩
        have HT11 := Lib.hid (HT10d.out.below (Below.drewN m11))
        refine ⟨_, rfl, ?_⟩
        refine hKQ.out _ _ (rp_S HT11.out.A HT11.out.P.B) (fun hHeld => ?_)
        clear hKQ KQ
        refine rg_norm (a' := ?aq2) ?hq2 ?kq2
        case hq2 => (simp only [Act.put, List.setIfInBounds_toArray, List.set_cons_zero, List.set_cons_succ]; rfl)
        refine rg_one (i := 4) (N := some 107) #[true, true, true, true, true, true, false, false, false, false, false, false, false, false, false] rfl rfl (by kernel_rfl) (fun KQ hKQ => ?_)
        obtain ⟨sA, sB, ⟨s0, s1, s2, s3⟩, ⟨s4, s5, s6, s7, s8⟩⟩ := hHeld
        refine rg_call Try.func63 (by kernel_rfl) rfl #[Value.pointer (some ⟨g2, 0, none⟩)] (by rfl) rfl rfl (by simp only [List.map_toArray, List.map_cons, List.map_nil]; rfl) ?_
        with_reducible refine (HREK.out _ HT11.out.K2).mono ?_
        rintro e w12 ⟨x12, c12, rfl, ho12, hB12⟩
        have HT12 := Lib.hid (HT11.out.below hB12)
        have HR12 := Lib.hid ho12.rd
        clear hB12 ho12
        refine ⟨_, rfl, ?_⟩
        refine hKQ.out _ _ (rp_S HT12.out.A HT12.out.P.B) (fun hHeld => ?_)
        clear hKQ KQ
        refine rg_norm (a' := ?aq4) ?hq4 ?kq4
        case hq4 => (simp only [Act.put, List.setIfInBounds_toArray, List.set_cons_zero, List.set_cons_succ]; rfl)
        refine rg_one (i := 6) (N := some 109) #[true, true, true, true, true, true, true, false, false, false, false, false, false, false, false] rfl rfl (by kernel_rfl) (fun KQ hKQ => ?_)
        obtain ⟨sA, sB, ⟨s0, s1, s2, s3⟩, ⟨s4, s5, s6, s7, s8⟩⟩ := hHeld
        refine rg_call Try.func68 (by kernel_rfl) rfl #[imgV X Y K T (.slice x12 n c12), imgV X Y K T (.slice (some ⟨q2, 0, none⟩) n c2)] (by rfl) rfl rfl (by simp only [List.map_toArray, List.map_cons, List.map_nil]; rfl) ?_
        with_reducible refine (eqv HR12.out HT12.out.P.R HSB'.out).mono ?_
        rintro e w13 ⟨rfl, hB13⟩
        have HT13 := Lib.hid (HT12.out.below hB13)
        clear hB13
        refine ⟨_, rfl, ?_⟩
        refine hKQ.out _ _ (rp_S HT13.out.A HT13.out.P.B) (fun hHeld => ?_)
        clear hKQ KQ
        refine rg_norm (a' := ?aq6) ?hq6 ?kq6
        case hq6 => (simp only [Act.put, List.setIfInBounds_toArray, List.set_cons_zero, List.set_cons_succ]; rfl)
        refine rg_take (i := 7) (N := some 110) (v := .bool false) (a' := ?aq7) #[true, true, true, true, true, true, true, true, false, false, false, false, false, false, false] rfl rfl (by kernel_rfl) (fun _ _ _ h => h) (Or.inl ⟨by rfl, ?yq7⟩) hHeld ?hq7 ?kq7
        case yq7 => (intro w' hSw; obtain ⟨sA, sB, ⟨s0, s1, s2, s3⟩, ⟨s4, s5, s6, s7, s8⟩⟩ := hSw; go_simp <;> simp)
        case hq7 => (simp only [Act.put, List.setIfInBounds_toArray, List.set_cons_zero, List.set_cons_succ]; rfl)
        refine rg_take (i := 8) (N := some 111) (v := ?vq8) (a' := ?aq8) #[true, true, true, true, true, true, true, true, true, false, false, false, false, false, false] rfl rfl (by kernel_rfl) (fun _ _ _ h => h) (Or.inl ⟨by rfl, ?yq8⟩) hHeld ?hq8 ?kq8
        case yq8 => (intro w' hSw; obtain ⟨sA, sB, ⟨s0, s1, s2, s3⟩, ⟨s4, s5, s6, s7, s8⟩⟩ := hSw; go_simp <;> with_reducible rfl)
        case hq8 => (simp only [Act.put, List.setIfInBounds_toArray, List.set_cons_zero, List.set_cons_succ]; rfl)
        refine rg_take (i := 9) (N := some 112) (v := ?vq9) (a' := ?aq9) #[true, true, true, true, true, true, true, true, true, true, false, false, false, false, false] rfl rfl (by kernel_rfl) (fun _ _ _ h => h) (Or.inl ⟨by rfl, ?yq9⟩) hHeld ?hq9 ?kq9
        case yq9 => (intro w' hSw; obtain ⟨sA, sB, ⟨s0, s1, s2, s3⟩, ⟨s4, s5, s6, s7, s8⟩⟩ := hSw; go_simp <;> with_reducible rfl)
        case hq9 => (simp only [Act.put, List.setIfInBounds_toArray, List.set_cons_zero, List.set_cons_succ]; rfl)
        refine rg_take (i := 10) (N := some 113) (v := ?vq10) (a' := ?aq10) #[true, true, true, true, true, true, true, true, true, true, true, false, false, false, false] rfl rfl (by kernel_rfl) (fun _ _ _ h => h) (Or.inl ⟨by rfl, ?yq10⟩) hHeld ?hq10 ?kq10
        case yq10 => (intro w' hSw; obtain ⟨sA, sB, ⟨s0, s1, s2, s3⟩, ⟨s4, s5, s6, s7, s8⟩⟩ := hSw; go_simp <;> with_reducible rfl)
        case hq10 => (simp only [Act.put, List.setIfInBounds_toArray, List.set_cons_zero, List.set_cons_succ]; rfl)
        refine rg_one (i := 11) (N := some 114) #[true, true, true, true, true, true, true, true, true, true, true, true, false, false, false] rfl rfl (by kernel_rfl) (fun KQ hKQ => ?_)
        obtain ⟨sA, sB, ⟨s0, s1, s2, s3⟩, ⟨s4, s5, s6, s7, s8⟩⟩ := hHeld
        refine rg_call Try.func64 (by kernel_rfl) rfl #[Value.pointer (some ⟨g2, 0, none⟩)] (by rfl) rfl rfl (by simp only [List.map_toArray, List.map_cons, List.map_nil]; rfl) ?_
        with_reducible refine (copy_any HT13.out.K2 HSM.out.ne (by have := HL1.out; omega)).mono ?_
        rintro e w14 ⟨g3, r3, rfl, -, -, hi14, hB14⟩
        have HT14 := Lib.hid (HT13.out.below hB14)
        have HI14 := Lib.hid hi14
        clear hB14 hi14
        refine ⟨_, rfl, ?_⟩
        refine hKQ.out _ _ (rp_S HT14.out.A HT14.out.P.B) (fun hHeld => ?_)
        clear hKQ KQ
        refine rg_norm (a' := ?aq11) ?hq11 ?kq11
        case hq11 => (simp only [Act.put, List.setIfInBounds_toArray, List.set_cons_zero, List.set_cons_succ]; rfl)
        refine rg_one (i := 12) (N := some 115) #[true, true, true, true, true, true, true, true, true, true, true, true, true, false, false] rfl rfl (by kernel_rfl) (fun KQ hKQ => ?_)
        obtain ⟨sA, sB, ⟨s0, s1, s2, s3⟩, ⟨s4, s5, s6, s7, s8⟩⟩ := hHeld
        refine rg_call Try.func50 (by kernel_rfl) rfl #[Value.pointer (some ⟨g2, 0, none⟩), Value.pointer (some ⟨g3, 0, none⟩)] (by rfl) rfl rfl (by simp only [List.map_toArray, List.map_cons, List.map_nil]; rfl) ?_
        with_reducible refine (same_sb2 (sb := true) HT14.out.K2 HI14.out (by simp)).mono ?_
        rintro e w15 ⟨rfl, m15, rfl⟩
        have HT15 := Lib.hid (HT14.out.below (Below.drewN m15))
        refine ⟨_, rfl, ?_⟩
        refine hKQ.out _ _ (rp_S HT15.out.A HT15.out.P.B) (fun hHeld => ?_)
        clear hKQ KQ
        refine rg_norm (a' := ?aq12) ?hq12 ?kq12
        case hq12 => (simp only [Act.put, List.setIfInBounds_toArray, List.set_cons_zero, List.set_cons_succ]; rfl)
        refine rg_take (i := 13) (N := some 116) (v := .bool false) (a' := ?aq13) #[true, true, true, true, true, true, true, true, true, true, true, true, true, true, false] rfl rfl (by kernel_rfl) (fun _ _ _ h => h) (Or.inl ⟨by rfl, ?yq13⟩) hHeld ?hq13 ?kq13
        case yq13 => (intro w' hSw; obtain ⟨sA, sB, ⟨s0, s1, s2, s3⟩, ⟨s4, s5, s6, s7, s8⟩⟩ := hSw; go_simp <;> simp)
        case hq13 => (simp only [Act.put, List.setIfInBounds_toArray, List.set_cons_zero, List.set_cons_succ]; rfl)
        refine rg_take (i := 14) (N := some 117) (v := ?vq14) (a' := ?aq14) #[true, true, true, true, true, true, true, true, true, true, true, true, true, true, true] rfl rfl (by kernel_rfl) (fun _ _ _ h => h) (Or.inl ⟨by rfl, ?yq14⟩) hHeld ?hq14 ?kq14
        case yq14 => (intro w' hSw; obtain ⟨sA, sB, ⟨s0, s1, s2, s3⟩, ⟨s4, s5, s6, s7, s8⟩⟩ := hSw; go_simp <;> with_reducible rfl)
        case hq14 => (simp only [Act.put, List.setIfInBounds_toArray, List.set_cons_zero, List.set_cons_succ]; rfl)
        refine rg_done (by kernel_rfl) ?_
        clear hHeld
        go_wp2_with fail
        exact ⟨⟨k + 1, xm', q2, c2, by omega, by go_num, Lib.hid HT15.out.P, HS2⟩, by simp [intOf]; omega⟩
      · have hkm : k = m := by omega
        subst hkm
        clear HACT
        obtain ⟨⟨t0, t1, t2, t3, t4⟩, -⟩ := row5v HP.out.B
        go_wp2_with fail
        clear t0 t1 t2 t3 t4
        obtain ⟨nn, hnn⟩ : ∃ nn : Nat, X * K = (nn : Int) := ⟨(X * K).toNat, by rcases hK with rfl | rfl <;> omega⟩
        have hXl := HSM.out.lx
        have hYl := HSM.out.ly
        have hnn1 : 1 ≤ nn := by rcases hK with rfl | rfl <;> omega
        have hnn2 : nn ≤ 60 := by rcases hK with rfl | rfl <;> omega
        have hl1 : xm.length = n := by have := HS.out.len; have := HSM.out.len; have := HN.out; omega
        have hcap : n ≤ cr' ∧ cr' ≤ maxLen := by
          obtain ⟨_, _, he, h1, h2, _⟩ := HP.out.R.form
          injection he with _ _ he
          subst he
          omega
        have HROW := Lib.hid fun w' (y : Nat) (h : ImgR w' g r X Y K T xm) (hy : (y : Int) < Y) => row_natP h HSM.out.code HSM.out.len hnn hy
        have HNL : Hid (∀ y : Nat, (y : Int) < Y → y * nn + nn ≤ n) := Lib.hid fun y hy => by
          have h1 : (xm.length : Int) = Y * (nn : Int) := by rw [HSM.out.len, Int.mul_right_comm, hnn, Int.mul_comm]
          have h2 := Int.mul_le_mul_of_nonneg_right (show (y : Int) + 1 ≤ Y by omega) (show (0 : Int) ≤ nn by omega)
          rw [Int.add_mul, Int.one_mul, ← h1, hl1] at h2
          have h3 : ((y * nn + nn : Nat) : Int) = (y : Int) * nn + nn := by push_cast; rfl
          omega
        have HNN := Lib.hid hnn
        have HL1 := Lib.hid hl1
        clear hnn hl1
        go_loopw [21] (fun i wy => ∃ y : Int, -1 ≤ y ∧ y ≤ Y + 1 ∧ i = .int .i64 y ∧ Below wr.heap.size wr wy) (fun i _ => (Y + 1 - intOf i).toNat)
        case atStart => exact ⟨-1, by omega, by omega, rfl, Below.refl _ _⟩
        case round =>
          obtain ⟨y, hy0, hy1, rfl, hBy⟩ := hrel
          have HPy := Lib.hid (HP.out.below hBy)
          have HBy := Lib.hid hBy
          obtain ⟨⟨t0, t1, t2, t3, t4⟩, -⟩ := row5v HPy.out.B
          clear hBy
          by_cases hyY : y ≤ Y
          · by_cases hout : y < 0 ∨ y = Y
            · have ey : wrap64 (y + 1) = y + 1 := wrap_in (by omega) (by omega)
              rcases hout with hout | hout
              · have hd1 : decide (y < 0) = true := decide_eq_true hout
                go_wp2_with (go_at_call 48; refine (row_out HPy.out.M y (by omega)).mono ?_; rintro e w6 ⟨rfl, rfl⟩)
                exact ⟨⟨y + 1, by omega, by omega, rfl, HBy.out⟩, by simp [intOf]; omega⟩
              · subst hout
                have hd1 : decide (y < 0) = false := decide_eq_false (by omega)
                go_wp2_with (go_at_call 48; refine (row_out HPy.out.M y (by omega)).mono ?_; rintro e w6 ⟨rfl, rfl⟩)
                exact ⟨⟨y + 1, by omega, by omega, rfl, HBy.out⟩, by simp [intOf]; omega⟩
            · obtain ⟨yn, rfl⟩ : ∃ yn : Nat, y = yn := ⟨y.toNat, by omega⟩
              have hyl : (yn : Int) < Y := by omega
              have hnl := HNL.out yn hyl
              obtain ⟨lo, hlo⟩ : ∃ lo, yn * nn = lo := ⟨_, rfl⟩
              obtain ⟨hi, hhi⟩ : ∃ hi, lo + nn = hi := ⟨_, rfl⟩
              rw [hlo] at hnl
              have hmb := Int.mul_le_mul (show (yn : Int) ≤ 20 by omega) hXl (by omega) (by omega)
              have hm0 : 0 ≤ (yn : Int) * X := Int.mul_nonneg (by omega) (by omega)
              have g1' : (yn : Int) * X * K = (lo : Int) := by rw [Int.mul_assoc, HNN.out, ← hlo]; push_cast; rfl
              have g2' : ((yn : Int) + 1) * X = (yn : Int) * X + X := by rw [Int.add_mul, Int.one_mul]
              have g3' : ((yn : Int) + 1) * X * K = (hi : Int) := by rw [g2', Int.add_mul, g1', HNN.out, ← hhi]; push_cast; rfl
              have f1 : wrap64 ((yn : Int) * X) = (yn : Int) * X := wrap_in (by omega) (by omega)
              have f2 : wrap64 ((yn : Int) * X * K) = (lo : Int) := by rw [g1']; exact wrap_in (by omega) (by omega)
              have f3 : wrap64 (((yn : Int) + 1) * X) = ((yn : Int) + 1) * X := wrap_in (by omega) (by omega)
              have f4 : wrap64 (((yn : Int) + 1) * X * K) = (hi : Int) := by rw [g3']; exact wrap_in (by omega) (by omega)
              have f5 : (lo : Int) ≤ hi := by omega
              have f6 : (hi : Int) ≤ cr' := by omega
              have f7 : lo < cr' := by omega
              have hd1 : decide ((yn : Int) < 0) = false := decide_eq_false (by omega)
              have hd2 : ((yn : Int) == Y) = false := by rw [beq_eq_false_iff_ne]; omega
              have HT : Hid (hi - lo = nn) := Lib.hid (by omega)
              have HSUB := Lib.hid fun w' (h : Rd w' .u16 (.slice (some ⟨q', 0, none⟩) n cr') xm) => h.sub (lo := lo) (m := nn) (by have := HL1.out; omega)
              rw [Nat.zero_add] at HSUB
              have HRW := Lib.hid fun w' (h : ImgR w' g r X Y K T xm) => HROW.out w' yn h hyl
              rw [hlo] at HRW
              clear hlo hhi g1' g2' g3' hmb hm0
              go_wp2_with (first
                | (go_at_call 48; refine (HRW.out _ HPy.out.M).mono ?_; rintro e w6 ⟨x6, c6, rfl, ho6, hB6⟩; have HP6 := Lib.hid (HPy.out.below hB6); have HB6 := Lib.hid (HBy.out.trans (hB6.mono HBy.out.size)); have HR6 := Lib.hid ho6.rd; clear ho6 hB6 t0 t1 t2 t3 t4; obtain ⟨⟨t0, t1, t2, t3, t4⟩, -⟩ := row5v HP6.out.B))
              rw [HT.out]
              refine (refSame_any _ _ _ _ _ HR6.out (HSUB.out _ HP6.out.R)).mono ?_
              rintro e w7 ⟨rfl, m7, rfl⟩
              have hdd : decide (List.take nn (List.drop lo xm) = List.take nn (List.drop lo xm)) = true := decide_eq_true rfl
              rw [hdd]
              clear hdd f1 f2 f3 f4 f5 f6 f7
              go_wp2_with fail
              exact ⟨⟨yn + 1, by omega, by omega, rfl, HB6.out.trans ((Below.drewN m7).mono HB6.out.size)⟩, by simp [intOf]; omega⟩
          · obtain ⟨sb, hsb⟩ : ∃ sb, sb = decide (xs = xm) := ⟨_, rfl⟩
            have HSB := Lib.hid hsb
            have HREK := Lib.hid fun w' (h : ImgR w' g1 r1 X Y K T xs) => ref_any h (by have := HN.out; omega)
            rw [HN.out] at HREK
            clear hsb
            go_wp2_with fail
            have HPd := Lib.hid (HPy.out.below (Below.drew (Below.refl _ _)))
            refine rg_start (n := 9) (S := fun w' => PS w w' g r bx g1 r1 q' n cr' X Y K T xm xm xs ∧ (w'.cell? ⟨bx, 0, none⟩ = some (.int .i64 X) ∧ w'.cell? ⟨bx, 1, none⟩ = some (.int .i64 Y) ∧ w'.cell? ⟨bx, 2, none⟩ = some (.int .i64 K) ∧ w'.cell? ⟨bx, 3, none⟩ = some (.int .i64 T) ∧ w'.cell? ⟨bx, 4, none⟩ = some (.slice (some ⟨q', 0, none⟩) n cr'))) #[false, false, false, false, false, false, false, false, false] (by kernel_rfl) rfl rfl ⟨HPd.out, (row5v (HPd.out).B).1⟩ (fun hHeld => ?_)
            refine rg_take (i := 0) (N := some 160) (v := ?vr0) (a' := ?ar0) #[true, false, false, false, false, false, false, false, false] rfl rfl (by kernel_rfl) (fun _ _ _ h => h) (Or.inl ⟨by rfl, ?yr0⟩) hHeld ?hr0 ?kr0
            case yr0 => (intro w' hSw; obtain ⟨sP, ⟨s4, s5, s6, s7, s8⟩⟩ := hSw; go_simp <;> with_reducible rfl)
            case hr0 => (simp only [Act.put, List.setIfInBounds_toArray, List.set_cons_zero, List.set_cons_succ]; rfl)
            refine rg_take (i := 1) (N := some 161) (v := ?vr1) (a' := ?ar1) #[true, true, false, false, false, false, false, false, false] rfl rfl (by kernel_rfl) (fun _ _ _ h => h) (Or.inl ⟨by rfl, ?yr1⟩) hHeld ?hr1 ?kr1
            case yr1 => (intro w' hSw; obtain ⟨sP, ⟨s4, s5, s6, s7, s8⟩⟩ := hSw; go_simp <;> with_reducible rfl)
            case hr1 => (simp only [Act.put, List.setIfInBounds_toArray, List.set_cons_zero, List.set_cons_succ]; rfl)
            refine rg_take (i := 3) (N := some 163) (v := ?vr3) (a' := ?ar3) #[true, true, false, true, false, false, false, false, false] rfl rfl (by kernel_rfl) (fun _ _ _ h => h) (Or.inl ⟨by rfl, ?yr3⟩) hHeld ?hr3 ?kr3
            case yr3 => (intro w' hSw; obtain ⟨sP, ⟨s4, s5, s6, s7, s8⟩⟩ := hSw; go_simp <;> with_reducible rfl)
            case hr3 => (simp only [Act.put, List.setIfInBounds_toArray, List.set_cons_zero, List.set_cons_succ]; rfl)
            refine rg_take (i := 5) (N := some 165) (v := ?vr5) (a' := ?ar5) #[true, true, false, true, false, true, false, false, false] rfl rfl (by kernel_rfl) (fun _ _ _ h => h) (Or.inl ⟨by rfl, ?yr5⟩) hHeld ?hr5 ?kr5
            case yr5 => (intro w' hSw; obtain ⟨sP, ⟨s4, s5, s6, s7, s8⟩⟩ := hSw; go_simp <;> with_reducible rfl)
            case hr5 => (simp only [Act.put, List.setIfInBounds_toArray, List.set_cons_zero, List.set_cons_succ]; rfl)
            refine rg_one (i := 2) (N := some 162) #[true, true, true, true, false, true, false, false, false] rfl rfl (by kernel_rfl) (fun KQ hKQ => ?_)
            obtain ⟨sP, ⟨s4, s5, s6, s7, s8⟩⟩ := hHeld
            refine rg_call Try.func50 (by kernel_rfl) rfl #[Value.pointer (some ⟨g1, 0, none⟩), Value.pointer (some ⟨g, 0, none⟩)] (by rfl) rfl rfl (by simp only [List.map_toArray, List.map_cons, List.map_nil]; rfl) ?_
            with_reducible refine (same_sb2 sP.F sP.M HSB.out).mono ?_
            rintro e w11 ⟨rfl, m11, rfl⟩
            refine ⟨_, rfl, ?_⟩
            refine hKQ.out _ _ ⟨sP.below (Below.drewN m11), (row5v (sP.below (Below.drewN m11)).B).1⟩ (fun hHeld => ?_)
            clear hKQ KQ
            refine rg_norm (a' := ?ar2) ?hr2 ?kr2
            case hr2 => (simp only [Act.put, List.setIfInBounds_toArray, List.set_cons_zero, List.set_cons_succ]; rfl)
            refine rg_one (i := 4) (N := some 164) #[true, true, true, true, true, true, false, false, false] rfl rfl (by kernel_rfl) (fun KQ hKQ => ?_)
            obtain ⟨sP, ⟨s4, s5, s6, s7, s8⟩⟩ := hHeld
            refine rg_call Try.func63 (by kernel_rfl) rfl #[Value.pointer (some ⟨g1, 0, none⟩)] (by rfl) rfl rfl (by simp only [List.map_toArray, List.map_cons, List.map_nil]; rfl) ?_
            with_reducible refine (HREK.out _ sP.F).mono ?_
            rintro e w12 ⟨x12, c12, rfl, ho12, hB12⟩
            have HR12 := Lib.hid ho12.rd
            refine ⟨_, rfl, ?_⟩
            refine hKQ.out _ _ ⟨sP.below hB12, (row5v (sP.below hB12).B).1⟩ (fun hHeld => ?_)
            clear hKQ KQ
            refine rg_norm (a' := ?ar4) ?hr4 ?kr4
            case hr4 => (simp only [Act.put, List.setIfInBounds_toArray, List.set_cons_zero, List.set_cons_succ]; rfl)
            refine rg_one (i := 6) (N := some 166) #[true, true, true, true, true, true, true, false, false] rfl rfl (by kernel_rfl) (fun KQ hKQ => ?_)
            obtain ⟨sP, ⟨s4, s5, s6, s7, s8⟩⟩ := hHeld
            refine rg_call Try.func68 (by kernel_rfl) rfl #[imgV X Y K T (.slice x12 n c12), imgV X Y K T (.slice (some ⟨q', 0, none⟩) n cr')] (by rfl) rfl rfl (by simp only [List.map_toArray, List.map_cons, List.map_nil]; rfl) ?_
            with_reducible refine (eqv HR12.out sP.R HSB.out).mono ?_
            rintro e w13 ⟨rfl, hB13⟩
            refine ⟨_, rfl, ?_⟩
            refine hKQ.out _ _ ⟨sP.below hB13, (row5v (sP.below hB13).B).1⟩ (fun hHeld => ?_)
            clear hKQ KQ
            refine rg_norm (a' := ?ar6) ?hr6 ?kr6
            case hr6 => (simp only [Act.put, List.setIfInBounds_toArray, List.set_cons_zero, List.set_cons_succ]; rfl)
            refine rg_take (i := 7) (N := some 167) (v := .bool true) (a' := ?ar7) #[true, true, true, true, true, true, true, true, false] rfl rfl (by kernel_rfl) (fun _ _ _ h => h) (Or.inl ⟨by rfl, ?yr7⟩) hHeld ?hr7 ?kr7
            case yr7 => (intro w' hSw; obtain ⟨sP, ⟨s4, s5, s6, s7, s8⟩⟩ := hSw; go_simp <;> simp)
            case hr7 => (simp only [Act.put, List.setIfInBounds_toArray, List.set_cons_zero, List.set_cons_succ]; rfl)
            refine rg_take (i := 8) (N := some 12) (v := ?vr8) (a' := ?ar8) #[true, true, true, true, true, true, true, true, true] rfl rfl (by kernel_rfl) (fun _ _ _ h => h) (Or.inl ⟨by rfl, ?yr8⟩) hHeld ?hr8 ?kr8
            case yr8 => (intro w' hSw; obtain ⟨sP, ⟨s4, s5, s6, s7, s8⟩⟩ := hSw; go_simp <;> with_reducible rfl)
            case hr8 => (simp only [Act.put, List.setIfInBounds_toArray, List.set_cons_zero, List.set_cons_succ]; rfl)
            refine rg_done (by kernel_rfl) ?_
            obtain ⟨sE, -⟩ := hHeld
            go_wp2_with fail
            go_ret
            exact ⟨rfl, sE.bel⟩
end Go.Proofs.Ytnpkkcbgfnnfmaa
