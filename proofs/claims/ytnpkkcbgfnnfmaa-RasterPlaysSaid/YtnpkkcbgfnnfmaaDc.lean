import Derived.Test.YtnpkkcbgfnnfmaaDb
import Derived.Test.YtnpkkcbgfnnfmaaRi
/- The document's Of (smaltoref27). -/
namespace Go.Proofs.Ytnpkkcbgfnnfmaa
open Go.RowKit
set_option linter.unusedVariables false
set_option linter.unusedSimpArgs false
set_option maxRecDepth 100000

theorem step_lt {d : DD} {u v x y c : Int} (h : u < v) (hm : d.m < v - u) : d.step (absd u v) x y c = ⟨d.n + 1, v - u, d.s + (v - u), d.q + (v - u) * (v - u), x, y, c⟩ := by
  have e : absd u v = v - u := by unfold absd; rw [if_pos h]
  unfold DD.step
  rw [e, if_neg (by omega), if_pos hm, if_pos hm, if_pos hm, if_pos hm]
theorem step_lt_no {d : DD} {u v x y c : Int} (h : u < v) (hm : v - u ≤ d.m) : d.step (absd u v) x y c = ⟨d.n + 1, d.m, d.s + (v - u), d.q + (v - u) * (v - u), d.x, d.y, d.c⟩ := by
  have e : absd u v = v - u := by unfold absd; rw [if_pos h]
  unfold DD.step
  rw [e, if_neg (by omega), if_neg (by omega), if_neg (by omega), if_neg (by omega), if_neg (by omega)]
theorem step_gt {d : DD} {u v x y c : Int} (h : v < u) (hm : d.m < u - v) : d.step (absd u v) x y c = ⟨d.n + 1, u - v, d.s + (u - v), d.q + (u - v) * (u - v), x, y, c⟩ := by
  rw [absd_comm]
  exact step_lt h hm
theorem step_gt_no {d : DD} {u v x y c : Int} (h : v < u) (hm : u - v ≤ d.m) : d.step (absd u v) x y c = ⟨d.n + 1, d.m, d.s + (u - v), d.q + (u - v) * (u - v), d.x, d.y, d.c⟩ := by
  rw [absd_comm]
  exact step_lt_no h hm
theorem step_eq {d : DD} {u x y c : Int} : d.step (absd u u) x y c = d := by
  rw [absd_self]
  rfl

theorem refOf_no (W H C M W' H' C' M' : Int) (x x' : Option Addr) (n n' c c' : Nat) (w : World) (hne : (W == W' && (H == H' && C == C')) = false) :
    Calls Try.prog 62 #[imgV W H C M (.slice x n c), imgV W' H' C' M' (.slice x' n' c')] w fun e w' => e = .returned (.tuple #[.agg (ddC DD.zero), .bool false]) ∧ Below w.heap.size w w' := by
  have hW : (W == W') = true ∨ (W == W') = false := by cases (W == W') <;> simp
  have hH : (H == H') = true ∨ (H == H') = false := by cases (H == H') <;> simp
  have hC : (C == C') = true ∨ (C == C') = false := by cases (C == C') <;> simp
  rcases hW with hW | hW
  · have hW' : (W != W') = false := by simpa [bne] using hW
    rcases hH with hH | hH
    · have hH' : (H != H') = false := by simpa [bne] using hH
      have hC0 : (C == C') = false := by rw [hW, hH] at hne; simpa using hne
      have hC' : (C != C') = true := by simp [bne, hC0]
      clear hC hne
      go_enter Try.func62, Try.ntmps62
      go_wp2
      exact bodyPost_ret (v := .tuple #[.agg (ddC DD.zero), .bool false]) (by simp [results, Try.results62, go_sem, DD.zero]) rfl ⟨rfl, by repeat (first | exact Below.refl _ _ | apply Below.setCell | apply Below.alloc | simp | omega)⟩
    · have hH' : (H != H') = true := by simp [bne, hH]
      clear hC hne
      go_enter Try.func62, Try.ntmps62
      go_wp2
      exact bodyPost_ret (v := .tuple #[.agg (ddC DD.zero), .bool false]) (by simp [results, Try.results62, go_sem, DD.zero]) rfl ⟨rfl, by repeat (first | exact Below.refl _ _ | apply Below.setCell | apply Below.alloc | simp | omega)⟩
  · have hW' : (W != W') = true := by simp [bne, hW]
    clear hH hC hne
    go_enter Try.func62, Try.ntmps62
    go_wp2
    exact bodyPost_ret (v := .tuple #[.agg (ddC DD.zero), .bool false]) (by simp [results, Try.results62, go_sem, DD.zero]) rfl ⟨rfl, by repeat (first | exact Below.refl _ _ | apply Below.setCell | apply Below.alloc | simp | omega)⟩

theorem set7d {w w0 : World} {g : Nat} {d : DD} {t : TypeId} (h : w.heap[g]? = some (.cells (ddC d) t (0, 0))) (hg : w0.grownBy w (some g)) (n s q m x y c : Int) :
    (((((((w.setCell ⟨g, 0, none⟩ (.int .i64 n)).setCell ⟨g, 2, none⟩ (.int .i64 s)).setCell ⟨g, 3, none⟩ (.int .i64 q)).setCell ⟨g, 1, none⟩ (.int .i64 m)).setCell ⟨g, 4, none⟩ (.int .i64 x)).setCell ⟨g, 5, none⟩ (.int .i64 y)).setCell ⟨g, 6, none⟩ (.int .i64 c)).heap[g]? = some (.cells (ddC ⟨n, m, s, q, x, y, c⟩) t (0, 0)) ∧
    w0.grownBy (((((((w.setCell ⟨g, 0, none⟩ (.int .i64 n)).setCell ⟨g, 2, none⟩ (.int .i64 s)).setCell ⟨g, 3, none⟩ (.int .i64 q)).setCell ⟨g, 1, none⟩ (.int .i64 m)).setCell ⟨g, 4, none⟩ (.int .i64 x)).setCell ⟨g, 5, none⟩ (.int .i64 y)).setCell ⟨g, 6, none⟩ (.int .i64 c)) (some g) :=
  ⟨by simp [World.setCell, Array.getElem?_modify, h], grown_trans hg (grown_trans (grown_trans (grown_trans (grown_trans (grown_trans (grown_trans (grown_setCell w g 0 _) (grown_setCell _ g 2 _)) (grown_setCell _ g 3 _)) (grown_setCell _ g 1 _)) (grown_setCell _ g 4 _)) (grown_setCell _ g 5 _)) (grown_setCell _ g 6 _))⟩
theorem set3d {w w0 : World} {g : Nat} {d : DD} {t : TypeId} (h : w.heap[g]? = some (.cells (ddC d) t (0, 0))) (hg : w0.grownBy w (some g)) (n s q : Int) :
    (((w.setCell ⟨g, 0, none⟩ (.int .i64 n)).setCell ⟨g, 2, none⟩ (.int .i64 s)).setCell ⟨g, 3, none⟩ (.int .i64 q)).heap[g]? = some (.cells (ddC ⟨n, d.m, s, q, d.x, d.y, d.c⟩) t (0, 0)) ∧
    w0.grownBy (((w.setCell ⟨g, 0, none⟩ (.int .i64 n)).setCell ⟨g, 2, none⟩ (.int .i64 s)).setCell ⟨g, 3, none⟩ (.int .i64 q)) (some g) :=
  ⟨by simp [World.setCell, Array.getElem?_modify, h], grown_trans hg (grown_trans (grown_trans (grown_setCell w g 0 _) (grown_setCell _ g 2 _)) (grown_setCell _ g 3 _))⟩
theorem ddrow_eq' {w : World} {g : Nat} {d d' : DD} {t : TypeId} (h : w.heap[g]? = some (.cells (ddC d) t (0, 0))) (e : d' = d) : w.heap[g]? = some (.cells (ddC d') t (0, 0)) := by
  rw [e]
  exact h
theorem place_in' {W H C y x c : Nat} (hy : y < H) (hx : x < W) (hc : c < C) : inB W H C x y c = true := by
  unfold inB
  rw [decide_eq_true_eq]
  omega
theorem idx_lt {W H C y x c : Nat} (hy : y < H) (hx : x < W) (hc : c < C) : (y * W + x) * C + c < (H * W + 0) * C + 0 := by
  have h1 : y * W + x + 1 ≤ H * W := by
    have := Nat.mul_le_mul_right W (show y + 1 ≤ H by omega)
    rw [Nat.add_mul, Nat.one_mul] at this
    omega
  have h2 := Nat.mul_le_mul_right C h1
  rw [Nat.add_mul (y * W + x) 1 C, Nat.one_mul] at h2
  simp only [Nat.add_zero]
  omega
theorem idx_x (W C y x : Nat) : (y * W + x) * C + C = (y * W + (x + 1)) * C + 0 := by
  rw [← Nat.add_assoc (y * W) x 1, Nat.add_mul (y * W + x) 1 C, Nat.one_mul]
  rfl
theorem idx_y (W C y : Nat) : (y * W + W) * C + 0 = ((y + 1) * W + 0) * C + 0 := by
  rw [Nat.add_mul y 1 W, Nat.one_mul]
  rfl

theorem alloc4 (w : World) (a b c d : Obj) : (((((w.alloc a).alloc b).alloc c).alloc d).heap[w.heap.size]? = some a ∧ ((((w.alloc a).alloc b).alloc c).alloc d).heap[w.heap.size + 1]? = some b ∧
    ((((w.alloc a).alloc b).alloc c).alloc d).heap[w.heap.size + 1 + 1]? = some c ∧ ((((w.alloc a).alloc b).alloc c).alloc d).heap[w.heap.size + 1 + 1 + 1]? = some d) ∧ Below w.heap.size w ((((w.alloc a).alloc b).alloc c).alloc d) ∧ ((((w.alloc a).alloc b).alloc c).alloc d).heap.size = w.heap.size + 4 := by
  refine ⟨⟨?_, ?_, ?_, ?_⟩, (((((Below.refl _ _).alloc (Nat.le_refl _) _).alloc (by simp) _).alloc (by simp; omega) _).alloc (by simp; omega) _), by simp⟩
  · rw [heap_alloc_old _ _ (by simp; omega), heap_alloc_old _ _ (by simp; omega), heap_alloc2_old]
  · rw [heap_alloc_old _ _ (by simp; try omega), heap_alloc_old _ _ (by simp), heap_alloc2_new]
  · have := heap_alloc2_old ((w.alloc a).alloc b) c d
    simpa using this
  · have := heap_alloc_new (((w.alloc a).alloc b).alloc c) d
    simpa using this

set_option maxHeartbeats 16000000 in
theorem refOf_yes (W H C M M' : Int) (x x' : Option Addr) (n c c' : Nat) (xs ys : List Int) (w : World) (h : Rd w .u16 (.slice x n c) xs) (h' : Rd w .u16 (.slice x' n c') ys) (hs : Small W H C M xs) (hs' : Small W H C M' ys) :
    Calls Try.prog 62 #[imgV W H C M (.slice x n c), imgV W H C M' (.slice x' n c')] w fun e w' => e = .returned (.tuple #[.agg (ddC (dTo W C xs ys xs.length)), .bool true]) ∧ Below w.heap.size w w' := by
  obtain ⟨s1, s2, hK, s3, s4, s5, s6, s7, s8, s9, s10⟩ := hs.bd
  have hW20 := hs.lx
  have hH20 := hs.ly
  obtain ⟨Wn, rfl⟩ : ∃ k : Nat, W = k := ⟨W.toNat, by omega⟩
  obtain ⟨Hn, rfl⟩ : ∃ k : Nat, H = k := ⟨H.toNat, by omega⟩
  obtain ⟨Cn, rfl⟩ : ∃ k : Nat, C = k := ⟨C.toNat, by omega⟩
  have HLEN : Hid (xs.length = (Hn * Wn + 0) * Cn + 0) := Lib.hid (by
    have := hs.len
    rw [← Int.natCast_mul, ← Int.natCast_mul] at this
    have e : xs.length = Wn * Hn * Cn := by exact_mod_cast this
    rw [e, Nat.mul_comm Wn Hn]
    simp)
  have HR := Lib.hid h
  have HR' := Lib.hid h'
  have HU : Hid (U16 xs) := Lib.hid hs.u16
  have HU' : Hid (U16 ys) := Lib.hid hs'.u16
  have HAT := Lib.hid fun (w' : World) (a b d : Nat) (h : Rd w' .u16 (.slice x n c) xs) (hi : inB Wn Hn Cn a b d = true) => refAt_in Wn Hn Cn M x n c xs a b d w' h hs.code hs.len hi
  have HAT' := Lib.hid fun (w' : World) (a b d : Nat) (h : Rd w' .u16 (.slice x' n c') ys) (hi : inB Wn Hn Cn a b d = true) => refAt_in Wn Hn Cn M' x' n c' ys a b d w' h hs'.code hs'.len hi
  have hC1 : 1 ≤ Cn := by omega
  have hC3 : Cn ≤ 3 := by omega
  have hX : xs.length ≤ 1200 := s10
  clear h h' hs hs' hK s3 s4 s5 s6 s7 s8 s9 s10
  go_enter Try.func62, Try.ntmps62
  go_wp2_with fail
  obtain ⟨⟨q0, q1, q2, q3⟩, hb4, hz4⟩ := alloc4 w (.cells #[.int .i64 Wn, .int .i64 Hn, .int .i64 Cn, .int .i64 M, .slice x n c] 87) (.cells #[.int .i64 Wn, .int .i64 Hn, .int .i64 Cn, .int .i64 M', .slice x' n c'] 87) (.cells (ddC DD.zero) 83) (.cells (ddC DD.zero) 83)
  obtain ⟨w4, hw4⟩ : ∃ w4, ((((w.alloc (.cells #[.int .i64 Wn, .int .i64 Hn, .int .i64 Cn, .int .i64 M, .slice x n c] 87)).alloc (.cells #[.int .i64 Wn, .int .i64 Hn, .int .i64 Cn, .int .i64 M', .slice x' n c'] 87)).alloc (.cells (ddC DD.zero) 83)).alloc (.cells (ddC DD.zero) 83)) = w4 := ⟨_, rfl⟩
  have hg4 : (((w.alloc (.cells #[.int .i64 Wn, .int .i64 Hn, .int .i64 Cn, .int .i64 M, .slice x n c] 87)).alloc (.cells #[.int .i64 Wn, .int .i64 Hn, .int .i64 Cn, .int .i64 M', .slice x' n c'] 87)).alloc (.cells #[.int .i64 0, .int .i64 0, .int .i64 0, .int .i64 0, .int .i64 0, .int .i64 0, .int .i64 0] 83)).alloc (.cells #[.int .i64 0, .int .i64 0, .int .i64 0, .int .i64 0, .int .i64 0, .int .i64 0, .int .i64 0] 83) = w4 := hw4
  rw [hw4] at q0 q1 q2 q3 hb4 hz4
  rw [hg4]
  clear hw4 hg4
  have Q0 := Lib.hid q0
  have Q1 := Lib.hid q1
  have Q2 := Lib.hid q2
  have Q3 := Lib.hid q3
  have HB4 := Lib.hid hb4
  have hz4' : w.heap.size + 4 ≤ w4.heap.size := by omega
  have HX : Hid (∀ (w' : World) (y x c : Nat), y < Hn → x < Wn → c < Cn → xs.length ≤ 1200 → True) := Lib.hid fun _ _ _ _ _ _ _ _ => trivial
  clear q0 q1 q2 q3 hb4 hz4 HX
  go_loopw [36] (fun i wr => ∃ y : Nat, y ≤ Hn ∧ i = .int .i64 y ∧ wr.heap[w.heap.size + 1 + 1 + 1]? = some (.cells (ddC (dTo Wn Cn xs ys ((y * Wn + 0) * Cn + 0))) 83 (0, 0)) ∧ w4.grownBy wr (some (w.heap.size + 1 + 1 + 1))) (fun i _ => Hn - (intOf i).toNat)
  case atStart => exact ⟨0, by omega, rfl, by simpa [dTo] using Q3.out, World.grownBy.refl _ _⟩
  case round =>
    obtain ⟨y, hy, rfl, hrow, hgr⟩ := hrel
    have HROW := Lib.hid hrow
    have HG := Lib.hid hgr
    have hr0 := grown_row' hgr Q0.out (by simp; omega)
    obtain ⟨⟨c0, c1, c2, c3, c4⟩, -⟩ := row5v hr0
    clear hrow hgr hr0
    by_cases hlt : y < Hn
    · go_wp2_with fail
      obtain ⟨wo, hwo⟩ : ∃ wo, wr = wo := ⟨_, rfl⟩
      subst hwo
      clear c0 c1 c2 c3 c4
      go_loopw [41] (fun i wr => ∃ x : Nat, x ≤ Wn ∧ i = .int .i64 x ∧ wr.heap[w.heap.size + 1 + 1 + 1]? = some (.cells (ddC (dTo Wn Cn xs ys ((y * Wn + x) * Cn + 0))) 83 (0, 0)) ∧ w4.grownBy wr (some (w.heap.size + 1 + 1 + 1))) (fun i _ => Wn - (intOf i).toNat)
      case atStart => exact ⟨0, by omega, rfl, HROW.out, HG.out⟩
      case round =>
        obtain ⟨xx, hxx, rfl, hrow, hgr⟩ := hrel
        clear HROW HG
        have HROW := Lib.hid hrow
        have HG := Lib.hid hgr
        have hr0 := grown_row' hgr Q0.out (by simp; omega)
        obtain ⟨⟨c0, c1, c2, c3, c4⟩, -⟩ := row5v hr0
        clear hrow hgr hr0
        by_cases hltx : xx < Wn
        · go_wp2_with fail
          clear c0 c1 c2 c3 c4
          go_loopw [46] (fun i wr => ∃ z : Nat, z ≤ Cn ∧ i = .int .i64 z ∧ wr.heap[w.heap.size + 1 + 1 + 1]? = some (.cells (ddC (dTo Wn Cn xs ys ((y * Wn + xx) * Cn + z))) 83 (0, 0)) ∧ w4.grownBy wr (some (w.heap.size + 1 + 1 + 1))) (fun i _ => Cn - (intOf i).toNat)
          case atStart => exact ⟨0, by omega, rfl, HROW.out, HG.out⟩
          case round =>
            obtain ⟨z, hz, rfl, hrow, hgr⟩ := hrel
            clear HROW HG
            have HROW := Lib.hid hrow
            have HG := Lib.hid hgr
            by_cases hltz : z < Cn
            · have hr0 := grown_row' hgr Q0.out (by simp; omega)
              obtain ⟨⟨c0, c1, c2, c3, c4⟩, -⟩ := row5v hr0
              clear hrow hgr hr0
              have hin := place_in' hlt hltx hltz
              have hil := idx_lt hlt hltx hltz
              obtain ⟨k, hk⟩ : ∃ k, (y * Wn + xx) * Cn + z = k := ⟨_, rfl⟩
              have hpl := place_nat Wn Cn xx y z
              rw [hk] at hpl
              have hst := dTo_place (y := y) hltx hltz xs ys
              rw [hk] at hst HROW hil
              obtain ⟨d, hd⟩ : ∃ d, dTo Wn Cn xs ys k = d := ⟨_, rfl⟩
              rw [hd] at hst HROW
              have hbd := (dTo_bd Wn Cn HU.out HU'.out k).mono (l := 1200) (by have := HLEN.out; omega)
              rw [hd] at hbd
              obtain ⟨a1, a2, a3, a4, a5, a6, a7, a8⟩ := hbd
              obtain ⟨u, hu⟩ : ∃ u, xs.getD k 0 = u := ⟨_, rfl⟩
              obtain ⟨v, hv⟩ : ∃ v, ys.getD k 0 = v := ⟨_, rfl⟩
              have hub := HU.out.getD k
              have hvb := HU'.out.getD k
              rw [hu] at hub
              rw [hv] at hvb
              obtain ⟨u0, u1⟩ := hub
              obtain ⟨v0, v1⟩ := hvb
              rw [hu, hv] at hst
              have hat := HAT.out wr xx y z (HR.out.below (HB4.out.grown HG.out (by omega) (by intro q hq; cases hq; omega))) hin
              have hat' := fun w' h => HAT'.out w' xx y z h hin
              rw [hpl, hu] at hat
              rw [hpl, hv] at hat'
              have HA := Lib.hid hat
              have HA' := Lib.hid hat'
              have HST := Lib.hid hst
              have HK := Lib.hid hk
              clear hat hat' hst hu hv hd hpl hk hin hil
              go_wp2_with fail
              refine HA.out.mono ?_
              rintro e w5 ⟨rfl, hB5⟩
              have hG5 := grown_trans HG.out (grown_of_below hB5 (some (w.heap.size + 1 + 1 + 1)))
              have hR5 := (hB5.block _ (Array.getElem?_eq_some_iff.1 HROW.out).1).trans HROW.out
              have hr1 := grown_row' hG5 Q1.out (by simp; try omega)
              clear c0 c1 c2 c3 c4
              obtain ⟨⟨c0, c1, c2, c3, c4⟩, -⟩ := row5v hr1
              have HG5 := Lib.hid hG5
              have HR5 := Lib.hid hR5
              clear hB5 hG5 hR5 hr1
              go_wp2_with fail
              refine (HA'.out _ (HR'.out.below (HB4.out.grown HG5.out (by omega) (by intro q hq; cases hq; omega)))).mono ?_
              rintro e w6 ⟨rfl, hB6⟩
              have hG6 := grown_trans HG5.out (grown_of_below hB6 (some (w.heap.size + 1 + 1 + 1)))
              have hR6 := (hB6.block _ (Array.getElem?_eq_some_iff.1 HR5.out).1).trans HR5.out
              clear c0 c1 c2 c3 c4
              obtain ⟨⟨d0, d1, d2, d3, d4, d5, d6⟩, e0, e1, e2, e3, e4, e5, e6⟩ := row7 hR6
              have HG6 := Lib.hid hG6
              have HR6 := Lib.hid hR6
              clear hB6 hG6 hR6
              have hnk : (y * Wn + xx) * Cn + (z + 1) = k + 1 := by have := HK.out; omega
              have HNK := Lib.hid hnk
              clear hnk
              rcases Int.lt_trichotomy u v with huv | huv | huv
              · obtain ⟨t1, t2⟩ := sq_bd (b := v - u) (by omega) (by omega)
                have huvb : (v == u) = false := by rw [beq_eq_false_iff_ne]; omega
                by_cases hm : d.m < v - u
                · have HS := Lib.hid (HST.out.trans (step_lt huv hm))
                  go_wp2_with fail
                  have hfin := set7d HR6.out HG6.out (d.n + 1) (d.s + (v - u)) (d.q + (v - u) * (v - u)) (v - u) xx y z
                  rw [← HS.out, ← HNK.out] at hfin
                  exact ⟨⟨z + 1, by omega, by go_num, hfin.1, hfin.2⟩, by simp [intOf]; omega⟩
                · have HS := Lib.hid (HST.out.trans (step_lt_no huv (by omega)))
                  go_wp2_with fail
                  have hfin := set3d HR6.out HG6.out (d.n + 1) (d.s + (v - u)) (d.q + (v - u) * (v - u))
                  rw [← HS.out, ← HNK.out] at hfin
                  exact ⟨⟨z + 1, by omega, by go_num, hfin.1, hfin.2⟩, by simp [intOf]; omega⟩
              · subst huv
                have HS := Lib.hid (HST.out.trans step_eq)
                go_wp2_with fail
                refine ⟨⟨z + 1, by omega, by go_num, ?_, HG6.out⟩, by simp [intOf]; omega⟩
                rw [HNK.out, HS.out]
                exact HR6.out
              · obtain ⟨t1, t2⟩ := sq_bd (b := u - v) (by omega) (by omega)
                have huvb : (u == v) = false := by rw [beq_eq_false_iff_ne]; omega
                by_cases hm : d.m < u - v
                · have HS := Lib.hid (HST.out.trans (step_gt huv hm))
                  go_wp2_with fail
                  have hfin := set7d HR6.out HG6.out (d.n + 1) (d.s + (u - v)) (d.q + (u - v) * (u - v)) (u - v) xx y z
                  rw [← HS.out, ← HNK.out] at hfin
                  exact ⟨⟨z + 1, by omega, by go_num, hfin.1, hfin.2⟩, by simp [intOf]; omega⟩
                · have HS := Lib.hid (HST.out.trans (step_gt_no huv (by omega)))
                  go_wp2_with fail
                  have hfin := set3d HR6.out HG6.out (d.n + 1) (d.s + (u - v)) (d.q + (u - v) * (u - v))
                  rw [← HS.out, ← HNK.out] at hfin
                  exact ⟨⟨z + 1, by omega, by go_num, hfin.1, hfin.2⟩, by simp [intOf]; omega⟩
            · have hzc : z = Cn := by omega
              subst hzc
              clear hrow hgr
              go_wp2_with fail
              refine ⟨⟨xx + 1, by omega, by go_num, ?_, HG.out⟩, by simp [intOf]; omega⟩
              rw [← idx_x]
              exact HROW.out
        · have hzc : xx = Wn := by omega
          subst hzc
          go_wp2_with fail
          refine ⟨⟨y + 1, by omega, by go_num, ?_, HG.out⟩, by simp [intOf]; omega⟩
          rw [← idx_y]
          exact HROW.out
    · have hyn : y = Hn := by omega
      subst hyn
      have hrow := HROW.out
      rw [← HLEN.out] at hrow
      obtain ⟨⟨d0, d1, d2, d3, d4, d5, d6⟩, e0, e1, e2, e3, e4, e5, e6⟩ := row7 hrow
      have hr2 := grown_row' HG.out Q2.out (by simp; try omega)
      obtain ⟨⟨g0, g1, g2, g3, g4, g5, g6⟩, f0, f1, f2, f3, f4, f5, f6⟩ := row7 hr2
      have HR2 := Lib.hid hr2
      have HBF := Lib.hid (HB4.out.grown HG.out (by omega) (by intro q hq; cases hq; omega))
      clear hrow hr2 hy hlt
      go_wp2_with fail
      exact bodyPost_ret (res_ct_row rfl _ _ (w.heap.size + 1 + 1) 83 (ddC (dTo Wn Cn xs ys xs.length)) (0, 0) _ rfl (row_set7 HR2.out _ _ _ _ _ _ _) Try.underlying83 rfl (by kernel_rfl)) rfl ⟨rfl, below_set7 HBF.out (by omega) _ _ _ _ _ _ _⟩
end Go.Proofs.Ytnpkkcbgfnnfmaa
