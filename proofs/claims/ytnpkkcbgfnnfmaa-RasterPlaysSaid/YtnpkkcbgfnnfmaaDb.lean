import Derived.Test.YtnpkkcbgfnnfmaaDa
/- diff.Of. -/
namespace Go.Proofs.Ytnpkkcbgfnnfmaa
open Go.RowKit
set_option linter.unusedVariables false
set_option linter.unusedSimpArgs false
set_option maxRecDepth 100000

theorem res_ct_row {P : Program} {fn : Func} {p u : Tmp} {ty : TypeId} (h : fn.results = #[.cell p ty, .tmp u]) (tmps : Array Value) (w : World) (g : Nat) (t : TypeId) (cs : Array Value) (fr : Nat × Nat) (d : TypeDesc)
    (hp : tmps.getD p undef = .pointer (some ⟨g, 0, none⟩)) (hg : w.heap[g]? = some (.cells cs t fr))
    (hu : P.underlying ty = some d) (hd : (match d with | .struct _ | .array _ _ => true | _ => false) = true) (hi : (P.info? ty).map (·.size) = some cs.size) :
    (results fn tmps).run P w = .ok (.tuple #[.agg cs, tmps.getD u undef]) w := by
  rw [results_cell_tmp h, hp]
  simp [asAddr, run_loadVar_row w g t ty cs fr d hg hu hd hi, Result.andThen]
theorem set_at {w : World} {g : Nat} {cs : Array Value} {t : TypeId} (h : w.heap[g]? = some (.cells cs t (0, 0))) (i : Nat) (v : Value) : (w.setCell ⟨g, i, none⟩ v).heap[g]? = some (.cells (cs.setIfInBounds i v) t (0, 0)) := by
  simp [World.setCell, Array.getElem?_modify, h]
theorem row_set7 {w : World} {h : Nat} {a b c d e f g : Value} {t : TypeId} (hr : w.heap[h]? = some (.cells #[a, b, c, d, e, f, g] t (0, 0))) (a' b' c' d' e' f' g' : Value) :
    (((((((w.setCell ⟨h, 0, none⟩ a').setCell ⟨h, 1, none⟩ b').setCell ⟨h, 2, none⟩ c').setCell ⟨h, 3, none⟩ d').setCell ⟨h, 4, none⟩ e').setCell ⟨h, 5, none⟩ f').setCell ⟨h, 6, none⟩ g').heap[h]? = some (.cells #[a', b', c', d', e', f', g'] t (0, 0)) :=
  by simp [World.setCell, Array.getElem?_modify, hr]
theorem below_set7 {B : Nat} {w w' : World} {g : Nat} (h : Below B w w') (hg : B ≤ g) (a' b' c' d' e' f' g' : Value) :
    Below B w (((((((w'.setCell ⟨g, 0, none⟩ a').setCell ⟨g, 1, none⟩ b').setCell ⟨g, 2, none⟩ c').setCell ⟨g, 3, none⟩ d').setCell ⟨g, 4, none⟩ e').setCell ⟨g, 5, none⟩ f').setCell ⟨g, 6, none⟩ g') :=
  ((((((h.setCell hg _).setCell hg _).setCell hg _).setCell hg _).setCell hg _).setCell hg _).setCell hg _
theorem ddrow_eq {w : World} {g : Nat} {d : DD} {z z' x y c : Int} {t : TypeId} (h : w.heap[g]? = some (.cells (ddC (d.step z x y c)) t (0, 0))) (e : z' = z) : w.heap[g]? = some (.cells (ddC (d.step z' x y c)) t (0, 0)) := by
  rw [e]
  exact h
theorem grown_row' {w w' : World} {row : Option Nat} {g : Nat} {o : Obj} (hg : w.grownBy w' row) (h : w.heap[g]? = some o) (hne : some g ≠ row) : w'.heap[g]? = some o :=
  (hg.block g (Array.getElem?_eq_some_iff.1 h).1 hne).trans h
theorem own_ge' {w : World} {base : Nat} {t : TypeId} {k : IntKind} {v : Value} {xs : List Int} (h : Own w base t k v xs) : ∀ q, v.ownBlock = some q → base ≤ q ∧ q < w.heap.size := World.ownsRow.lt h

section
variable {w : World} {g b g' b' : Nat} {W H C M W' H' C' M' : Int} {xs ys : List Int}

theorem diffOf_no (h : ImgR w g b W H C M xs) (h' : ImgR w g' b' W' H' C' M' ys) (hne : (W == W' && (H == H' && C == C')) = false) :
    Calls Try.prog 61 #[.pointer (some ⟨g, 0, none⟩), .pointer (some ⟨g', 0, none⟩)] w fun e w' => e = .returned (.tuple #[.agg (ddC DD.zero), .bool false]) ∧ Below w.heap.size w w' := by
  have HI := Lib.hid fun o => alike_any (h.below ((Below.refl w.heap.size w).alloc (Nat.le_refl _) o)) (h'.below ((Below.refl w.heap.size w).alloc (Nat.le_refl _) o))
  rw [hne] at HI
  clear h h' hne
  go_enter Try.func61, Try.ntmps61
  go_wp2_with (go_at_call 86; refine (HI.out _).mono ?_; rintro e w' ⟨rfl, rfl⟩)
  exact bodyPost_ret (v := .tuple #[.agg (ddC DD.zero), .bool false]) (by simp [results, Try.results61, go_sem, DD.zero]) rfl ⟨rfl, by repeat (first | exact Below.refl _ _ | apply Below.setCell | apply Below.alloc | simp)⟩
theorem diffOf_left (x : Option Addr) (w : World) :
    Calls Try.prog 61 #[.pointer none, .pointer x] w fun e w' => e = .returned (.tuple #[.agg (ddC DD.zero), .bool false]) ∧ Below w.heap.size w w' := by
  go_enter Try.func61, Try.ntmps61
  go_wp2_with (go_at_call 86; refine (alike_left_nil _ _).mono ?_; rintro e w' ⟨rfl, rfl⟩)
  exact bodyPost_ret (v := .tuple #[.agg (ddC DD.zero), .bool false]) (by simp [results, Try.results61, go_sem, DD.zero]) rfl ⟨rfl, by repeat (first | exact Below.refl _ _ | apply Below.setCell | apply Below.alloc | simp)⟩
theorem diffOf_right (g : Nat) (w : World) :
    Calls Try.prog 61 #[.pointer (some ⟨g, 0, none⟩), .pointer none] w fun e w' => e = .returned (.tuple #[.agg (ddC DD.zero), .bool false]) ∧ Below w.heap.size w w' := by
  go_enter Try.func61, Try.ntmps61
  go_wp2_with (go_at_call 86; refine (alike_right_nil _ _).mono ?_; rintro e w' ⟨rfl, rfl⟩)
  exact bodyPost_ret (v := .tuple #[.agg (ddC DD.zero), .bool false]) (by simp [results, Try.results61, go_sem, DD.zero]) rfl ⟨rfl, by repeat (first | exact Below.refl _ _ | apply Below.setCell | apply Below.alloc | simp)⟩

theorem DBd.mono {d : DD} {k l : Int} (h : DBd d k) (hl : k ≤ l) : DBd d l :=
  ⟨h.n0, by have := h.n1; omega, h.m0, h.m1, h.s0, by have := h.s1; omega, h.q0, by have := h.q1; omega⟩

set_option maxHeartbeats 1000000 in
theorem diffOf_yes (h : ImgR w g b W H C M xs) (h' : ImgR w g' b' W H C M' ys) (hs : Small W H C M xs) (hs' : Small W H C M' ys) :
    Calls Try.prog 61 #[.pointer (some ⟨g, 0, none⟩), .pointer (some ⟨g', 0, none⟩)] w fun e w' => e = .returned (.tuple #[.agg (ddC (dTo W C xs ys xs.length)), .bool true]) ∧ Below w.heap.size w w' := by
  have HA := Lib.hid fun o => alike_any (h.below ((Below.refl w.heap.size w).alloc (Nat.le_refl _) o)) (h'.below ((Below.refl w.heap.size w).alloc (Nat.le_refl _) o))
  rw [show (W == W && (H == H && C == C)) = true by simp] at HA
  have HI := Lib.hid h
  have HI' := Lib.hid h'
  obtain ⟨s1, s2, hK, s3, s4, s5, s6, s7, s8, s9, s10⟩ := hs.bd
  have hW20 := hs.lx
  have hlen : ys.length = xs.length := by have := hs.len; have := hs'.len; omega
  obtain ⟨n, hn⟩ : ∃ n, xs.length = n := ⟨_, rfl⟩
  rw [hn] at hlen s9 s10 ⊢
  have HN := Lib.hid hn
  have HNY := Lib.hid hlen
  have HU : Hid (U16 xs) := Lib.hid hs.u16
  have HU' : Hid (U16 ys) := Lib.hid hs'.u16
  have hC1 : 1 ≤ C := by rcases hK with rfl | rfl <;> omega
  have hC3 : C ≤ 3 := by rcases hK with rfl | rfl <;> omega
  clear h h' hs hs' hn hlen hK s5 s6 s7 s8
  go_enter Try.func61, Try.ntmps61
  go_wp2_with (go_at_call 86; refine (HA.out _).mono ?_; rintro e w' ⟨rfl, rfl⟩)
  refine (samples_any (HI'.out.below (((Below.refl w.heap.size w).alloc (Nat.le_refl _) _).alloc (by simp) _)) (by rw [HNY.out]; omega)).mono ?_
  rw [HNY.out]
  rintro e w1 ⟨x1, c1, rfl, ho1, hB1⟩
  have HB1 := Lib.hid ((((Below.refl w.heap.size w).alloc (Nat.le_refl _) (.cells (ddC DD.zero) 80)).alloc (by simp) (.cells (ddC DD.zero) 80)).trans (hB1.mono (by simp; omega)))
  have HR4 := Lib.hid ((hB1.block w.heap.size (by simp; omega)).trans (heap_alloc2_old w _ _))
  have HRD := Lib.hid ((hB1.block (w.heap.size + 1) (by simp)).trans (heap_alloc2_new w _ _))
  have HO1 := Lib.hid ho1
  have hsz1 : w.heap.size + 2 ≤ w1.heap.size := by have := hB1.size; simp at this; omega
  clear ho1 hB1
  go_wp2_with fail
  refine (samples_any (HI.out.below HB1.out) (by rw [HN.out]; omega)).mono ?_
  rw [HN.out]
  rintro e w2 ⟨x2, c2, rfl, ho2, hB2⟩
  have HB2 := Lib.hid (HB1.out.trans (hB2.mono HB1.out.size))
  have HR4' := Lib.hid ((hB2.block w.heap.size (by omega)).trans HR4.out)
  have HRD' := Lib.hid ((hB2.block (w.heap.size + 1) (by omega)).trans HRD.out)
  have HO1' := Lib.hid (HO1.out.below hB2)
  have HO2 := Lib.hid ho2
  have hsz2 : w.heap.size + 2 ≤ w2.heap.size := by have := hB2.size; omega
  have HX1 : Hid (∀ q, (Value.slice x1 n c1).ownBlock = some q → w.heap.size + 2 ≤ q) := Lib.hid fun q hq => by have := (own_ge' HO1.out q hq).1; simp at this; omega
  have HX2 : Hid (∀ q, (Value.slice x2 n c2).ownBlock = some q → w.heap.size + 2 ≤ q) := Lib.hid fun q hq => by have := (own_ge' HO2.out q hq).1; omega
  have HRA : Hid (Rd w2 .u16 (.slice x1 n c1) ys) := Lib.hid HO1'.out.rd
  have HRB : Hid (Rd w2 .u16 (.slice x2 n c2) xs) := Lib.hid HO2.out.rd
  have HIA := Lib.hid (HI.out.below HB2.out)
  have hgl := HI.out.lt_g
  have hbl := HI.out.lt_b
  clear ho2 hB2 HO1 HO2 HO1' HR4 HRD HB1 HI HI' HA
  go_wp2_with fail
  go_loopw [21] (fun i wr => ∃ k : Nat, k ≤ n ∧ i = .int .i64 k ∧ wr.heap[w.heap.size + 1]? = some (.cells (ddC (dTo W C xs ys k)) 80 (0, 0)) ∧ w2.grownBy wr (some (w.heap.size + 1))) (fun i _ => n - (intOf i).toNat)
  case atStart => exact ⟨0, by omega, rfl, HRD'.out, World.grownBy.refl _ _⟩
  case round =>
    obtain ⟨k, hk, rfl, hrow, hgr⟩ := hrel
    have HG := Lib.hid hgr
    have HROW := Lib.hid hrow
    by_cases hlt : k < n
    · have hkx : k < xs.length := by have := HN.out; omega
      have hky : k < ys.length := by have := HNY.out; omega
      have hr1 := HRA.out.grown HG.out (.inr (fun e => by have := HX1.out _ e; omega))
      have hr2 := HRB.out.grown HG.out (.inr (fun e => by have := HX2.out _ e; omega))
      obtain ⟨a1, rfl⟩ := HRA.out.some_ (by omega)
      obtain ⟨a2, rfl⟩ := HRB.out.some_ (by omega)
      obtain ⟨u, HUU, cu⟩ := hr2.get rfl hkx
      obtain ⟨u', HUU', cu'⟩ := hr1.get rfl hky
      have ub := HU.out.getD k
      have ub' := HU'.out.getD k
      rw [HUU.out] at ub
      rw [HUU'.out] at ub'
      obtain ⟨u0, u1⟩ := ub
      obtain ⟨v0, v1⟩ := ub'
      have HIM := Lib.hid (HIA.out.grown HG.out (by simp; omega) (by simp; omega))
      have HBD := Lib.hid ((dTo_bd W C HU.out HU'.out k).mono (l := 1200) (by omega))
      clear hr1 hr2 hrow hgr
      rcases Int.lt_or_le u u' with huu | huu
      all_goals
        go_wp2_with (first
          | (go_at_call 26; refine (width_any HIM.out).mono ?_; rintro e w3 ⟨rfl, rfl⟩)
          | (go_at_call 28; refine (channels_any HIM.out).mono ?_; rintro e w3 ⟨rfl, rfl⟩)
          | (go_at_call 87; refine (add_any _ _ (dTo W C xs ys k) _ k W C HROW.out HBD.out (by omega) (by omega) (by omega) (by omega) s1 hW20 hC1 hC3).mono ?_; rintro e w3 ⟨rfl, hr3, hg3⟩; have HR3 := Lib.hid hr3; have HG3 := Lib.hid hg3; clear hr3 hg3))
        refine ⟨⟨k + 1, by omega, by go_num, ?_, grown_trans HG.out HG3.out⟩, by simp [intOf]; omega⟩
        rw [dTo, HUU.out, HUU'.out]
        exact ddrow_eq HR3.out (by unfold absd; split <;> omega)
    · have hkn : k = n := by omega
      subst hkn
      have HB3 := Lib.hid (HB2.out.grown HG.out (by omega) (by intro q hq; cases hq; omega))
      have hr4 := grown_row' HG.out HR4'.out (by simp)
      obtain ⟨⟨c0, c1, c2, c3, c4, c5, c6⟩, f0, f1, f2, f3, f4, f5, f6⟩ := row7 hrow
      obtain ⟨⟨d0, d1, d2, d3, d4, d5, d6⟩, e0, e1, e2, e3, e4, e5, e6⟩ := row7 hr4
      have HR4 := Lib.hid hr4
      clear hrow hgr hr4 hk hlt
      go_wp2
      exact bodyPost_ret (res_ct_row rfl _ _ w.heap.size 80 (ddC (dTo W C xs ys k)) (0, 0) _ rfl (row_set7 HR4.out _ _ _ _ _ _ _) Try.underlying80 rfl (by kernel_rfl)) rfl ⟨rfl, below_set7 HB3.out (Nat.le_refl _) _ _ _ _ _ _ _⟩
end
end Go.Proofs.Ytnpkkcbgfnnfmaa
