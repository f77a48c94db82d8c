import Derived.Test.YtnpkkcbgfnnfmaaQe
import Derived.Test.YtnpkkcbgfnnfmaaLMath
import Derived.Deep.RegionHeld3
import Derived.Deep.DeepCutAuto
import Derived.Deep.CutBlock
import Derived.Outline
/- The law QueuePlays: its walk. -/
namespace Go.Proofs.Ytnpkkcbgfnnfmaa
open Go.RowKit
set_option linter.unusedVariables false
set_option linter.unusedSimpArgs false
set_option maxRecDepth 100000

theorem sw4 (u : Int) : (u % 4 == 2) = true ∨ ((u % 4 == 2) = false ∧ (u % 4 == 3) = true) ∨ ((u % 4 == 2) = false ∧ (u % 4 == 3) = false) := by
  simp only [beq_eq_false_iff_ne, beq_iff_eq]
  omega
theorem roomQ_bd (a : Int) : 1 ≤ roomQ a ∧ roomQ a ≤ 4096 := by
  unfold roomQ
  split
  · omega
  · split <;> omega

/-- the document's numbers: a slice apart from the program's queue and from the box -/
def QL (w : World) (B g gb : Nat) (ob : Option Nat) (v : Value) (xs : List Int) : Prop :=
  Rd w .i64 v xs ∧ ((v = .slice none 0 0 ∧ xs = []) ∨ ∃ b o c, v = .slice (some ⟨b, o, none⟩) xs.length c ∧ B ≤ b ∧ b < w.heap.size ∧ b ≠ g ∧ b ≠ gb ∧ some b ≠ ob)

/-- all that a round keeps: the program's queue (xs, cl), the document's (v, that reads zs; dl) in its box -/
structure PS (w0 w : World) (B g gb : Nat) (ob : Option Nat) (room : Int) (xs : List Int) (cl : Bool) (v : Value) (zs : List Int) (dl : Bool) : Prop where
  qu : Qu w B g ob room xs cl
  ql : QL w B g gb ob v zs
  box : w.heap[gb]? = some (.cells #[.int .i64 room, v, .bool dl] 49 (0, 0))
  bel : Below w0.heap.size w0 w
  le : B ≤ w.heap.size
  le0 : w0.heap.size ≤ B
  gbB : B ≤ gb
  ne : gb ≠ g
  nob : some gb ≠ ob

section
variable {w0 w w' : World} {B g gb : Nat} {ob ob' : Option Nat} {room : Int} {xs xs' zs zs' : List Int} {cl cl' dl dl' : Bool} {v v' : Value}

theorem QL.form (h : QL w B g gb ob v zs) : ∃ x c, v = .slice x zs.length c ∧ ∀ a, x = some a → ∃ b o, a = ⟨b, o, none⟩ := by
  obtain ⟨_, h⟩ := h
  rcases h with ⟨rfl, rfl⟩ | ⟨b, o, c, rfl, _⟩
  · exact ⟨none, 0, rfl, fun a h => by cases h⟩
  · exact ⟨_, c, rfl, fun a h => by cases h; exact ⟨b, o, rfl⟩⟩
theorem QL.some_ {x : Option Addr} {n c : Nat} (h : QL w B g gb ob (.slice x n c) zs) (hz : zs ≠ []) : ∃ b o, x = some ⟨b, o, none⟩ ∧ n = zs.length ∧ B ≤ b ∧ b < w.heap.size ∧ b ≠ g ∧ b ≠ gb ∧ some b ≠ ob := by
  obtain ⟨_, h⟩ := h
  rcases h with ⟨h1, h2⟩ | ⟨b, o, c', h1, h2⟩
  · exact absurd h2 hz
  · injection h1 with e1 e2 e3
    exact ⟨b, o, e1, e2, h2⟩
theorem QL.kept (h : QL w B g gb ob v zs) (hk : ∀ b, v.ownBlock = some b → b < w.heap.size → w'.heap[b]? = w.heap[b]?) (hs : w.heap.size ≤ w'.heap.size) : QL w' B g gb ob v zs := by
  obtain ⟨h1, h2⟩ := h
  refine ⟨h1.kept hk, ?_⟩
  rcases h2 with h | ⟨b, o, c, e, k1, k2, k3⟩
  · exact .inl h
  · exact .inr ⟨b, o, c, e, k1, by omega, k3⟩
theorem QL.own (h : QL w B g gb ob v zs) : ∀ b, v.ownBlock = some b → b < w.heap.size ∧ b ≠ g ∧ b ≠ gb ∧ some b ≠ ob := by
  obtain ⟨h1, h2⟩ := h
  intro q hq
  rcases h2 with ⟨rfl, _⟩ | ⟨b, o, c, rfl, k1, k2, k3, k4, k5⟩
  · simp [Value.ownBlock] at hq
  · simp [Value.ownBlock] at hq
    subst hq
    exact ⟨k2, k3, k4, k5⟩
theorem PS.below (h : PS w0 w B g gb ob room xs cl v zs dl) (hB : Below w.heap.size w w') : PS w0 w' B g gb ob room xs cl v zs dl :=
  ⟨h.qu.below hB, h.ql.kept (fun b _ hb => hB.block b hb) hB.size, (hB.block gb (heap_lt h.box)).trans h.box, h.bel.trans (hB.mono h.bel.size), Nat.le_trans h.le hB.size, h.le0, h.gbB, h.ne, h.nob⟩
theorem PS.drewN (h : PS w0 w B g gb ob room xs cl v zs dl) (m : Nat) : PS w0 (w.drewN m) B g gb ob room xs cl v zs dl := h.below (Below.drewN m)
theorem PS.next (h : PS w0 w B g gb ob room xs cl v zs dl) (hq : QL w B g gb ob v' zs') (dl' : Bool) (o : Obj) :
    PS w0 ((((w.alloc o).setCell ⟨gb, 0, none⟩ (.int .i64 room)).setCell ⟨gb, 1, none⟩ v').setCell ⟨gb, 2, none⟩ (.bool dl')) B g gb ob room xs cl v' zs' dl' := by
  have h1 := h.below ((Below.refl w.heap.size w).alloc (Nat.le_refl _) o)
  have hq1 : QL (w.alloc o) B g gb ob v' zs' := hq.kept (fun b _ hb => Below.heap_alloc _ _ _ hb) (by simp)
  have hb : ∀ k, k ≠ gb → ((((w.alloc o).setCell ⟨gb, 0, none⟩ (.int .i64 room)).setCell ⟨gb, 1, none⟩ v').setCell ⟨gb, 2, none⟩ (.bool dl')).heap[k]? = (w.alloc o).heap[k]? := fun k hk => by
    rw [Below.heap_setCell _ _ _ _ hk, Below.heap_setCell _ _ _ _ hk, Below.heap_setCell _ _ _ _ hk]
  refine ⟨h1.qu.kept (hb _ (Ne.symm h1.ne)) (fun k hk => hb k (fun e => h1.nob (by rw [← e, hk]))), hq1.kept (fun b hb' _ => hb b (hq1.own b hb').2.2.1) (by simp [World.setCell]), ?_, ((h1.bel.setCell (show w0.heap.size ≤ gb by have := h1.le0; have := h1.gbB; omega) _).setCell (show w0.heap.size ≤ gb by have := h1.le0; have := h1.gbB; omega) _).setCell (show w0.heap.size ≤ gb by have := h1.le0; have := h1.gbB; omega) _, by have := h1.le; simpa [World.setCell] using this, h1.le0, h1.gbB, h1.ne, h1.nob⟩
  have := h1.box
  simp [World.setCell, Array.getElem?_modify, this]
theorem PS.kept (h : PS w0 w B g gb ob room xs cl v zs dl) (hk : Kept2 w w' g ob) (hq : Qu w' B g ob' room xs' cl') (ho : ob' = ob ∨ ∃ k, ob' = some k ∧ w.heap.size ≤ k) : PS w0 w' B g gb ob' room xs' cl' v zs dl := by
  have hgl := heap_lt h.box
  have hx : ∀ k, k < w.heap.size → some k ≠ ob → some k ≠ ob' := fun k hk hne => by
    rcases ho with rfl | ⟨q, rfl, hq⟩
    · exact hne
    · intro e; injection e with e; omega
  refine ⟨hq, ?_, (hk.block gb hgl h.ne h.nob).trans h.box, Kept2.below h.bel hk h.bel.size (by have := h.qu.ge; have := h.le0; omega) (fun k hk => by have := (h.qu.ob_ge k hk).1; have := h.le0; omega), Nat.le_trans h.le hk.size, h.le0, h.gbB, h.ne, hx _ hgl h.nob⟩
  obtain ⟨h1, h2⟩ := h.ql.kept (w' := w') (fun b hb hlt => hk.block b hlt (h.ql.own b hb).2.1 (h.ql.own b hb).2.2.2) hk.size
  refine ⟨h1, ?_⟩
  have hown := h.ql.own
  rcases h2 with h | ⟨b, o, c, rfl, k1, k2, k3, k4, k5⟩
  · exact .inl h
  · exact .inr ⟨b, o, c, rfl, k1, k2, k3, k4, hx b (hown b rfl).1 k5⟩
theorem PS.cells (h : PS w0 w B g gb ob room xs cl v zs dl) : w.cell? ⟨gb, 0, none⟩ = some (.int .i64 room) ∧ w.cell? ⟨gb, 1, none⟩ = some v ∧ w.cell? ⟨gb, 2, none⟩ = some (.bool dl) ∧ PS w0 w B g gb ob room xs cl v zs dl :=
  have r := (row3 h.box).1
  ⟨r.1, r.2.1, r.2.2, h⟩
theorem PS.froz (h : PS w0 w B g gb ob room xs cl v zs dl) : w.frozen? ⟨gb, 0, none⟩ = false ∧ w.frozen? ⟨gb, 1, none⟩ = false ∧ w.frozen? ⟨gb, 2, none⟩ = false := (row3 h.box).2
theorem PS.cellsA (h : PS w0 w B g gb ob room xs cl v zs dl) : (∀ o, (w.alloc o).cell? ⟨gb, 0, none⟩ = some (.int .i64 room)) ∧ (∀ o, (w.alloc o).cell? ⟨gb, 1, none⟩ = some v) ∧ (∀ o, (w.alloc o).cell? ⟨gb, 2, none⟩ = some (.bool dl)) ∧
    (∀ o, (w.alloc o).frozen? ⟨gb, 0, none⟩ = false) ∧ (∀ o, (w.alloc o).frozen? ⟨gb, 1, none⟩ = false) ∧ (∀ o, (w.alloc o).frozen? ⟨gb, 2, none⟩ = false) :=
  have k := fun o => (h.below ((Below.refl w.heap.size w).alloc (Nat.le_refl _) o))
  ⟨fun o => (k o).cells.1, fun o => (k o).cells.2.1, fun o => (k o).cells.2.2.1, fun o => (k o).froz.1, fun o => (k o).froz.2.1, fun o => (k o).froz.2.2⟩
theorem PS.close (h : PS w0 w B g gb ob room xs cl v zs dl) (dl' : Bool) : PS w0 (w.setCell ⟨gb, 2, none⟩ (.bool dl')) B g gb ob room xs cl v zs dl' := by
  have hb : ∀ k, k ≠ gb → (w.setCell ⟨gb, 2, none⟩ (.bool dl')).heap[k]? = w.heap[k]? := fun k hk => Below.heap_setCell _ _ _ _ hk
  refine ⟨h.qu.kept (hb _ (Ne.symm h.ne)) (fun k hk => hb k (fun e => h.nob (by rw [← e, hk]))), h.ql.kept (fun b hb' _ => hb b (h.ql.own b hb').2.2.1) (by simp [World.setCell]), ?_, h.bel.setCell (show w0.heap.size ≤ gb by have := h.le0; have := h.gbB; omega) _, by have := h.le; simpa [World.setCell] using this, h.le0, h.gbB, h.ne, h.nob⟩
  have := h.box
  simp [World.setCell, Array.getElem?_modify, this]
theorem PS.start (hq : Qu w B g none room [] false) (hB : Below w0.heap.size w0 w) (h0 : w0.heap.size ≤ B) (hl : B ≤ w.heap.size) :
    PS w0 (w.alloc (.cells #[.int .i64 room, .slice none 0 0, .bool false] 49)) B g w.heap.size none room [] false (.slice none 0 0) [] false :=
  ⟨hq.below ((Below.refl _ _).alloc (Nat.le_refl _) _), ⟨Rd.nil _ _, .inl ⟨rfl, rfl⟩⟩, heap_alloc_new _ _, hB.alloc hB.size _, by simp; omega, h0, hl, by have := hq.lt; omega, by simp⟩
end

set_option maxHeartbeats 8000000 in
theorem queuePlays_walk (a0 : Int) (v1 : Value) (ks : List Int) (v2 : Value) (ys : List Int) (w : World) (w0 : (Lit.int .i64 a0).wf = true) (rd1 : Rd w .u8 v1 ks) (wf1 : ∀ x ∈ ks, (Lit.int .u8 x).wf = true) (sz1 : ks.length * 1 ≤ 140737488351232)
    (rd2 : Rd w .i64 v2 ys) (wf2 : ∀ x ∈ ys, (Lit.int .i64 x).wf = true) (sz2 : ys.length * 8 ≤ 140737488351232) :
    Calls Try.prog 7 #[.int .i64 a0, v1, v2] w fun e w' => e = .returned (.bool true) ∧ Below w.heap.size w w' := by
  have HR1 := Lib.hid rd1
  have HR2 := Lib.hid rd2
  obtain ⟨x1, c1, rfl, h11, h12, hx1⟩ := rd1.form
  obtain ⟨x2, c2, rfl, h21, h22, hx2⟩ := rd2.form
  unfold maxLen at h11 h21
  obtain ⟨n, hn⟩ : ∃ n, ks.length = n := ⟨_, rfl⟩
  obtain ⟨m, hm⟩ : ∃ m, ys.length = m := ⟨_, rfl⟩
  rw [hn] at h12 HR1 sz1 ⊢
  rw [hm] at h22 HR2 sz2 ⊢
  have HN := Lib.hid hn
  have HM := Lib.hid hm
  have HW1 : Hid (∀ x ∈ ks, 0 ≤ x ∧ x ≤ 255) := Lib.hid fun x hx => of_wf_u8 (wf1 x hx)
  clear rd1 rd2 wf1 wf2 hn hm hx1 hx2 w0
  by_cases h5 : 60 < n
  · go_enter Try.func7, Try.ntmps7
    go_wp2_with (first
      | (go_at_call 30; refine (lives18_any _).mono ?_; rintro e wl ⟨rfl, hBl⟩; have HBl := Lib.hid hBl; clear hBl))
    go_ret
    rename_i wx hbx _
    exact ⟨rfl, hbx.out.trans (HBl.out.mono hbx.out.size)⟩
  · have h5' : n ≤ 60 := by omega
    clear h5
    go_enter Try.func7, Try.ntmps7
    go_wp2_with (first
      | (go_at_call 30; refine (lives18_any _).mono ?_; rintro e wl ⟨rfl, hBl⟩; have HBl := Lib.hid hBl; clear hBl)
      | (go_at_call 31; refine (qnew_any _ _).mono ?_; rintro e w1 ⟨g, rfl, hg, hq, hB1⟩; have HQ1 := Lib.hid hq; have HB1 := Lib.hid hB1; clear hq hB1)
      | (go_at_call 42; refine (refQNew_any _ _).mono ?_; rintro e w2 ⟨rfl, hB2⟩; have HB2 := Lib.hid hB2; clear hB2))
    have hwl := HBl.out.size
    obtain ⟨R, hR⟩ : ∃ R, roomQ a0 = R := ⟨_, rfl⟩
    have HRB : Hid (1 ≤ R ∧ R ≤ 4096) := Lib.hid (by rw [← hR]; exact roomQ_bd a0)
    obtain ⟨rb1, rb2⟩ := HRB.out
    rw [hR] at HQ1 ⊢
    have HPS := Lib.hid (PS.start (w0 := w) (HQ1.out.below HB2.out) ((HBl.out.trans (HB1.out.mono HBl.out.size)).trans (HB2.out.mono (Nat.le_trans HBl.out.size HB1.out.size))) HBl.out.size (Nat.le_trans HB1.out.size HB2.out.size))
    obtain ⟨B, hB⟩ : ∃ B, wl.heap.size = B := ⟨_, rfl⟩
    obtain ⟨gb, hgb⟩ : ∃ gb, w2.heap.size = gb := ⟨_, rfl⟩
    rw [hB] at HPS
    rw [hgb] at HPS ⊢
    clear hB hgb hR
    go_loopw [38] (fun i wr => ∃ (k : Nat) (ob : Option Nat) (xs : List Int) (cl : Bool) (v : Value), k ≤ n ∧ i = .int .i64 k ∧ xs.length ≤ k ∧ PS w wr B g gb ob R xs cl v xs cl) (fun i _ => n - (intOf i).toNat)
    case atStart => exact ⟨0, none, [], false, .slice none 0 0, by omega, rfl, by simp, HPS.out⟩
    case round =>
      obtain ⟨k, ob, xs, cl, v, hk, rfl, hxl, hps⟩ := hrel
      have HP := Lib.hid hps
      clear hps
      by_cases hlt : k < n
      · have hkx : k < ks.length := by have := HN.out; omega
        obtain ⟨x, rfl⟩ := HR1.out.some_ (by omega)
        obtain ⟨u, HU, cu⟩ := (HR1.out.below HP.out.bel).get rfl hkx
        obtain ⟨u0, u1⟩ : 0 ≤ u ∧ u ≤ 255 := HW1.out u (by rw [← HU.out, List.getD_eq_getElem?_getD, List.getElem?_eq_getElem hkx]; exact List.getElem_mem _)
        go_upto_if 46 with fail
        go_cut [11] (fun s wx => (∃ x : Int, s = .int .i64 x) ∧ wr = wx)
        case first =>
          by_cases hm0 : m = 0
          · subst hm0
            go_wp2_with fail
            go_meet
            exact ⟨⟨_, rfl⟩, rfl⟩
          · have hmp : 0 < m := by omega
            obtain ⟨y, rfl⟩ := HR2.out.some_ (by have := HM.out; omega)
            have hmod : k % m < m := Nat.mod_lt k hmp
            obtain ⟨z, HZ, cz⟩ := (HR2.out.below HP.out.bel).get rfl (j := k % m) (by have := HM.out; omega)
            clear HZ
            go_wp2_with fail
            go_meet
            exact ⟨⟨_, rfl⟩, rfl⟩
        case rest =>
          obtain ⟨⟨x, rfl⟩, rfl⟩ := hcut
          go_upto_block 2 with fail
          go_cut [11] (fun s wx => ∃ (ob' : Option Nat) (xs' : List Int) (cl' : Bool) (v' : Value), xs'.length ≤ k + 1 ∧ PS w wx B g gb ob' R xs' cl' v' xs' cl')
          case first =>
            clear cu HU
            obtain ⟨nl, hnl⟩ : ∃ nl, xs.length = nl := ⟨_, rfl⟩
            obtain ⟨xo, vc, rfl, hvx⟩ := HP.out.ql.form
            have HVX := Lib.hid hvx
            obtain ⟨t0, t1, t2, -⟩ := HP.out.cells
            obtain ⟨f0, f1, f2⟩ := HP.out.froz
            rw [hnl] at t1 HP hxl
            have HNL := Lib.hid hnl
            clear hvx hnl
            have hql := HP.out.ql.1
            have HQL := Lib.hid hql
            clear hql
            rcases sw4 u with hq | ⟨hq0, hq⟩ | ⟨hq2b, hq3b⟩
            · cases xs with
              | nil =>
                obtain rfl : nl = 0 := HNL.out.symm
                obtain ⟨r, hr⟩ : ∃ r : Int, (if cl = true then 2 else 1) = r := ⟨_, rfl⟩
                have HCR := Lib.hid fun w' => refRecv_none R xo vc cl w'
                have HCQ := Lib.hid fun w' (h : Qu w' B g ob R [] cl) => qrecv_none h
                rw [hr] at HCR HCQ
                clear hr
                go_wp2_with fail
                refine (HCR.out _).mono ?_
                rintro e w3 ⟨rfl, hB3⟩
                have HP3 := Lib.hid (HP.out.below hB3)
                clear t0 t1 t2 f0 f1 f2
                obtain ⟨t0, t1, t2, f0, f1, f2⟩ := HP3.out.cellsA
                have HP4 := Lib.hid (HP3.out.next HP3.out.ql cl)
                clear hB3
                go_wp2_with fail
                refine (HCQ.out _ (HP4.out _).qu).mono ?_
                rintro e w4 ⟨rfl, rfl⟩
                go_wp2_with fail
                go_meet
                exact ⟨ob, [], cl, _, by simp, HP4.out _⟩
              | cons u' l =>
                obtain ⟨b, o, rfl, -, hb1, hb2, hb3, hb4, hb5⟩ := HP.out.ql.some_ (by simp)
                obtain ⟨nl, rfl⟩ : ∃ j, nl = j + 1 := ⟨l.length, by have := HNL.out; rw [← this, List.length_cons]⟩
                have hll : l.length = nl := by have := HNL.out; simpa using this
                obtain ⟨o', c', hrd, hc⟩ := refRecv_some R b o nl vc cl u' l wr HQL.out hll
                have HC := Lib.hid hc
                have HRD := Lib.hid hrd
                have HLL := Lib.hid hll
                clear hc hrd hll
                go_wp2_with fail
                refine HC.out.mono ?_
                rintro e w3 ⟨rfl, hB3⟩
                have HP3 := Lib.hid (HP.out.below hB3)
                have HP4 := Lib.hid (HP3.out.next (v' := .slice (some ⟨b, o', none⟩) nl c') (zs' := l) ⟨HRD.out.below hB3, .inr ⟨b, o', c', by rw [HLL.out], hb1, Nat.lt_of_lt_of_le hb2 hB3.size, hb3, hb4, hb5⟩⟩ cl)
                clear t0 t1 t2 f0 f1 f2 hB3
                obtain ⟨t0, t1, t2, f0, f1, f2⟩ := HP3.out.cellsA
                go_wp2_with fail
                refine (qrecv_some (HP4.out _).qu).mono ?_
                rintro e w4 ⟨rfl, hq4, hk4⟩
                have HP5 := Lib.hid ((HP4.out _).kept hk4 hq4 (.inl rfl))
                clear hq4 hk4
                go_wp2_with fail
                go_meet
                exact ⟨ob, l, cl, _, by have := HLL.out; omega, HP5.out⟩
            · by_cases hx7 : x = 7
              · subst hx7
                have hnb : ((!cl) == cl) = false := by cases cl <;> rfl
                go_wp2_with fail
                go_region_held3 (fun w' => w'.cell? ⟨gb, 2, none⟩ = some (.bool cl)) (first | assumption | go_keep)
                  ((go_at_call 35; refine (qclose_any (HP.out.below (Below.drew (Below.refl _ _))).qu).mono ?_; rintro e w3 ⟨rfl, hq3, hk3⟩; have HP3 := Lib.hid ((HP.out.below (Below.drew (Below.refl _ _))).kept hk3 hq3 (.inl rfl)); have tc := HP3.out.cells.2.2.1; obtain ⟨g0, g1, g2⟩ := HP3.out.froz; clear hq3 hk3))
                go_wp2_with fail
                go_meet
                exact ⟨ob, xs, true, _, by have := HNL.out; omega, HP3.out.close true⟩
              · have hx7b : (x == 7) = false := by rw [beq_eq_false_iff_ne]; exact hx7
                clear hx7
                go_wp2_with fail
                go_meet
                exact ⟨ob, xs, cl, _, by have := HNL.out; omega, HP.out⟩
            · cases cl with
              | true =>
                go_wp2_with fail
                refine (refSend_closed R xo nl vc x _).mono ?_
                rintro e w3 ⟨rfl, hB3⟩
                have HP3 := Lib.hid (HP.out.below hB3)
                clear t0 t1 t2 f0 f1 f2 hB3
                obtain ⟨t0, t1, t2, f0, f1, f2⟩ := HP3.out.cellsA
                have HP4 := Lib.hid (HP3.out.next HP3.out.ql true)
                go_wp2_with fail
                refine (qsend_closed (HP4.out _).qu _).mono ?_
                rintro e w4 ⟨rfl, rfl⟩
                go_wp2_with fail
                go_meet
                exact ⟨ob, xs, true, _, by have := HNL.out; omega, HP4.out _⟩
              | false =>
                by_cases hfull : R ≤ nl
                · go_wp2_with fail
                  refine (refSend_full R xo nl vc x _ hfull).mono ?_
                  rintro e w3 ⟨rfl, hB3⟩
                  have HP3 := Lib.hid (HP.out.below hB3)
                  clear t0 t1 t2 f0 f1 f2 hB3
                  obtain ⟨t0, t1, t2, f0, f1, f2⟩ := HP3.out.cellsA
                  have HP4 := Lib.hid (HP3.out.next HP3.out.ql false)
                  go_wp2_with fail
                  refine (qsend_full (HP4.out _).qu (by rw [HNL.out]; exact hfull) _).mono ?_
                  rintro e w4 ⟨rfl, m4, rfl⟩
                  go_wp2_with fail
                  go_meet
                  exact ⟨ob, xs, false, _, by have := HNL.out; omega, (HP4.out _).drewN m4⟩
                · have hfull' : (nl : Int) < R := by omega
                  have hn60 : nl ≤ 4096 := by omega
                  clear hfull
                  go_wp2_with fail
                  refine (refSend_ok R xo nl vc xs x _ HQL.out HNL.out hfull' hn60).mono ?_
                  rintro e w3 ⟨b', c', rfl, hB3, hb', hrd⟩
                  have HP3 := Lib.hid (HP.out.below hB3)
                  have hlt2 := heap_lt HP.out.box
                  have hlt3 := HP.out.qu.lt
                  have hlt4 := HP.out.qu.ob_ge
                  have hle5 := HP.out.le
                  have hb2 : b' < w3.heap.size := by
                    have h := hrd.cases.2
                    rcases h with ⟨h, _⟩ | ⟨a', c'', he, h1, h2, h3⟩
                    · cases h
                    · injection he with e1 e2 e3
                      injection e1 with e1
                      have := World.block_lt_of_cell? w3 _ (h3 0 (by simp))
                      rw [← e1] at this
                      exact this
                  have HP4 := Lib.hid (HP3.out.next (v' := .slice (some ⟨b', 0, none⟩) (nl + 1) c') (zs' := xs ++ [x]) ⟨hrd, .inr ⟨b', 0, c', by rw [List.length_append, HNL.out]; rfl, by omega, hb2, by omega, by omega, fun e => by have := (hlt4 b' e.symm).2; omega⟩⟩ false)
                  clear t0 t1 t2 f0 f1 f2 hB3 hrd hlt4
                  obtain ⟨t0, t1, t2, f0, f1, f2⟩ := HP3.out.cellsA
                  go_wp2_with fail
                  refine (qsend_ok (HP4.out _).qu (by rw [HNL.out]; exact hfull') (by omega) (HP4.out _).le _).mono ?_
                  rintro e w4 ⟨rfl, ob2, hq4, hk4, ho4⟩
                  have HP5 := Lib.hid ((HP4.out _).kept hk4 hq4 ho4)
                  clear hq4 hk4 ho4
                  go_wp2_with fail
                  go_meet
                  exact ⟨ob2, xs ++ [x], false, _, by rw [List.length_append, HNL.out]; simp; omega, HP5.out⟩
          case rest =>
            obtain ⟨ob', xs', cl', v', hl', hps'⟩ := hcut
            clear HP hxl cu HU
            have HP := Lib.hid hps'
            clear hps'
            obtain ⟨nl, hnl⟩ : ∃ nl, xs'.length = nl := ⟨_, rfl⟩
            obtain ⟨xo, vc, rfl, hvx⟩ := HP.out.ql.form
            have HVX := Lib.hid hvx
            have hql := HP.out.ql.1
            rw [hnl] at HP hl' hql
            have HQL := Lib.hid hql
            have HNL := Lib.hid hnl
            clear hvx hnl hql
            obtain ⟨cs, hcs⟩ : ∃ cs, (cl' || decide ((nl : Int) < R)) = cs := ⟨_, rfl⟩
            obtain ⟨cr, hcr⟩ : ∃ cr, (cl' || decide (0 < nl)) = cr := ⟨_, rfl⟩
            have HSP := Lib.hid fun w' h => refSend_peek R xo nl vc cl' xs' w' h HNL.out (by omega)
            have HRP := Lib.hid fun w' h => refRecv_peek R xo nl vc cl' xs' w' h HNL.out HVX.out
            have HSQ := Lib.hid fun w' (h : Qu w' B g ob' R xs' cl') => qcanSend_any h
            have HRQ := Lib.hid fun w' (h : Qu w' B g ob' R xs' cl') => qcanReceive_any h
            have HLQ := Lib.hid fun w' (h : Qu w' B g ob' R xs' cl') => qlen_any h
            have HLI := Lib.hid fun w' (h : Qu w' B g ob' R xs' cl') => qlist_any h (by rw [HNL.out]; omega)
            rw [hcs] at HSP
            rw [hcr] at HRP
            simp only [HNL.out] at HSQ HRQ HLQ HLI
            rw [hcs] at HSQ
            rw [hcr] at HRQ
            clear hcs hcr
            obtain ⟨t0, t1, t2, -⟩ := HP.out.cells
            go_wp2_with fail
            refine (HSP.out _ HQL.out).mono ?_
            rintro e w3 ⟨x3, n3, c3, a, rfl, ha, hB3⟩
            have HP3 := Lib.hid ((HP.out.below hB3).below ((Below.refl w3.heap.size w3).alloc (Nat.le_refl _) (.cells #[.int .i64 R, .slice x3 n3 c3, .bool cl'] 49)))
            clear t0 t1 t2 hB3
            obtain ⟨t0, t1, t2, -⟩ := HP3.out.cells
            go_wp2_with fail
            refine (HRP.out _ HP3.out.ql.1).mono ?_
            rintro e w4 ⟨x4, n4, c4, y, b, rfl, hb, hB4⟩
            have HP4 := Lib.hid ((HP3.out.below hB4).below ((Below.refl w4.heap.size w4).alloc (Nat.le_refl _) (.cells #[.int .i64 R, .slice x4 n4 c4, .bool cl'] 49)))
            clear t0 t1 t2 hB4
            go_wp2_with fail
            obtain ⟨wz, hwz⟩ : ∃ wz, w4.alloc (.cells #[.int .i64 R, .slice x4 n4 c4, .bool cl'] 49) = wz := ⟨_, rfl⟩
            rw [hwz] at HP4 ⊢
            have hae := ha.out
            have hbe := hb.out
            have hps0 : PS w wz.drew B g gb ob' R xs' cl' (.slice xo nl vc) xs' cl' := HP4.out.below (Below.drew (Below.refl _ _))
            clear hwz HP HP3 HQL HVX
            go_region_held3 (fun w' => w'.cell? ⟨gb, 0, none⟩ = some (.int .i64 R) ∧ w'.cell? ⟨gb, 1, none⟩ = some (.slice xo nl vc) ∧ w'.cell? ⟨gb, 2, none⟩ = some (.bool cl') ∧ PS w w' B g gb ob' R xs' cl' (.slice xo nl vc) xs' cl')
              ((first | assumption | exact PS.cells hps0 | exact PS.cells hpsN | (rw [World.drewN_drewN] at hpsN; exact PS.cells hpsN)))
              ((first
                | (go_at_call 37; obtain ⟨-, -, -, hpsX⟩ : _ ∧ _ ∧ _ ∧ PS w _ B g gb ob' R xs' cl' (Value.slice xo nl vc) xs' cl' := (by assumption); refine (HLQ.out _ hpsX.qu).mono ?_; rintro e w5 ⟨rfl, rfl⟩; have hpsN := hpsX; clear hpsX)
                | (go_at_call 33; obtain ⟨-, -, -, hpsX⟩ : _ ∧ _ ∧ _ ∧ PS w _ B g gb ob' R xs' cl' (Value.slice xo nl vc) xs' cl' := (by assumption); refine (qroom_any hpsX.qu).mono ?_; rintro e w5 ⟨rfl, rfl⟩; have hpsN := hpsX; clear hpsX)
                | (go_at_call 41; obtain ⟨-, -, -, hpsX⟩ : _ ∧ _ ∧ _ ∧ PS w _ B g gb ob' R xs' cl' (Value.slice xo nl vc) xs' cl' := (by assumption); refine (qclosed_any hpsX.qu).mono ?_; rintro e w5 ⟨rfl, rfl⟩; have hpsN := hpsX; clear hpsX)
                | (go_at_call 40; obtain ⟨-, -, -, hpsX⟩ : _ ∧ _ ∧ _ ∧ PS w _ B g gb ob' R xs' cl' (Value.slice xo nl vc) xs' cl' := (by assumption); refine (HLI.out _ hpsX.qu).mono ?_; rintro e w5 ⟨xL, cL, rfl, hoL, hBL⟩; have hpsN := hpsX.below hBL; have HOL := Lib.hid hoL; clear hpsX hoL hBL)
                | (go_at_call 39; obtain ⟨-, -, -, hpsX⟩ : _ ∧ _ ∧ _ ∧ PS w _ B g gb ob' R xs' cl' (Value.slice xo nl vc) xs' cl' := (by assumption); refine (sameInt_any _ _ xs' xs' _ HOL.out.rd hpsX.ql.1).mono ?_; rw [decide_eq_true rfl]; rintro e w6 ⟨rfl, m6, rfl⟩; have hpsN := hpsX.drewN m6; clear hpsX)
                | (go_at_call 36; obtain ⟨-, -, -, hpsX⟩ : _ ∧ _ ∧ _ ∧ PS w _ B g gb ob' R xs' cl' (Value.slice xo nl vc) xs' cl' := (by assumption); refine (HSQ.out _ hpsX.qu).mono ?_; rintro e w6 ⟨rfl, m6, rfl⟩; have hpsN := hpsX.drewN m6; clear hpsX)
                | (go_at_call 38; obtain ⟨-, -, -, hpsX⟩ : _ ∧ _ ∧ _ ∧ PS w _ B g gb ob' R xs' cl' (Value.slice xo nl vc) xs' cl' := (by assumption); refine (HRQ.out _ hpsX.qu).mono ?_; rintro e w6 ⟨rfl, m6, rfl⟩; have hpsN := hpsX.drewN m6; clear hpsX)))
            obtain ⟨-, -, -, hpsF⟩ : _ ∧ _ ∧ _ ∧ PS w _ B g gb ob' R xs' cl' (Value.slice xo nl vc) xs' cl' := by assumption
            have HF := Lib.hid hpsF
            clear hpsF hae hbe hps0
            go_wp2_with fail
            exact ⟨⟨k + 1, ob', xs', cl', .slice xo nl vc, by omega, by go_num, by have := HNL.out; omega, HF.out⟩, by simp [intOf]; omega⟩
      · have hkn : k = n := by omega
        subst hkn
        go_wp2
        go_ret
        exact ⟨rfl, HP.out.bel⟩
end Go.Proofs.Ytnpkkcbgfnnfmaa
