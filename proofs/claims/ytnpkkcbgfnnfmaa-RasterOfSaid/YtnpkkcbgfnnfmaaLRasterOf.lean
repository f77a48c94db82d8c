import Derived.Test.YtnpkkcbgfnnfmaaRh
/- The law RasterOf: its walk. -/
namespace Go.Proofs.Ytnpkkcbgfnnfmaa
open Go.RowKit
set_option linter.unusedVariables false
set_option linter.unusedSimpArgs false
set_option maxRecDepth 100000

/-- what is wanted behind the samples of a list -/
def wantL (M : Int) (l : List Int) (q : Int) : Int := l.foldl (fun a v => if a = 0 ∧ M < v then 4 else a) q
theorem wantL_snoc (M : Int) (l : List Int) (q x : Int) : wantL M (l ++ [x]) q = if wantL M l q = 0 ∧ M < x then 4 else wantL M l q := by
  unfold wantL
  rw [List.foldl_append]
  rfl
theorem wantL_ne (M : Int) (l : List Int) {q : Int} (h : q ≠ 0) : wantL M l q = q := by
  unfold wantL
  induction l with
  | nil => rfl
  | cons a l ih => rw [List.foldl_cons, if_neg (by simp [h])]; exact ih
theorem wantL_zero (M : Int) (l : List Int) : wantL M l 0 = if ∃ x ∈ l, M < x then 4 else 0 := by
  induction l with
  | nil => simp [wantL]
  | cons a l ih =>
    by_cases h : M < a
    · have : wantL M (a :: l) 0 = wantL M l 4 := by unfold wantL; rw [List.foldl_cons, if_pos ⟨rfl, h⟩]
      rw [this, wantL_ne M l (by omega), if_pos ⟨a, List.mem_cons_self, h⟩]
    · have : wantL M (a :: l) 0 = wantL M l 0 := by unfold wantL; rw [List.foldl_cons, if_neg (by simp [h])]
      rw [this, ih]
      congr 1
      rw [eq_iff_iff]
      constructor
      · rintro ⟨x, hx, hM⟩; exact ⟨x, List.mem_cons_of_mem _ hx, hM⟩
      · rintro ⟨x, hx, hM⟩
        rcases List.mem_cons.1 hx with rfl | hx
        · exact absurd hM h
        · exact ⟨x, hx, hM⟩
def firstW (w h c m : Int) (n : Nat) : Int := if codeR w h c m ≠ 0 then codeR w h c m else if (n : Int) ≠ w * h * c then 2 else 0
theorem wantL_ofR (w h c m : Int) (l : List Int) : wantL m l (firstW w h c m l.length) = ofR w h c m l := by
  by_cases h1 : codeR w h c m = 0
  · by_cases h2 : (l.length : Int) = w * h * c
    · have e1 : firstW w h c m l.length = 0 := by simp [firstW, h1, h2]
      have e2 : ofR w h c m l = if m < maxl l then 4 else 0 := by simp [ofR, h1, h2]
      rw [e1, e2, wantL_zero]
      have hne : l ≠ [] := by
        rintro rfl
        have := codeR_zero h1
        simp at h2
        omega
      have key : (∃ x ∈ l, m < x) ↔ m < maxl l := by
        rw [← Int.not_le, maxl_le hne]
        constructor
        · rintro ⟨x, hx, hM⟩ h
          have := h x hx
          omega
        · intro h
          apply Classical.byContradiction
          intro hn
          exact h fun x hx => by
            apply Classical.byContradiction
            intro hx2
            exact hn ⟨x, hx, by omega⟩
      by_cases h3 : m < maxl l
      · rw [if_pos h3, if_pos (key.2 h3)]
      · rw [if_neg h3, if_neg fun h => h3 (key.1 h)]
    · have e1 : firstW w h c m l.length = 2 := by simp [firstW, h1, h2]
      have e2 : ofR w h c m l = 2 := by simp [ofR, h1, h2]
      rw [e1, e2, wantL_ne _ _ (by omega)]
  · have e1 : firstW w h c m l.length = codeR w h c m := by simp [firstW, h1]
    have e2 : ofR w h c m l = codeR w h c m := by simp [ofR, h1]
    rw [e1, e2, wantL_ne _ _ h1]

theorem ofR_zero {w h c m : Int} {l : List Int} (e : ofR w h c m l = 0) : codeR w h c m = 0 ∧ (l.length : Int) = w * h * c ∧ l ≠ [] := by
  by_cases h1 : codeR w h c m = 0
  · by_cases h2 : (l.length : Int) = w * h * c
    · refine ⟨h1, h2, ?_⟩
      rintro rfl
      have := codeR_zero h1
      simp at h2
      omega
    · have : ofR w h c m l = 2 := by simp [ofR, h1, h2]
      omega
  · have : ofR w h c m l = codeR w h c m := by simp [ofR, h1]
    omega

theorem rasterOf_walk (a0 a1 a2 a3 : Int) (v4 : Value) (xs4 : List Int) (w : World) (w0 : (Lit.int .i64 a0).wf = true) (w1 : (Lit.int .i64 a1).wf = true) (w2 : (Lit.int .i64 a2).wf = true) (w3 : (Lit.int .i64 a3).wf = true)
    (rd : Rd w .u16 v4 xs4) (wf : ∀ x ∈ xs4, (Lit.int .u16 x).wf = true) (sz : xs4.length * 2 ≤ 140737488351232) :
    Calls Try.prog 8 #[.int .i64 a0, .int .i64 a1, .int .i64 a2, .int .i64 a3, v4] w fun e w' => e = .returned (.bool true) ∧ Below w.heap.size w w' := by
  have HW := Lib.hid fun x hx => of_wf_u16 (wf x hx)
  have HR := Lib.hid rd
  obtain ⟨xo, cc, rfl, h1, h2, hx⟩ := rd.form
  unfold maxLen at h1
  obtain ⟨n, hn⟩ : ∃ n, xs4.length = n := ⟨_, rfl⟩
  rw [hn] at h2 HR sz ⊢
  have HN := Lib.hid hn
  have HX := Lib.hid hx
  clear rd wf w0 w1 w2 w3 hn hx
  by_cases h5 : 5000 < n
  · go_enter Try.func8, Try.ntmps8
    go_wp2_with (first
      | (go_at_call 20; refine (lives09_any _).mono ?_; rintro e wl ⟨rfl, hBl⟩; have HBl := Lib.hid hBl; clear hBl))
    go_ret
    rename_i wx hbx _
    exact ⟨rfl, hbx.out.trans (HBl.out.mono hbx.out.size)⟩
  · have h5' : n ≤ 5000 := by omega
    clear h5
    obtain ⟨i, hi, hz0, hz1, hz2⟩ := info_parts infoU16
    obtain ⟨F, hF⟩ : ∃ F, firstW a0 a1 a2 a3 n = F := ⟨_, rfl⟩
    obtain ⟨E, hE⟩ : ∃ E, ofR a0 a1 a2 a3 xs4 = E := ⟨_, rfl⟩
    have HWL : Hid (wantL a3 xs4 F = E) := Lib.hid (by rw [← hF, ← hE, ← HN.out]; exact wantL_ofR _ _ _ _ _)
    have HC := Lib.hid fun w => refCode_any a0 a1 a2 a3 w
    have hcases : (codeR a0 a1 a2 a3 = 0 ∧ (n : Int) ≠ a0 * a1 * a2 ∧ 5000 < a0 * a1 * a2) ∨ (codeR a0 a1 a2 a3 = 0 ∧ (n : Int) ≠ a0 * a1 * a2 ∧ ¬ 5000 < a0 * a1 * a2 ∧ F = 2) ∨ (codeR a0 a1 a2 a3 = 0 ∧ (n : Int) = a0 * a1 * a2 ∧ F = 0) ∨ (codeR a0 a1 a2 a3 ≠ 0 ∧ F = codeR a0 a1 a2 a3) := by
      rw [← hF]
      unfold firstW
      by_cases h1 : codeR a0 a1 a2 a3 = 0
      · by_cases h2 : (n : Int) = a0 * a1 * a2
        · exact .inr (.inr (.inl ⟨h1, h2, by simp [h1, h2]⟩))
        · by_cases h3 : 5000 < a0 * a1 * a2
          · exact .inl ⟨h1, h2, h3⟩
          · exact .inr (.inl ⟨h1, h2, h3, by simp [h1, h2]⟩)
      · exact .inr (.inr (.inr ⟨h1, by simp [h1]⟩))
    have HE := Lib.hid hE
    clear hF hE
    rcases hcases with ⟨k1, k2, k3⟩ | hcases
    · obtain ⟨m1, m2, hcc, x1, x2, y1, y2, p1, p2, q1, q2⟩ := codeR_zero k1
      have HK1 := Lib.hid k1
      have hne : (a0 * a1 * a2 != (n : Int)) = true := by rw [bne_iff_ne]; omega
      clear k1 k2 hcc
      go_enter Try.func8, Try.ntmps8
      go_wp2_with (first
        | (go_at_call 20; refine (lives09_any _).mono ?_; rintro e wl ⟨rfl, hBl⟩; have HBl := Lib.hid hBl; clear hBl)
        | (go_at_call 21; refine (HC.out _).mono ?_; rw [HK1.out]; rintro e w2 ⟨rfl, rfl⟩))
      go_ret
      exact ⟨rfl, HBl.out⟩
    · have hcases2 : ∃ A, codeR a0 a1 a2 a3 = A ∧ ((A = 0 ∧ 1 ≤ a0 * a1 ∧ a0 * a1 ≤ 4294967296 ∧ 1 ≤ a0 * a1 * a2 ∧ a0 * a1 * a2 ≤ 5000 ∧ (a0 * a1 * a2 != (n : Int)) = true ∧ F = 2) ∨ (A = 0 ∧ 1 ≤ a0 * a1 ∧ a0 * a1 ≤ 4294967296 ∧ 1 ≤ a0 * a1 * a2 ∧ a0 * a1 * a2 ≤ 5000 ∧ (a0 * a1 * a2 != (n : Int)) = false ∧ F = 0) ∨ ((A == 0) = false ∧ F = A)) := by
        refine ⟨_, rfl, ?_⟩
        rcases hcases with ⟨k1, k2, k3, k4⟩ | ⟨k1, k2, k3⟩ | ⟨k1, k2⟩
        · have := codeR_zero k1
          exact .inl ⟨k1, by omega, by omega, by omega, by omega, by rw [bne_iff_ne]; omega, k4⟩
        · have := codeR_zero k1
          exact .inr (.inl ⟨k1, by omega, by omega, by omega, by omega, by rw [bne_eq_false_iff_eq]; omega, k3⟩)
        · exact .inr (.inr ⟨by rw [beq_eq_false_iff_ne]; exact k1, k2⟩)
      obtain ⟨A, hA, hcases2⟩ := hcases2
      have HK1 := Lib.hid hA
      clear hA hcases
      rcases hcases2 with ⟨k1, g1, g2, g3, g4, g5, k2⟩ | ⟨k1, g1, g2, g3, g4, g5, k2⟩ | ⟨g5, k2⟩
      · subst k1
        have HF := Lib.hid k2
        clear k2
        go_enter Try.func8, Try.ntmps8
        go_wp2_with (first
          | (go_at_call 20; refine (lives09_any _).mono ?_; rintro e wl ⟨rfl, hBl⟩; have HBl := Lib.hid hBl; clear hBl)
          | (go_at_call 21; refine (HC.out _).mono ?_; rw [HK1.out]; rintro e w2 ⟨rfl, rfl⟩))
        go_loop [11, 13, 52] (fun q _ i => ∃ k : Nat, k ≤ n ∧ i = .int .i64 k ∧ q = .int .i64 (wantL a3 (xs4.take k) F)) (fun _ _ i => n - (intOf i).toNat)
        case atStart => exact ⟨0, by omega, rfl, by rw [HF.out]; rfl⟩
        case round =>
          obtain ⟨k, hk, rfl, rfl⟩ := hrel
          by_cases hlt : k < n
          · have hkx : k < xs4.length := by have := HN.out; omega
            obtain ⟨x, rfl⟩ := HR.out.some_ (by omega)
            obtain ⟨u, HU, cu⟩ := (HR.out.below HBl.out).get rfl hkx
            have ub := HW.out u (by rw [← HU.out, List.getD_eq_getElem?_getD, List.getElem?_eq_getElem hkx]; exact List.getElem_mem _)
            obtain ⟨u0, u1⟩ := ub
            obtain ⟨z, hz⟩ : ∃ z, wantL a3 (xs4.take k) F = z := ⟨_, rfl⟩
            have hstep : wantL a3 (xs4.take (k + 1)) F = if z = 0 ∧ a3 < u then 4 else z := by rw [take_succ_getD hkx, wantL_snoc, HU.out, hz]
            rw [hz]
            by_cases hz0 : z = 0
            · subst hz0
              have HS := Lib.hid hstep
              clear hstep hz
              by_cases hu : a3 < u
              · go_wp2
                refine ⟨⟨k + 1, by omega, by go_num, by rw [HS.out, if_pos ⟨rfl, hu⟩]⟩, by simp [intOf]; omega⟩
              · go_wp2
                refine ⟨⟨k + 1, by omega, by go_num, by rw [HS.out, if_neg fun h => hu h.2]⟩, by simp [intOf]; omega⟩
            · have hzb : (z == 0) = false := by rw [beq_eq_false_iff_ne]; exact hz0
              have HS := Lib.hid hstep
              have HZ := Lib.hid hz0
              clear hstep hz hz0
              go_wp2
              refine ⟨⟨k + 1, by omega, by go_num, by rw [HS.out, if_neg fun h => HZ.out h.1]⟩, by simp [intOf]; omega⟩
          · have e : wantL a3 (xs4.take k) F = E := by
              rw [List.take_of_length_le (by have := HN.out; omega)]
              exact HWL.out
            rw [e]
            clear e
            by_cases hE0 : E = 0
            · subst hE0
              go_wp2_with (first
                | (at_builtin; refine wpList_append_rd _ rfl _ _ 29 rfl wl.heap.size 31 i .u16 2 Try.underlying29 hi hz0 hz1 hz2 _ [] rfl (Own.empty wl 31 .u16 _ (Nat.le_refl _)) _ xs4 rfl (HR.out.below (HBl.out.mono (Nat.le_refl _) |>.trans ((Below.refl _ _).alloc HBl.out.size _))) (by rw [HN.out]; unfold maxLen; simp; omega) (by rw [HN.out]; simp; omega) (by simp) ?_; intro v' wa hown hgrow; rw [List.nil_append] at hown; have HBA : Hid (Below w.heap.size w wa) := Lib.hid ((HBl.out.trans ((Below.refl _ _).alloc HBl.out.size _)).grown hgrow (by have := HBl.out.size; simp; omega) (by intro k hk; cases hk; exact HBl.out.size)); obtain ⟨xa, ca, rfl, hf⟩ := hown.form; rw [HN.out] at hown ⊢; have HO := Lib.hid hown; have HFF := Lib.hid hf; clear hown hgrow hf)
                | (go_at_call 45; refine (of_ok _ _ _ _ _ _ _ HO.out.rd HW.out HE.out).mono ?_; rintro e wo ⟨g, r, rfl, hg, hr, hi, hB⟩; have HI := Lib.hid hi; have HBO := Lib.hid hB; clear hi hB))
              have hne := (ofR_zero HE.out).2.2
              have hn1 : 1 ≤ n := by
                have := HN.out
                have := List.length_pos_iff.2 hne
                omega
              obtain ⟨b, rfl, hb1, hb2⟩ := HFF.out hne
              have HNE := Lib.hid hne
              clear hne
              have hwl := HBl.out.size
              have hwa := HBA.out.size
              have hwo := HBO.out.size
              go_loopw [17, 91] (fun _ i wr => ∃ (k : Nat) (ys : List Int), k ≤ n ∧ i = .int .i64 k ∧ ys.length = n ∧ Own wr wl.heap.size 31 .u16 (.slice (some ⟨b, 0, none⟩) n ca) ys ∧ wo.grownBy wr (some b)) (fun _ i _ => n - (intOf i).toNat)
              case atStart => exact ⟨0, xs4, by omega, rfl, HN.out, HO.out.below HBO.out, World.grownBy.refl _ _⟩
              case round =>
                obtain ⟨k, ys, hk, rfl, hys, hown, hgr⟩ := hrel
                have HOK := Lib.hid hown
                have HGR := Lib.hid hgr
                have HYS := Lib.hid hys
                have hws := hgr.size
                clear hown hgr hys
                by_cases hlt : k < n
                · obtain ⟨u, HU, cu⟩ := HOK.out.rd.get rfl (j := k) (by rw [HYS.out]; exact hlt)
                  rw [Addr.add_lit, Nat.zero_add] at cu
                  have hf := HOK.out.frozen k
                  go_wp2
                  refine ⟨⟨k + 1, ys.set k (IntKind.u16.wrap (u + 1)), by omega, by go_num, by rw [List.length_set]; exact HYS.out, ?_, ?_⟩, by simp [intOf]; omega⟩
                  · exact HOK.out.set k _
                  · exact grown_trans HGR.out (grown_setCell _ _ _ _)
                · have HI2 := Lib.hid (HI.out.grown HGR.out (by simp; omega) (by simp; omega))
                  have HB2 : Hid (Below w.heap.size w wr) := Lib.hid ((HBA.out.trans (HBO.out.mono hwa)).grown HGR.out (by omega) (by intro q hq; cases hq; omega))
                  go_wp2_with fail
                  refine (samples_any HI2.out (by rw [HN.out]; exact sz)).mono ?_
                  rw [HN.out]
                  rintro e ws ⟨x1, c1, rfl, hs1, hBs⟩
                  obtain ⟨b1, rfl, hb1l, hb1u⟩ := hs1.at_ HNE.out
                  obtain ⟨u, HU, cu⟩ := hs1.rd.get rfl (j := 0) (by rw [HN.out]; omega)
                  rw [Addr.add_lit, Nat.zero_add] at cu
                  have hf1 := hs1.frozen 0
                  have HI3 := Lib.hid ((HI2.out.below hBs).grown (grown_setCell ws b1 0 (.int .u16 (IntKind.u16.wrap (u + 1)))) (by have := HI2.out.lt_g; simp; omega) (by have := HI2.out.lt_b; simp; omega))
                  have HB3 : Hid (Below w.heap.size w (ws.setCell ⟨b1, 0, none⟩ (.int .u16 (IntKind.u16.wrap (u + 1))))) := Lib.hid ((HB2.out.trans (hBs.mono HB2.out.size)).setCell (show w.heap.size ≤ b1 by have := HB2.out.size; omega) _)
                  have HBS := Lib.hid hBs
                  clear hs1 hBs
                  go_wp2_with (first
                    | (go_at_call 25; refine (samples_any HI3.out (by rw [HN.out]; exact sz)).mono ?_; rw [HN.out]; rintro e wt ⟨x2, c2, rfl, hs2, hBt⟩; have HS2 := Lib.hid hs2; have HB4 := Lib.hid (HB3.out.trans (hBt.mono HB3.out.size)); clear hs2 hBt)
                    | (go_at_call 46; refine (refSame_any _ _ _ _ _ HS2.out.rd (HR.out.below HB4.out)).mono ?_; rintro e wu ⟨rfl, m, rfl⟩))
                  go_ret
                  exact ⟨rfl, HB4.out.trans (Below.drewN m)⟩
            · have hE1 : (E == 0) = false := by rw [beq_eq_false_iff_ne]; exact hE0
              have hE2 : (E != 0) = true := by rw [bne_iff_ne]; exact hE0
              have HE0 : Hid (ofR a0 a1 a2 a3 xs4 ≠ 0) := Lib.hid (by rw [HE.out]; exact hE0)
              clear hE0
              go_wp2_with (first
                | (at_builtin; refine wpList_append_rd _ rfl _ _ 29 rfl wl.heap.size 31 i .u16 2 Try.underlying29 hi hz0 hz1 hz2 _ [] rfl (Own.empty wl 31 .u16 _ (Nat.le_refl _)) _ xs4 rfl (HR.out.below (HBl.out.mono (Nat.le_refl _) |>.trans ((Below.refl _ _).alloc HBl.out.size _))) (by rw [HN.out]; unfold maxLen; simp; omega) (by rw [HN.out]; simp; omega) (by simp) ?_; intro v' wa hown hgrow; rw [List.nil_append] at hown; have HBA : Hid (Below w.heap.size w wa) := Lib.hid ((HBl.out.trans ((Below.refl _ _).alloc HBl.out.size _)).grown hgrow (by have := HBl.out.size; simp; omega) (by intro k hk; cases hk; exact HBl.out.size)); obtain ⟨xa, ca, rfl, hf⟩ := hown.form; rw [HN.out] at hown ⊢; have HO := Lib.hid hown; have HFF := Lib.hid hf; clear hown hgrow hf)
                | (go_at_call 45; refine (of_bad _ _ _ _ _ _ _ HO.out.rd HW.out HE0.out).mono ?_; rw [HE.out]; rintro e wo ⟨rfl, hB⟩; have HBO := Lib.hid hB; clear hB))
              go_ret
              exact ⟨rfl, HBA.out.trans (HBO.out.mono HBA.out.size)⟩
      · subst k1
        have HF := Lib.hid k2
        clear k2
        go_enter Try.func8, Try.ntmps8
        go_wp2_with (first
          | (go_at_call 20; refine (lives09_any _).mono ?_; rintro e wl ⟨rfl, hBl⟩; have HBl := Lib.hid hBl; clear hBl)
          | (go_at_call 21; refine (HC.out _).mono ?_; rw [HK1.out]; rintro e w2 ⟨rfl, rfl⟩))
        go_loop [11, 13, 52] (fun q _ i => ∃ k : Nat, k ≤ n ∧ i = .int .i64 k ∧ q = .int .i64 (wantL a3 (xs4.take k) F)) (fun _ _ i => n - (intOf i).toNat)
        case atStart => exact ⟨0, by omega, rfl, by rw [HF.out]; rfl⟩
        case round =>
          obtain ⟨k, hk, rfl, rfl⟩ := hrel
          by_cases hlt : k < n
          · have hkx : k < xs4.length := by have := HN.out; omega
            obtain ⟨x, rfl⟩ := HR.out.some_ (by omega)
            obtain ⟨u, HU, cu⟩ := (HR.out.below HBl.out).get rfl hkx
            have ub := HW.out u (by rw [← HU.out, List.getD_eq_getElem?_getD, List.getElem?_eq_getElem hkx]; exact List.getElem_mem _)
            obtain ⟨u0, u1⟩ := ub
            obtain ⟨z, hz⟩ : ∃ z, wantL a3 (xs4.take k) F = z := ⟨_, rfl⟩
            have hstep : wantL a3 (xs4.take (k + 1)) F = if z = 0 ∧ a3 < u then 4 else z := by rw [take_succ_getD hkx, wantL_snoc, HU.out, hz]
            rw [hz]
            by_cases hz0 : z = 0
            · subst hz0
              have HS := Lib.hid hstep
              clear hstep hz
              by_cases hu : a3 < u
              · go_wp2
                refine ⟨⟨k + 1, by omega, by go_num, by rw [HS.out, if_pos ⟨rfl, hu⟩]⟩, by simp [intOf]; omega⟩
              · go_wp2
                refine ⟨⟨k + 1, by omega, by go_num, by rw [HS.out, if_neg fun h => hu h.2]⟩, by simp [intOf]; omega⟩
            · have hzb : (z == 0) = false := by rw [beq_eq_false_iff_ne]; exact hz0
              have HS := Lib.hid hstep
              have HZ := Lib.hid hz0
              clear hstep hz hz0
              go_wp2
              refine ⟨⟨k + 1, by omega, by go_num, by rw [HS.out, if_neg fun h => HZ.out h.1]⟩, by simp [intOf]; omega⟩
          · have e : wantL a3 (xs4.take k) F = E := by
              rw [List.take_of_length_le (by have := HN.out; omega)]
              exact HWL.out
            rw [e]
            clear e
            by_cases hE0 : E = 0
            · subst hE0
              go_wp2_with (first
                | (at_builtin; refine wpList_append_rd _ rfl _ _ 29 rfl wl.heap.size 31 i .u16 2 Try.underlying29 hi hz0 hz1 hz2 _ [] rfl (Own.empty wl 31 .u16 _ (Nat.le_refl _)) _ xs4 rfl (HR.out.below (HBl.out.mono (Nat.le_refl _) |>.trans ((Below.refl _ _).alloc HBl.out.size _))) (by rw [HN.out]; unfold maxLen; simp; omega) (by rw [HN.out]; simp; omega) (by simp) ?_; intro v' wa hown hgrow; rw [List.nil_append] at hown; have HBA : Hid (Below w.heap.size w wa) := Lib.hid ((HBl.out.trans ((Below.refl _ _).alloc HBl.out.size _)).grown hgrow (by have := HBl.out.size; simp; omega) (by intro k hk; cases hk; exact HBl.out.size)); obtain ⟨xa, ca, rfl, hf⟩ := hown.form; rw [HN.out] at hown ⊢; have HO := Lib.hid hown; have HFF := Lib.hid hf; clear hown hgrow hf)
                | (go_at_call 45; refine (of_ok _ _ _ _ _ _ _ HO.out.rd HW.out HE.out).mono ?_; rintro e wo ⟨g, r, rfl, hg, hr, hi, hB⟩; have HI := Lib.hid hi; have HBO := Lib.hid hB; clear hi hB))
              have hne := (ofR_zero HE.out).2.2
              have hn1 : 1 ≤ n := by
                have := HN.out
                have := List.length_pos_iff.2 hne
                omega
              obtain ⟨b, rfl, hb1, hb2⟩ := HFF.out hne
              have HNE := Lib.hid hne
              clear hne
              have hwl := HBl.out.size
              have hwa := HBA.out.size
              have hwo := HBO.out.size
              go_loopw [17, 91] (fun _ i wr => ∃ (k : Nat) (ys : List Int), k ≤ n ∧ i = .int .i64 k ∧ ys.length = n ∧ Own wr wl.heap.size 31 .u16 (.slice (some ⟨b, 0, none⟩) n ca) ys ∧ wo.grownBy wr (some b)) (fun _ i _ => n - (intOf i).toNat)
              case atStart => exact ⟨0, xs4, by omega, rfl, HN.out, HO.out.below HBO.out, World.grownBy.refl _ _⟩
              case round =>
                obtain ⟨k, ys, hk, rfl, hys, hown, hgr⟩ := hrel
                have HOK := Lib.hid hown
                have HGR := Lib.hid hgr
                have HYS := Lib.hid hys
                have hws := hgr.size
                clear hown hgr hys
                by_cases hlt : k < n
                · obtain ⟨u, HU, cu⟩ := HOK.out.rd.get rfl (j := k) (by rw [HYS.out]; exact hlt)
                  rw [Addr.add_lit, Nat.zero_add] at cu
                  have hf := HOK.out.frozen k
                  go_wp2
                  refine ⟨⟨k + 1, ys.set k (IntKind.u16.wrap (u + 1)), by omega, by go_num, by rw [List.length_set]; exact HYS.out, ?_, ?_⟩, by simp [intOf]; omega⟩
                  · exact HOK.out.set k _
                  · exact grown_trans HGR.out (grown_setCell _ _ _ _)
                · have HI2 := Lib.hid (HI.out.grown HGR.out (by simp; omega) (by simp; omega))
                  have HB2 : Hid (Below w.heap.size w wr) := Lib.hid ((HBA.out.trans (HBO.out.mono hwa)).grown HGR.out (by omega) (by intro q hq; cases hq; omega))
                  go_wp2_with fail
                  refine (samples_any HI2.out (by rw [HN.out]; exact sz)).mono ?_
                  rw [HN.out]
                  rintro e ws ⟨x1, c1, rfl, hs1, hBs⟩
                  obtain ⟨b1, rfl, hb1l, hb1u⟩ := hs1.at_ HNE.out
                  obtain ⟨u, HU, cu⟩ := hs1.rd.get rfl (j := 0) (by rw [HN.out]; omega)
                  rw [Addr.add_lit, Nat.zero_add] at cu
                  have hf1 := hs1.frozen 0
                  have HI3 := Lib.hid ((HI2.out.below hBs).grown (grown_setCell ws b1 0 (.int .u16 (IntKind.u16.wrap (u + 1)))) (by have := HI2.out.lt_g; simp; omega) (by have := HI2.out.lt_b; simp; omega))
                  have HB3 : Hid (Below w.heap.size w (ws.setCell ⟨b1, 0, none⟩ (.int .u16 (IntKind.u16.wrap (u + 1))))) := Lib.hid ((HB2.out.trans (hBs.mono HB2.out.size)).setCell (show w.heap.size ≤ b1 by have := HB2.out.size; omega) _)
                  have HBS := Lib.hid hBs
                  clear hs1 hBs
                  go_wp2_with (first
                    | (go_at_call 25; refine (samples_any HI3.out (by rw [HN.out]; exact sz)).mono ?_; rw [HN.out]; rintro e wt ⟨x2, c2, rfl, hs2, hBt⟩; have HS2 := Lib.hid hs2; have HB4 := Lib.hid (HB3.out.trans (hBt.mono HB3.out.size)); clear hs2 hBt)
                    | (go_at_call 46; refine (refSame_any _ _ _ _ _ HS2.out.rd (HR.out.below HB4.out)).mono ?_; rintro e wu ⟨rfl, m, rfl⟩))
                  go_ret
                  exact ⟨rfl, HB4.out.trans (Below.drewN m)⟩
            · have hE1 : (E == 0) = false := by rw [beq_eq_false_iff_ne]; exact hE0
              have hE2 : (E != 0) = true := by rw [bne_iff_ne]; exact hE0
              have HE0 : Hid (ofR a0 a1 a2 a3 xs4 ≠ 0) := Lib.hid (by rw [HE.out]; exact hE0)
              clear hE0
              go_wp2_with (first
                | (at_builtin; refine wpList_append_rd _ rfl _ _ 29 rfl wl.heap.size 31 i .u16 2 Try.underlying29 hi hz0 hz1 hz2 _ [] rfl (Own.empty wl 31 .u16 _ (Nat.le_refl _)) _ xs4 rfl (HR.out.below (HBl.out.mono (Nat.le_refl _) |>.trans ((Below.refl _ _).alloc HBl.out.size _))) (by rw [HN.out]; unfold maxLen; simp; omega) (by rw [HN.out]; simp; omega) (by simp) ?_; intro v' wa hown hgrow; rw [List.nil_append] at hown; have HBA : Hid (Below w.heap.size w wa) := Lib.hid ((HBl.out.trans ((Below.refl _ _).alloc HBl.out.size _)).grown hgrow (by have := HBl.out.size; simp; omega) (by intro k hk; cases hk; exact HBl.out.size)); obtain ⟨xa, ca, rfl, hf⟩ := hown.form; rw [HN.out] at hown ⊢; have HO := Lib.hid hown; have HFF := Lib.hid hf; clear hown hgrow hf)
                | (go_at_call 45; refine (of_bad _ _ _ _ _ _ _ HO.out.rd HW.out HE0.out).mono ?_; rw [HE.out]; rintro e wo ⟨rfl, hB⟩; have HBO := Lib.hid hB; clear hB))
              go_ret
              exact ⟨rfl, HBA.out.trans (HBO.out.mono HBA.out.size)⟩
      · have HF := Lib.hid k2
        clear k2
        go_enter Try.func8, Try.ntmps8
        go_wp2_with (first
          | (go_at_call 20; refine (lives09_any _).mono ?_; rintro e wl ⟨rfl, hBl⟩; have HBl := Lib.hid hBl; clear hBl)
          | (go_at_call 21; refine (HC.out _).mono ?_; rw [HK1.out]; rintro e w2 ⟨rfl, rfl⟩))
        go_loop [11, 13, 52] (fun q _ i => ∃ k : Nat, k ≤ n ∧ i = .int .i64 k ∧ q = .int .i64 (wantL a3 (xs4.take k) F)) (fun _ _ i => n - (intOf i).toNat)
        case atStart => exact ⟨0, by omega, rfl, by rw [HF.out]; rfl⟩
        case round =>
          obtain ⟨k, hk, rfl, rfl⟩ := hrel
          by_cases hlt : k < n
          · have hkx : k < xs4.length := by have := HN.out; omega
            obtain ⟨x, rfl⟩ := HR.out.some_ (by omega)
            obtain ⟨u, HU, cu⟩ := (HR.out.below HBl.out).get rfl hkx
            have ub := HW.out u (by rw [← HU.out, List.getD_eq_getElem?_getD, List.getElem?_eq_getElem hkx]; exact List.getElem_mem _)
            obtain ⟨u0, u1⟩ := ub
            obtain ⟨z, hz⟩ : ∃ z, wantL a3 (xs4.take k) F = z := ⟨_, rfl⟩
            have hstep : wantL a3 (xs4.take (k + 1)) F = if z = 0 ∧ a3 < u then 4 else z := by rw [take_succ_getD hkx, wantL_snoc, HU.out, hz]
            rw [hz]
            by_cases hz0 : z = 0
            · subst hz0
              have HS := Lib.hid hstep
              clear hstep hz
              by_cases hu : a3 < u
              · go_wp2
                refine ⟨⟨k + 1, by omega, by go_num, by rw [HS.out, if_pos ⟨rfl, hu⟩]⟩, by simp [intOf]; omega⟩
              · go_wp2
                refine ⟨⟨k + 1, by omega, by go_num, by rw [HS.out, if_neg fun h => hu h.2]⟩, by simp [intOf]; omega⟩
            · have hzb : (z == 0) = false := by rw [beq_eq_false_iff_ne]; exact hz0
              have HS := Lib.hid hstep
              have HZ := Lib.hid hz0
              clear hstep hz hz0
              go_wp2
              refine ⟨⟨k + 1, by omega, by go_num, by rw [HS.out, if_neg fun h => HZ.out h.1]⟩, by simp [intOf]; omega⟩
          · have e : wantL a3 (xs4.take k) F = E := by
              rw [List.take_of_length_le (by have := HN.out; omega)]
              exact HWL.out
            rw [e]
            clear e
            by_cases hE0 : E = 0
            · subst hE0
              go_wp2_with (first
                | (at_builtin; refine wpList_append_rd _ rfl _ _ 29 rfl wl.heap.size 31 i .u16 2 Try.underlying29 hi hz0 hz1 hz2 _ [] rfl (Own.empty wl 31 .u16 _ (Nat.le_refl _)) _ xs4 rfl (HR.out.below (HBl.out.mono (Nat.le_refl _) |>.trans ((Below.refl _ _).alloc HBl.out.size _))) (by rw [HN.out]; unfold maxLen; simp; omega) (by rw [HN.out]; simp; omega) (by simp) ?_; intro v' wa hown hgrow; rw [List.nil_append] at hown; have HBA : Hid (Below w.heap.size w wa) := Lib.hid ((HBl.out.trans ((Below.refl _ _).alloc HBl.out.size _)).grown hgrow (by have := HBl.out.size; simp; omega) (by intro k hk; cases hk; exact HBl.out.size)); obtain ⟨xa, ca, rfl, hf⟩ := hown.form; rw [HN.out] at hown ⊢; have HO := Lib.hid hown; have HFF := Lib.hid hf; clear hown hgrow hf)
                | (go_at_call 45; refine (of_ok _ _ _ _ _ _ _ HO.out.rd HW.out HE.out).mono ?_; rintro e wo ⟨g, r, rfl, hg, hr, hi, hB⟩; have HI := Lib.hid hi; have HBO := Lib.hid hB; clear hi hB))
              have hne := (ofR_zero HE.out).2.2
              have hn1 : 1 ≤ n := by
                have := HN.out
                have := List.length_pos_iff.2 hne
                omega
              obtain ⟨b, rfl, hb1, hb2⟩ := HFF.out hne
              have HNE := Lib.hid hne
              clear hne
              have hwl := HBl.out.size
              have hwa := HBA.out.size
              have hwo := HBO.out.size
              go_loopw [17, 91] (fun _ i wr => ∃ (k : Nat) (ys : List Int), k ≤ n ∧ i = .int .i64 k ∧ ys.length = n ∧ Own wr wl.heap.size 31 .u16 (.slice (some ⟨b, 0, none⟩) n ca) ys ∧ wo.grownBy wr (some b)) (fun _ i _ => n - (intOf i).toNat)
              case atStart => exact ⟨0, xs4, by omega, rfl, HN.out, HO.out.below HBO.out, World.grownBy.refl _ _⟩
              case round =>
                obtain ⟨k, ys, hk, rfl, hys, hown, hgr⟩ := hrel
                have HOK := Lib.hid hown
                have HGR := Lib.hid hgr
                have HYS := Lib.hid hys
                have hws := hgr.size
                clear hown hgr hys
                by_cases hlt : k < n
                · obtain ⟨u, HU, cu⟩ := HOK.out.rd.get rfl (j := k) (by rw [HYS.out]; exact hlt)
                  rw [Addr.add_lit, Nat.zero_add] at cu
                  have hf := HOK.out.frozen k
                  go_wp2
                  refine ⟨⟨k + 1, ys.set k (IntKind.u16.wrap (u + 1)), by omega, by go_num, by rw [List.length_set]; exact HYS.out, ?_, ?_⟩, by simp [intOf]; omega⟩
                  · exact HOK.out.set k _
                  · exact grown_trans HGR.out (grown_setCell _ _ _ _)
                · have HI2 := Lib.hid (HI.out.grown HGR.out (by simp; omega) (by simp; omega))
                  have HB2 : Hid (Below w.heap.size w wr) := Lib.hid ((HBA.out.trans (HBO.out.mono hwa)).grown HGR.out (by omega) (by intro q hq; cases hq; omega))
                  go_wp2_with fail
                  refine (samples_any HI2.out (by rw [HN.out]; exact sz)).mono ?_
                  rw [HN.out]
                  rintro e ws ⟨x1, c1, rfl, hs1, hBs⟩
                  obtain ⟨b1, rfl, hb1l, hb1u⟩ := hs1.at_ HNE.out
                  obtain ⟨u, HU, cu⟩ := hs1.rd.get rfl (j := 0) (by rw [HN.out]; omega)
                  rw [Addr.add_lit, Nat.zero_add] at cu
                  have hf1 := hs1.frozen 0
                  have HI3 := Lib.hid ((HI2.out.below hBs).grown (grown_setCell ws b1 0 (.int .u16 (IntKind.u16.wrap (u + 1)))) (by have := HI2.out.lt_g; simp; omega) (by have := HI2.out.lt_b; simp; omega))
                  have HB3 : Hid (Below w.heap.size w (ws.setCell ⟨b1, 0, none⟩ (.int .u16 (IntKind.u16.wrap (u + 1))))) := Lib.hid ((HB2.out.trans (hBs.mono HB2.out.size)).setCell (show w.heap.size ≤ b1 by have := HB2.out.size; omega) _)
                  have HBS := Lib.hid hBs
                  clear hs1 hBs
                  go_wp2_with (first
                    | (go_at_call 25; refine (samples_any HI3.out (by rw [HN.out]; exact sz)).mono ?_; rw [HN.out]; rintro e wt ⟨x2, c2, rfl, hs2, hBt⟩; have HS2 := Lib.hid hs2; have HB4 := Lib.hid (HB3.out.trans (hBt.mono HB3.out.size)); clear hs2 hBt)
                    | (go_at_call 46; refine (refSame_any _ _ _ _ _ HS2.out.rd (HR.out.below HB4.out)).mono ?_; rintro e wu ⟨rfl, m, rfl⟩))
                  go_ret
                  exact ⟨rfl, HB4.out.trans (Below.drewN m)⟩
            · have hE1 : (E == 0) = false := by rw [beq_eq_false_iff_ne]; exact hE0
              have hE2 : (E != 0) = true := by rw [bne_iff_ne]; exact hE0
              have HE0 : Hid (ofR a0 a1 a2 a3 xs4 ≠ 0) := Lib.hid (by rw [HE.out]; exact hE0)
              clear hE0
              go_wp2_with (first
                | (at_builtin; refine wpList_append_rd _ rfl _ _ 29 rfl wl.heap.size 31 i .u16 2 Try.underlying29 hi hz0 hz1 hz2 _ [] rfl (Own.empty wl 31 .u16 _ (Nat.le_refl _)) _ xs4 rfl (HR.out.below (HBl.out.mono (Nat.le_refl _) |>.trans ((Below.refl _ _).alloc HBl.out.size _))) (by rw [HN.out]; unfold maxLen; simp; omega) (by rw [HN.out]; simp; omega) (by simp) ?_; intro v' wa hown hgrow; rw [List.nil_append] at hown; have HBA : Hid (Below w.heap.size w wa) := Lib.hid ((HBl.out.trans ((Below.refl _ _).alloc HBl.out.size _)).grown hgrow (by have := HBl.out.size; simp; omega) (by intro k hk; cases hk; exact HBl.out.size)); obtain ⟨xa, ca, rfl, hf⟩ := hown.form; rw [HN.out] at hown ⊢; have HO := Lib.hid hown; have HFF := Lib.hid hf; clear hown hgrow hf)
                | (go_at_call 45; refine (of_bad _ _ _ _ _ _ _ HO.out.rd HW.out HE0.out).mono ?_; rw [HE.out]; rintro e wo ⟨rfl, hB⟩; have HBO := Lib.hid hB; clear hB))
              go_ret
              exact ⟨rfl, HBA.out.trans (HBO.out.mono HBA.out.size)⟩
end Go.Proofs.Ytnpkkcbgfnnfmaa
