import Derived.Test.YtnpkkcbgfnnfmaaDoorHf
/- The document's Parse. -/
namespace Go.Proofs.YtnpkkcbgfnnfmaaDoor
open Go.RowKit
set_option linter.unusedVariables false
set_option linter.unusedSimpArgs false
set_option maxRecDepth 100000

theorem son_get1 {u v : Int} {l : List Int} (h0 : 0 ≤ v) (h1 : v ≤ 255) (h : 1 < (strOfNums (u :: v :: l)).size) : (((strOfNums (u :: v :: l))[1]'h).toNat : Int) = v := by
  have : (strOfNums (u :: v :: l))[1]'h = UInt8.ofNat v.toNat := by simp [strOfNums, ByteArray.getElem_eq_getElem_data]
  rw [this]
  simp
  omega
theorem son_tail2 (u v : Int) (l : List Int) : (strOfNums (u :: v :: l)).extract 2 (l.length + 2) = strOfNums l := by
  apply ByteArray.ext
  simp [strOfNums, ByteArray.data_extract]
  rw [List.take_of_length_le (by simp)]

theorem row3 {w : World} {g : Nat} {a b c : Value} {t : TypeId} (h : w.heap[g]? = some (.cells #[a, b, c] t (0, 0))) :
    w.cell? ⟨g, 0, none⟩ = some a ∧ w.cell? ⟨g, 1, none⟩ = some b ∧ w.cell? ⟨g, 2, none⟩ = some c ∧
    w.frozen? ⟨g, 0, none⟩ = false ∧ w.frozen? ⟨g, 1, none⟩ = false ∧ w.frozen? ⟨g, 2, none⟩ = false :=
  ⟨cell_of_row w g 0 _ _ _ h, cell_of_row w g 1 _ _ _ h, cell_of_row w g 2 _ _ _ h, by simp [World.frozen?, h], by simp [World.frozen?, h], by simp [World.frozen?, h]⟩
/-- what is left is a part of what was there -/
theorem ovl_sub : ∀ (rm sm : Bool) (l : List Int), (∀ x ∈ l, 0 ≤ x ∧ x ≤ 255) → (∀ x ∈ (ovl rm sm l).1, 0 ≤ x ∧ x ≤ 255) ∧ (ovl rm sm l).1.length ≤ l.length := by
  intro rm sm l
  induction l generalizing rm sm with
  | nil => intro h; cases rm <;> exact ⟨h, Nat.le_refl _⟩
  | cons x l ih =>
    intro h
    have h' : ∀ y ∈ l, 0 ≤ y ∧ y ≤ 255 := fun y hy => h y (List.mem_cons_of_mem _ hy)
    cases rm with
    | true =>
      rw [ovl]
      have := ih (!(x == 10 || x == 13)) true h'
      exact ⟨this.1, Nat.le_succ_of_le this.2⟩
    | false =>
      rw [ovl]
      split
      · have := ih true true h'
        exact ⟨this.1, Nat.le_succ_of_le this.2⟩
      split
      · have := ih false true h'
        exact ⟨this.1, Nat.le_succ_of_le this.2⟩
      · exact ⟨h, Nat.le_refl _⟩
theorem dgl_sub : ∀ (l : List Int) (m : Int), (∀ x ∈ l, 0 ≤ x ∧ x ≤ 255) → (∀ x ∈ (dgl m l).2, 0 ≤ x ∧ x ≤ 255) ∧ (dgl m l).2.length ≤ l.length := by
  intro l
  induction l with
  | nil => intro m h; exact ⟨h, Nat.le_refl _⟩
  | cons x l ih =>
    intro m h
    have h' : ∀ y ∈ l, 0 ≤ y ∧ y ≤ 255 := fun y hy => h y (List.mem_cons_of_mem _ hy)
    rw [dgl]
    split
    · have := ih (if 1000000000 < 10 * m + (x - 48) then 1000000000 else 10 * m + (x - 48)) h'
      exact ⟨this.1, Nat.le_succ_of_le this.2⟩
    · exact ⟨h, Nat.le_refl _⟩

set_option maxHeartbeats 4000000 in
theorem refParse_any (xs : List Int) (hx : ∀ x ∈ xs, 0 ≤ x ∧ x ≤ 255) (hl : xs.length ≤ 4503599627370496) (w : World) :
    Calls Tryd.prog 38 #[.string (strOfNums xs)] w fun e w' => e = .returned (.tuple #[hdV (parseL xs).2, .int .i64 (parseL xs).1]) ∧ Below w.heap.size w w' := by
  match xs, hx, hl with
  | [], _, _ =>
    have hsz := son_size []
    go_enter Tryd.func38, Tryd.ntmps38
    go_wp2
    exact bodyPost_ret (results_ct_row rfl _ _ w.heap.size 28 #[.int .i64 0, .int .i64 0, .int .i64 0, .int .i64 0, .int .i64 0] (0, 0) _ rfl (heap_alloc_new w _) Tryd.underlying28 rfl (by kernel_rfl)) rfl ⟨rfl, (Below.refl _ _).alloc (Nat.le_refl _) _⟩
  | [a], _, _ =>
    have hsz : (strOfNums [a]).size = 1 := son_size [a]
    go_enter Tryd.func38, Tryd.ntmps38
    go_wp2
    exact bodyPost_ret (results_ct_row rfl _ _ w.heap.size 28 #[.int .i64 0, .int .i64 0, .int .i64 0, .int .i64 0, .int .i64 0] (0, 0) _ rfl (heap_alloc_new w _) Tryd.underlying28 rfl (by kernel_rfl)) rfl ⟨rfl, (Below.refl _ _).alloc (Nat.le_refl _) _⟩
  | a :: b :: l, hx, hl =>
    have HX := Lib.hid hx
    obtain ⟨a0, a1⟩ := hx a (by simp)
    obtain ⟨b0, b1⟩ := hx b (by simp)
    have HL2 : Hid (∀ x ∈ l, 0 ≤ x ∧ x ≤ 255) := Lib.hid fun x h => hx x (List.mem_cons_of_mem _ (List.mem_cons_of_mem _ h))
    have hsz : (strOfNums (a :: b :: l)).size = l.length + 2 := son_size _
    have hg0 := fun h => son_get (u := a) (l := b :: l) a0 a1 h
    have hg1 := fun h => son_get1 (u := a) (v := b) (l := l) b0 b1 h
    have ht2 := son_tail2 a b l
    have hln : l.length + 2 ≤ 4503599627370496 := by simpa using hl
    clear hx hl
    by_cases ha : a = 80
    · subst ha
      by_cases hb : b = 53
      · subst hb
        have hp : parseL (80 :: 53 :: l) = contP 1 (l.length + 2) 3 0 0 0 l := by rfl
        obtain ⟨T, hT⟩ : ∃ T, contP 1 (l.length + 2) 3 0 0 0 l = T := ⟨_, rfl⟩
        rw [hp, hT]
        have HT := Lib.hid hT
        clear hp hT
        go_enter Tryd.func38, Tryd.ntmps38
        go_wp2
        go_loopw [5, 34] (fun s i wr => ∃ (q : Nat) (l' : List Int) (X Y M : Int), q ≤ 3 ∧ i = .int .i64 q ∧ s = .string (strOfNums l') ∧ contP 1 (l.length + 2) (3 - q) X Y M l' = T ∧ (∀ x ∈ l', 0 ≤ x ∧ x ≤ 255) ∧ l'.length ≤ l.length ∧ wr.heap[w.heap.size + 1]? = some (.cells #[.int .i64 X, .int .i64 Y, .int .i64 M] 81 (0, 0)) ∧ wr.heap[w.heap.size]? = some (.cells #[.int .i64 0, .int .i64 0, .int .i64 0, .int .i64 0, .int .i64 0] 28 (0, 0)) ∧ Below w.heap.size w wr) (fun _ i _ => 3 - (intOf i).toNat)
        case atStart =>
          exact ⟨0, l, 0, 0, 0, by omega, rfl, rfl, HT.out, HL2.out, Nat.le_refl _, heap_alloc2_new w _ _, heap_alloc2_old w _ _, ((Below.refl _ _).alloc (Nat.le_refl _) _).alloc (by simp) _⟩
        case round =>
          obtain ⟨q, l', X, Y, M, hq, rfl, rfl, hcont, hl', hll, hg6, hg2, hbel⟩ := hrel
          have HCO := Lib.hid hcont
          have HL' := Lib.hid hl'
          have HG6 := Lib.hid hg6
          have HG2 := Lib.hid hg2
          have HB := Lib.hid hbel
          obtain ⟨c0, c1, c2, f0, f1, f2⟩ := row3 hg6
          obtain ⟨⟨d0, d1, d2, d3, d4⟩, e0, e1, e2, e3, e4⟩ := row5 hg2
          clear hcont hl' hg6 hg2 hbel
          by_cases hlt : q < 3
          · obtain ⟨t, sm, hov⟩ : ∃ t sm, ovl false false l' = (t, sm) := ⟨_, _, rfl⟩
            have HOV := Lib.hid fun w => over_any l' HL'.out (by omega) w
            rw [hov] at HOV
            have hnl : numL l' = resN (t, sm) := by unfold numL; rw [hov]
            obtain ⟨htb, htl⟩ := ovl_sub false false l' HL'.out
            rw [hov] at htb htl
            have HTB := Lib.hid htb
            have hco := HCO.out
            rw [show 3 - q = (2 - q) + 1 by omega, contP, hnl] at hco
            clear hov hnl htb
            cases t with
            | nil =>
              rw [resN_nil, if_pos (by simp)] at hco
              have hne : (strOfNums []).toList.isEmpty = true := by rw [son_toList]; rfl
              have HCO2 := Lib.hid hco
              clear hco
              rcases (show q = 0 ∨ q = 1 ∨ q = 2 by omega) with rfl | rfl | rfl
              all_goals
                go_wp2_with (go_at_call 51; refine (HOV.out _).mono ?_; rintro e w2 ⟨rfl, rfl⟩)
                rw [← HCO2.out]
                exact bodyPost_ret (results_ct_row rfl _ _ w.heap.size 28 #[.int .i64 0, .int .i64 0, .int .i64 0, .int .i64 0, .int .i64 0] (0, 0) _ rfl (row_set5 HG2.out _ _ _ _ _) Tryd.underlying28 rfl (by kernel_rfl)) rfl ⟨rfl, below_set5 HB.out (Nat.le_refl _) _ _ _ _ _⟩
            | cons u t2 =>
              obtain ⟨u0, u1⟩ := HTB.out u List.mem_cons_self
              have hsz2 : (strOfNums (u :: t2)).size = t2.length + 1 := son_size _
              have hgu := fun h => son_get (u := u) (l := t2) u0 u1 h
              have hne : (strOfNums (u :: t2)).toList.isEmpty = false := by rw [son_toList]; rfl
              rcases Classical.em (sm = true ∧ 48 ≤ u ∧ u ≤ 57) with ⟨rfl, d1', d2'⟩ | hbad
              · have hdg : digitB u = true := by simp [digitB]; omega
                rw [resN_ok hdg] at hco
                obtain ⟨N, R, hNR⟩ : ∃ N R, dgl 0 (u :: t2) = (N, R) := ⟨_, _, rfl⟩
                have HDG := Lib.hid fun w => digits_any (u :: t2) HTB.out (by simp at htl ⊢; omega) w
                obtain ⟨hrb, hrl⟩ := dgl_sub (u :: t2) 0 HTB.out
                rw [hNR] at hrb hrl hco HDG
                rw [if_neg (by simp)] at hco
                have HCO2 := Lib.hid hco
                have HRB := Lib.hid hrb
                have hrl : R.length ≤ l.length := by simp at hrl htl ⊢; omega
                clear hco hNR hrb hdg
                rcases (show q = 0 ∨ q = 1 ∨ q = 2 by omega) with rfl | rfl | rfl
                · go_wp2_with (first
                    | (go_at_call 51; refine (HOV.out _).mono ?_; rintro e w2 ⟨rfl, rfl⟩)
                    | (go_at_call 52; refine (HDG.out _).mono ?_; rintro e w2 ⟨rfl, rfl⟩))
                  exact ⟨⟨1, R, N, Y, M, by omega, rfl, rfl, by simpa using HCO2.out, HRB.out, hrl, row_set HG6.out 0 _, (Below.heap_setCell _ _ _ _ (show w.heap.size ≠ w.heap.size + 1 by omega)).trans HG2.out, HB.out.setCell (show w.heap.size ≤ w.heap.size + 1 by omega) _⟩, by simp [intOf]⟩
                · go_wp2_with (first
                    | (go_at_call 51; refine (HOV.out _).mono ?_; rintro e w2 ⟨rfl, rfl⟩)
                    | (go_at_call 52; refine (HDG.out _).mono ?_; rintro e w2 ⟨rfl, rfl⟩))
                  exact ⟨⟨2, R, X, N, M, by omega, rfl, rfl, by simpa using HCO2.out, HRB.out, hrl, row_set HG6.out 1 _, (Below.heap_setCell _ _ _ _ (show w.heap.size ≠ w.heap.size + 1 by omega)).trans HG2.out, HB.out.setCell (show w.heap.size ≤ w.heap.size + 1 by omega) _⟩, by simp [intOf]⟩
                · go_wp2_with (first
                    | (go_at_call 51; refine (HOV.out _).mono ?_; rintro e w2 ⟨rfl, rfl⟩)
                    | (go_at_call 52; refine (HDG.out _).mono ?_; rintro e w2 ⟨rfl, rfl⟩))
                  exact ⟨⟨3, R, X, Y, N, by omega, rfl, rfl, by simpa using HCO2.out, HRB.out, hrl, row_set HG6.out 2 _, (Below.heap_setCell _ _ _ _ (show w.heap.size ≠ w.heap.size + 1 by omega)).trans HG2.out, HB.out.setCell (show w.heap.size ≤ w.heap.size + 1 by omega) _⟩, by simp [intOf]⟩
              · have hb2 : resN (u :: t2, sm) = (2, 0, []) := by
                  apply resN_bad
                  cases sm with
                  | false => exact .inl rfl
                  | true => right; simp [digitB]; simp at hbad; omega
                rw [hb2, if_pos (by simp)] at hco
                have HCO2 := Lib.hid hco
                have hcase : sm = false ∨ (sm = true ∧ u < 48) ∨ (sm = true ∧ 48 ≤ u ∧ 57 < u) := by
                  cases sm with
                  | false => exact .inl rfl
                  | true => right; simp at hbad ⊢; omega
                clear hco hb2 hbad
                rcases hcase with rfl | ⟨rfl, h1⟩ | ⟨rfl, h1, h2⟩
                all_goals
                  rcases (show q = 0 ∨ q = 1 ∨ q = 2 by omega) with rfl | rfl | rfl
                all_goals
                  go_wp2_with (go_at_call 51; refine (HOV.out _).mono ?_; rintro e w2 ⟨rfl, rfl⟩)
                  rw [← HCO2.out]
                  exact bodyPost_ret (results_ct_row rfl _ _ w.heap.size 28 #[.int .i64 0, .int .i64 0, .int .i64 0, .int .i64 0, .int .i64 0] (0, 0) _ rfl (row_set5 HG2.out _ _ _ _ _) Tryd.underlying28 rfl (by kernel_rfl)) rfl ⟨rfl, below_set5 HB.out (Nat.le_refl _) _ _ _ _ _⟩
          · have hq3 : q = 3 := by omega
            subst hq3
            have hco := HCO.out
            rw [show 3 - 3 = 0 by rfl, contP] at hco
            clear hlt hq
            cases l' with
            | nil =>
              rw [tailP] at hco
              have hne : (strOfNums []).toList.isEmpty = true := by rw [son_toList]; rfl
              have HCO2 := Lib.hid hco
              clear hco
              go_wp2
              rw [← HCO2.out]
              exact bodyPost_ret (results_ct_row rfl _ _ w.heap.size 28 #[.int .i64 0, .int .i64 0, .int .i64 0, .int .i64 0, .int .i64 0] (0, 0) _ rfl (row_set5 HG2.out _ _ _ _ _) Tryd.underlying28 rfl (by kernel_rfl)) rfl ⟨rfl, below_set5 HB.out (Nat.le_refl _) _ _ _ _ _⟩
            | cons u t2 =>
              obtain ⟨u0, u1⟩ := HL'.out u List.mem_cons_self
              have hsz2 : (strOfNums (u :: t2)).size = t2.length + 1 := son_size _
              have hgu := fun h => son_get (u := u) (l := t2) u0 u1 h
              have hne : (strOfNums (u :: t2)).toList.isEmpty = false := by rw [son_toList]; rfl
              rw [tailP] at hco
              cases hb : blankB u with
              | false =>
                rw [if_pos hb] at hco
                have HBL := Lib.hid hb
                have HCO2 := Lib.hid hco
                clear hco hb
                go_wp2_with (go_at_call 53; refine (refBlank_any u _).mono ?_; rw [HBL.out]; rintro e w2 ⟨rfl, rfl⟩)
                rw [← HCO2.out]
                exact bodyPost_ret (results_ct_row rfl _ _ w.heap.size 28 #[.int .i64 0, .int .i64 0, .int .i64 0, .int .i64 0, .int .i64 0] (0, 0) _ rfl (row_set5 HG2.out _ _ _ _ _) Tryd.underlying28 rfl (by kernel_rfl)) rfl ⟨rfl, below_set5 HB.out (Nat.le_refl _) _ _ _ _ _⟩
              | true =>
                rw [if_neg (by rw [hb]; simp)] at hco
                have HBL := Lib.hid hb
                clear hb
                have hlen2 : t2.length + 1 ≤ l.length := by simpa using hll
                rcases Classical.em (X = 0 ∨ Y = 0 ∨ M = 0 ∨ 65535 < M) with hbad | hgood
                · have hj : judgeL 1 X Y M = 2 := by unfold judgeL; rw [if_pos hbad]
                  rw [hj, if_pos (by simp)] at hco
                  have HCO2 := Lib.hid hco
                  have h4 : X = 0 ∨ ((X == 0) = false ∧ Y = 0) ∨ ((X == 0) = false ∧ (Y == 0) = false ∧ M = 0) ∨ ((X == 0) = false ∧ (Y == 0) = false ∧ (M == 0) = false ∧ 65535 < M) := by
                    simp only [beq_eq_false_iff_ne]
                    omega
                  clear hbad hj hco
                  rcases h4 with rfl | ⟨h1, rfl⟩ | ⟨h1, h2, rfl⟩ | ⟨h1, h2, h3, h4⟩
                  all_goals
                    go_wp2_with (go_at_call 53; refine (refBlank_any u _).mono ?_; rw [HBL.out]; rintro e w2 ⟨rfl, rfl⟩)
                    rw [← HCO2.out]
                    exact bodyPost_ret (results_ct_row rfl _ _ w.heap.size 28 #[.int .i64 0, .int .i64 0, .int .i64 0, .int .i64 0, .int .i64 0] (0, 0) _ rfl (row_set5 HG2.out _ _ _ _ _) Tryd.underlying28 rfl (by kernel_rfl)) rfl ⟨rfl, below_set5 HB.out (Nat.le_refl _) _ _ _ _ _⟩
                · have h1 : (X == 0) = false := by rw [beq_eq_false_iff_ne]; omega
                  have h2 : (Y == 0) = false := by rw [beq_eq_false_iff_ne]; omega
                  have h3 : (M == 0) = false := by rw [beq_eq_false_iff_ne]; omega
                  have h4 : ¬ 65535 < M := by omega
                  obtain ⟨F, hF⟩ : ∃ F, fitsB X Y 1 = F := ⟨_, rfl⟩
                  have HF := Lib.hid fun w => refFits_any X Y 1 w
                  rw [hF] at HF
                  have hj : judgeL 1 X Y M = if F = true then 0 else 5 := by unfold judgeL; rw [if_neg hgood, hF]
                  rw [hj] at hco
                  clear hgood hj hF
                  cases F with
                  | false =>
                    have hco5 : ((5 : Int), Hd.none) = T := by simpa using hco
                    have HCO2 := Lib.hid hco5
                    clear hco hco5
                    go_wp2_with (first
                      | (go_at_call 53; refine (refBlank_any u _).mono ?_; rw [HBL.out]; rintro e w2 ⟨rfl, rfl⟩)
                      | (go_at_call 34; refine (HF.out _).mono ?_; rintro e w2 ⟨rfl, rfl⟩))
                    rw [← HCO2.out]
                    exact bodyPost_ret (results_ct_row rfl _ _ w.heap.size 28 #[.int .i64 0, .int .i64 0, .int .i64 0, .int .i64 0, .int .i64 0] (0, 0) _ rfl (row_set5 HG2.out _ _ _ _ _) Tryd.underlying28 rfl (by kernel_rfl)) rfl ⟨rfl, below_set5 HB.out (Nat.le_refl _) _ _ _ _ _⟩
                  | true =>
                    rw [if_pos rfl, if_neg (by simp)] at hco
                    have HCO2 := Lib.hid hco
                    clear hco
                    go_wp2_with (first
                      | (go_at_call 53; refine (refBlank_any u _).mono ?_; rw [HBL.out]; rintro e w2 ⟨rfl, rfl⟩)
                      | (go_at_call 34; refine (HF.out _).mono ?_; rintro e w2 ⟨rfl, rfl⟩))
                    have hco := HCO2.out
                    have es : ((l.length + 2 : Nat) : Int) - ((u :: t2).length : Int) + 1 = (l.length : Int) + 2 - ((t2.length : Int) + 1) + 1 := by simp
                    rw [es] at hco
                    rw [← hco]
                    exact bodyPost_ret (results_ct_row rfl _ _ w.heap.size 28 #[.int .i64 1, .int .i64 X, .int .i64 Y, .int .i64 M, .int .i64 ((l.length : Int) + 2 - ((t2.length : Int) + 1) + 1)] (0, 0) _ rfl (row_set5 HG2.out _ _ _ _ _) Tryd.underlying28 rfl (by kernel_rfl)) rfl ⟨rfl, below_set5 HB.out (Nat.le_refl _) _ _ _ _ _⟩
      by_cases hb6 : b = 54
      · subst hb6
        have hp : parseL (80 :: 54 :: l) = contP 3 (l.length + 2) 3 0 0 0 l := by rfl
        obtain ⟨T, hT⟩ : ∃ T, contP 3 (l.length + 2) 3 0 0 0 l = T := ⟨_, rfl⟩
        rw [hp, hT]
        have HT := Lib.hid hT
        clear hp hT
        go_enter Tryd.func38, Tryd.ntmps38
        go_wp2
        go_loopw [5, 34] (fun s i wr => ∃ (q : Nat) (l' : List Int) (X Y M : Int), q ≤ 3 ∧ i = .int .i64 q ∧ s = .string (strOfNums l') ∧ contP 3 (l.length + 2) (3 - q) X Y M l' = T ∧ (∀ x ∈ l', 0 ≤ x ∧ x ≤ 255) ∧ l'.length ≤ l.length ∧ wr.heap[w.heap.size + 1]? = some (.cells #[.int .i64 X, .int .i64 Y, .int .i64 M] 81 (0, 0)) ∧ wr.heap[w.heap.size]? = some (.cells #[.int .i64 0, .int .i64 0, .int .i64 0, .int .i64 0, .int .i64 0] 28 (0, 0)) ∧ Below w.heap.size w wr) (fun _ i _ => 3 - (intOf i).toNat)
        case atStart =>
          exact ⟨0, l, 0, 0, 0, by omega, rfl, rfl, HT.out, HL2.out, Nat.le_refl _, heap_alloc2_new w _ _, heap_alloc2_old w _ _, ((Below.refl _ _).alloc (Nat.le_refl _) _).alloc (by simp) _⟩
        case round =>
          obtain ⟨q, l', X, Y, M, hq, rfl, rfl, hcont, hl', hll, hg6, hg2, hbel⟩ := hrel
          have HCO := Lib.hid hcont
          have HL' := Lib.hid hl'
          have HG6 := Lib.hid hg6
          have HG2 := Lib.hid hg2
          have HB := Lib.hid hbel
          obtain ⟨c0, c1, c2, f0, f1, f2⟩ := row3 hg6
          obtain ⟨⟨d0, d1, d2, d3, d4⟩, e0, e1, e2, e3, e4⟩ := row5 hg2
          clear hcont hl' hg6 hg2 hbel
          by_cases hlt : q < 3
          · obtain ⟨t, sm, hov⟩ : ∃ t sm, ovl false false l' = (t, sm) := ⟨_, _, rfl⟩
            have HOV := Lib.hid fun w => over_any l' HL'.out (by omega) w
            rw [hov] at HOV
            have hnl : numL l' = resN (t, sm) := by unfold numL; rw [hov]
            obtain ⟨htb, htl⟩ := ovl_sub false false l' HL'.out
            rw [hov] at htb htl
            have HTB := Lib.hid htb
            have hco := HCO.out
            rw [show 3 - q = (2 - q) + 1 by omega, contP, hnl] at hco
            clear hov hnl htb
            cases t with
            | nil =>
              rw [resN_nil, if_pos (by simp)] at hco
              have hne : (strOfNums []).toList.isEmpty = true := by rw [son_toList]; rfl
              have HCO2 := Lib.hid hco
              clear hco
              rcases (show q = 0 ∨ q = 1 ∨ q = 2 by omega) with rfl | rfl | rfl
              all_goals
                go_wp2_with (go_at_call 51; refine (HOV.out _).mono ?_; rintro e w2 ⟨rfl, rfl⟩)
                rw [← HCO2.out]
                exact bodyPost_ret (results_ct_row rfl _ _ w.heap.size 28 #[.int .i64 0, .int .i64 0, .int .i64 0, .int .i64 0, .int .i64 0] (0, 0) _ rfl (row_set5 HG2.out _ _ _ _ _) Tryd.underlying28 rfl (by kernel_rfl)) rfl ⟨rfl, below_set5 HB.out (Nat.le_refl _) _ _ _ _ _⟩
            | cons u t2 =>
              obtain ⟨u0, u1⟩ := HTB.out u List.mem_cons_self
              have hsz2 : (strOfNums (u :: t2)).size = t2.length + 1 := son_size _
              have hgu := fun h => son_get (u := u) (l := t2) u0 u1 h
              have hne : (strOfNums (u :: t2)).toList.isEmpty = false := by rw [son_toList]; rfl
              rcases Classical.em (sm = true ∧ 48 ≤ u ∧ u ≤ 57) with ⟨rfl, d1', d2'⟩ | hbad
              · have hdg : digitB u = true := by simp [digitB]; omega
                rw [resN_ok hdg] at hco
                obtain ⟨N, R, hNR⟩ : ∃ N R, dgl 0 (u :: t2) = (N, R) := ⟨_, _, rfl⟩
                have HDG := Lib.hid fun w => digits_any (u :: t2) HTB.out (by simp at htl ⊢; omega) w
                obtain ⟨hrb, hrl⟩ := dgl_sub (u :: t2) 0 HTB.out
                rw [hNR] at hrb hrl hco HDG
                rw [if_neg (by simp)] at hco
                have HCO2 := Lib.hid hco
                have HRB := Lib.hid hrb
                have hrl : R.length ≤ l.length := by simp at hrl htl ⊢; omega
                clear hco hNR hrb hdg
                rcases (show q = 0 ∨ q = 1 ∨ q = 2 by omega) with rfl | rfl | rfl
                · go_wp2_with (first
                    | (go_at_call 51; refine (HOV.out _).mono ?_; rintro e w2 ⟨rfl, rfl⟩)
                    | (go_at_call 52; refine (HDG.out _).mono ?_; rintro e w2 ⟨rfl, rfl⟩))
                  exact ⟨⟨1, R, N, Y, M, by omega, rfl, rfl, by simpa using HCO2.out, HRB.out, hrl, row_set HG6.out 0 _, (Below.heap_setCell _ _ _ _ (show w.heap.size ≠ w.heap.size + 1 by omega)).trans HG2.out, HB.out.setCell (show w.heap.size ≤ w.heap.size + 1 by omega) _⟩, by simp [intOf]⟩
                · go_wp2_with (first
                    | (go_at_call 51; refine (HOV.out _).mono ?_; rintro e w2 ⟨rfl, rfl⟩)
                    | (go_at_call 52; refine (HDG.out _).mono ?_; rintro e w2 ⟨rfl, rfl⟩))
                  exact ⟨⟨2, R, X, N, M, by omega, rfl, rfl, by simpa using HCO2.out, HRB.out, hrl, row_set HG6.out 1 _, (Below.heap_setCell _ _ _ _ (show w.heap.size ≠ w.heap.size + 1 by omega)).trans HG2.out, HB.out.setCell (show w.heap.size ≤ w.heap.size + 1 by omega) _⟩, by simp [intOf]⟩
                · go_wp2_with (first
                    | (go_at_call 51; refine (HOV.out _).mono ?_; rintro e w2 ⟨rfl, rfl⟩)
                    | (go_at_call 52; refine (HDG.out _).mono ?_; rintro e w2 ⟨rfl, rfl⟩))
                  exact ⟨⟨3, R, X, Y, N, by omega, rfl, rfl, by simpa using HCO2.out, HRB.out, hrl, row_set HG6.out 2 _, (Below.heap_setCell _ _ _ _ (show w.heap.size ≠ w.heap.size + 1 by omega)).trans HG2.out, HB.out.setCell (show w.heap.size ≤ w.heap.size + 1 by omega) _⟩, by simp [intOf]⟩
              · have hb2 : resN (u :: t2, sm) = (2, 0, []) := by
                  apply resN_bad
                  cases sm with
                  | false => exact .inl rfl
                  | true => right; simp [digitB]; simp at hbad; omega
                rw [hb2, if_pos (by simp)] at hco
                have HCO2 := Lib.hid hco
                have hcase : sm = false ∨ (sm = true ∧ u < 48) ∨ (sm = true ∧ 48 ≤ u ∧ 57 < u) := by
                  cases sm with
                  | false => exact .inl rfl
                  | true => right; simp at hbad ⊢; omega
                clear hco hb2 hbad
                rcases hcase with rfl | ⟨rfl, h1⟩ | ⟨rfl, h1, h2⟩
                all_goals
                  rcases (show q = 0 ∨ q = 1 ∨ q = 2 by omega) with rfl | rfl | rfl
                all_goals
                  go_wp2_with (go_at_call 51; refine (HOV.out _).mono ?_; rintro e w2 ⟨rfl, rfl⟩)
                  rw [← HCO2.out]
                  exact bodyPost_ret (results_ct_row rfl _ _ w.heap.size 28 #[.int .i64 0, .int .i64 0, .int .i64 0, .int .i64 0, .int .i64 0] (0, 0) _ rfl (row_set5 HG2.out _ _ _ _ _) Tryd.underlying28 rfl (by kernel_rfl)) rfl ⟨rfl, below_set5 HB.out (Nat.le_refl _) _ _ _ _ _⟩
          · have hq3 : q = 3 := by omega
            subst hq3
            have hco := HCO.out
            rw [show 3 - 3 = 0 by rfl, contP] at hco
            clear hlt hq
            cases l' with
            | nil =>
              rw [tailP] at hco
              have hne : (strOfNums []).toList.isEmpty = true := by rw [son_toList]; rfl
              have HCO2 := Lib.hid hco
              clear hco
              go_wp2
              rw [← HCO2.out]
              exact bodyPost_ret (results_ct_row rfl _ _ w.heap.size 28 #[.int .i64 0, .int .i64 0, .int .i64 0, .int .i64 0, .int .i64 0] (0, 0) _ rfl (row_set5 HG2.out _ _ _ _ _) Tryd.underlying28 rfl (by kernel_rfl)) rfl ⟨rfl, below_set5 HB.out (Nat.le_refl _) _ _ _ _ _⟩
            | cons u t2 =>
              obtain ⟨u0, u1⟩ := HL'.out u List.mem_cons_self
              have hsz2 : (strOfNums (u :: t2)).size = t2.length + 1 := son_size _
              have hgu := fun h => son_get (u := u) (l := t2) u0 u1 h
              have hne : (strOfNums (u :: t2)).toList.isEmpty = false := by rw [son_toList]; rfl
              rw [tailP] at hco
              cases hb : blankB u with
              | false =>
                rw [if_pos hb] at hco
                have HBL := Lib.hid hb
                have HCO2 := Lib.hid hco
                clear hco hb
                go_wp2_with (go_at_call 53; refine (refBlank_any u _).mono ?_; rw [HBL.out]; rintro e w2 ⟨rfl, rfl⟩)
                rw [← HCO2.out]
                exact bodyPost_ret (results_ct_row rfl _ _ w.heap.size 28 #[.int .i64 0, .int .i64 0, .int .i64 0, .int .i64 0, .int .i64 0] (0, 0) _ rfl (row_set5 HG2.out _ _ _ _ _) Tryd.underlying28 rfl (by kernel_rfl)) rfl ⟨rfl, below_set5 HB.out (Nat.le_refl _) _ _ _ _ _⟩
              | true =>
                rw [if_neg (by rw [hb]; simp)] at hco
                have HBL := Lib.hid hb
                clear hb
                have hlen2 : t2.length + 1 ≤ l.length := by simpa using hll
                rcases Classical.em (X = 0 ∨ Y = 0 ∨ M = 0 ∨ 65535 < M) with hbad | hgood
                · have hj : judgeL 3 X Y M = 2 := by unfold judgeL; rw [if_pos hbad]
                  rw [hj, if_pos (by simp)] at hco
                  have HCO2 := Lib.hid hco
                  have h4 : X = 0 ∨ ((X == 0) = false ∧ Y = 0) ∨ ((X == 0) = false ∧ (Y == 0) = false ∧ M = 0) ∨ ((X == 0) = false ∧ (Y == 0) = false ∧ (M == 0) = false ∧ 65535 < M) := by
                    simp only [beq_eq_false_iff_ne]
                    omega
                  clear hbad hj hco
                  rcases h4 with rfl | ⟨h1, rfl⟩ | ⟨h1, h2, rfl⟩ | ⟨h1, h2, h3, h4⟩
                  all_goals
                    go_wp2_with (go_at_call 53; refine (refBlank_any u _).mono ?_; rw [HBL.out]; rintro e w2 ⟨rfl, rfl⟩)
                    rw [← HCO2.out]
                    exact bodyPost_ret (results_ct_row rfl _ _ w.heap.size 28 #[.int .i64 0, .int .i64 0, .int .i64 0, .int .i64 0, .int .i64 0] (0, 0) _ rfl (row_set5 HG2.out _ _ _ _ _) Tryd.underlying28 rfl (by kernel_rfl)) rfl ⟨rfl, below_set5 HB.out (Nat.le_refl _) _ _ _ _ _⟩
                · have h1 : (X == 0) = false := by rw [beq_eq_false_iff_ne]; omega
                  have h2 : (Y == 0) = false := by rw [beq_eq_false_iff_ne]; omega
                  have h3 : (M == 0) = false := by rw [beq_eq_false_iff_ne]; omega
                  have h4 : ¬ 65535 < M := by omega
                  obtain ⟨F, hF⟩ : ∃ F, fitsB X Y 3 = F := ⟨_, rfl⟩
                  have HF := Lib.hid fun w => refFits_any X Y 3 w
                  rw [hF] at HF
                  have hj : judgeL 3 X Y M = if F = true then 0 else 5 := by unfold judgeL; rw [if_neg hgood, hF]
                  rw [hj] at hco
                  clear hgood hj hF
                  cases F with
                  | false =>
                    have hco5 : ((5 : Int), Hd.none) = T := by simpa using hco
                    have HCO2 := Lib.hid hco5
                    clear hco hco5
                    go_wp2_with (first
                      | (go_at_call 53; refine (refBlank_any u _).mono ?_; rw [HBL.out]; rintro e w2 ⟨rfl, rfl⟩)
                      | (go_at_call 34; refine (HF.out _).mono ?_; rintro e w2 ⟨rfl, rfl⟩))
                    rw [← HCO2.out]
                    exact bodyPost_ret (results_ct_row rfl _ _ w.heap.size 28 #[.int .i64 0, .int .i64 0, .int .i64 0, .int .i64 0, .int .i64 0] (0, 0) _ rfl (row_set5 HG2.out _ _ _ _ _) Tryd.underlying28 rfl (by kernel_rfl)) rfl ⟨rfl, below_set5 HB.out (Nat.le_refl _) _ _ _ _ _⟩
                  | true =>
                    rw [if_pos rfl, if_neg (by simp)] at hco
                    have HCO2 := Lib.hid hco
                    clear hco
                    go_wp2_with (first
                      | (go_at_call 53; refine (refBlank_any u _).mono ?_; rw [HBL.out]; rintro e w2 ⟨rfl, rfl⟩)
                      | (go_at_call 34; refine (HF.out _).mono ?_; rintro e w2 ⟨rfl, rfl⟩))
                    have hco := HCO2.out
                    have es : ((l.length + 2 : Nat) : Int) - ((u :: t2).length : Int) + 1 = (l.length : Int) + 2 - ((t2.length : Int) + 1) + 1 := by simp
                    rw [es] at hco
                    rw [← hco]
                    exact bodyPost_ret (results_ct_row rfl _ _ w.heap.size 28 #[.int .i64 3, .int .i64 X, .int .i64 Y, .int .i64 M, .int .i64 ((l.length : Int) + 2 - ((t2.length : Int) + 1) + 1)] (0, 0) _ rfl (row_set5 HG2.out _ _ _ _ _) Tryd.underlying28 rfl (by kernel_rfl)) rfl ⟨rfl, below_set5 HB.out (Nat.le_refl _) _ _ _ _ _⟩
      · have h53 : (b != 53) = true := by rw [bne_iff_ne]; exact hb
        have h54 : (b != 54) = true := by rw [bne_iff_ne]; exact hb6
        have hp : parseL (80 :: b :: l) = (1, Hd.none) := by
          have : magicL (80 :: b :: l) = 0 := by simp [magicL, hb, hb6]
          unfold parseL
          rw [if_pos this]
        rw [hp]
        clear hp hb hb6
        go_enter Tryd.func38, Tryd.ntmps38
        go_wp2
        exact bodyPost_ret (results_ct_row rfl _ _ w.heap.size 28 #[.int .i64 0, .int .i64 0, .int .i64 0, .int .i64 0, .int .i64 0] (0, 0) _ rfl (heap_alloc_new w _) Tryd.underlying28 rfl (by kernel_rfl)) rfl ⟨rfl, (Below.refl _ _).alloc (Nat.le_refl _) _⟩
    · have h80 : (a != 80) = true := by rw [bne_iff_ne]; exact ha
      have hp : parseL (a :: b :: l) = (1, Hd.none) := by
        have : magicL (a :: b :: l) = 0 := by simp [magicL, ha]
        unfold parseL
        rw [if_pos this]
      rw [hp]
      clear hp ha
      go_enter Tryd.func38, Tryd.ntmps38
      go_wp2
      exact bodyPost_ret (results_ct_row rfl _ _ w.heap.size 28 #[.int .i64 0, .int .i64 0, .int .i64 0, .int .i64 0, .int .i64 0] (0, 0) _ rfl (heap_alloc_new w _) Tryd.underlying28 rfl (by kernel_rfl)) rfl ⟨rfl, (Below.refl _ _).alloc (Nat.le_refl _) _⟩
end Go.Proofs.YtnpkkcbgfnnfmaaDoor
