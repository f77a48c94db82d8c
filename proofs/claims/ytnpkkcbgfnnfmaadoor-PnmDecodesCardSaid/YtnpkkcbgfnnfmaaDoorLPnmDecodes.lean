import Derived.Test.YtnpkkcbgfnnfmaaDoorPm
/- The law PnmDecodes: its walk. -/
namespace Go.Proofs.YtnpkkcbgfnnfmaaDoor
open Go.RowKit Go.Sort
set_option linter.unusedVariables false
set_option linter.unusedSimpArgs false
set_option maxRecDepth 100000

set_option maxHeartbeats 2000000 in
theorem pnmDecodes_walk (v5 : Value) (xs5 : List Int) (w : World) (rd5 : Rd w .u8 v5 xs5) (wf5 : ∀ x ∈ xs5, (Lit.int .u8 x).wf = true) (sz5 : xs5.length * 1 ≤ 140737488351232) (ht : Tab w) :
    Calls Tryd.prog 6 #[v5] w fun e w' => e = .returned (.bool true) ∧ Below w.heap.size w w' := by
  obtain ⟨x5, c5, rfl, hc5, hl5, -⟩ := rd5.form
  have hby : Byt xs5 := fun z hz => of_wf_u8 (wf5 z hz)
  have hboth := both_any xs5 hby
  obtain ⟨n5, hn5⟩ : ∃ n5, xs5.length = n5 := ⟨_, rfl⟩
  have hR5 := rd5
  rw [hn5] at hl5 hR5 hboth ⊢
  unfold maxLen at hc5
  have hn63 : n5 ≤ 9223372036854775807 := by omega
  have HR5 := Lib.hid hR5
  have HN5 := Lib.hid hn5
  have HT := Lib.hid ht
  have HL := Lib.hid fun w' (ht : Tab w') => lives11_any w' ht
  clear ht rd5 wf5 sz5 hR5 hn5 hc5 hby
  by_cases hl : n5 > 3000
  · have hl' : ((n5 : Int) > 3000) = true := by simp; omega
    clear hboth
    go_enter Tryd.func6, Tryd.ntmps6
    go_wp2_with fail
    refine (HL.out _ HT.out).mono ?_
    rintro e wl ⟨rfl, hBl⟩
    have HBl := Lib.hid hBl
    clear hBl
    go_wp2_with fail
    refine (HL.out _ (HT.out.below HBl.out)).mono ?_
    rintro e wl2 ⟨rfl, hB⟩
    have HBl2 := Lib.hid (HBl.out.trans (hB.mono HBl.out.size))
    clear hB
    go_wp2_with fail
    go_ret
    exact ⟨rfl, HBl2.out⟩
  · have hl' : ¬ ((n5 : Int) > 3000) := by omega
    have h3 : n5 ≤ 3000 := by omega
    obtain ⟨q, c, x, y, m, l, hll, hP, hRD⟩ := hboth h3
    have HP := Lib.hid hP
    have HRD := Lib.hid hRD
    obtain ⟨i, hi, hz0, hz1, hz2⟩ := info_parts infoU8
    clear hboth hP hRD
    go_enter Tryd.func6, Tryd.ntmps6
    go_wp2_with fail
    refine (HL.out _ HT.out).mono ?_
    rintro e wl ⟨rfl, hBl⟩
    have HBl := Lib.hid hBl
    have hwl : w.heap.size ≤ wl.heap.size := hBl.size
    have HAL : ∀ o, Hid (Below wl.heap.size wl (wl.alloc o)) := fun o => Lib.hid ((Below.refl wl.heap.size wl).alloc (Nat.le_refl _) o)
    have HM := Lib.hid (HR5.out.below HBl.out)
    clear hBl
    go_wp2_with (at_builtin; refine wpList_append_m _ rfl _ _ 24 rfl wl.heap.size 5 i .u8 1 Tryd.underlying24 hi hz0 hz1 hz2 _ [] rfl (OwnM.empty wl _ .u8 _ (Nat.le_refl _)) _ xs5 rfl (HM.out.below (HAL _).out) (by rw [HN5.out]; unfold maxLen; simp only [List.length_nil]; omega) (by rw [HN5.out]; simp only [List.length_nil]; omega) (HAL _).out.size ?_; intro v7 w7 ho7 hb7; rw [List.nil_append] at ho7; obtain ⟨b7, c7, rfl, -⟩ := id ho7; rw [HN5.out] at ho7 ⊢; have HO7 := Lib.hid ho7; have HB7 := Lib.hid (HBl.out.trans (((HAL _).out.trans hb7).mono hwl)); clear ho7 hb7)
    with_reducible refine (HP.out _ _ HO7.out.rd).mono ?_
    rintro e w8 ⟨hB8, ho⟩
    have HO8 := Lib.hid (HO7.out.below hB8)
    have HB8 := Lib.hid (HB7.out.trans (hB8.mono HB7.out.size))
    have kc5 : ∀ w', Below w8.heap.size w8 w' → (convert 24 9 (.slice x5 n5 c5)).run Tryd.prog w' = .ok (.string (strOfNums xs5)) w' := fun w' h => conv_str (HR5.out.below (HB8.out.trans (h.mono HB8.out.size)))
    have kc7 : ∀ w', Below w8.heap.size w8 w' → (convert 24 9 (.slice (some ⟨b7, 0, none⟩) n5 c7)).run Tryd.prog w' = .ok (.string (strOfNums xs5)) w' := fun w' h => conv_str (HO8.out.below h).rd
    have k8 := kc5 w8 (Below.refl _ _)
    have HK5 := Lib.hid kc5
    have HK7 := Lib.hid kc7
    clear hB8 kc5 kc7
    rcases ho with ⟨hq, rfl⟩ | ⟨rfl, g, r, rfl, hi8⟩
    · have hq1 : (q == 0) = false := by rw [beq_eq_false_iff_ne]; exact hq
      have hq2 : (q != 0) = true := by rw [bne_iff_ne]; exact hq
      go_wp2_with fail
      refine (HRD.out _).mono ?_
      rintro e w9 ⟨hB9, ⟨-, rfl⟩ | ⟨h0, -⟩⟩
      · have hb9 : ∀ o, Below w8.heap.size w8 (w9.alloc o) := fun o => hB9.alloc hB9.size o
        have k5 := fun o => HK5.out _ (hb9 o)
        have k7 := fun o => HK7.out _ (hb9 o)
        have HB9 := Lib.hid (HB8.out.trans (hB9.mono HB8.out.size))
        clear hB9 hb9 k8
        go_wp2_with fail
        go_quiet (fail)
        go_wp2_with fail
        go_ret
        exact ⟨rfl, (HB9.out.alloc HB9.out.size _).trans (Below.drewN nq)⟩
      · exact absurd h0 hq
    · go_wp2_with fail
      refine (HRD.out _).mono ?_
      rintro e w9 ⟨hB9, ⟨h0, -⟩ | ⟨-, xo, co, rfl, hrd9⟩⟩
      · exact absurd rfl h0
      · have hb9 : ∀ o, Below w8.heap.size w8 (w9.alloc o) := fun o => hB9.alloc hB9.size o
        have k5 := fun o => HK5.out _ (hb9 o)
        have k7 := fun o => HK7.out _ (hb9 o)
        have HB9 := Lib.hid (HB8.out.trans (hB9.mono HB8.out.size))
        have HI9 := Lib.hid (hi8.below hB9)
        have HRD9 := Lib.hid hrd9
        clear hB9 hb9 k8 hi8 hrd9
        go_wp2_with fail
        obtain ⟨wA, hwA⟩ : ∃ wA, w9.alloc (.cells #[.int .i64 x, .int .i64 y, .int .i64 c, .int .i64 m, .slice xo l.length co] 44) = wA := ⟨_, rfl⟩
        have hrowA : wA.heap[w9.heap.size]? = some (.cells #[.int .i64 x, .int .i64 y, .int .i64 c, .int .i64 m, .slice xo l.length co] 44 (0, 0)) := by rw [← hwA]; exact heap_alloc_new w9 _
        have HBA : Hid (Below w.heap.size w wA) := Lib.hid (by rw [← hwA]; exact HB9.out.alloc HB9.out.size _)
        have hal : Below w9.heap.size w9 wA := by rw [← hwA]; exact (Below.refl w9.heap.size w9).alloc (Nat.le_refl _) _
        have HIA := Lib.hid (HI9.out.below hal)
        have HRA := Lib.hid (HRD9.out.below hal)
        obtain ⟨g9, hg9⟩ : ∃ g9, w9.heap.size = g9 := ⟨_, rfl⟩
        rw [hwA, hg9]
        rw [hg9] at hrowA
        clear hwA hal hg9 k5 k7
        have HC : Hid (∀ w', Below wA.heap.size wA w' → w'.cell? ⟨g9, 0, none⟩ = some (.int .i64 x) ∧ w'.cell? ⟨g9, 1, none⟩ = some (.int .i64 y) ∧ w'.cell? ⟨g9, 2, none⟩ = some (.int .i64 c) ∧ w'.cell? ⟨g9, 3, none⟩ = some (.int .i64 m) ∧ w'.cell? ⟨g9, 4, none⟩ = some (.slice xo l.length co) ∧ Below wA.heap.size wA w') := Lib.hid fun w' hb => by
          obtain ⟨⟨t0, t1, t2, t3, t4⟩, -⟩ := row5v (below_row (B := 0) hb hrowA)
          exact ⟨t0, t1, t2, t3, t4, hb⟩
        have hll2 : l.length * 2 ≤ 140737488351232 := by omega
        have HLL := Lib.hid hll2
        have HEQ : Hid (∀ w' (x6 : Option Addr) (c6 : Nat), Rd w' .u16 (.slice x6 l.length c6) l → Rd w' .u16 (.slice xo l.length co) l → Calls Tryd.prog 20 #[imgV x y c m (.slice x6 l.length c6), imgV x y c m (.slice xo l.length co)] w' fun e w'' => e = .returned (.bool true) ∧ Below w'.heap.size w' w'') := Lib.hid fun w' x6 c6 h1 h2 => (equalV_any x y c m x y c m x6 xo l.length l.length c6 co l l w' h1 h2).mono fun e w'' ⟨h3, h4⟩ => ⟨by rw [h3]; simp, h4⟩
        have hb0 : Below wA.heap.size wA wA.drew := Below.drew (Below.refl _ _)
        clear hrowA hll hll2
        go_region_held3 (fun w' => w'.cell? ⟨g9, 0, none⟩ = some (.int .i64 x) ∧ w'.cell? ⟨g9, 1, none⟩ = some (.int .i64 y) ∧ w'.cell? ⟨g9, 2, none⟩ = some (.int .i64 c) ∧ w'.cell? ⟨g9, 3, none⟩ = some (.int .i64 m) ∧ w'.cell? ⟨g9, 4, none⟩ = some (.slice xo l.length co) ∧ Below wA.heap.size wA w')
          ((first | assumption | exact HC.out _ hb0 | exact HC.out _ hbN))
          ((first
            | (go_at_call 21; obtain ⟨-, -, -, -, -, hbX⟩ : _ ∧ _ ∧ _ ∧ _ ∧ _ ∧ Below wA.heap.size wA _ := (by assumption); (with_reducible refine (ref_any (HIA.out.below hbX) HLL.out).mono ?_); rintro e w5 ⟨x6, c6, rfl, ho6, hB6⟩; have hbN := hbX.trans (hB6.mono hbX.size); have HO6 := Lib.hid ho6; clear hbX ho6 hB6)
            | (go_at_call 20; obtain ⟨-, -, -, -, -, hbX⟩ : _ ∧ _ ∧ _ ∧ _ ∧ _ ∧ Below wA.heap.size wA _ := (by assumption); (with_reducible refine (HEQ.out _ _ _ HO6.out.rd (HRA.out.below hbX)).mono ?_); rintro e w6 ⟨rfl, hB6⟩; have hbN := hbX.trans (hB6.mono hbX.size); clear hbX hB6)))
        go_wp2_with fail
        go_ret
        exact ⟨rfl, HBA.out.trans (hbN.mono HBA.out.size)⟩
end Go.Proofs.YtnpkkcbgfnnfmaaDoor
