import Derived.Test.YtnpkkcbgfnnfmaaQa
/- slices.Delete of the first one, at int. -/
namespace Go.Proofs.Ytnpkkcbgfnnfmaa
open Go.RowKit
set_option linter.unusedVariables false
set_option linter.unusedSimpArgs false
set_option maxRecDepth 100000
section
variable {w : World} {base : Nat}

/-! ### slices.Delete of the first one -/
theorem delete_runs {w : World} {base b n c : Nat} {x : Int} {l : List Int} (h : Own w base 3 .i64 (.slice (some ⟨b, 0, none⟩) (n + 1) c) (x :: l)) (hn : l.length = n) :
    ∃ w2 w3, Hid (Own w3 base 3 .i64 (.slice (some ⟨b, 0, none⟩) n c) l ∧ w.grownBy w3 (some b)) ∧
      (∀ sa sc, (1 < c → sa = ⟨b, 1, none⟩) → (Builtin.append_ #[43, 43] 43 #[.slice (some ⟨b, 0, none⟩) 0 c, .slice (some sa) n sc]).run Try.prog w.drew = .ok (.slice (some ⟨b, 0, none⟩) n c) w2) ∧
      (∀ ty, (Builtin.clear_ #[43] ty #[.slice (some ⟨b, n, none⟩) 1 (c - n)]).run Try.prog w2 = .ok (.tuple #[]) w3) := by
  obtain ⟨i, hi, hz0, hz1, hz2⟩ := info_parts infoInt
  have hsrc := h.rd.src rfl
  obtain ⟨_, h⟩ := h
  rcases h with ⟨h, _⟩ | ⟨g', cap, cur, he, h1, h2, h3, h4, h5, h6⟩
  · cases h
  injection he with e1 e2 e3
  injection e1 with e1
  injection e1 with e1 _ _
  subst e1
  subst e3
  simp only [List.length_cons, Nat.mul_one] at h3 h5 h6
  subst hn
  have hlen : cur.toList.length = c := by rw [Array.length_toList]; exact h5
  have hnews : ∀ j u, (l.map (Value.int .i64))[j]? = some u → w.drew.cell? ((⟨b, 1, none⟩ : Addr).add j) = some u := by
    intro j u hu
    have := hsrc (j + 1) u (by rw [List.map_cons, List.getElem?_cons_succ]; exact hu)
    rw [Addr.add_lit] at this ⊢
    rw [show 1 + j = 0 + (j + 1) from by omega]
    exact this
  have hz0' : ∀ w, (zeroValue 3).run Try.prog w = .ok (.int .i64 0) w := fun w => by simp [zeroValue, typeInfo, hi, hz0]
  have h2' : w.drew.heap[b]? = some (.cells cur 3 (0, 0)) := h2
  have hw2 := setRow_heap w.drew b cur (l.map (Value.int .i64) ++ cur.toList.drop l.length).toArray 3 _ h2'
  have hcell2 : (w.drew.setRow b (l.map (Value.int .i64) ++ cur.toList.drop l.length).toArray).cell? ⟨b, l.length, none⟩ = (l.map (Value.int .i64) ++ cur.toList.drop l.length)[l.length]? := by
    rw [cell_of_row _ _ _ _ _ _ hw2]
    simp
  refine ⟨w.drew.setRow b (l.map (Value.int .i64) ++ cur.toList.drop l.length).toArray, (w.drew.setRow b (l.map (Value.int .i64) ++ cur.toList.drop l.length).toArray).setCell ⟨b, l.length, none⟩ (.int .i64 0), Lib.hid ⟨⟨by simp, .inr ⟨b, c, (l.map (Value.int .i64) ++ cur.toList.drop l.length).toArray.setIfInBounds l.length (.int .i64 0), rfl, h1, ?_, by omega, h4, ?_, ?_⟩⟩, ?_⟩, ?_, ?_⟩
  · simp [World.setCell, Array.getElem?_modify, hw2]
  · simp; omega
  · rw [Nat.mul_one, Array.toList_setIfInBounds, List.take_set_of_le (Nat.le_refl _)]
    simp
  · exact grown_trans (grown_trans (grown_drewN w 1 (some b)) (grown_setRow _ _ _)) (grown_setCell _ _ _ _)
  · intro sa sc hsa
    have hns : ∀ j u, (l.map (Value.int .i64))[j]? = some u → w.drew.cell? (sa.add j) = some u := by
      intro j u hu
      have hj := (List.getElem?_eq_some_iff.1 hu).1
      rw [List.length_map] at hj
      rw [hsa (by omega)]
      exact hnews j u hu
    have := run_append_room (P := Try.prog) w.drew 43 43 3 i Try.underlying43 hi b 0 c cur h2' sa l.length sc (l.map (Value.int .i64)) (by rw [hz1]; simp) hns ints_one (by omega) (by rw [List.length_map]; omega)
    simpa using this
  · intro ty
    have := Lib.run_clear_slice (P := Try.prog) (w.drew.setRow b (l.map (Value.int .i64) ++ cur.toList.drop l.length).toArray) 43 3 ty (.int .i64 0) Try.underlying43 hz0' rfl rfl b l.length 1 (c - l.length) (by omega)
      (by
        intro j hj
        obtain rfl : j = 0 := by omega
        rw [Nat.add_zero, hcell2, List.getElem?_append_right (by simp), List.length_map, Nat.sub_self, List.getElem?_drop, Nat.add_zero, List.getElem?_eq_getElem (by omega)]
        rfl)
      (by
        intro j hj
        simp [World.frozen?, hw2])
    simpa [World.setCells] using this

set_option maxHeartbeats 4000000 in
theorem delete_any (b : Nat) (c : Nat) (x : Int) (l : List Int) (h : Own w base 3 .i64 (.slice (some ⟨b, 0, none⟩) (l.length + 1) c) (x :: l)) :
    Calls Try.prog 75 #[.slice (some ⟨b, 0, none⟩) (l.length + 1) c, .int .i64 0, .int .i64 1] w fun e w' => e = .returned (.slice (some ⟨b, 0, none⟩) l.length c) ∧
      Own w' base 3 .i64 (.slice (some ⟨b, 0, none⟩) l.length c) l ∧ w.grownBy w' (some b) := by
  obtain ⟨n, hn⟩ : ∃ n, l.length = n := ⟨_, rfl⟩
  have hform := h.rd.form
  have H := Lib.hid h
  obtain ⟨x0, c0, he, h1, h2, _⟩ := hform
  injection he with e1 e2 e3
  subst e3
  clear e1 e2
  unfold maxLen at h1
  rw [List.length_cons, hn] at h2
  rw [hn] at H ⊢
  obtain ⟨w2, w3, HW, hrun, hclear⟩ := delete_runs H.out hn
  by_cases hc1 : 1 < c
  · have hrun1 := hrun ⟨b, 1, none⟩ (c - 1) (fun _ => rfl)
    clear hrun
    have HRUN := Lib.hid hrun1
    clear hrun1
    have h11 : (1 : Int) ≤ (n : Int) + 1 := by omega
    have hcne : ¬ c = 1 := by omega
    go_enter Try.func75, Try.ntmps75
    go_wp2
    go_region_law (refine step_append_run rfl (.tmp 22) (.tmp 25) 43 rfl (.slice (some ⟨b, 0, none⟩) 0 c) (.slice (some ⟨b, 1, none⟩) n (c - 1)) (.slice (some ⟨b, 0, none⟩) n c) w2 rfl rfl HRUN.out ?_)
    go_simp
    go_wp2
    go_ret
    exact ⟨rfl, HW.out.1, HW.out.2⟩
  · have hc2 : c = 1 := by omega
    have hn0 : n = 0 := by omega
    subst hc2
    subst hn0
    have hrun1 := hrun ⟨b, 0, none⟩ 0 (fun h => absurd h (by omega))
    clear hrun
    have HRUN := Lib.hid hrun1
    clear hrun1
    go_enter Try.func75, Try.ntmps75
    go_wp2
    go_region_law (refine step_append_run rfl (.tmp 22) (.tmp 25) 43 rfl (.slice (some ⟨b, 0, none⟩) 0 1) (.slice (some ⟨b, 0, none⟩) 0 0) (.slice (some ⟨b, 0, none⟩) 0 1) w2 rfl rfl HRUN.out ?_)
    go_simp
    go_wp2
    go_ret
    exact ⟨rfl, HW.out.1, HW.out.2⟩
end
end Go.Proofs.Ytnpkkcbgfnnfmaa
