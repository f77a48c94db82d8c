import Derived.Test.YtnpkkcbgfnnfmaaQd
/- Contracts of package queue: Receive, List; lives. -/
namespace Go.Proofs.Ytnpkkcbgfnnfmaa
open Go.RowKit
set_option linter.unusedVariables false
set_option linter.unusedSimpArgs false
set_option maxRecDepth 100000

section
variable {w : World} {base g : Nat} {ob : Option Nat} {room : Int} {xs : List Int} {cl : Bool}

theorem qrecv_none (h : Qu w base g ob room [] cl) : Calls Try.prog 34 #[.pointer (some ⟨g, 0, none⟩)] w fun e w' => e = .returned (.tuple #[.int .i64 0, .int .i64 (if cl = true then 2 else 1)]) ∧ w = w' := by
  obtain ⟨x, c, h1, _⟩ := h
  obtain ⟨c0, c1, c2, _, _⟩ := Qu.cells h1
  simp only [List.length_nil] at c1
  clear h1
  cases cl
  all_goals
    go_enter Try.func34, Try.ntmps34
    go_wp2
    go_ret2
    exact ⟨rfl, rfl⟩

theorem qrecv_some {x : Int} (h : Qu w base g ob room (x :: xs) cl) : Calls Try.prog 34 #[.pointer (some ⟨g, 0, none⟩)] w fun e w' => e = .returned (.tuple #[.int .i64 x, .int .i64 0]) ∧ Qu w' base g ob room xs cl ∧ Kept2 w w' g ob := by
  have HNE := Lib.hid h.ob_ne
  have hlt := h.lt
  obtain ⟨x0, c, h1, h2, h3, h4⟩ := h
  obtain ⟨b, rfl, hb1, hb2⟩ := h3.at_ (by simp)
  obtain ⟨c0, c1, c2, f1, f2⟩ := Qu.cells h1
  have cx := (h3.rd.src rfl) 0 (.int .i64 x) rfl
  rw [Addr.add_zero'] at cx
  rw [List.length_cons] at h1 h3 h4 c1
  have HD := Lib.hid (delete_any b c x xs h3)
  have H1 := Lib.hid h1
  have H4 := Lib.hid h4
  clear h1 h3 h4
  go_enter Try.func34, Try.ntmps34
  go_wp2_with (go_at_call 75; refine HD.out.mono ?_; rintro e w1 ⟨rfl, ho, hgr⟩; have hg1 := hgr.block g hlt (by have := HNE.out; rw [← H4.out] at this; exact this); obtain ⟨k0, k1, k2, l1, l2⟩ := Qu.cells (hg1.trans H1.out); have HO := Lib.hid ho; have HG := Lib.hid hgr; have HG1 := Lib.hid hg1; clear ho hgr hg1)
  go_ret2
  have hbg : b ≠ g := by
    intro e
    have := H4.out
    subst e
    exact HNE.out this
  refine ⟨rfl, ⟨some ⟨b, 0, none⟩, c, ?_, h2, ?_, H4.out⟩, ?_⟩
  · have := HG1.out.trans H1.out
    simp [World.setCell, Array.getElem?_modify, this]
  · exact HO.out.kept fun q hq _ => Below.heap_setCell _ _ _ _ (by cases hq; exact hbg)
  · have hg2 := HG.out
    refine ⟨hg2.os, hg2.tape, hg2.output, by have := hg2.size; simp [World.setCell]; omega, fun k hk hkg hko => ?_⟩
    rw [Below.heap_setCell _ _ _ _ hkg]
    exact hg2.block k hk (by have := H4.out; intro e; exact hko (e.trans this))

/-! ### slices.Clone at int; List -/
theorem cloneInt_any (v : Value) (xs : List Int) (w : World) (h : Rd w .i64 v xs) (hb : xs.length * 8 ≤ 140737488351232) :
    Calls Try.prog 76 #[v] w fun e w' => ∃ x c, e = .returned (.slice x xs.length c) ∧ Own w' w.heap.size 3 .i64 (.slice x xs.length c) xs ∧ Below w.heap.size w w' := by
  obtain ⟨i, hi, hz0, hz1, hz2⟩ := info_parts infoInt
  have heq := fun (w : World) (a : Option Addr) (n c : Nat) => Lib.run_eql_slice_nil (P := Try.prog) w 43 3 a n c 0 0 Try.underlying43
  obtain ⟨hl, h'⟩ := h.cases
  rcases h' with ⟨rfl, rfl⟩ | ⟨x, c, rfl, h1, h2, hc⟩
  · go_enter Try.func76, Try.ntmps76
    go_wp2
    go_ret
    exact ⟨_, _, rfl, World.ownsRow_nil _ _ _ _, Below.refl _ _⟩
  · have HC := Lib.hid h
    clear hc h
    go_enter Try.func76, Try.ntmps76
    go_wp2_with (at_builtin; refine wpList_append_rd _ rfl _ _ 43 rfl w.heap.size 3 i .i64 8 Try.underlying43 hi hz0 hz1 hz2 _ [] rfl (Own.empty w 3 .i64 _ (Nat.le_refl _)) _ xs rfl (HC.out.below ((Below.refl _ _).alloc (Nat.le_refl _) _)) (by simpa using hl) (by simp; omega) (by simp) ?_; intro v' w' hown hgrow)
    go_ret
    obtain ⟨x', c', rfl, _⟩ := hown.form
    exact ⟨x', c', rfl, hown, ((Below.refl _ _).alloc (Nat.le_refl _) _).grown hgrow (by simp) (by intro k hk; cases hk; exact Nat.le_refl _)⟩

theorem qlist_any (h : Qu w base g ob room xs cl) (hb : xs.length * 8 ≤ 140737488351232) : Calls Try.prog 40 #[.pointer (some ⟨g, 0, none⟩)] w fun e w' =>
    ∃ x c, e = .returned (.slice x xs.length c) ∧ Own w' w.heap.size 3 .i64 (.slice x xs.length c) xs ∧ Below w.heap.size w w' := by
  obtain ⟨x, c, h1, h2, h3, h4⟩ := h
  obtain ⟨c0, c1, c2, _, _⟩ := Qu.cells h1
  have HR := Lib.hid h3.rd
  clear h1 h3
  go_enter Try.func40, Try.ntmps40
  go_wp2_with (go_at_call 76; refine (cloneInt_any _ _ _ HR.out hb).mono ?_; rintro e w' ⟨x, c, rfl, hr, hB⟩)
  go_ret
  exact ⟨_, _, rfl, hr, hB⟩

/-! ### lives -/
theorem lives18_any (w : World) : Calls Try.prog 30 #[] w fun e w' => e = .returned (.bool true) ∧ Below w.heap.size w w' := by
  have HN := Lib.hid (qnew_any 1 w)
  go_enter Try.func30, Try.ntmps30
  go_wp2_with (go_at_call 31; refine HN.out.mono ?_; rintro e w1 ⟨g, rfl, hg, hq, hB1⟩; have HQ1 := Lib.hid hq; have HB1 := Lib.hid hB1; clear hq hB1)
  refine (qsend_ok HQ1.out (by decide) (by decide) HB1.out.size 5).mono ?_
  rintro e w2 ⟨rfl, ob2, hq2, hk2, ho2⟩
  have HQ2 := Lib.hid hq2
  have HB2 := Lib.hid (Kept2.below HB1.out hk2 HB1.out.size hg (by simp))
  clear hq2 hk2 ho2
  go_wp2_with fail
  refine (qsend_full HQ2.out (by decide) 6).mono ?_
  rintro e w3 ⟨rfl, m, rfl⟩
  go_wp2_with fail
  refine (qclose_any (w := w2.drewN m) HQ2.out).mono ?_
  rintro e w4 ⟨rfl, hq4, hk4⟩
  have HQ4 := Lib.hid hq4
  have HB4 := Lib.hid (Kept2.below (HB2.out.trans (Below.drewN m)) hk4 HB2.out.size hg (fun k hk => (HQ2.out.ob_ge k hk).1))
  clear hq4 hk4
  go_wp2_with fail
  refine (qrecv_some HQ4.out).mono ?_
  rintro e w5 ⟨rfl, hq5, hk5⟩
  have HQ5 := Lib.hid hq5
  have HB5 := Lib.hid (Kept2.below HB4.out hk5 HB4.out.size hg (fun k hk => (HQ4.out.ob_ge k hk).1))
  clear hq5 hk5
  go_wp2_with fail
  refine (qrecv_none HQ5.out).mono ?_
  rintro e w6 ⟨rfl, rfl⟩
  go_wp2
  go_ret
  exact ⟨rfl, HB5.out⟩
end
end Go.Proofs.Ytnpkkcbgfnnfmaa
