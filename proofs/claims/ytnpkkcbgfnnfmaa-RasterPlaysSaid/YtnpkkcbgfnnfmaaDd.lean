import Derived.Test.YtnpkkcbgfnnfmaaDb
import Derived.Test.YtnpkkcbgfnnfmaaRh
/- A Picture's Draw; smaltolaw27.lives. -/
namespace Go.Proofs.Ytnpkkcbgfnnfmaa
open Go.RowKit
set_option linter.unusedVariables false
set_option linter.unusedSimpArgs false
set_option maxRecDepth 100000

/-- a Picture as a value -/
abbrev picV (a b c d : Int) (v : Value) : Value := .agg #[.int .u16 a, .int .u16 b, .int .u16 c, .int .u16 d, v]

theorem picdraw_any (a b c d : Int) (v : Value) (l : List Int) (w : World) (ha : 0 ≤ a ∧ a ≤ 65535) (hb : 0 ≤ b ∧ b ≤ 65535) (hc : 0 ≤ c ∧ c ≤ 65535) (hd : 0 ≤ d ∧ d ≤ 65535)
    (hr : Rd w .u16 v l) (hw : ∀ x ∈ l, 0 ≤ x ∧ x ≤ 65535) (hl : l.length * 2 ≤ 140737488351232) :
    Calls Try.prog 60 #[picV a b c d v] w fun e w' => ∃ (g r : Nat) (X Y K T : Int) (xs : List Int), e = .returned (.pointer (some ⟨g, 0, none⟩)) ∧
      w.heap.size ≤ g ∧ w.heap.size ≤ r ∧ ImgR w' g r X Y K T xs ∧ Small X Y K T xs ∧ Hid (X = 1 + a % 12 ∧ Y = 1 + b % 12 ∧ K = 1 + 2 * (c % 2)) ∧ Below w.heap.size w w' := by
  obtain ⟨a1, a2⟩ := ha
  obtain ⟨b1, b2⟩ := hb
  have HD := Lib.hid fun o => draw_small (a % 12) (b % 12) c d v l (w.alloc o) (by omega) (by omega) hc hd (hr.below ((Below.refl w.heap.size w).alloc (Nat.le_refl _) o)) hw hl
  obtain ⟨xo, cc, rfl, -⟩ := hr.form
  clear hr hw hl hc hd
  go_enter Try.func60, Try.ntmps60
  go_wp2_with (go_at_call 47; refine (HD.out _).mono ?_; rintro e w' ⟨g, r, X, Y, K, T, xs, rfl, hg, hr, hi, hs, hh, hB⟩; have HI := Lib.hid hi; have HB := Lib.hid (((Below.refl w.heap.size w).alloc (Nat.le_refl _) _).trans (hB.mono (by simp))); have HS := Lib.hid hs; clear hi hB hs)
  go_ret
  refine ⟨g, r, X, Y, K, T, xs, rfl, ?_, ?_, HI.out, HS.out, Lib.hid ?_, HB.out⟩
  · simp at hg; omega
  · simp at hr; omega
  · obtain ⟨e1, e2, e3, _⟩ := hh.out
    refine ⟨?_, ?_, e3⟩
    · rw [e1]; omega
    · rw [e2]; omega

theorem exD : dTo 3 1 [1, 5, 9] [1, 7, 6] 3 = ⟨2, 3, 5, 13, 2, 0, 0⟩ := by kernel_rfl
theorem rd_made (w : World) (t : TypeId) (k : IntKind) (xs : List Int) (cs : Array Value) (hc : cs.toList = xs.map (Value.int k)) (n : Nat) (hn : n = xs.length) (hl : n ≤ maxLen) (fr : Nat × Nat) :
    Rd (w.alloc (.cells cs t fr)) k (.slice (some ⟨w.heap.size, 0, none⟩) n n) xs := by
  subst hn
  refine ⟨by simpa using hl, .inr ⟨⟨w.heap.size, 0, none⟩, xs.length, by simp, by simp, hl, fun j u hu => ?_⟩⟩
  rw [Addr.add_lit, Nat.zero_add, cell_of_row _ _ _ _ _ _ (heap_alloc_new w _)]
  rw [← hc, Array.getElem?_toList] at hu
  exact hu
theorem small_a : Small 3 1 1 9 [1, 5, 9] := ⟨by decide, by decide, by decide, by decide, by decide⟩
theorem small_b : Small 3 1 1 9 [1, 7, 6] := ⟨by decide, by decide, by decide, by decide, by decide⟩
theorem lives27_any (w : World) : Calls Try.prog 59 #[] w fun e w' => e = .returned (.bool true) ∧ Below w.heap.size w w' := by
  have HOF := Lib.hid fun v xs w h hw he => of_ok 3 1 1 9 v xs w h hw he
  go_enter Try.func59, Try.ntmps59
  go_wp2_with fail
  refine (HOF.out _ [1, 5, 9] _ (rd_made _ _ _ _ _ rfl _ rfl (by decide) _) small_a.u16 (by decide)).mono ?_
  rintro e w1 ⟨g, r, rfl, hg, hr, hi, hB⟩
  have HI1 := Lib.hid hi
  have HB1 := Lib.hid (((Below.refl w.heap.size w).alloc (Nat.le_refl _) _).trans (hB.mono (by simp)))
  clear hg hr hi hB
  go_wp2_with fail
  refine (HOF.out _ [1, 7, 6] _ (rd_made _ _ _ _ _ rfl _ rfl (by decide) _) small_b.u16 (by decide)).mono ?_
  rintro e w2 ⟨g', r', rfl, hg, hr, hi, hB⟩
  have HI2 := Lib.hid hi
  have hB2 := ((Below.refl w1.heap.size w1).alloc (Nat.le_refl _) _).trans (hB.mono (by simp))
  have HB2 := Lib.hid (HB1.out.trans (hB2.mono HB1.out.size))
  have HI1' := Lib.hid (HI1.out.below hB2)
  clear hg hr hi hB hB2
  go_wp2_with fail
  refine (lives09_any _).mono ?_
  rintro e w3 ⟨rfl, hB⟩
  have HB3 := Lib.hid (HB2.out.trans (hB.mono HB2.out.size))
  have HD := Lib.hid (diffOf_yes (HI1'.out.below hB) (HI2.out.below hB) small_a small_b)
  rw [show dTo 3 1 [1, 5, 9] [1, 7, 6] ([1, 5, 9] : List Int).length = ⟨2, 3, 5, 13, 2, 0, 0⟩ from exD] at HD
  clear hB
  go_wp2_with fail
  refine HD.out.mono ?_
  rintro e w4 ⟨rfl, hB⟩
  have HB4 := Lib.hid (HB3.out.trans (hB.mono HB3.out.size))
  clear hB
  go_wp2_with fail
  go_ret
  exact ⟨rfl, HB4.out.alloc HB4.out.size _⟩
end Go.Proofs.Ytnpkkcbgfnnfmaa
