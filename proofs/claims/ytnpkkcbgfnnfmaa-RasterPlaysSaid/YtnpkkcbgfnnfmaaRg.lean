import Derived.Test.YtnpkkcbgfnnfmaaRf
/- smaltolaw09's helpers: Lives. -/
namespace Go.Proofs.Ytnpkkcbgfnnfmaa
open Go.RowKit
set_option linter.unusedVariables false
set_option linter.unusedSimpArgs false
set_option maxRecDepth 100000

theorem lives09_any (w : World) :
    Calls Try.prog 20 #[] w fun e w' => e = .returned (.bool true) ∧ Below w.heap.size w w' := by
  have HN := Lib.hid (new_ok 2 1 3 255 w (by decide))
  have H0 : Hid (List.replicate (2 * 1 * 3 : Int).toNat (0 : Int) = [0, 0, 0, 0, 0, 0]) := Lib.hid (by decide)
  go_enter Try.func20, Try.ntmps20
  go_wp2_with (go_at_call 24; refine HN.out.mono ?_; rw [H0.out]; rintro e w1 ⟨g, r, rfl, hg, hr, hi, hB⟩; have HI := Lib.hid hi; clear hi)
  refine (samples_any HI.out (by simp)).mono ?_
  rintro e w2 ⟨x, c, rfl, _, hB2⟩
  have HI2 := Lib.hid (HI.out.below hB2)
  go_wp2_with fail
  refine (set_no HI2.out (by decide) _ _ _ _ (by omega) (by omega) (.inr (by omega))).mono ?_
  rintro e w3 ⟨rfl, m, rfl⟩
  go_wp2_with fail
  refine (set_ok (HI2.out.drewN m) (by decide) (by decide) _ _ _ _ (by omega) (by omega) (by decide)).mono ?_
  rintro e w4 ⟨rfl, _, hg4⟩
  go_wp2
  go_ret
  exact ⟨rfl, ((hB.trans (hB2.mono hB.size)).trans (Below.drewN m)).grown hg4 (Nat.le_trans hB.size hB2.size) (by intro k hk; cases hk; exact hr)⟩
end Go.Proofs.Ytnpkkcbgfnnfmaa
