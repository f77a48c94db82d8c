import Derived.Test.YtnpkkcbgfnnfmaaHe
/- The law HeaderBlanks: its walk. -/
namespace Go.Proofs.Ytnpkkcbgfnnfmaa
open Go.RowKit
set_option linter.unusedVariables false
set_option linter.unusedSimpArgs false
set_option maxRecDepth 100000

theorem headerBlanks_walk (a0 : Int) (w : World) (w0 : (Lit.int .u8 a0).wf = true) :
    Calls Try.prog 13 #[.int .u8 a0] w fun e w' => e = .returned (.bool true) ∧ Below w.heap.size w w' := by
  clear w0
  go_enter Try.func13, Try.ntmps13
  go_wp2_with (first
    | (go_at_call 51; refine (lives10_any _).mono ?_; rintro e wl ⟨rfl, hBl⟩; have HBl := Lib.hid hBl; clear hBl)
    | (go_at_call 57; refine (blank_any _ _).mono ?_; rintro e w2 ⟨rfl, rfl⟩)
    | (go_at_call 58; refine (refBlank_any _ _).mono ?_; rintro e w2 ⟨rfl, rfl⟩))
  go_ret
  exact ⟨ret_bool (by simp), HBl.out⟩
end Go.Proofs.Ytnpkkcbgfnnfmaa
