import Derived.Test.YtnpkkcbgfnnfmaaRh
/- The law RasterNil: its walk. -/
namespace Go.Proofs.Ytnpkkcbgfnnfmaa
open Go.RowKit
set_option linter.unusedVariables false
set_option linter.unusedSimpArgs false
set_option maxRecDepth 100000

theorem rasterNil_walk (a0 a1 a2 a3 : Int) (v4 : Value) (xs4 : List Int) (w : World) (w0 : (Lit.int .u16 a0).wf = true) (w1 : (Lit.int .u16 a1).wf = true) (w2 : (Lit.int .u16 a2).wf = true) (w3 : (Lit.int .u16 a3).wf = true)
    (rd : Rd w .u16 v4 xs4) (wf : ∀ x ∈ xs4, (Lit.int .u16 x).wf = true) (sz : xs4.length * 2 ≤ 140737488351232) :
    Calls Try.prog 10 #[.int .u16 a0, .int .u16 a1, .int .u16 a2, .int .u16 a3, v4] w fun e w' => e = .returned (.bool true) ∧ Below w.heap.size w w' := by
  have HD := fun w' (h : Rd w' .u16 v4 xs4) => draw_small a0 a1 a2 a3 v4 xs4 w' (of_wf_u16 w0) (of_wf_u16 w1) (of_wf_u16 w2) (of_wf_u16 w3) h (fun x hx => of_wf_u16 (wf x hx)) sz
  have HDH := Lib.hid HD
  have HR := Lib.hid rd
  obtain ⟨x, c, rfl, _⟩ := rd.form
  clear HD rd wf sz w0 w1 w2 w3
  go_enter Try.func10, Try.ntmps10
  go_wp2_with (first
    | (go_at_call 20; refine (lives09_any _).mono ?_; rintro e w1 ⟨rfl, hB1⟩; have HB1 := Lib.hid hB1; clear hB1)
    | (go_at_call 47; refine (HDH.out _ (HR.out.below HB1.out)).mono ?_; rintro e w2 ⟨g, r, X, Y, K, T, xs, rfl, hg, hr, hi, hs, _, hB2⟩; have HI := Lib.hid hi; have HB2 := Lib.hid hB2; have HS := Lib.hid hs; clear hi hB2 hs))
  refine (same_both_nil _).mono ?_
  rintro e w3 ⟨rfl, rfl⟩
  go_wp2_with fail
  refine (same_left_nil _ _).mono ?_
  rintro e w3 ⟨rfl, rfl⟩
  go_wp2_with fail
  refine (same_right_nil _ _).mono ?_
  rintro e w3 ⟨rfl, rfl⟩
  go_wp2_with fail
  refine (same_any HI.out HI.out).mono ?_
  rintro e w3 ⟨rfl, m, rfl⟩
  go_wp2
  go_ret
  exact ⟨ret_bool (by simp), (HB1.out.trans (HB2.out.mono HB1.out.size)).trans (Below.drewN m)⟩
end Go.Proofs.Ytnpkkcbgfnnfmaa
