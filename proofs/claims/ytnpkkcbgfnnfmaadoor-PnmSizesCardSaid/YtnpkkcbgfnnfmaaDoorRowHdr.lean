import Derived.Test.YtnpkkcbgfnnfmaaDoorRowPic
/- What a head (a struct of five ints) that came in is. -/
namespace Go.Proofs.YtnpkkcbgfnnfmaaDoor
open Go.RowKit Go.ChangeShapes Go.WideShapes Go.Joins Go.Deep
set_option linter.unusedVariables false
set_option linter.unusedSimpArgs false
set_option maxRecDepth 100000

theorem ints_of_hdr {H : Type} {enc : TypeId × Value → H} {W : World} {base : Nat} {spare : Nat → Bool} {held : Bool} {r : Reach} {b0 : Nat} {v : Value} {d : DataW H} {p : List MemPlace}
    (hv : Value.okWide Tryd.prog W r b0 23 v) (h : DataW.Trod enc Tryd.prog W base spare held 23 v d p) :
    ∃ (a b c e f : Int), v = .agg #[.int .i64 a, .int .i64 b, .int .i64 c, .int .i64 e, .int .i64 f] ∧ (Lit.int .i64 a).wf = true ∧ (Lit.int .i64 b).wf = true ∧ (Lit.int .i64 c).wf = true ∧ (Lit.int .i64 e).wf = true ∧ (Lit.int .i64 f).wf = true := by
  obtain ⟨v0, v1, v2, v3, v4, y0, y1, y2, y3, y4, n, rfl, rfl, h0, h1, h2, h3, h4⟩ := agg5 Tryd.underlying23 (by kernel_rfl) (by kernel_rfl) hv h
  obtain ⟨a, rfl, wa⟩ := int_of_field Tryd.underlying3 h0
  obtain ⟨b, rfl, wb⟩ := int_of_field Tryd.underlying3 h1
  obtain ⟨c, rfl, wc⟩ := int_of_field Tryd.underlying3 h2
  obtain ⟨e, rfl, we⟩ := int_of_field Tryd.underlying3 h3
  obtain ⟨f, rfl, wf⟩ := int_of_field Tryd.underlying3 h4
  exact ⟨a, b, c, e, f, rfl, wa, wb, wc, we, wf⟩
end Go.Proofs.YtnpkkcbgfnnfmaaDoor
