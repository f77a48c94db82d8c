import Derived.Test.YtnpkkcbgfnnfmaaRowPic
import Derived.Test.YtnpkkcbgfnnfmaaSb
import Derived.Deep.Slices
import Derived.Deep.Fields
import Derived.ChangeSame
/- What a slice of Acts that came in is. -/
namespace Go.Proofs.Ytnpkkcbgfnnfmaa
open Go.RowKit Go.ChangeShapes Go.WideShapes Go.Joins Go.Deep
set_option linter.unusedVariables false
set_option linter.unusedSimpArgs false
set_option maxRecDepth 100000

def ActAt (W : World) (a : Addr) (i : Nat) (x : ActI) : Prop := (0 ≤ x.v ∧ x.v ≤ 65535) ∧
    W.cell? (a.add (i * 4)) = some (.int .i64 x.x) ∧ W.cell? (a.add (i * 4 + 1)) = some (.int .i64 x.y) ∧ W.cell? (a.add (i * 4 + 2)) = some (.int .i64 x.c) ∧ W.cell? (a.add (i * 4 + 3)) = some (.int .u16 x.v)

theorem act_of_cells {H : Type} {enc : TypeId × Value → H} {P : Program} {W : World} {base : Nat} {spare : Nat → Bool} {held : Bool} {e : TypeId} {f0 f1 f2 f3 : Field} {a : Addr} {i n : Nat} {cs : List Value} {y : DataW H × List MemPlace}
    (hs : P.underlying e = some (.struct #[f0, f1, f2, f3])) (hone : oneCellFields P #[f0, f1, f2, f3] = true) (u0 : P.underlying f0.type = some (.int .i64)) (u1 : P.underlying f1.type = some (.int .i64)) (u2 : P.underlying f2.type = some (.int .i64)) (u3 : P.underlying f3.type = some (.int .u16))
    (hc : W.cells? base (a.add (i * 4)) 4 = some cs) (ht : DataW.trod enc P W base spare held n e cs = some y) : ∃ x : ActI, ActAt W a i x := by
  obtain ⟨_, hcl, hat⟩ := World.cells?_some hc
  match cs, hcl with
  | [c0, c1, c2, c3], _ =>
    obtain ⟨ys, n', _, _, _, hyl, hg⟩ := DataW.trod_struct hs ht
    obtain ⟨o0, k0⟩ := hone_of hone 0 f0 rfl
    obtain ⟨o1, k1⟩ := hone_of hone 1 f1 rfl
    obtain ⟨o2, k2⟩ := hone_of hone 2 f2 rfl
    obtain ⟨o3, k3⟩ := hone_of hone 3 f3 rfl
    match ys, hyl with
    | [y0, y1, y2, y3], _ =>
      have h0 : DataW.trod enc P W base spare held n' f0.type [c0] = some y0 := by simpa [o0, k0] using hg 0 f0 rfl
      have h1 : DataW.trod enc P W base spare held n' f1.type [c1] = some y1 := by simpa [o1, k1] using hg 1 f1 rfl
      have h2 : DataW.trod enc P W base spare held n' f2.type [c2] = some y2 := by simpa [o2, k2] using hg 2 f2 rfl
      have h3 : DataW.trod enc P W base spare held n' f3.type [c3] = some y3 := by simpa [o3, k3] using hg 3 f3 rfl
      obtain ⟨x0, rfl, _⟩ := int_of_field u0 h0
      obtain ⟨x1, rfl, _⟩ := int_of_field u1 h1
      obtain ⟨x2, rfl, _⟩ := int_of_field u2 h2
      obtain ⟨x3, rfl, w3⟩ := int_of_field u3 h3
      have e0 := hat 0 (by omega)
      have e1 := hat 1 (by omega)
      have e2 := hat 2 (by omega)
      have e3 := hat 3 (by omega)
      rw [Go.Deep.add_add] at e0 e1 e2 e3
      exact ⟨⟨x0, x1, x2, x3⟩, of_wf_u16 w3, by simpa using e0, by simpa using e1, by simpa using e2, by simpa using e3⟩

theorem rdA_of_arg {H : Type} {enc : TypeId × Value → H} {W : World} {base : Nat} {spare : Nat → Bool} {held : Bool} {v : Value} {d : DataW H} {p : List MemPlace}
    (hv : ∃ a len cap, v = .slice a len cap) (h : DataW.Trod enc Try.prog W base spare held 90 v d p) : ∃ al : List ActI, RdA W v al := by
  obtain ⟨a, len, cap, rfl⟩ := hv
  obtain ⟨fuel, hf⟩ := h
  rcases open_slice Try.underlying90 hf with ⟨hcs, _⟩ | ⟨x, l, c, m, n, D, Pl, hcs, _, hl, hm, hmm, _, hi⟩
  · simp [Value.cells] at hcs
    obtain ⟨rfl, rfl, rfl⟩ := hcs
    exact ⟨[], by simp, .inl ⟨rfl, rfl⟩⟩
  · simp [Value.cells] at hcs
    obtain ⟨rfl, rfl, rfl⟩ := hcs
    have hle : len ≤ m := by
      rw [hmm]
      split
      · exact hl
      · exact Nat.le_refl _
    have hC : Try.prog.cellsOf 92 = 4 := by kernel_rfl
    have hall : ∀ i, ∃ x' : ActI, i < len → ActAt W x i x' := fun i => by
      by_cases hil : i < len
      · obtain ⟨cs', hc, ht'⟩ := hi i (by omega)
        rw [hC] at hc
        obtain ⟨x', hx'⟩ := act_of_cells Try.underlying92 (by kernel_rfl) Try.underlying3 Try.underlying3 Try.underlying3 Try.underlying31 hc ht'
        exact ⟨x', fun _ => hx'⟩
      · exact ⟨⟨0, 0, 0, 0⟩, fun h => absurd h hil⟩
    obtain ⟨f, hf'⟩ := Classical.axiomOfChoice hall
    have hlen : ((List.range len).map f).length = len := by simp
    refine ⟨(List.range len).map f, by omega, .inr ⟨x, cap, by rw [hlen], fun j u hu => ?_⟩⟩
    rw [List.getElem?_map] at hu
    obtain ⟨y, hy, rfl⟩ := Option.map_eq_some_iff.1 hu
    obtain ⟨hjl, hy2⟩ := List.getElem?_eq_some_iff.1 hy
    rw [List.getElem_range] at hy2
    subst hy2
    rw [List.length_range] at hjl
    exact hf' j hjl
end Go.Proofs.Ytnpkkcbgfnnfmaa
