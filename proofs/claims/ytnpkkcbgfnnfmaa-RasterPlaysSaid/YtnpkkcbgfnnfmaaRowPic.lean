import Derived.Test.YtnpkkcbgfnnfmaaRowBase
import Derived.Test.YtnpkkcbgfnnfmaaProg
import Derived.Lib.SmallJoins
/- What a Picture (a struct of four small numbers and a slice of samples) that came in is. -/
namespace Go.Proofs.Ytnpkkcbgfnnfmaa
open Go.RowKit Go.ChangeShapes Go.WideShapes Go.Joins Go.Deep
set_option linter.unusedVariables false
set_option linter.unusedSimpArgs false
set_option maxRecDepth 100000

theorem sized_agg {H : Type} {P : Program} {ts : List TypeId} {ds : List (DataW H)} (h : (DataW.weightsEach P ts ds).all (· ≤ reachBytes) = true) {j : Nat} {t : TypeId} {parts : List (DataW H)} {fs : Array Field} (ht : ts[j]? = some t) (hd : ds[j]? = some (.agg parts)) (hu : P.underlying t = some (.struct fs)) :
    (DataW.weightsEach P (fs.toList.map (·.type)) parts).all (· ≤ reachBytes) = true :=
  List.all_eq_true.2 fun n hn => List.all_eq_true.1 h n (DataW.weights_mem_each ht hd n (by simp only [DataW.weights, hu]; exact hn))

section
variable {H : Type} {enc : TypeId × Value → H} {P : Program} {W : World} {base : Nat} {spare : Nat → Bool} {held : Bool}
theorem rd_of_field {t e : TypeId} {k : IntKind} {v : Value} {y : DataW H × List MemPlace} {fuel : Nat} {ts : List TypeId} {ds : List (DataW H)} {j : Nat}
    (hsz : (DataW.weightsEach P ts ds).all (· ≤ reachBytes) = true) (ht : ts[j]? = some t) (hd : ds[j]? = some y.1) (hu : P.underlying t = some (.slice e)) (he : P.underlying e = some (.int k)) (hc : P.cellsOf e = 1) {B : Nat} (hB : P.bytesOf e = B)
    (h : DataW.trod enc P W base spare held fuel t [v] = some y) : ∃ xs : List Int, Rd W k v xs ∧ (∀ x ∈ xs, (Lit.int k x).wf = true) ∧ xs.length * B ≤ 140737488351232 := by
  have hv : ∃ a len cap, v = .slice a len cap := by
    rcases open_ints hu he hc h with ⟨hcs, _⟩ | ⟨x, l, c, zs, hcs, _⟩
    · injection hcs with h1 _
      exact ⟨_, _, _, h1⟩
    · injection hcs with h1 _
      exact ⟨_, _, _, h1⟩
  obtain ⟨a, len, cap, rfl⟩ := hv
  exact rd_of_arg hsz ht hd hu he hc hB ⟨a, len, cap, rfl⟩ ⟨fuel, h⟩
theorem int_of_field {t : TypeId} {k : IntKind} {v : Value} {y : DataW H × List MemPlace} {fuel : Nat} (hu : P.underlying t = some (.int k)) (h : DataW.trod enc P W base spare held fuel t [v] = some y) :
    ∃ n, v = .int k n ∧ (Lit.int k n).wf = true := by
  obtain ⟨n, h1, _, h3⟩ := DataW.trod_int hu h
  injection h1 with h1 _
  exact ⟨n, h1, h3⟩
theorem agg5 {r : Reach} {b0 : Nat} {t : TypeId} {f0 f1 f2 f3 f4 : Field} {v : Value} {d : DataW H} {p : List MemPlace} (hs : P.underlying t = some (.struct #[f0, f1, f2, f3, f4])) (hone : oneCellFields P #[f0, f1, f2, f3, f4] = true) (hC : P.cellsOf t = 5)
    (hv : Value.okWide P W r b0 t v) (h : DataW.Trod enc P W base spare held t v d p) :
    ∃ (v0 v1 v2 v3 v4 : Value) (y0 y1 y2 y3 y4 : DataW H × List MemPlace) (n : Nat), v = .agg #[v0, v1, v2, v3, v4] ∧ d = .agg [y0.1, y1.1, y2.1, y3.1, y4.1] ∧
      DataW.trod enc P W base spare held n f0.type [v0] = some y0 ∧ DataW.trod enc P W base spare held n f1.type [v1] = some y1 ∧ DataW.trod enc P W base spare held n f2.type [v2] = some y2 ∧ DataW.trod enc P W base spare held n f3.type [v3] = some y3 ∧ DataW.trod enc P W base spare held n f4.type [v4] = some y4 := by
  obtain ⟨cs, rfl, hsz⟩ := okWide_struct hs hv
  obtain ⟨l⟩ := cs
  match l, hsz.trans hC with
  | [c0, c1, c2, c3, c4], _ =>
    obtain ⟨fuel, hf⟩ := h
    obtain ⟨xs, n, _, hx, _, hlen, hg⟩ := DataW.trod_struct hs hf
    obtain ⟨o0, k0⟩ := hone_of hone 0 f0 rfl
    obtain ⟨o1, k1⟩ := hone_of hone 1 f1 rfl
    obtain ⟨o2, k2⟩ := hone_of hone 2 f2 rfl
    obtain ⟨o3, k3⟩ := hone_of hone 3 f3 rfl
    obtain ⟨o4, k4⟩ := hone_of hone 4 f4 rfl
    match xs, hlen with
    | [y0, y1, y2, y3, y4], _ =>
      simp only [Prod.mk.injEq] at hx
      exact ⟨c0, c1, c2, c3, c4, y0, y1, y2, y3, y4, n, rfl, by simpa using hx.1, by simpa [Value.cells, o0, k0] using hg 0 f0 rfl, by simpa [Value.cells, o1, k1] using hg 1 f1 rfl, by simpa [Value.cells, o2, k2] using hg 2 f2 rfl, by simpa [Value.cells, o3, k3] using hg 3 f3 rfl, by simpa [Value.cells, o4, k4] using hg 4 f4 rfl⟩
end

theorem rd_of_pic {H : Type} {enc : TypeId × Value → H} {W : World} {base : Nat} {spare : Nat → Bool} {held : Bool} {r : Reach} {b0 : Nat} {v : Value} {d : DataW H} {p : List MemPlace} {ts : List TypeId} {ds : List (DataW H)} {j : Nat}
    (hsz : (DataW.weightsEach Try.prog ts ds).all (· ≤ reachBytes) = true) (ht : ts[j]? = some 77) (hd : ds[j]? = some d) (hv : Value.okWide Try.prog W r b0 77 v) (h : DataW.Trod enc Try.prog W base spare held 77 v d p) :
    ∃ (a b c e : Int) (lv : Value) (l : List Int), v = .agg #[.int .u16 a, .int .u16 b, .int .u16 c, .int .u16 e, lv] ∧ (Lit.int .u16 a).wf = true ∧ (Lit.int .u16 b).wf = true ∧ (Lit.int .u16 c).wf = true ∧ (Lit.int .u16 e).wf = true ∧
      Rd W .u16 lv l ∧ (∀ x ∈ l, (Lit.int .u16 x).wf = true) ∧ l.length * 2 ≤ 140737488351232 := by
  obtain ⟨v0, v1, v2, v3, v4, y0, y1, y2, y3, y4, n, rfl, rfl, h0, h1, h2, h3, h4⟩ := agg5 Try.underlying77 (by kernel_rfl) (by kernel_rfl) hv h
  obtain ⟨a, rfl, wa⟩ := int_of_field Try.underlying31 h0
  obtain ⟨b, rfl, wb⟩ := int_of_field Try.underlying31 h1
  obtain ⟨c, rfl, wc⟩ := int_of_field Try.underlying31 h2
  obtain ⟨e, rfl, we⟩ := int_of_field Try.underlying31 h3
  have hz := sized_agg hsz ht hd Try.underlying77
  obtain ⟨l, hr, hw, hl⟩ := rd_of_field (j := 4) (t := 29) hz rfl rfl Try.underlying29 Try.underlying31 (by kernel_rfl) (B := 2) (by kernel_rfl) h4
  exact ⟨a, b, c, e, v4, l, rfl, wa, wb, wc, we, hr, hw, hl⟩
end Go.Proofs.Ytnpkkcbgfnnfmaa
