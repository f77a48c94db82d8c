import Derived.Test.YtnpkkcbgfnnfmaaDoorHRMath
import Derived.Lib.QuietBelow
import Derived.Lib.ConvBytes
import Derived.Laws.AppendOwn
/- '[]byte(s)' of a string that is no constant; calls in a region that draws its order, by the class of the worlds below. -/
namespace Go.Proofs.YtnpkkcbgfnnfmaaDoor
open Go.RowKit Go.Sort
set_option linter.unusedVariables false
set_option linter.unusedSimpArgs false
set_option maxRecDepth 100000

theorem son_getD {l : List Int} (hl : ∀ x ∈ l, 0 ≤ x ∧ x ≤ 255) {j : Nat} (hj : j < l.length) : (((strOfNums l).data.toList.getD j 0).toNat : Int) = l.getD j 0 := by
  have h := hl (l[j]) (List.getElem_mem _)
  simp [strOfNums, List.getD_eq_getElem?_getD, hj]
  omega

theorem rd_bytesWorld (w : World) (e : TypeId) (l : List Int) (hl : ∀ x ∈ l, 0 ≤ x ∧ x ≤ 255) (hn : l.length ≤ maxLen) :
    Rd (Lib.bytesWorld w e (strOfNums l)) .u8 (.slice (some ⟨w.heap.size, 0, none⟩) l.length (grownCap w (strOfNums l).size 0 e)) l := by
  refine ⟨by simpa using hn, .inr ⟨_, _, by rw [List.length_map], ?_, ?_, fun j u hu => ?_⟩⟩
  · rw [List.length_map, ← son_size l]
    exact grownCap_ge w _ 0 e
  · exact grownCap_le_maxLen w _ 0 e (by rw [son_size]; exact hn)
  · rw [List.getElem?_map] at hu
    obtain ⟨y, hy, rfl⟩ := Option.map_eq_some_iff.1 hu
    obtain ⟨hlt, he⟩ := List.getElem?_eq_some_iff.1 hy
    rw [Addr.add_lit, Nat.zero_add, Lib.bytesWorld_cell w e _ j (by rw [son_size]; exact hlt), son_getD hl hlt, List.getD_eq_getElem?_getD, hy]
    rfl

theorem below_bytesWorld (w : World) (e : TypeId) (s : ByteArray) : Below w.heap.size w (Lib.bytesWorld w e s) :=
  ⟨rfl, rfl, rfl, by rw [Lib.bytesWorld_size]; omega, fun k hk => Lib.bytesWorld_at_old w e s k hk⟩

/-- '[]byte(s)' -/
theorem conv_bytes (w : World) (l : List Int) (hl : ∀ x ∈ l, 0 ≤ x ∧ x ≤ 255) (hn : l.length ≤ maxLen) :
    ∃ c wc, (convert 9 24 (.string (strOfNums l))).run Tryd.prog w = .ok (.slice (some ⟨w.heap.size, 0, none⟩) l.length c) wc ∧
      Rd wc .u8 (.slice (some ⟨w.heap.size, 0, none⟩) l.length c) l ∧ Below w.heap.size w wc ∧ wc.heap.size = w.heap.size + 1 := by
  refine ⟨_, _, ?_, rd_bytesWorld w 5 l hl hn, below_bytesWorld w _ _, Lib.bytesWorld_size _ _ _⟩
  rw [Lib.run_convert_string_bytes w 9 24 5 (strOfNums l) Tryd.underlying9 Tryd.underlying24 Tryd.underlying5, son_size]
end Go.Proofs.YtnpkkcbgfnnfmaaDoor
