import Derived.Test.YtnpkkcbgfnnfmaaDoorHd
import Derived.Lib.SlBytesConst
/- header: the chapter's example; the document's Blank. -/
namespace Go.Proofs.YtnpkkcbgfnnfmaaDoor
open Go.RowKit
set_option linter.unusedVariables false
set_option linter.unusedSimpArgs false
set_option maxRecDepth 100000

theorem rd_new (w : World) (t : TypeId) (k : IntKind) (xs : List Int) (cs : Array Value) (hc : cs.toList = xs.map (Value.int k)) (n : Nat) (hn : n = xs.length) (hl : n ≤ maxLen) (fr : Nat × Nat) :
    Rd (w.alloc (.cells cs t fr)) k (.slice (some ⟨w.heap.size, 0, none⟩) n n) xs := by
  subst hn
  refine ⟨by simpa using hl, .inr ⟨⟨w.heap.size, 0, none⟩, xs.length, by simp, by simp, hl, fun j u hu => ?_⟩⟩
  rw [Addr.add_lit, Nat.zero_add, cell_of_row _ _ _ _ _ _ (heap_alloc_new w _)]
  rw [← hc, Array.getElem?_toList] at hu
  exact hu

theorem refBlank_any (x : Int) (w : World) : Calls Tryd.prog 53 #[.int .u8 x] w fun e w' => e = .returned (.bool (blankB x)) ∧ w = w' := by
  go_enter Tryd.func53, Tryd.ntmps53
  go_wp2
  all_goals
    go_ret
    refine ⟨ret_bool ?_, rfl⟩
    unfold blankB
    go_tidy
  all_goals (rw [Bool.eq_iff_iff]; simp; omega)

theorem exL : parseL [80, 53, 32, 50, 32, 51, 10, 50, 53, 53, 32] = (0, ⟨1, 2, 3, 255, 11⟩) := by kernel_rfl

theorem lives10_any (w : World) : Calls Tryd.prog 10 #[] w fun e w' => e = .returned (.bool true) ∧ Below w.heap.size w w' := by
  have HP := Lib.hid fun v w' h => parse_any v [80, 53, 32, 50, 32, 51, 10, 50, 53, 53, 32] w' h (by decide)
  rw [exL] at HP
  have kc := fun (w : World) (C : Array Value) (n c : Nat) => Lib.run_convert_bytes_const (P := Tryd.prog) w 24 5 C n c Tryd.underlying24 Tryd.underlying5
  go_enter Tryd.func10, Tryd.ntmps10
  go_wp2_with (go_at_call 13; refine (HP.out _ _ (rd_new _ _ _ _ _ rfl _ rfl (by decide) _)).mono ?_; rintro e w' ⟨rfl, hB⟩; have HB := Lib.hid (((Below.refl _ _).alloc (Nat.le_refl _) _).trans (hB.mono (by simp))); clear hB)
  go_ret
  exact ⟨rfl, HB.out.alloc HB.out.size _⟩
end Go.Proofs.YtnpkkcbgfnnfmaaDoor
