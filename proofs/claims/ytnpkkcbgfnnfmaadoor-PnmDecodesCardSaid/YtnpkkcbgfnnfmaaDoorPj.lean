import Derived.Test.YtnpkkcbgfnnfmaaDoorPi
/- smaltoref11.Decode. -/
namespace Go.Proofs.YtnpkkcbgfnnfmaaDoor
open Go.RowKit Go.Sort
set_option linter.unusedVariables false
set_option linter.unusedSimpArgs false
set_option maxRecDepth 100000

theorem son_drop (l : List Int) (S n : Nat) (hn : l.length = n) : (strOfNums l).extract S n = strOfNums (l.drop S) := by
  subst hn
  apply ByteArray.ext
  simp [strOfNums, ByteArray.extract, ByteArray.copySlice]
  exact List.take_of_length_le (by simp)

theorem son_at {R : List Int} (hR : ∀ z ∈ R, 0 ≤ z ∧ z ≤ 255) {k : Nat} (hk : k < R.length) {h : k < (strOfNums R).size} : (((strOfNums R)[k]'h).toNat : Int) = R.getD k 0 := by
  have hz := hR R[k] (List.getElem_mem _)
  have : (strOfNums R)[k]'h = UInt8.ofNat (R[k]).toNat := by simp [strOfNums, ByteArray.getElem_eq_getElem_data]
  rw [this, List.getD_eq_getElem?_getD, List.getElem?_eq_getElem hk]
  simp
  omega

abbrev imgZ : Value := imgV 0 0 0 0 (.slice none 0 0)

set_option maxHeartbeats 2000000 in
theorem refDecode_bad (bs : List Int) (w : World) (hl : bs.length ≤ 4503599627370496) (hb : Byt bs) (r c x y m s : Int) (hp : parseL bs = (r, ⟨c, x, y, m, s⟩)) (hr : r ≠ 0) :
    Calls Tryd.prog 19 #[.string (strOfNums bs)] w fun e w' => e = .returned (.tuple #[imgZ, .int .i64 r]) ∧ Below w.heap.size w w' := by
  have HPA := Lib.hid fun w => refParse_any bs hb hl w
  rw [hp] at HPA
  have HA : ∀ o, Hid (Below w.heap.size w (w.alloc o)) := fun o => Lib.hid ((Below.refl w.heap.size w).alloc (Nat.le_refl _) o)
  clear hp
  go_enter Tryd.func19, Tryd.ntmps19
  go_wp2_with fail
  refine (HPA.out _).mono ?_
  rintro e w1 ⟨rfl, hB⟩
  have HB := Lib.hid ((HA _).out.trans (hB.mono (HA _).out.size))
  have hrow : w1.heap[w.heap.size]? = some (.cells #[.int .i64 0, .int .i64 0, .int .i64 0, .int .i64 0, .slice none 0 0] 44 (0, 0)) := below_row (B := 0) hB (heap_alloc_new w _)
  have hrowA : ∀ o, (w1.alloc o).heap[w.heap.size]? = some (.cells #[.int .i64 0, .int .i64 0, .int .i64 0, .int .i64 0, .slice none 0 0] 44 (0, 0)) := fun o => (heap_alloc_old w1 o (Array.getElem?_eq_some_iff.1 hrow).1).trans hrow
  have HROW := Lib.hid hrowA
  clear hB
  have t0 := fun o => (row5v (hrowA o)).1.1
  have t1 := fun o => (row5v (hrowA o)).1.2.1
  have t2 := fun o => (row5v (hrowA o)).1.2.2.1
  have t3 := fun o => (row5v (hrowA o)).1.2.2.2.1
  have t4 := fun o => (row5v (hrowA o)).1.2.2.2.2
  have f0 := fun o => (row5v (hrowA o)).2.1
  have f1 := fun o => (row5v (hrowA o)).2.2.1
  have f2 := fun o => (row5v (hrowA o)).2.2.2.1
  have f3 := fun o => (row5v (hrowA o)).2.2.2.2.1
  have f4 := fun o => (row5v (hrowA o)).2.2.2.2.2
  clear hrow hrowA
  go_wp2_with fail
  exact bodyPost_ret (results_ct_row rfl _ _ w.heap.size 44 #[.int .i64 0, .int .i64 0, .int .i64 0, .int .i64 0, .slice none 0 0] (0, 0) _ rfl (row_set5v (HROW.out _) _ _ _ _ _) Tryd.underlying44 rfl (by kernel_rfl)) rfl ⟨rfl, below_set5v (HB.out.alloc HB.out.size _) (Nat.le_refl _) _ _ _ _ _⟩
end Go.Proofs.YtnpkkcbgfnnfmaaDoor
