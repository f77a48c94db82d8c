import Derived.Test.YtnpkkcbgfnnfmaaDoorPb
import Derived.Test.YtnpkkcbgfnnfmaaDoorHe
/- smaltolaw11.Lives. -/
namespace Go.Proofs.YtnpkkcbgfnnfmaaDoor
open Go.RowKit Go.Sort
set_option linter.unusedVariables false
set_option linter.unusedSimpArgs false
set_option maxRecDepth 100000

theorem conv_str {x : Option Addr} {n c : Nat} {xs : List Int} {w : World} (h : Rd w .u8 (.slice x n c) xs) : (convert 24 9 (.slice x n c)).run Tryd.prog w = .ok (.string (strOfNums xs)) w := by
  obtain ⟨hl, h'⟩ := h.cases
  rcases h' with ⟨he, rfl⟩ | ⟨a, c', he, h1, h2, hc⟩
  · injection he with e1 e2 e3
    subst e1 e2 e3
    exact run_convert_bytes_nil w _ _ Tryd.underlying24 Tryd.underlying5 0 0 _ Tryd.underlying9
  · injection he with e1 e2 e3
    subst e1 e2 e3
    have hld : (loadCells a xs.length).run Tryd.prog w = .ok (xs.map (Value.int .u8)).toArray w := by
      have := run_loadCells_list (P := Tryd.prog) w a (xs.map (Value.int .u8)) (fun j v hj => by
        rw [List.getElem?_map] at hj
        obtain ⟨y, hy, rfl⟩ := Option.map_eq_some_iff.1 hj
        obtain ⟨hlt, _⟩ := List.getElem?_eq_some_iff.1 hy
        rw [hc j hlt, List.getD_eq_getElem?_getD, hy]
        rfl)
      simpa using this
    rw [run_convert_bytes_string w _ _ _ _ _ _ Tryd.underlying24 Tryd.underlying5 Tryd.underlying9, run_bytesToString w _ _ _ xs hld, foldl_push_bytes]
    simp [strOfNums, ByteArray.empty, ByteArray.emptyWithCapacity]
    rfl


theorem exE : encL 2 1 1 255 [7, 8] = [80, 53, 10, 50, 32, 49, 10, 50, 53, 53, 10, 7, 8] := by kernel_rfl

theorem exS : strOfNums [80, 53, 10, 50, 32, 49, 10, 50, 53, 53, 10, 7, 8] = ⟨#[80, 53, 10, 50, 32, 49, 10, 50, 53, 53, 10, 7, 8]⟩ := by kernel_rfl

set_option maxHeartbeats 1000000 in
theorem lives11_any (w : World) (ht : Tab w) : Calls Tryd.prog 15 #[] w fun e w' => e = .returned (.bool true) ∧ Below w.heap.size w w' := by
  have HT := Lib.hid ht
  have HOF := Lib.hid fun v w' hr => of_ok 2 1 1 255 v [7, 8] w' hr (by decide) (by decide)
  have HEN := Lib.hid fun (w' : World) (g r : Nat) (hi : ImgR w' g r 2 1 1 255 [7, 8]) (ht : Tab w') => encode_any hi (by decide) (by decide) (by unfold I64; decide) (by unfold I64; decide) (by unfold I64; decide) ht
  rw [exE, show ([80, 53, 10, 50, 32, 49, 10, 50, 53, 53, 10, 7, 8] : List Int).length = 13 from rfl] at HEN
  have HA : ∀ o, Hid (Below w.heap.size w (w.alloc o)) := fun o => Lib.hid ((Below.refl w.heap.size w).alloc (Nat.le_refl _) o)
  clear ht
  go_enter Tryd.func15, Tryd.ntmps15
  go_wp2_with fail
  refine (HOF.out _ _ (rd_new _ _ _ [7, 8] _ rfl _ rfl (by decide) _)).mono ?_
  rintro e w1 ⟨g, r, rfl, hg, hr, hi, hB⟩
  have HI := Lib.hid hi
  have HB1 := Lib.hid ((HA _).out.trans (hB.mono (HA _).out.size))
  clear hi hB
  go_wp2_with fail
  refine (lives09_any _).mono ?_
  rintro e w2 ⟨rfl, hB⟩
  have HI2 := Lib.hid (HI.out.below hB)
  have HB2 := Lib.hid (HB1.out.trans (hB.mono HB1.out.size))
  clear hB
  go_wp2_with fail
  refine (lives10_any _).mono ?_
  rintro e w3 ⟨rfl, hB⟩
  have HI3 := Lib.hid (HI2.out.below hB)
  have HB3 := Lib.hid (HB2.out.trans (hB.mono HB2.out.size))
  clear hB
  go_wp2_with fail
  refine (HEN.out _ _ _ HI3.out (HT.out.below HB3.out)).mono ?_
  rintro e w4 ⟨b', c', rfl, ho, hB⟩
  have HB4 := Lib.hid (HB3.out.trans (hB.mono HB3.out.size))
  have kc := conv_str ho.rd
  rw [exS] at kc
  clear hB ho
  go_wp2_with fail
  go_ret
  exact ⟨rfl, HB4.out⟩
end Go.Proofs.YtnpkkcbgfnnfmaaDoor
