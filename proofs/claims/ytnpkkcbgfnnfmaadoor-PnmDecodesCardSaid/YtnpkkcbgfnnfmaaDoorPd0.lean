import Derived.Test.YtnpkkcbgfnnfmaaDoorPMath2
import Derived.Test.YtnpkkcbgfnnfmaaDoorPc
import Derived.Lib.EndianBits
/- pnm.Decode. -/
namespace Go.Proofs.YtnpkkcbgfnnfmaaDoor
open Go.RowKit Go.Sort
set_option linter.unusedVariables false
set_option linter.unusedSimpArgs false
set_option maxRecDepth 100000

theorem or16 {u v : Int} (u0 : 0 ≤ u) (u1 : u ≤ 255) (v0 : 0 ≤ v) (v1 : v ≤ 255) : bits .or .u16 (u * 256) v = 256 * u + v := by
  have h := bits_join .u16 16 (by decide) wraps_u16 8 (u * 256) v (by omega) (by omega) (by omega) v0 (by omega) (by omega)
  rw [h]
  omega

theorem OwnM.of_row {w : World} {base : Nat} {t : TypeId} {k : IntKind} {x : Addr} {n c : Nat} {xs : List Int} (h : w.ownsRow base t 1 (.slice (some x) n c) xs.length (xs.map (Value.int k))) : OwnM w base k (.slice (some x) n c) xs := by
  obtain ⟨h0, h⟩ := h
  rcases h with ⟨he, hn⟩ | ⟨g, cap, cur, he, h1, h2, h3, h4, h5, h6⟩
  · cases he
  · injection he with e1 e2 e3
    injection e1 with e1
    subst e1 e2 e3
    have hc : ∀ j, w.cell? ⟨g, j, none⟩ = cur[j]? := fun j => by simp [World.cell?, h2]
    refine ⟨g, c, rfl, h1, (Array.getElem?_eq_some_iff.1 h2).1, h3, h4, fun j u hu => ?_, fun j hj => ⟨?_, ?_⟩⟩
    · rw [hc, ← Array.getElem?_toList]
      rw [← h6, List.getElem?_take] at hu
      split at hu
      · exact hu
      · cases hu
    · rw [hc]
      simp [Array.getElem?_eq_getElem (show j < cur.size by omega)]
    · simp [World.frozen?, h2]

theorem Rd.drop {w : World} {k : IntKind} {x : Addr} {n c S : Nat} {xs : List Int} (h : Rd w k (.slice (some x) n c) xs) (hS : S ≤ n) : Rd w k (.slice (if c = S then some x else some (x.add S)) (n - S) (c - S)) (xs.drop S) := by
  obtain ⟨hl, h⟩ := h.cases
  rcases h with ⟨h, _⟩ | ⟨x', c', h, h1, h2, hc⟩
  · cases h
  · injection h with e1 e2 e3
    injection e1 with e1
    subst e1 e3 e2
    have hlen : (xs.drop S).length = xs.length - S := by rw [List.length_drop]
    by_cases he : c = S
    · rw [if_pos he]
      have hz : xs.drop S = [] := List.eq_nil_of_length_eq_zero (by omega)
      refine ⟨by rw [hz]; simp, .inr ⟨x, c - S, by rw [List.length_map, hlen], by rw [List.length_map]; omega, by omega, fun j u hu => ?_⟩⟩
      rw [hz] at hu
      simp at hu
    · rw [if_neg he]
      refine ⟨by rw [List.length_map]; omega, .inr ⟨x.add S, c - S, by rw [List.length_map, hlen], by rw [List.length_map]; omega, by omega, fun j u hu => ?_⟩⟩
      rw [List.getElem?_map] at hu
      obtain ⟨y, hy, rfl⟩ := Option.map_eq_some_iff.1 hu
      rw [List.getElem?_drop] at hy
      obtain ⟨hlt, he⟩ := List.getElem?_eq_some_iff.1 hy
      have := hc (S + j) hlt
      rw [Addr.add_add, this]
      simp [List.getD_eq_getElem?_getD, hy]

set_option maxHeartbeats 2000000 in
theorem decode_bad1 (v : Value) (bs : List Int) (w : World) (h : Rd w .u8 v bs) (hl : bs.length ≤ 4503599627370496) (r c x y m s : Int) (hp : parseL bs = (r, ⟨c, x, y, m, s⟩)) (hr : r ≠ 0) :
    Calls Tryd.prog 18 #[v] w fun e w' => e = .returned (.tuple #[.pointer none, .int .i64 r]) ∧ Below w.heap.size w w' := by
  have HPA := Lib.hid (parse_any v bs w h hl)
  rw [hp] at HPA
  clear hp
  go_enter Tryd.func18, Tryd.ntmps18
  go_wp2_with (go_at_call 13; refine HPA.out.mono ?_; rintro e w1 ⟨rfl, hB⟩; have HB := Lib.hid hB; clear hB)
  go_ret2
  exact ⟨rfl, HB.out.alloc HB.out.size _⟩

end Go.Proofs.YtnpkkcbgfnnfmaaDoor
