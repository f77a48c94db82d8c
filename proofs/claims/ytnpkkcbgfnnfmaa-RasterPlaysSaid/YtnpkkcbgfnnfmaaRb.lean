import Derived.Test.YtnpkkcbgfnnfmaaRa
/- Contracts of package raster: a new image, and what is asked of one. -/
namespace Go.Proofs.Ytnpkkcbgfnnfmaa
open Go.RowKit
set_option linter.unusedVariables false
set_option linter.unusedSimpArgs false
set_option maxRecDepth 100000

theorem infoU16 : (Try.prog.info? 31).map (fun i => (i.zero, i.size, i.bytes)) = some (some (.int .u16 0), 1, 2) := by kernel_rfl

theorem zeros_eq (n : Nat) : (madeCells (Value.int .u16 0).cells (n * 1)).toList = (List.replicate n (0 : Int)).map (Value.int .u16) := by
  have h : ∀ x : Nat, [Value.int IntKind.u16 0][x % 1]?.getD default = Value.int IntKind.u16 0 := fun x => by rw [Nat.mod_one]; rfl
  simp only [madeCells, Value.cells, Nat.mul_one]
  simp [h, List.map_const']

abbrev ImgR (w : World) (g b : Nat) (W H C M : Int) (xs : List Int) : Prop := Img 111 31 w g b W H C M xs

theorem new_bad (a b c m : Int) (w : World) (he : codeR a b c m ≠ 0) :
    Calls Try.prog 24 #[.int .i64 a, .int .i64 b, .int .i64 c, .int .i64 m] w fun e w' => e = .returned (.tuple #[.pointer none, .int .i64 (codeR a b c m)]) ∧ w = w' := by
  have HE := Lib.hid he
  clear he
  have hf : fitsB a b c = true ∨ fitsB a b c = false := by cases fitsB a b c <;> simp
  rcases chan_cases c with rfl | rfl | ⟨h1, h3, h1', h3'⟩ <;> rcases hf with hf | hf
  all_goals
    go_enter Try.func24, Try.ntmps24
    go_wp2_with (go_at_call 22; refine (fits_any _ _ _ _).mono ?_; rintro e w' ⟨rfl, rfl⟩)
  all_goals first
    | (exfalso; exact HE.out (codeR_ok (by omega) (by omega) (by omega) hf))
    | (go_ret2
       refine ⟨congrArg (fun q => Ending.returned (.tuple #[.pointer none, .int .i64 q])) ?_, rfl⟩
       go_tidy
       unfold codeR
       first
        | (rw [if_pos (by omega)]; done)
        | (rw [if_neg (by omega), if_neg (by omega), if_pos hf]; done)
        | (rw [if_neg (by omega), if_neg (by omega), if_neg (by rw [hf]; exact Bool.false_ne_true)]; done)
        | (simp only [beq_eq_false_iff_ne] at h1 h3; rw [if_neg (by omega), if_pos ⟨h1, h3⟩]; done))

set_option maxHeartbeats 1000000 in
theorem new_ok (a b c m : Int) (w : World) (he : codeR a b c m = 0) :
    Calls Try.prog 24 #[.int .i64 a, .int .i64 b, .int .i64 c, .int .i64 m] w fun e w' => ∃ g r : Nat, e = .returned (.tuple #[.pointer (some ⟨g, 0, none⟩), .int .i64 0]) ∧
      w.heap.size ≤ g ∧ w.heap.size ≤ r ∧ ImgR w' g r a b c m (List.replicate (a * b * c).toNat 0) ∧ Below w.heap.size w w' := by
  obtain ⟨i, hi, hz0, hz1, hz2⟩ := info_parts infoU16
  obtain ⟨m1, m2, hc, a1, a2, b1, b2, p1, p2, q1, q2⟩ := codeR_zero he
  have hf : fitsB a b c = true := by unfold fitsB; simp [a1, a2, b1, b2, hc, q2]
  obtain ⟨n, hn⟩ : ∃ n : Nat, a * b * c = (n : Int) := ⟨(a * b * c).toNat, by omega⟩
  have hx : (a * b * c).toNat = n := by omega
  rw [hx]
  have hn2 : n ≤ 268435456 := by omega
  have HN := Lib.hid hn
  clear hn hx q1 q2
  clear he
  rcases hc with rfl | rfl
  all_goals
    go_enter Try.func24, Try.ntmps24
    go_wp2_with (first
      | (go_at_call 22; refine (fits_any _ _ _ _).mono ?_; rintro e w' ⟨rfl, rfl⟩)
      | (at_make; refine wpList_make_full _ rfl _ _ 29 rfl w.heap.size 31 i (.int .u16 0) 1 Try.underlying29 hi hz0 hz1 .i64 .i64 _ _ n rfl rfl (by have := HN.out; omega) (by have := HN.out; omega) (by rw [hz2]; omega) (by unfold maxLen; omega) (Nat.le_refl _) ?_; intro w1 hown hgrow))
  all_goals
    go_ret2
    rw [zeros_eq] at hown
    have hB : Below w.heap.size w w1 := (Below.refl _ _).grown hgrow (Nat.le_refl _) (by simp)
    have hs := hgrow.size
    refine ⟨w1.heap.size, w.heap.size, rfl, hs, Nat.le_refl _, ?_, hB.alloc hs _⟩
    refine Img.of_own (cap := n) (base := w.heap.size) ?_ ?_
    · unfold Own
      rw [List.length_replicate]
      exact hown.alloc _
    · rw [List.length_replicate]
      exact heap_alloc_new _ _

/-! ### What is asked of an image -/
section
variable {w : World} {g b : Nat} {W H C M : Int} {xs : List Int}
theorem width_any (h : ImgR w g b W H C M xs) : Calls Try.prog 26 #[.pointer (some ⟨g, 0, none⟩)] w fun e w' => e = .returned (.int .i64 W) ∧ w = w' := by
  obtain ⟨cap, _, h1⟩ := h.own
  obtain ⟨c0, c1, c2, c3, c4⟩ := Img.cell h1
  clear h h1
  go_enter Try.func26, Try.ntmps26
  go_wp2
  go_ret
  exact ⟨rfl, rfl⟩
theorem height_any (h : ImgR w g b W H C M xs) : Calls Try.prog 27 #[.pointer (some ⟨g, 0, none⟩)] w fun e w' => e = .returned (.int .i64 H) ∧ w = w' := by
  obtain ⟨cap, _, h1⟩ := h.own
  obtain ⟨c0, c1, c2, c3, c4⟩ := Img.cell h1
  clear h h1
  go_enter Try.func27, Try.ntmps27
  go_wp2
  go_ret
  exact ⟨rfl, rfl⟩
theorem channels_any (h : ImgR w g b W H C M xs) : Calls Try.prog 28 #[.pointer (some ⟨g, 0, none⟩)] w fun e w' => e = .returned (.int .i64 C) ∧ w = w' := by
  obtain ⟨cap, _, h1⟩ := h.own
  obtain ⟨c0, c1, c2, c3, c4⟩ := Img.cell h1
  clear h h1
  go_enter Try.func28, Try.ntmps28
  go_wp2
  go_ret
  exact ⟨rfl, rfl⟩
theorem most_any (h : ImgR w g b W H C M xs) : Calls Try.prog 29 #[.pointer (some ⟨g, 0, none⟩)] w fun e w' => e = .returned (.int .i64 M) ∧ w = w' := by
  obtain ⟨cap, _, h1⟩ := h.own
  obtain ⟨c0, c1, c2, c3, c4⟩ := Img.cell h1
  clear h h1
  go_enter Try.func29, Try.ntmps29
  go_wp2
  go_ret
  exact ⟨rfl, rfl⟩
end

/-! ### slices.Clone -/
theorem clone_any (v : Value) (xs : List Int) (w : World) (h : Rd w .u16 v xs) (hb : xs.length * 2 ≤ 140737488351232) :
    Calls Try.prog 74 #[v] w fun e w' => ∃ x c, e = .returned (.slice x xs.length c) ∧ Own w' w.heap.size 31 .u16 (.slice x xs.length c) xs ∧ Below w.heap.size w w' := by
  obtain ⟨i, hi, hz0, hz1, hz2⟩ := info_parts infoU16
  have heq := fun (w : World) (a : Option Addr) (n c : Nat) => Lib.run_eql_slice_nil (P := Try.prog) w 29 31 a n c 0 0 Try.underlying29
  obtain ⟨hl, h'⟩ := h.cases
  rcases h' with ⟨rfl, rfl⟩ | ⟨x, c, rfl, h1, h2, hc⟩
  · go_enter Try.func74, Try.ntmps74
    go_wp2
    go_ret
    exact ⟨_, _, rfl, World.ownsRow_nil _ _ _ _, Below.refl _ _⟩
  · have HC := Lib.hid h
    clear hc h
    go_enter Try.func74, Try.ntmps74
    go_wp2_with (at_builtin; refine wpList_append_rd _ rfl _ _ 29 rfl w.heap.size 31 i .u16 2 Try.underlying29 hi hz0 hz1 hz2 _ [] rfl (Own.empty w 31 .u16 _ (Nat.le_refl _)) _ xs rfl (HC.out.below ((Below.refl _ _).alloc (Nat.le_refl _) _)) (by simpa using hl) (by simp; omega) (by simp) ?_; intro v' w' hown hgrow)
    go_ret
    obtain ⟨x', c', rfl, _⟩ := hown.form
    exact ⟨x', c', rfl, hown, ((Below.refl _ _).alloc (Nat.le_refl _) _).grown hgrow (by simp) (by intro k hk; cases hk; exact Nat.le_refl _)⟩

theorem samples_any {w : World} {g b : Nat} {W H C M : Int} {xs : List Int} (h : ImgR w g b W H C M xs) (hb : xs.length * 2 ≤ 140737488351232) :
    Calls Try.prog 25 #[.pointer (some ⟨g, 0, none⟩)] w fun e w' => ∃ x c, e = .returned (.slice x xs.length c) ∧ Own w' w.heap.size 31 .u16 (.slice x xs.length c) xs ∧ Below w.heap.size w w' := by
  obtain ⟨cap, ho, h1⟩ := h.own
  obtain ⟨c0, c1, c2, c3, c4⟩ := Img.cell h1
  have HR := Lib.hid ho.rd
  clear h h1 ho
  go_enter Try.func25, Try.ntmps25
  go_wp2_with (go_at_call 74; refine (clone_any _ _ _ HR.out hb).mono ?_; rintro e w' ⟨x, c, rfl, hr, hB⟩)
  go_ret
  exact ⟨_, _, rfl, hr, hB⟩
end Go.Proofs.Ytnpkkcbgfnnfmaa
