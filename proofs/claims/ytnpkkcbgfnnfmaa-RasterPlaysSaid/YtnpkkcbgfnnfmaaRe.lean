import Derived.Test.YtnpkkcbgfnnfmaaRd
import Derived.Deep.RegionHeld3
/- Contracts of images' methods Row, Copy, Same; Of; and of the document's In, At, Set. -/
namespace Go.Proofs.Ytnpkkcbgfnnfmaa
open Go.RowKit
set_option linter.unusedVariables false
set_option linter.unusedSimpArgs false
set_option maxRecDepth 100000

section
variable {w : World} {g b : Nat} {W H C M : Int} {xs : List Int}

theorem row_out (h : ImgR w g b W H C M xs) (y : Int) (hy : y < 0 ∨ H ≤ y) :
    Calls Try.prog 48 #[.pointer (some ⟨g, 0, none⟩), .int .i64 y] w fun e w' => e = .returned (.slice none 0 0) ∧ w = w' := by
  obtain ⟨cap, _, h1⟩ := h.own
  obtain ⟨c0, c1, c2, c3, c4⟩ := Img.cell h1
  clear h h1
  go_enter Try.func48, Try.ntmps48
  go_wp2
  all_goals first
    | (go_ret; exact ⟨rfl, rfl⟩)
    | (exfalso; omega)

theorem row_in (h : ImgR w g b W H C M xs) (hv : codeR W H C M = 0) (hl : (xs.length : Int) = W * H * C) (y : Int) (y1 : 0 ≤ y) (y2 : y < H) :
    Calls Try.prog 48 #[.pointer (some ⟨g, 0, none⟩), .int .i64 y] w fun e w' => ∃ x c, e = .returned (.slice x (W * C).toNat c) ∧ Own w' w.heap.size 31 .u16 (.slice x (W * C).toNat c) ((xs.drop (y * (W * C)).toNat).take (W * C).toNat) ∧ Below w.heap.size w w' := by
  obtain ⟨cap, ho, h1⟩ := h.own
  obtain ⟨c0, c1, c2, c3, c4⟩ := Img.cell h1
  obtain ⟨m1, m2, hc, a1, a2, b1, b2, p1, p2, q1, q2⟩ := codeR_zero hv
  obtain ⟨n, hn⟩ : ∃ n : Nat, W * C = (n : Int) := ⟨(W * C).toNat, by rcases hc with rfl | rfl <;> omega⟩
  obtain ⟨Y, rfl⟩ : ∃ Y : Nat, y = (Y : Int) := ⟨y.toNat, by omega⟩
  have hM : (Y : Int) * (n : Int) + n ≤ W * H * C := by
    have := Int.mul_le_mul_of_nonneg_right (show (Y : Int) + 1 ≤ H by omega) (show 0 ≤ W * C by omega)
    rw [Int.add_mul, Int.one_mul, hn] at this
    rw [Int.mul_right_comm W H C, hn, Int.mul_comm (n : Int) H]
    exact this
  have hN0 : 1 ≤ n := by rcases hc with rfl | rfl <;> omega
  have h3 : n ≤ 196608 := by rcases hc with rfl | rfl <;> omega
  have hle : (Y * n + n : Nat) ≤ xs.length := by
    have : ((Y * n + n : Nat) : Int) ≤ (xs.length : Int) := by rw [hl]; push_cast; exact hM
    omega
  obtain ⟨hcap, h5⟩ : xs.length ≤ cap ∧ cap ≤ 9223372036854775807 := by
    obtain ⟨_, _, h, h', h6, _⟩ := ho.rd.form
    cases h
    unfold maxLen at h'
    omega
  have h4 : xs.length ≤ 268435456 := by omega
  have hY : Y ≤ 65536 := by omega
  have e1 : IntKind.i64.wrap (W * C) = (n : Int) := by rw [hn]; exact IntWalk.i64_in _ (by omega)
  have e2 : (Y : Int) * (n : Int) + n = ((Y : Int) + 1) * n := by rw [Int.add_mul, Int.one_mul]
  have f1 : 0 ≤ (Y : Int) * (n : Int) := Int.mul_nonneg (by omega) (by omega)
  have f2 : (Y : Int) * (n : Int) ≤ 268435456 := by omega
  have f3 : 0 ≤ ((Y : Int) + 1) * (n : Int) := by omega
  have f4 : ((Y : Int) + 1) * (n : Int) ≤ 268435456 := by omega
  have f5 : ((Y : Int) + 1) * (n : Int) ≤ cap := by omega
  have f6 : (Y : Int) * (n : Int) ≤ ((Y : Int) + 1) * (n : Int) := by omega
  have f7 : Y * n < cap := by omega
  have HT : Hid ((Y + 1) * n - Y * n = n) := by
    refine Lib.hid ?_
    rw [Nat.add_mul, Nat.one_mul]
    omega
  have hr0 := ho.rd.sub hle
  rw [Nat.zero_add] at hr0
  have HR := Lib.hid hr0
  have HG0 : Hid ((W * C).toNat = n) := by
    refine Lib.hid ?_
    rw [hn, Int.toNat_natCast]
  have HG : Hid (List.drop ((Y : Int) * (W * C)).toNat xs = List.drop (Y * n) xs) := by
    refine Lib.hid ?_
    rw [hn, show ((Y : Int) * (n : Int)) = ((Y * n : Nat) : Int) by push_cast; rfl, Int.toNat_natCast]
  rw [HG.out, HG0.out]
  have HLn : Hid ((List.take n (List.drop (Y * n) xs)).length = n) := by
    refine Lib.hid ?_
    rw [List.length_take, List.length_drop]
    omega
  clear h h1 hv hl q1 q2 p1 p2 m1 m2 b1 b2 hM e2 ho hn HG hr0
  go_enter Try.func48, Try.ntmps48
  go_wp2
  go_quiet (fail)
  go_wp2_with (go_at_call 74; rw [HT.out]; refine (clone_any _ _ _ (Rd.drewN HR.out _) (by rw [List.length_take, List.length_drop]; omega)).mono ?_; rw [HLn.out]; rintro e w' ⟨x, c, rfl, hr, hB⟩)
  go_ret
  exact ⟨x, c, rfl, hr, (Below.drewN nq).trans hB⟩

theorem copy_any (h : ImgR w g b W H C M xs) (hne : xs ≠ []) (hb : xs.length * 2 ≤ 140737488351232) :
    Calls Try.prog 64 #[.pointer (some ⟨g, 0, none⟩)] w fun e w' => ∃ g' b', e = .returned (.pointer (some ⟨g', 0, none⟩)) ∧ w.heap.size ≤ g' ∧ w.heap.size ≤ b' ∧ ImgR w' g' b' W H C M xs ∧ Below w.heap.size w w' := by
  obtain ⟨cap, ho, h1⟩ := h.own
  obtain ⟨c0, c1, c2, c3, c4⟩ := Img.cell h1
  have HR := Lib.hid ho.rd
  clear h h1 ho
  go_enter Try.func64, Try.ntmps64
  go_wp2
  go_region_held3 (fun w' => w'.cell? ⟨g, 0, none⟩ = some (.int .i64 W) ∧ w'.cell? ⟨g, 1, none⟩ = some (.int .i64 H) ∧ w'.cell? ⟨g, 2, none⟩ = some (.int .i64 C) ∧ w'.cell? ⟨g, 3, none⟩ = some (.int .i64 M) ∧ w'.cell? ⟨g, 4, none⟩ = some (.slice (some ⟨b, 0, none⟩) xs.length cap)) ((first | (refine ⟨cell_later hB ?_, cell_later hB ?_, cell_later hB ?_, cell_later hB ?_, cell_later hB ?_⟩ <;> assumption) | go_keep))
    ((go_at_call 74; refine (clone_any _ _ _ ?_ hb).mono ?_; (exact HR.out); rintro e w' ⟨x, c, rfl, hr, hB⟩))
  go_wp2
  go_ret
  obtain ⟨x', c', he, hx⟩ := hr.form
  cases he
  obtain ⟨b', rfl, hb1, hb2⟩ := hx hne
  refine ⟨w'.heap.size, b', rfl, hB.size, hb1, ?_, (Below.drew (Below.refl _ w)).trans (hB.alloc hB.size _)⟩
  exact Img.of_own (World.ownsRow.alloc hr _) (heap_alloc_new _ _)

theorem same_any {g' b' : Nat} {W' H' C' M' : Int} {ys : List Int} (h : ImgR w g b W H C M xs) (h' : ImgR w g' b' W' H' C' M' ys) :
    Calls Try.prog 50 #[.pointer (some ⟨g, 0, none⟩), .pointer (some ⟨g', 0, none⟩)] w fun e w' => e = .returned (.bool (decide (W = W' ∧ H = H' ∧ C = C' ∧ M = M' ∧ xs = ys))) ∧ ∃ m, w' = w.drewN m := by
  obtain ⟨cap, ho, h1⟩ := h.own
  obtain ⟨c0, c1, c2, c3, c4⟩ := Img.cell h1
  obtain ⟨cap', ho', h1'⟩ := h'.own
  obtain ⟨c0', c1', c2', c3', c4'⟩ := Img.cell h1'
  have HR := Lib.hid ho.rd
  have HR' := Lib.hid ho'.rd
  have hW : (W == W') = true ∨ (W == W') = false := by cases (W == W') <;> simp
  have hH : (H == H') = true ∨ (H == H') = false := by cases (H == H') <;> simp
  have hC : (C == C') = true ∨ (C == C') = false := by cases (C == C') <;> simp
  have hM : (M == M') = true ∨ (M == M') = false := by cases (M == M') <;> simp
  clear h h1 ho h' h1' ho'
  have fin : ∀ q : Bool, q = (W == W' && (H == H' && (C == C' && (M == M' && decide (xs = ys))))) → q = decide (W = W' ∧ H = H' ∧ C = C' ∧ M = M' ∧ xs = ys) := by
    intro q hq
    rw [hq, Bool.eq_iff_iff]
    simp only [Bool.and_eq_true, beq_iff_eq, decide_eq_true_eq]
  have FIN := Lib.hid fin
  clear fin
  rcases hW with hW | hW
  · rcases hH with hH | hH
    · rcases hC with hC | hC
      · rcases hM with hM | hM
        · go_enter Try.func50, Try.ntmps50
          go_wp2
          go_quiet ((go_at_call 79; exact Calls.quiet_of (equal_any _ _ _ _ _ HR.out HR'.out)))
          go_wp2
          go_ret
          exact ⟨ret_bool (FIN.out _ (by rw [hW, hH, hC, hM]; simp)), nq, rfl⟩
        · go_enter Try.func50, Try.ntmps50
          go_wp2
          go_quiet (fail)
          go_wp2
          go_ret
          exact ⟨ret_bool (FIN.out _ (by rw [hW, hH, hC, hM]; simp)), nq, rfl⟩
      · go_enter Try.func50, Try.ntmps50
        go_wp2
        go_quiet (fail)
        go_wp2
        go_ret
        exact ⟨ret_bool (FIN.out _ (by rw [hW, hH, hC]; simp)), nq, rfl⟩
    · go_enter Try.func50, Try.ntmps50
      go_wp2
      go_quiet (fail)
      go_wp2
      go_ret
      exact ⟨ret_bool (FIN.out _ (by rw [hW, hH]; simp)), nq, rfl⟩
  · go_enter Try.func50, Try.ntmps50
    go_wp2
    go_quiet (fail)
    go_wp2
    go_ret
    exact ⟨ret_bool (FIN.out _ (by rw [hW]; simp)), nq, rfl⟩

theorem same_right_nil (g : Nat) (w : World) :
    Calls Try.prog 50 #[.pointer (some ⟨g, 0, none⟩), .pointer none] w fun e w' => e = .returned (.bool false) ∧ w = w' := by
  go_enter Try.func50, Try.ntmps50
  go_wp2
  go_ret
  exact ⟨rfl, rfl⟩
theorem same_left_nil (g : Nat) (w : World) :
    Calls Try.prog 50 #[.pointer none, .pointer (some ⟨g, 0, none⟩)] w fun e w' => e = .returned (.bool false) ∧ w = w' := by
  have he := fun (w : World) (p : Option Addr) => run_eql_nil_pointer (P := Try.prog) w 25 p Try.underlying25
  go_enter Try.func50, Try.ntmps50
  go_wp2
  go_ret
  exact ⟨rfl, rfl⟩
theorem same_both_nil (w : World) :
    Calls Try.prog 50 #[.pointer none, .pointer none] w fun e w' => e = .returned (.bool true) ∧ w = w' := by
  go_enter Try.func50, Try.ntmps50
  go_wp2
  go_ret
  exact ⟨rfl, rfl⟩
end
end Go.Proofs.Ytnpkkcbgfnnfmaa
