import Derived.Test.YtnpkkcbgfnnfmaaRc
/- Contracts of images' methods: where a sample stands, At, Set, Row, Copy, Same; and of the document's. -/
namespace Go.Proofs.Ytnpkkcbgfnnfmaa
open Go.RowKit
set_option linter.unusedVariables false
set_option linter.unusedSimpArgs false
set_option maxRecDepth 100000

section
variable {w : World} {g b : Nat} {W H C M : Int} {xs : List Int}

theorem place_in (h : ImgR w g b W H C M xs) (hv : codeR W H C M = 0) (x y c : Int) (hin : inB W H C x y c = true) :
    Calls Try.prog 78 #[.pointer (some ⟨g, 0, none⟩), .int .i64 x, .int .i64 y, .int .i64 c] w fun e w' => e = .returned (.int .i64 (placeI W C x y c)) ∧ ∃ m, w' = w.drewN m := by
  obtain ⟨cap, _, h1⟩ := h.own
  obtain ⟨c0, c1, c2, c3, c4⟩ := Img.cell h1
  obtain ⟨e1, e2, e3, e4, e5, e6⟩ := place_bd hv hin
  obtain ⟨x1, x2, y1, y2, z1, z2⟩ := inB_true hin
  have hW : W ≤ 65536 := by have := codeR_zero hv; omega
  have hH : H ≤ 65536 := by have := codeR_zero hv; omega
  have hC : C ≤ 3 := by have := codeR_zero hv; omega
  clear h h1 hv hin
  go_enter Try.func78, Try.ntmps78
  go_wp2
  go_quiet (fail)
  go_wp2
  go_ret
  exact ⟨rfl, nq, rfl⟩

theorem place_out (h : ImgR w g b W H C M xs) (x y c : Int) (hin : inB W H C x y c = false) :
    Calls Try.prog 78 #[.pointer (some ⟨g, 0, none⟩), .int .i64 x, .int .i64 y, .int .i64 c] w fun e w' => e = .returned (.int .i64 (-1)) ∧ ∃ m, w' = w.drewN m := by
  obtain ⟨cap, _, h1⟩ := h.own
  obtain ⟨c0, c1, c2, c3, c4⟩ := Img.cell h1
  have HI := Lib.hid hin
  clear h h1 hin
  go_enter Try.func78, Try.ntmps78
  go_wp2
  all_goals first
    | (go_ret; exact ⟨rfl, 0, (World.drewN_zero _).symm⟩)
    | (exfalso
       have := HI.out
       unfold inB at this
       rw [decide_eq_false_iff_not] at this
       omega)

theorem at_in (h : ImgR w g b W H C M xs) (hv : codeR W H C M = 0) (hl : (xs.length : Int) = W * H * C) (x y c : Int) (hin : inB W H C x y c = true) :
    Calls Try.prog 49 #[.pointer (some ⟨g, 0, none⟩), .int .i64 x, .int .i64 y, .int .i64 c] w fun e w' => e = .returned (.int .u16 (xs.getD (placeI W C x y c).toNat 0)) ∧ ∃ m, w' = w.drewN m := by
  obtain ⟨cap, ho, h1⟩ := h.own
  obtain ⟨c0, c1, c2, c3, c4⟩ := Img.cell h1
  obtain ⟨e1, e2, e3, e4, e5, e6⟩ := place_bd hv hin
  obtain ⟨x1, x2, y1, y2, z1, z2⟩ := inB_true hin
  obtain ⟨p, hp⟩ : ∃ p : Nat, placeI W C x y c = (p : Int) := ⟨(placeI W C x y c).toNat, by unfold placeI; omega⟩
  have hpl : p < xs.length := by unfold placeI at hp; omega
  have hl2 : xs.length ≤ 268435456 := by omega
  obtain ⟨u, HU, cu⟩ := ho.rd.get rfl hpl
  rw [Addr.add_lit, Nat.zero_add] at cu
  have HP := Lib.hid (place_in h hv x y c hin)
  rw [hp, Int.toNat_natCast, HU.out]
  have HPE := Lib.hid hp
  clear hp h h1 hv hin hl ho e1 e2 e3 e4 e5 e6 x1 x2 y1 y2 z1 z2
  go_enter Try.func49, Try.ntmps49
  go_wp2_with (go_at_call 78; refine HP.out.mono ?_; rw [HPE.out]; rintro e w' ⟨rfl, m, rfl⟩)
  go_ret
  exact ⟨rfl, m, rfl⟩

theorem at_out (h : ImgR w g b W H C M xs) (x y c : Int) (hin : inB W H C x y c = false) :
    Calls Try.prog 49 #[.pointer (some ⟨g, 0, none⟩), .int .i64 x, .int .i64 y, .int .i64 c] w fun e w' => e = .returned (.int .u16 0) ∧ ∃ m, w' = w.drewN m := by
  have HP := Lib.hid (place_out h x y c hin)
  clear h hin
  go_enter Try.func49, Try.ntmps49
  go_wp2_with (go_at_call 78; refine HP.out.mono ?_; rintro e w' ⟨rfl, m, rfl⟩)
  go_ret
  exact ⟨rfl, m, rfl⟩

theorem set_no (h : ImgR w g b W H C M xs) (hv : codeR W H C M = 0) (x y c v : Int) (v0 : 0 ≤ v) (v1 : v ≤ 65535) (hin : inB W H C x y c = false ∨ M < v) :
    Calls Try.prog 66 #[.pointer (some ⟨g, 0, none⟩), .int .i64 x, .int .i64 y, .int .i64 c, .int .u16 v] w fun e w' => e = .returned (.bool false) ∧ ∃ m, w' = w.drewN m := by
  by_cases hi : inB W H C x y c = true
  · obtain ⟨cap, ho, h1⟩ := h.own
    obtain ⟨c0, c1, c2, c3, c4⟩ := Img.cell h1
    have hM : M < v := by
      rcases hin with hin | hin
      · rw [hi] at hin; cases hin
      · exact hin
    obtain ⟨e1, e2, e3, e4, e5, e6⟩ := place_bd hv hi
    obtain ⟨x1, x2, y1, y2, z1, z2⟩ := inB_true hi
    obtain ⟨p, hp⟩ : ∃ p : Nat, placeI W C x y c = (p : Int) := ⟨(placeI W C x y c).toNat, by unfold placeI; omega⟩
    have HP := Lib.hid (place_in h hv x y c hi)
    have HPE := Lib.hid hp
    clear hp h h1 hv hin hi ho e1 e2 e3 e4 e5 e6 x1 x2 y1 y2 z1 z2
    go_enter Try.func66, Try.ntmps66
    go_wp2_with (go_at_call 78; refine HP.out.mono ?_; rw [HPE.out]; rintro e w' ⟨rfl, m, rfl⟩)
    go_ret
    exact ⟨rfl, m, rfl⟩
  · have HP := Lib.hid (place_out h x y c (by simpa using hi))
    clear h hin hi hv
    go_enter Try.func66, Try.ntmps66
    go_wp2_with (go_at_call 78; refine HP.out.mono ?_; rintro e w' ⟨rfl, m, rfl⟩)
    go_ret
    exact ⟨rfl, m, rfl⟩

theorem set_ok (h : ImgR w g b W H C M xs) (hv : codeR W H C M = 0) (hl : (xs.length : Int) = W * H * C) (x y c v : Int) (v0 : 0 ≤ v) (v1 : v ≤ M) (hi : inB W H C x y c = true) :
    Calls Try.prog 66 #[.pointer (some ⟨g, 0, none⟩), .int .i64 x, .int .i64 y, .int .i64 c, .int .u16 v] w fun e w' => e = .returned (.bool true) ∧
      ImgR w' g b W H C M (xs.set (placeI W C x y c).toNat v) ∧ w.grownBy w' (some b) := by
  obtain ⟨cap, ho, h1⟩ := h.own
  obtain ⟨c0, c1, c2, c3, c4⟩ := Img.cell h1
  obtain ⟨e1, e2, e3, e4, e5, e6⟩ := place_bd hv hi
  obtain ⟨x1, x2, y1, y2, z1, z2⟩ := inB_true hi
  have hM : M ≤ 65535 := by have := codeR_zero hv; omega
  obtain ⟨p, hp⟩ : ∃ p : Nat, placeI W C x y c = (p : Int) := ⟨(placeI W C x y c).toNat, by unfold placeI; omega⟩
  have hpl : p < xs.length := by unfold placeI at hp; omega
  have hl2 : xs.length ≤ 268435456 := by omega
  obtain ⟨u, _, cu⟩ := ho.rd.get rfl hpl
  rw [Addr.add_lit, Nat.zero_add] at cu
  have hf := h.frozen p
  have HP := Lib.hid (place_in h hv x y c hi)
  rw [hp, Int.toNat_natCast]
  have HPE := Lib.hid hp
  have HI := Lib.hid h
  clear hp h h1 hv hi ho e1 e2 e3 e4 e5 e6 x1 x2 y1 y2 z1 z2 hl
  go_enter Try.func66, Try.ntmps66
  go_wp2_with (go_at_call 78; refine HP.out.mono ?_; rw [HPE.out]; rintro e w' ⟨rfl, m, rfl⟩)
  go_ret
  refine ⟨rfl, (HI.out.drewN m).set (by decide) p v, ?_⟩
  exact grown_trans (grown_drewN w m _) (grown_setCell _ _ _ _)
end
end Go.Proofs.Ytnpkkcbgfnnfmaa
