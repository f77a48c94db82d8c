import Derived.Test.YtnpkkcbgfnnfmaaDoorPl
/- Both Decodes at once. -/
namespace Go.Proofs.YtnpkkcbgfnnfmaaDoor
open Go.RowKit Go.Sort
set_option linter.unusedVariables false
set_option linter.unusedSimpArgs false
set_option maxRecDepth 100000

theorem up2_le (l : List Int) : (upL2 l).length ≤ l.length := by rw [up2_len]; omega
theorem upL_le (m : Int) (l : List Int) : (upL m l).length ≤ l.length := by
  unfold upL
  split
  · exact Nat.le_refl _
  · exact up2_le l

theorem both_any (bs : List Int) (hb : Byt bs) (hl : bs.length ≤ 3000) : ∃ (q c x y m : Int) (l : List Int), l.length ≤ 3000 ∧
    (∀ v w, Rd w .u8 v bs → Calls Tryd.prog 18 #[v] w fun e w' => Below w.heap.size w w' ∧ ((q ≠ 0 ∧ e = .returned (.tuple #[.pointer none, .int .i64 q])) ∨ (q = 0 ∧ ∃ g r : Nat, e = .returned (.tuple #[.pointer (some ⟨g, 0, none⟩), .int .i64 0]) ∧ ImgR w' g r x y c m l))) ∧
    (∀ w, Calls Tryd.prog 19 #[.string (strOfNums bs)] w fun e w' => Below w.heap.size w w' ∧ ((q ≠ 0 ∧ e = .returned (.tuple #[imgZ, .int .i64 q])) ∨ (q = 0 ∧ ∃ (xo : Option Addr) (co : Nat), e = .returned (.tuple #[imgV x y c m (.slice xo l.length co), .int .i64 0]) ∧ Rd w' .u16 (.slice xo l.length co) l))) := by
  obtain ⟨p, hp⟩ : ∃ p, parseL bs = p := ⟨_, rfl⟩
  obtain ⟨r, ⟨c, x, y, m, s⟩⟩ := p
  by_cases hr : r = 0
  · subst hr
    by_cases hsh : ((bs.drop s.toNat).length : Int) < szL c x y m
    · refine ⟨3, 0, 0, 0, 0, [], by simp, fun v w h => ?_, fun w => ?_⟩
      · exact (decode_short v bs w h (by omega) hb c x y m s hp _ hsh rfl).mono fun e w' ⟨h1, h2⟩ => ⟨h2, .inl ⟨by decide, h1⟩⟩
      · exact (refDecode_short bs w (by omega) hb c x y m s hp hsh).mono fun e w' ⟨h1, h2⟩ => ⟨h2, .inl ⟨by decide, h1⟩⟩
    · obtain ⟨l, hle⟩ : ∃ l, upL m ((bs.drop s.toNat).take (szL c x y m).toNat) = l := ⟨_, rfl⟩
      have hll : l.length ≤ 3000 := by
        have h1 := upL_le m ((bs.drop s.toNat).take (szL c x y m).toNat)
        rw [hle, List.length_take, List.length_drop] at h1
        omega
      have hP : ∀ v w, Rd w .u8 v bs → Calls Tryd.prog 18 #[v] w fun e w' => DP w l c x y m e w' := fun v w h => by
        rw [← hle]
        by_cases hm : m < 256
        · exact decode_one v bs w h (by omega) hb c x y m s hp hm hsh
        · exact decode_two v bs w h (by omega) hb c x y m s hp hm hsh
      have hR : ∀ w, Calls Tryd.prog 19 #[.string (strOfNums bs)] w fun e w' => DR w l c x y m e w' := fun w => by
        rw [← hle]
        by_cases hm : m < 256
        · exact refDecode_one bs w (by omega) hb c x y m s hp hm hsh
        · exact refDecode_two bs w (by omega) hb c x y m s hp hm hsh
      by_cases hmx : m < maxl l
      · refine ⟨4, 0, 0, 0, 0, [], by simp, fun v w h => (hP v w h).mono ?_, fun w => (hR w).mono ?_⟩
        · rintro e w' ⟨h1, ⟨-, h2⟩ | ⟨h2, -⟩⟩
          · exact ⟨h1, .inl ⟨by decide, h2⟩⟩
          · exact absurd hmx h2
        · rintro e w' ⟨h1, ⟨-, h2⟩ | ⟨h2, -⟩⟩
          · exact ⟨h1, .inl ⟨by decide, h2⟩⟩
          · exact absurd hmx h2
      · refine ⟨0, c, x, y, m, l, hll, fun v w h => (hP v w h).mono ?_, fun w => (hR w).mono ?_⟩
        · rintro e w' ⟨h1, ⟨h2, -⟩ | ⟨-, g, r, h2, -, -, h3⟩⟩
          · exact absurd h2 hmx
          · exact ⟨h1, .inr ⟨rfl, g, r, h2, h3⟩⟩
        · rintro e w' ⟨h1, ⟨h2, -⟩ | ⟨-, xo, co, h2, h3⟩⟩
          · exact absurd h2 hmx
          · exact ⟨h1, .inr ⟨rfl, xo, co, h2, h3⟩⟩
  · refine ⟨r, 0, 0, 0, 0, [], by simp, fun v w h => ?_, fun w => ?_⟩
    · exact (decode_bad1 v bs w h (by omega) r c x y m s hp hr).mono fun e w' ⟨h1, h2⟩ => ⟨h2, .inl ⟨hr, h1⟩⟩
    · exact (refDecode_bad bs w (by omega) hb r c x y m s hp hr).mono fun e w' ⟨h1, h2⟩ => ⟨h2, .inl ⟨hr, h1⟩⟩
end Go.Proofs.YtnpkkcbgfnnfmaaDoor
