import Derived.Test.YtnpkkcbgfnnfmaaDoorHe
import Derived.Laws.BytesArg
/- The document's over and digits. -/
namespace Go.Proofs.YtnpkkcbgfnnfmaaDoor
open Go.RowKit
set_option linter.unusedVariables false
set_option linter.unusedSimpArgs false
set_option maxRecDepth 100000

theorem son_size (l : List Int) : (strOfNums l).size = l.length := by simp [strOfNums, ByteArray.size]
theorem son_get {u : Int} {l : List Int} (h0 : 0 ≤ u) (h1 : u ≤ 255) (h : 0 < (strOfNums (u :: l)).size) : (((strOfNums (u :: l))[0]'h).toNat : Int) = u := by
  have : (strOfNums (u :: l))[0]'h = UInt8.ofNat u.toNat := by simp [strOfNums, ByteArray.getElem_eq_getElem_data]
  rw [this]
  simp
  omega
theorem son_tail (u : Int) (l : List Int) : (strOfNums (u :: l)).extract 1 (l.length + 1) = strOfNums l := by
  apply ByteArray.ext
  simp [strOfNums, ByteArray.data_extract]
  rw [List.take_of_length_le (by simp)]
theorem son_toList (l : List Int) : (strOfNums l).toList = l.map fun x => UInt8.ofNat x.toNat := by
  rw [ByteArray.toList_eq]
  simp [strOfNums]

def lenOf (v : Value) : Nat := match v with | .string b => b.size | _ => 0
theorem lenOf_son (l : List Int) : lenOf (.string (strOfNums l)) = l.length := son_size l

set_option maxHeartbeats 1000000 in
theorem over_any (l : List Int) (hl : ∀ x ∈ l, 0 ≤ x ∧ x ≤ 255) (hn : l.length ≤ 4503599627370496) (w : World) :
    Calls Tryd.prog 51 #[.string (strOfNums l)] w fun e w' => e = .returned (.tuple #[.string (strOfNums (ovl false false l).1), .bool (ovl false false l).2]) ∧ w = w' := by
  obtain ⟨T, hT⟩ : ∃ T, ovl false false l = T := ⟨_, rfl⟩
  rw [hT]
  have HT := Lib.hid hT
  have HL := Lib.hid hl
  clear hT hl
  go_enter Tryd.func51, Tryd.ntmps51
  go_wp2
  go_loop [0, 4, 5] (fun s a r => ∃ (l' : List Int) (sm rm : Bool), s = .string (strOfNums l') ∧ a = .bool sm ∧ r = .bool rm ∧ ovl rm sm l' = T ∧ (∀ x ∈ l', 0 ≤ x ∧ x ≤ 255) ∧ l'.length ≤ l.length) (fun s _ _ => lenOf s)
  case atStart => exact ⟨l, false, false, rfl, rfl, rfl, HT.out, HL.out, Nat.le_refl _⟩
  case round =>
    obtain ⟨l', sm, rm, rfl, rfl, rfl, ht, hl', hln⟩ := hrel
    have HT' := Lib.hid ht
    have HL' := Lib.hid hl'
    clear ht hl'
    cases l' with
    | nil =>
      have hne : (strOfNums []).toList.isEmpty = true := by rw [son_toList]; rfl
      go_wp2
      go_ret2
      rw [← HT'.out]
      cases rm <;> exact ⟨rfl, rfl⟩
    | cons u l2 =>
      obtain ⟨u0, u1⟩ := HL'.out u List.mem_cons_self
      have HL2 : Hid (∀ x ∈ l2, 0 ≤ x ∧ x ≤ 255) := Lib.hid fun x hx => HL'.out x (List.mem_cons_of_mem _ hx)
      have hln2 : l2.length < l.length := by rw [List.length_cons] at hln; omega
      have hsz : (strOfNums (u :: l2)).size = l2.length + 1 := son_size _
      have hg := fun h => son_get (u := u) (l := l2) u0 u1 h
      have hx := son_tail u l2
      have hne : (strOfNums (u :: l2)).toList.isEmpty = false := by rw [son_toList]; rfl
      have hlt := lenOf_son (u :: l2)
      have hlt2 := lenOf_son l2
      clear hln
      cases rm with
      | true =>
        have ht := HT'.out
        by_cases hu : u = 10 ∨ u = 13
        · rw [ovl_out hu] at ht
          have HT2 := Lib.hid ht
          clear ht
          rcases hu with rfl | rfl
          · go_wp2
            refine ⟨⟨l2, true, false, rfl, rfl, rfl, HT2.out, HL2.out, by omega⟩, by rw [hlt, hlt2]; simp⟩
          · go_wp2
            refine ⟨⟨l2, true, false, rfl, rfl, rfl, HT2.out, HL2.out, by omega⟩, by rw [hlt, hlt2]; simp⟩
        · have hu1 : (u != 10) = true := by rw [bne_iff_ne]; omega
          have hu2 : (u != 13) = true := by rw [bne_iff_ne]; omega
          rw [ovl_in (by omega) (by omega)] at ht
          have HT2 := Lib.hid ht
          clear hu ht
          go_wp2
          refine ⟨⟨l2, true, true, rfl, rfl, rfl, HT2.out, HL2.out, by omega⟩, by rw [hlt, hlt2]; simp⟩
      | false =>
        have ht := HT'.out
        by_cases h35 : u = 35
        · subst h35
          rw [ovl_mark, ovl_in (by omega) (by omega)] at ht
          have HT2 := Lib.hid ht
          clear ht
          go_wp2
          refine ⟨⟨l2, true, true, rfl, rfl, rfl, HT2.out, HL2.out, by omega⟩, by rw [hlt, hlt2]; simp⟩
        · have h35b : (u == 35) = false := by rw [beq_eq_false_iff_ne]; exact h35
          cases hb : blankB u with
          | true =>
            have HB := Lib.hid hb
            rw [ovl_blank hb] at ht
            have HT2 := Lib.hid ht
            clear ht h35 hb
            go_wp2_with (go_at_call 53; refine (refBlank_any u _).mono ?_; rw [HB.out]; rintro e w2 ⟨rfl, rfl⟩)
            refine ⟨⟨l2, true, false, rfl, rfl, rfl, HT2.out, HL2.out, by omega⟩, by rw [hlt, hlt2]; simp⟩
          | false =>
            have HB := Lib.hid hb
            rw [ovl_stop hb h35] at ht
            have HT2 := Lib.hid ht
            clear ht h35 hb
            go_wp2_with (go_at_call 53; refine (refBlank_any u _).mono ?_; rw [HB.out]; rintro e w2 ⟨rfl, rfl⟩)
            go_ret2
            rw [← HT2.out]
            exact ⟨rfl, rfl⟩

set_option maxHeartbeats 1000000 in
theorem digits_any (l : List Int) (hl : ∀ x ∈ l, 0 ≤ x ∧ x ≤ 255) (hn : l.length ≤ 4503599627370496) (w : World) :
    Calls Tryd.prog 52 #[.string (strOfNums l)] w fun e w' => e = .returned (.tuple #[.int .i64 (dgl 0 l).1, .string (strOfNums (dgl 0 l).2)]) ∧ w = w' := by
  obtain ⟨T, hT⟩ : ∃ T, dgl 0 l = T := ⟨_, rfl⟩
  rw [hT]
  have HT := Lib.hid hT
  have HL := Lib.hid hl
  clear hT hl
  go_enter Tryd.func52, Tryd.ntmps52
  go_wp2
  go_loop [0, 4] (fun s a => ∃ (l' : List Int) (q : Int), s = .string (strOfNums l') ∧ a = .int .i64 q ∧ 0 ≤ q ∧ q ≤ 1000000000 ∧ dgl q l' = T ∧ (∀ x ∈ l', 0 ≤ x ∧ x ≤ 255) ∧ l'.length ≤ l.length) (fun s _ => lenOf s)
  case atStart => exact ⟨l, 0, rfl, rfl, by omega, by omega, HT.out, HL.out, Nat.le_refl _⟩
  case round =>
    obtain ⟨l', q, rfl, rfl, q0, q1, ht, hl', hln⟩ := hrel
    have HT' := Lib.hid ht
    have HL' := Lib.hid hl'
    clear ht hl'
    cases l' with
    | nil =>
      have hne : (strOfNums []).toList.isEmpty = true := by rw [son_toList]; rfl
      go_wp2
      go_ret2
      rw [← HT'.out]
      exact ⟨rfl, rfl⟩
    | cons u l2 =>
      obtain ⟨u0, u1⟩ := HL'.out u List.mem_cons_self
      have HL2 : Hid (∀ x ∈ l2, 0 ≤ x ∧ x ≤ 255) := Lib.hid fun x hx => HL'.out x (List.mem_cons_of_mem _ hx)
      have hln2 : l2.length < l.length := by rw [List.length_cons] at hln; omega
      have hsz : (strOfNums (u :: l2)).size = l2.length + 1 := son_size _
      have hg := fun h => son_get (u := u) (l := l2) u0 u1 h
      have hx := son_tail u l2
      have hne : (strOfNums (u :: l2)).toList.isEmpty = false := by rw [son_toList]; rfl
      have hlt := lenOf_son (u :: l2)
      have hlt2 := lenOf_son l2
      have ht := HT'.out
      clear hln
      by_cases hd : 48 ≤ u ∧ u ≤ 57
      · obtain ⟨d1, d2⟩ := hd
        rw [dgl_digit (by simp [digitB]; omega)] at ht
        by_cases hbig : 1000000000 < 10 * q + (u - 48)
        · rw [if_pos hbig] at ht
          have HT2 := Lib.hid ht
          clear ht
          go_wp2
          refine ⟨⟨l2, 1000000000, rfl, rfl, by omega, by omega, HT2.out, HL2.out, by omega⟩, by rw [hlt, hlt2]; simp⟩
        · rw [if_neg hbig] at ht
          have HT2 := Lib.hid ht
          clear ht
          go_wp2
          refine ⟨⟨l2, _, rfl, rfl, by omega, by omega, HT2.out, HL2.out, by omega⟩, by rw [hlt, hlt2]; simp⟩
      · rw [dgl_stop (by simp [digitB]; omega)] at ht
        have HT2 := Lib.hid ht
        clear ht
        rcases (show u < 48 ∨ (48 ≤ u ∧ 57 < u) by omega) with hd2 | ⟨hd2, hd3⟩
        · clear hd
          go_wp2
          go_ret2
          rw [← HT2.out]
          exact ⟨rfl, rfl⟩
        · clear hd
          go_wp2
          go_ret2
          rw [← HT2.out]
          exact ⟨rfl, rfl⟩
end Go.Proofs.YtnpkkcbgfnnfmaaDoor
