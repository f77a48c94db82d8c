import Derived.Test.YtnpkkcbgfnnfmaaDoorPa
import Derived.Test.YtnpkkcbgfnnfmaaDoorRg
/- pnm.Encode. -/
namespace Go.Proofs.YtnpkkcbgfnnfmaaDoor
open Go.RowKit Go.Sort
set_option linter.unusedVariables false
set_option linter.unusedSimpArgs false
set_option maxRecDepth 100000

theorem pxL_take {m : Int} {xs : List Int} {k : Nat} {u : Int} (hk : k < xs.length) (hu : xs.getD k 0 = u) : pxL m (xs.take (k + 1)) = pxL m (xs.take k) ++ (if m < 256 then [u % 256] else [u / 256, u % 256]) := by
  rw [take_succ_getD hk, hu, pxL_app]
  simp [pxL]

theorem Own.blk {w : World} {base : Nat} {t : TypeId} {k : IntKind} {v : Value} {xs : List Int} (h : Own w base t k v xs) : ∀ q, v.ownBlock = some q → base ≤ q ∧ q < w.heap.size := by
  obtain ⟨_, h⟩ := h
  rcases h with ⟨rfl, _⟩ | ⟨g, cap, cur, rfl, h1, h2, _⟩
  · intro q hq; cases hq
  · intro q hq
    cases hq
    exact ⟨h1, (Array.getElem?_eq_some_iff.1 h2).1⟩

set_option maxHeartbeats 2000000 in
theorem encode_any {w : World} {g b : Nat} {W H C M : Int} {xs : List Int} (h : ImgR w g b W H C M xs) (hx : ∀ x ∈ xs, 0 ≤ x ∧ x ≤ 65535) (hn : xs.length ≤ 268435456) (iW : I64 W) (iH : I64 H) (iM : I64 M) (ht : Tab w) :
    Calls Tryd.prog 23 #[.pointer (some ⟨g, 0, none⟩)] w fun e w' => ∃ b' c', e = .returned (.slice (some ⟨b', 0, none⟩) (encL W H C M xs).length c') ∧
      OwnM w' w.heap.size .u8 (.slice (some ⟨b', 0, none⟩) (encL W H C M xs).length c') (encL W H C M xs) ∧ Below w.heap.size w w' := by
  have HM := Lib.hid h
  have HX := Lib.hid hx
  have HTX := Lib.hid fun w' (ht : Tab w') => text_any C W H M 0 w' iW iH iM ht
  obtain ⟨L, hL⟩ : ∃ L, tL C W H M = L := ⟨_, rfl⟩
  obtain ⟨nl, hnl⟩ : ∃ nl, L.length = nl := ⟨_, rfl⟩
  have hb := tL_b C W H M
  have hn69 := tL_len C W H M iW iH iM
  have HENC : Hid (encL W H C M xs = L ++ pxL M xs) := Lib.hid (by unfold encL; rw [hL])
  rw [hL] at hb hn69 HTX
  rw [hnl] at hn69
  have HB := Lib.hid hb
  have HNL := Lib.hid hnl
  have HT := Lib.hid ht
  obtain ⟨n, hnn⟩ : ∃ n, xs.length = n := ⟨_, rfl⟩
  rw [hnn] at hn
  have HN := Lib.hid hnn
  obtain ⟨i, hi, hz0, hz1, hz2⟩ := info_parts infoU8
  clear h hx hL hnl hb ht hnn iW iH iM
  rcases (by omega : M < 256 ∨ ¬ M < 256) with hm | hm
  · have hw1 : wdL M = 1 := by unfold wdL; rw [if_pos hm]
    have HWD : Hid (∀ w : World, Calls Tryd.prog 16 #[.int .i64 M] w fun e w' => e = .returned (.int .i64 1) ∧ w = w') := Lib.hid fun w => by have := pwidth_any M w; rw [hw1] at this; exact this
    have HMM := Lib.hid hm
    clear hw1 hm
    go_enter Tryd.func23, Tryd.ntmps23
    go_wp2_with (first
      | (go_at_call 40; refine (width_any HM.out).mono ?_; rintro e w2 ⟨rfl, rfl⟩)
      | (go_at_call 41; refine (height_any HM.out).mono ?_; rintro e w2 ⟨rfl, rfl⟩)
      | (go_at_call 42; refine (channels_any HM.out).mono ?_; rintro e w2 ⟨rfl, rfl⟩)
      | (go_at_call 24; refine (most_any HM.out).mono ?_; rintro e w2 ⟨rfl, rfl⟩))
    refine (HTX.out _ HT.out).mono ?_
    rintro e wt ⟨rfl, hBt⟩
    obtain ⟨cc, wc, hconv, hown, hbc⟩ := conv_own wt L HB.out (by rw [HNL.out]; unfold maxLen; omega)
    rw [HNL.out] at hconv hown
    have HOWN := Lib.hid hown
    have HBC := Lib.hid (hBt.trans (hbc.mono hBt.size))
    have HMC := Lib.hid (HM.out.below HBC.out)
    have hwt : w.heap.size ≤ wt.heap.size := hBt.size
    clear hBt hbc hown
    go_wp2_with (first
      | (go_at_call 24; refine (most_any HMC.out).mono ?_; rintro e w2 ⟨rfl, rfl⟩)
      | (go_at_call 16; refine (HWD.out _).mono ?_; rintro e w2 ⟨rfl, rfl⟩)
      | (go_at_call 25; refine (samples_any HMC.out (by rw [HN.out]; omega)).mono ?_; rw [HN.out]; rintro e ws ⟨xa, ca, rfl, hos, hbs⟩))
    have HBS := Lib.hid (HBC.out.trans (hbs.mono HBC.out.size))
    have HOS := Lib.hid (HOWN.out.below hbs)
    have HSM := Lib.hid hos.rd
    have hsb : ∀ q, (Value.slice xa n ca).ownBlock = some q → q < ws.heap.size ∧ q ≠ wt.heap.size := fun q hq => by
      obtain ⟨h1, h2⟩ := hos.blk q hq
      obtain ⟨b2, c2, he, -, h3, -⟩ := HOWN.out
      injection he with he _ _
      injection he with he
      injection he with he
      subst he
      exact ⟨h2, by omega⟩
    have HSB := Lib.hid hsb
    clear hsb
    clear hbs hos hconv
    go_loopw [3, 25] (fun o i wr => ∃ (k b' c' len : Nat), k ≤ n ∧ i = .int .i64 k ∧ o = .slice (some ⟨b', 0, none⟩) len c' ∧ len = (L ++ pxL M (xs.take k)).length ∧ len ≤ 69 + 2 * k ∧
      OwnM wr w.heap.size .u8 (.slice (some ⟨b', 0, none⟩) len c') (L ++ pxL M (xs.take k)) ∧ Below w.heap.size w wr ∧ Rd wr .u16 (.slice xa n ca) xs ∧ ∀ q, (Value.slice xa n ca).ownBlock = some q → q < wr.heap.size ∧ q ≠ b') (fun _ i _ => n - (intOf i).toNat)
    case atStart => exact ⟨0, _, cc, nl, by omega, rfl, rfl, by simp [pxL, HNL.out], by omega, by simpa [pxL] using HOS.out.mono hwt, HBS.out, HSM.out, HSB.out⟩
    case round =>
      obtain ⟨k, b', c', len, hk, rfl, rfl, hlen, hl69, hown, hB, hrd, hblk⟩ := hrel
      have HLEN := Lib.hid hlen
      have HOK := Lib.hid hown
      have HBK := Lib.hid hB
      have HRK := Lib.hid hrd
      have HQK := Lib.hid hblk
      clear hlen hown hB hrd hblk
      by_cases hlt : k < n
      · have hkx : k < xs.length := by have := HN.out; omega
        obtain ⟨x, rfl⟩ := HRK.out.some_ (by omega)
        obtain ⟨u, HU, cu⟩ := HRK.out.get rfl hkx
        have HTK := Lib.hid (pxL_take (m := M) hkx HU.out)
        have hu := HX.out u (by rw [← HU.out, List.getD_eq_getElem?_getD, List.getElem?_eq_getElem hkx]; exact List.getElem_mem _)
        obtain ⟨u0, u1⟩ := hu
        have hal : ∀ o, Below wr.heap.size wr (wr.alloc o) := fun o => (Below.refl wr.heap.size wr).alloc (Nat.le_refl _) o
        have HAL : ∀ o, Hid (Below wr.heap.size wr (wr.alloc o)) := fun o => Lib.hid (hal o)
        have hwr : w.heap.size ≤ wr.heap.size := HBK.out.size
        clear hal cu
        obtain ⟨T, hT⟩ : ∃ T, L ++ pxL M (xs.take k) = T := ⟨_, rfl⟩
        have HTT := Lib.hid hT
        rw [hT] at HLEN HOK
        clear hT
        have cu := (HRK.out.get rfl hkx)
        obtain ⟨u2, HU2, cu⟩ := cu
        obtain rfl : u2 = u := by rw [← HU2.out, HU.out]
        go_wp2_with (at_builtin; refine wpList_append_mk _ rfl _ _ 24 rfl w.heap.size 5 i .u8 1 Tryd.underlying24 hi hz0 hz1 hz2 _ T rfl (HOK.out.below (HAL _).out) _ [u2 % 256] rfl (rd_new _ _ _ [u2 % 256] _ rfl 1 rfl (by unfold maxLen; omega) _) (by rw [← HLEN.out]; unfold maxLen; simp only [List.length_cons, List.length_nil]; omega) (by rw [← HLEN.out]; simp only [List.length_cons, List.length_nil]; omega) (Nat.le_trans hwr (HAL _).out.size) ?_; intro v1 w1 ho1 hb1 hg1 hk1; obtain ⟨b1, c1, rfl, -⟩ := id ho1; obtain ⟨len1, hlen1⟩ : ∃ q, (T ++ [u2 % 256]).length = q := ⟨_, rfl⟩; rw [hlen1] at ho1 ⊢; have HO1 := Lib.hid ho1; have HB1 := Lib.hid hb1; have HG1 := Lib.hid hg1; have HK1 := Lib.hid hk1; have HL1 := Lib.hid hlen1; clear ho1 hb1 hg1 hk1 hlen1)
        have e1 : T ++ [u2 % 256] = L ++ pxL M (xs.take (k + 1)) := by rw [HTK.out, if_pos HMM.out, ← List.append_assoc, HTT.out]
        have e2 : len1 = len + 1 := by rw [← HL1.out, List.length_append, ← HLEN.out]; rfl
        have hr1 : Rd w1 .u16 (.slice (some x) n ca) xs := (HRK.out.below (HAL _).out).grown HG1.out (.inr (by intro he; injection he with he; exact (HQK.out _ rfl).2 he))
        exact ⟨⟨k + 1, b1, c1, len1, by omega, by go_num, rfl, by rw [← e1, HL1.out], by omega, by rw [← e1]; exact HO1.out, (HBK.out.alloc HBK.out.size _).trans HB1.out, hr1, fun q hq => by
          have h1 := HQK.out q hq
          have h2 := (HAL (.cells #[.int .u8 (u2 % 256)] 5)).out.size
          have h3 := HG1.out.size
          refine ⟨by omega, ?_⟩
          rcases HK1.out with hk1 | ⟨p, hk1, hp⟩
          · have hk2 : b1 = b' := Option.some.inj hk1
            omega
          · have hk2 : b1 = p := Option.some.inj hk1
            omega⟩, by simp [intOf]; omega⟩
      · go_wp2
        go_ret
        have hfull : xs.take k = xs := List.take_of_length_le (by have := HN.out; omega)
        have ho := HOK.out
        have hl := HLEN.out
        rw [hfull] at ho hl
        rw [HENC.out, ← hl]
        exact ⟨b', c', rfl, ho, HBK.out⟩
  · have hw1 : wdL M = 2 := by unfold wdL; rw [if_neg hm]
    have HWD : Hid (∀ w : World, Calls Tryd.prog 16 #[.int .i64 M] w fun e w' => e = .returned (.int .i64 2) ∧ w = w') := Lib.hid fun w => by have := pwidth_any M w; rw [hw1] at this; exact this
    have HMM := Lib.hid hm
    clear hw1 hm
    go_enter Tryd.func23, Tryd.ntmps23
    go_wp2_with (first
      | (go_at_call 40; refine (width_any HM.out).mono ?_; rintro e w2 ⟨rfl, rfl⟩)
      | (go_at_call 41; refine (height_any HM.out).mono ?_; rintro e w2 ⟨rfl, rfl⟩)
      | (go_at_call 42; refine (channels_any HM.out).mono ?_; rintro e w2 ⟨rfl, rfl⟩)
      | (go_at_call 24; refine (most_any HM.out).mono ?_; rintro e w2 ⟨rfl, rfl⟩))
    refine (HTX.out _ HT.out).mono ?_
    rintro e wt ⟨rfl, hBt⟩
    obtain ⟨cc, wc, hconv, hown, hbc⟩ := conv_own wt L HB.out (by rw [HNL.out]; unfold maxLen; omega)
    rw [HNL.out] at hconv hown
    have HOWN := Lib.hid hown
    have HBC := Lib.hid (hBt.trans (hbc.mono hBt.size))
    have HMC := Lib.hid (HM.out.below HBC.out)
    have hwt : w.heap.size ≤ wt.heap.size := hBt.size
    clear hBt hbc hown
    go_wp2_with (first
      | (go_at_call 24; refine (most_any HMC.out).mono ?_; rintro e w2 ⟨rfl, rfl⟩)
      | (go_at_call 16; refine (HWD.out _).mono ?_; rintro e w2 ⟨rfl, rfl⟩)
      | (go_at_call 25; refine (samples_any HMC.out (by rw [HN.out]; omega)).mono ?_; rw [HN.out]; rintro e ws ⟨xa, ca, rfl, hos, hbs⟩))
    have HBS := Lib.hid (HBC.out.trans (hbs.mono HBC.out.size))
    have HOS := Lib.hid (HOWN.out.below hbs)
    have HSM := Lib.hid hos.rd
    have hsb : ∀ q, (Value.slice xa n ca).ownBlock = some q → q < ws.heap.size ∧ q ≠ wt.heap.size := fun q hq => by
      obtain ⟨h1, h2⟩ := hos.blk q hq
      obtain ⟨b2, c2, he, -, h3, -⟩ := HOWN.out
      injection he with he _ _
      injection he with he
      injection he with he
      subst he
      exact ⟨h2, by omega⟩
    have HSB := Lib.hid hsb
    clear hsb
    clear hbs hos hconv
    go_loopw [3, 25] (fun o i wr => ∃ (k b' c' len : Nat), k ≤ n ∧ i = .int .i64 k ∧ o = .slice (some ⟨b', 0, none⟩) len c' ∧ len = (L ++ pxL M (xs.take k)).length ∧ len ≤ 69 + 2 * k ∧
      OwnM wr w.heap.size .u8 (.slice (some ⟨b', 0, none⟩) len c') (L ++ pxL M (xs.take k)) ∧ Below w.heap.size w wr ∧ Rd wr .u16 (.slice xa n ca) xs ∧ ∀ q, (Value.slice xa n ca).ownBlock = some q → q < wr.heap.size ∧ q ≠ b') (fun _ i _ => n - (intOf i).toNat)
    case atStart => exact ⟨0, _, cc, nl, by omega, rfl, rfl, by simp [pxL, HNL.out], by omega, by simpa [pxL] using HOS.out.mono hwt, HBS.out, HSM.out, HSB.out⟩
    case round =>
      obtain ⟨k, b', c', len, hk, rfl, rfl, hlen, hl69, hown, hB, hrd, hblk⟩ := hrel
      have HLEN := Lib.hid hlen
      have HOK := Lib.hid hown
      have HBK := Lib.hid hB
      have HRK := Lib.hid hrd
      have HQK := Lib.hid hblk
      clear hlen hown hB hrd hblk
      by_cases hlt : k < n
      · have hkx : k < xs.length := by have := HN.out; omega
        obtain ⟨x, rfl⟩ := HRK.out.some_ (by omega)
        obtain ⟨u, HU, cu⟩ := HRK.out.get rfl hkx
        have HTK := Lib.hid (pxL_take (m := M) hkx HU.out)
        have hu := HX.out u (by rw [← HU.out, List.getD_eq_getElem?_getD, List.getElem?_eq_getElem hkx]; exact List.getElem_mem _)
        obtain ⟨u0, u1⟩ := hu
        have hal : ∀ o, Below wr.heap.size wr (wr.alloc o) := fun o => (Below.refl wr.heap.size wr).alloc (Nat.le_refl _) o
        have HAL : ∀ o, Hid (Below wr.heap.size wr (wr.alloc o)) := fun o => Lib.hid (hal o)
        have hwr : w.heap.size ≤ wr.heap.size := HBK.out.size
        clear hal cu
        obtain ⟨T, hT⟩ : ∃ T, L ++ pxL M (xs.take k) = T := ⟨_, rfl⟩
        have HTT := Lib.hid hT
        rw [hT] at HLEN HOK
        clear hT
        have cu := (HRK.out.get rfl hkx)
        obtain ⟨u2, HU2, cu⟩ := cu
        obtain rfl : u2 = u := by rw [← HU2.out, HU.out]
        go_wp2_with (first
          | (at_builtin; refine wpList_append_mk _ rfl _ _ 24 rfl w.heap.size 5 i .u8 1 Tryd.underlying24 hi hz0 hz1 hz2 _ (T ++ [u2 / 256]) rfl (HO1.out.below ((Below.refl w1.heap.size w1).alloc (Nat.le_refl _) _)) _ [u2 % 256] rfl (rd_new _ _ _ [u2 % 256] _ rfl 1 rfl (by unfold maxLen; omega) _) (by rw [HL1.out]; unfold maxLen; simp only [List.length_cons, List.length_nil]; omega) (by rw [HL1.out]; simp only [List.length_cons, List.length_nil]; omega) (Nat.le_trans hw1r ((Below.refl w1.heap.size w1).alloc (Nat.le_refl _) _).size) ?_; intro v2 w2 ho2 hb2 hg2 hk2; obtain ⟨b2, c2, rfl, -⟩ := id ho2; obtain ⟨len2, hlen2⟩ : ∃ q, ((T ++ [u2 / 256]) ++ [u2 % 256]).length = q := ⟨_, rfl⟩; rw [hlen2] at ho2 ⊢; have HO2 := Lib.hid ho2; have HB2 := Lib.hid hb2; have HG2 := Lib.hid hg2; have HK2 := Lib.hid hk2; have HL2 := Lib.hid hlen2; clear ho2 hb2 hg2 hk2 hlen2)
          | (at_builtin; refine wpList_append_mk _ rfl _ _ 24 rfl w.heap.size 5 i .u8 1 Tryd.underlying24 hi hz0 hz1 hz2 _ T rfl (HOK.out.below (HAL _).out) _ [u2 / 256] rfl (rd_new _ _ _ [u2 / 256] _ rfl 1 rfl (by unfold maxLen; omega) _) (by rw [← HLEN.out]; unfold maxLen; simp only [List.length_cons, List.length_nil]; omega) (by rw [← HLEN.out]; simp only [List.length_cons, List.length_nil]; omega) (Nat.le_trans hwr (HAL _).out.size) ?_; intro v1 w1 ho1 hb1 hg1 hk1; obtain ⟨b1, c1, rfl, -⟩ := id ho1; obtain ⟨len1, hlen1⟩ : ∃ q, (T ++ [u2 / 256]).length = q := ⟨_, rfl⟩; have hlen3 : len1 = len + 1 := (by rw [← hlen1, List.length_append, ← HLEN.out]; rfl); subst hlen3; rw [hlen1] at ho1 ⊢; have HO1 := Lib.hid ho1; have HB1 := Lib.hid hb1; have HG1 := Lib.hid hg1; have HK1 := Lib.hid hk1; have HL1 := Lib.hid hlen1; have hw1r : w.heap.size ≤ w1.heap.size := Nat.le_trans (Nat.le_trans hwr (HAL (.cells #[.int .u8 (u2 / 256)] 5)).out.size) hg1.size; clear ho1 hb1 hg1 hk1 hlen1))
        have e1 : (T ++ [u2 / 256]) ++ [u2 % 256] = L ++ pxL M (xs.take (k + 1)) := by rw [HTK.out, if_neg (by have := HMM.out; omega), ← List.append_assoc, HTT.out, List.append_assoc]; rfl
        have e2 : len2 = len + 2 := by rw [← HL2.out, List.length_append, HL1.out]; rfl
        have hr1 : Rd w1 .u16 (.slice (some x) n ca) xs := (HRK.out.below (HAL _).out).grown HG1.out (.inr (by intro he; injection he with he; exact (HQK.out _ rfl).2 he))
        have hq1 : ∀ q, (Value.slice (some x) n ca).ownBlock = some q → q < w1.heap.size ∧ q ≠ b1 := fun q hq => by
          have h1 := HQK.out q hq
          have h2 := (HAL (.cells #[.int .u8 (u2 / 256)] 5)).out.size
          have h3 := HG1.out.size
          refine ⟨by omega, ?_⟩
          rcases HK1.out with hk1 | ⟨p, hk1, hp⟩
          · have hk2 : b1 = b' := Option.some.inj hk1
            omega
          · have hk2 : b1 = p := Option.some.inj hk1
            omega
        have hal1 : ∀ o, Below w1.heap.size w1 (w1.alloc o) := fun o => (Below.refl w1.heap.size w1).alloc (Nat.le_refl _) o
        have hr2 : Rd w2 .u16 (.slice (some x) n ca) xs := (hr1.below (hal1 _)).grown HG2.out (.inr (by intro he; injection he with he; exact (hq1 _ rfl).2 he))
        have hbb : Below w.heap.size w w1 := (HBK.out.alloc HBK.out.size _).trans HB1.out
        exact ⟨⟨k + 1, b2, c2, len2, by omega, by go_num, rfl, by rw [← e1, HL2.out], by omega, by rw [← e1]; exact HO2.out, (hbb.alloc hbb.size _).trans HB2.out, hr2, fun q hq => by
          have h1 := hq1 q hq
          have h2 := (hal1 (.cells #[.int .u8 (u2 % 256)] 5)).size
          have h3 := HG2.out.size
          refine ⟨by omega, ?_⟩
          rcases HK2.out with hk1 | ⟨p, hk1, hp⟩
          · have hk2 : b2 = b1 := Option.some.inj hk1
            omega
          · have hk2 : b2 = p := Option.some.inj hk1
            omega⟩, by simp [intOf]; omega⟩
      · go_wp2
        go_ret
        have hfull : xs.take k = xs := List.take_of_length_le (by have := HN.out; omega)
        have ho := HOK.out
        have hl := HLEN.out
        rw [hfull] at ho hl
        rw [HENC.out, ← hl]
        exact ⟨b', c', rfl, ho, HBK.out⟩
end Go.Proofs.YtnpkkcbgfnnfmaaDoor
