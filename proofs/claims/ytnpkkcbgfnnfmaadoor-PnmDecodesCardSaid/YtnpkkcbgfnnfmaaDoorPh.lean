import Derived.Test.YtnpkkcbgfnnfmaaDoorPc
import Derived.Test.YtnpkkcbgfnnfmaaDoorRi
/- smaltoref11.Text. -/
namespace Go.Proofs.YtnpkkcbgfnnfmaaDoor
open Go.RowKit Go.Sort
set_option linter.unusedVariables false
set_option linter.unusedSimpArgs false
set_option maxRecDepth 100000

set_option maxHeartbeats 2000000 in
theorem refText11_one {w : World} {W H C M : Int} {xs : List Int} {x0 : Option Addr} {n0 c0 : Nat} (h : Rd w .u16 (.slice x0 n0 c0) xs) (hx : ∀ x ∈ xs, 0 ≤ x ∧ x ≤ 65535) (hn : xs.length ≤ 268435456) (iW : I64 W) (iH : I64 H) (iM : I64 M) (ht : Tab w) (hm : M < 256) :
    Calls Tryd.prog 26 #[imgV W H C M (.slice x0 n0 c0)] w fun e w' => e = .returned (.string (strOfNums (encL W H C M xs))) ∧ Below w.heap.size w w' := by
  have HX := Lib.hid hx
  have HTX := Lib.hid fun w' (ht : Tab w') => refText_any C W H M 0 w' iW iH iM ht
  obtain ⟨L, hL⟩ : ∃ L, tL C W H M = L := ⟨_, rfl⟩
  obtain ⟨nl, hnl⟩ : ∃ nl, L.length = nl := ⟨_, rfl⟩
  have hn69 := tL_len C W H M iW iH iM
  have HENC : Hid (encL W H C M xs = L ++ pxL M xs) := Lib.hid (by unfold encL; rw [hL])
  rw [hL] at hn69 HTX
  rw [hnl] at hn69
  have HNL := Lib.hid hnl
  have HT := Lib.hid ht
  obtain ⟨n, hnn⟩ : ∃ n, xs.length = n := ⟨_, rfl⟩
  have hn0 : n0 = n := by
    obtain ⟨_, _, he, _⟩ := h.form
    injection he with _ he _
    rw [he, hnn]
  subst hn0
  rw [hnn] at hn
  have HN := Lib.hid hnn
  have HR := Lib.hid h
  obtain ⟨i, hi, hz0, hz1, hz2⟩ := info_parts infoU8
  have HA : ∀ o, Hid (Below w.heap.size w (w.alloc o)) := fun o => Lib.hid ((Below.refl w.heap.size w).alloc (Nat.le_refl _) o)
  have HROW : Hid ((w.alloc (.cells #[.int .i64 W, .int .i64 H, .int .i64 C, .int .i64 M, .slice x0 n0 c0] 44)).heap[w.heap.size]? = some (.cells #[.int .i64 W, .int .i64 H, .int .i64 C, .int .i64 M, .slice x0 n0 c0] 44 (0, 0))) := Lib.hid (heap_alloc_new w _)
  obtain ⟨⟨t0, t1, t2, t3, t4⟩, -⟩ := row5v HROW.out
  have HMM := Lib.hid hm
  clear h hx hL hnl ht hnn iW iH iM
  go_enter Tryd.func26, Tryd.ntmps26
  go_wp2_with fail
  refine (HTX.out _ (HT.out.below (HA _).out)).mono ?_
  rintro e wt ⟨rfl, hBt⟩
  have HBt := Lib.hid ((HA _).out.trans (hBt.mono (HA _).out.size))
  have hrow := below_row (B := 0) hBt HROW.out
  have HROWT := Lib.hid hrow
  clear t0 t1 t2 t3 t4
  obtain ⟨⟨t0, t1, t2, t3, t4⟩, -⟩ := row5v hrow
  clear hBt hrow
  go_wp2_with fail
  go_loopw [4, 20] (fun o i wr => ∃ (k : Nat) (xo : Option Addr) (co len : Nat), k ≤ n0 ∧ i = .int .i64 k ∧ o = .slice xo len co ∧ len = k ∧ Own wr w.heap.size 5 .u8 (.slice xo len co) (pxL M (xs.take k)) ∧ (Value.slice xo len co).ownBlock ≠ some w.heap.size ∧ Below w.heap.size w wr ∧
    wr.heap[w.heap.size]? = some (.cells #[.int .i64 W, .int .i64 H, .int .i64 C, .int .i64 M, .slice x0 n0 c0] 44 (0, 0))) (fun _ i _ => n0 - (intOf i).toNat)
  case atStart => exact ⟨0, none, 0, 0, by omega, rfl, rfl, rfl, World.ownsRow_nil wt w.heap.size 5 1, by simp [Value.ownBlock], HBt.out, HROWT.out⟩
  case round =>
    obtain ⟨k, xo, co, len, hk, rfl, rfl, rfl, hown, hob, hB, hrow⟩ := hrel
    have HOK := Lib.hid hown
    have HOB := Lib.hid hob
    have HBK := Lib.hid hB
    have HROWK := Lib.hid hrow
    clear t0 t1 t2 t3 t4
    obtain ⟨⟨t0, t1, t2, t3, t4⟩, -⟩ := row5v hrow
    have hgk : w.heap.size < wr.heap.size := (Array.getElem?_eq_some_iff.1 hrow).1
    clear hown hob hB hrow
    by_cases hlt : len < n0
    · have hkx : len < xs.length := by have := HN.out; omega
      obtain ⟨x1, rfl⟩ := HR.out.some_ (by omega)
      obtain ⟨u, HU, cu⟩ := (HR.out.below HBK.out).get rfl hkx
      have HTK := Lib.hid (pxL_take (m := M) hkx HU.out)
      have hu := HX.out u (by rw [← HU.out, List.getD_eq_getElem?_getD, List.getElem?_eq_getElem hkx]; exact List.getElem_mem _)
      obtain ⟨u0, u1⟩ := hu
      have hal : ∀ o, Below wr.heap.size wr (wr.alloc o) := fun o => (Below.refl wr.heap.size wr).alloc (Nat.le_refl _) o
      have HAL : ∀ o, Hid (Below wr.heap.size wr (wr.alloc o)) := fun o => Lib.hid (hal o)
      have hwr : w.heap.size ≤ wr.heap.size := HBK.out.size
      clear hal
      obtain ⟨T, hT⟩ : ∃ T, pxL M (xs.take len) = T := ⟨_, rfl⟩
      rw [hT] at HTK HOK
      have hTl : T.length = len := by
        obtain ⟨_, _, he, _⟩ := HOK.out.form
        injection he with _ he _
        exact he.symm
      have HTL := Lib.hid hTl
      clear hT hTl
      go_wp2_with (at_builtin; refine wpList_append_rd_at _ rfl _ _ 24 rfl w.heap.size 5 i .u8 1 Tryd.underlying24 hi hz0 hz1 hz2 _ T rfl (HOK.out.below (HAL _).out) _ [u % 256] rfl (rd_new _ _ _ [u % 256] _ rfl 1 rfl (by unfold maxLen; omega) _) (by rw [HTL.out]; unfold maxLen; simp only [List.length_cons, List.length_nil]; omega) (by rw [HTL.out]; simp only [List.length_cons, List.length_nil]; omega) (Nat.le_trans hwr (HAL _).out.size) ?_; intro v1 w1 ho1 hg1 hk1; obtain ⟨y1, c1, rfl, hy1⟩ := ho1.form; have hl1 : (T ++ [u % 256]).length = len + 1 := (by rw [List.length_append, HTL.out]; rfl); rw [hl1] at ho1 hk1 ⊢; have HO1 := Lib.hid ho1; have HG1 := Lib.hid hg1; have HK1 := Lib.hid hk1; clear ho1 hg1 hk1 hl1 hy1)
      have hsz := (HAL (.cells #[.int .u8 (u % 256)] 5)).out.size
      have hbb : Below w.heap.size w w1 := (HBK.out.alloc HBK.out.size _).grown HG1.out (by omega) (fun q hq => (HOK.out.blk q hq).1)
      refine ⟨⟨len + 1, y1, c1, len + 1, by omega, by go_num, rfl, rfl, by rw [HTK.out, if_pos HMM.out]; exact HO1.out, ?_, hbb, ?_⟩, by simp [intOf]; omega⟩
      · rcases HK1.out with hk1 | hk1
        · rw [hk1]; exact HOB.out
        · rw [hk1]; intro he; have he2 := Option.some.inj he; omega
      · exact (HG1.out.block _ (by omega) (fun he => HOB.out he.symm)).trans (((HAL _).out.block _ hgk).trans HROWK.out)
    · have hkn : len = n0 := by omega
      subst hkn
      have hfull : xs.take len = xs := List.take_of_length_le (by have := HN.out; omega)
      rw [hfull] at HOK
      have kc := conv_str HOK.out.rd
      have hcat : strOfNums L ++ strOfNums (pxL M xs) = strOfNums (encL W H C M xs) := by rw [son_app, HENC.out]
      have hs1 : (strOfNums L).size = nl := by rw [son_size, HNL.out]
      have hs2 : (strOfNums (pxL M xs)).size = len := by
        rw [son_size]
        obtain ⟨_, _, he, _⟩ := HOK.out.form
        injection he with _ he _
        exact he.symm
      go_wp2_with fail
      go_ret
      exact ⟨rfl, HBK.out⟩
set_option maxHeartbeats 2000000 in
theorem refText11_two {w : World} {W H C M : Int} {xs : List Int} {x0 : Option Addr} {n0 c0 : Nat} (h : Rd w .u16 (.slice x0 n0 c0) xs) (hx : ∀ x ∈ xs, 0 ≤ x ∧ x ≤ 65535) (hn : xs.length ≤ 268435456) (iW : I64 W) (iH : I64 H) (iM : I64 M) (ht : Tab w) (hm : ¬ M < 256) :
    Calls Tryd.prog 26 #[imgV W H C M (.slice x0 n0 c0)] w fun e w' => e = .returned (.string (strOfNums (encL W H C M xs))) ∧ Below w.heap.size w w' := by
  have HX := Lib.hid hx
  have HTX := Lib.hid fun w' (ht : Tab w') => refText_any C W H M 0 w' iW iH iM ht
  obtain ⟨L, hL⟩ : ∃ L, tL C W H M = L := ⟨_, rfl⟩
  obtain ⟨nl, hnl⟩ : ∃ nl, L.length = nl := ⟨_, rfl⟩
  have hn69 := tL_len C W H M iW iH iM
  have HENC : Hid (encL W H C M xs = L ++ pxL M xs) := Lib.hid (by unfold encL; rw [hL])
  rw [hL] at hn69 HTX
  rw [hnl] at hn69
  have HNL := Lib.hid hnl
  have HT := Lib.hid ht
  obtain ⟨n, hnn⟩ : ∃ n, xs.length = n := ⟨_, rfl⟩
  have hn0 : n0 = n := by
    obtain ⟨_, _, he, _⟩ := h.form
    injection he with _ he _
    rw [he, hnn]
  subst hn0
  rw [hnn] at hn
  have HN := Lib.hid hnn
  have HR := Lib.hid h
  obtain ⟨i, hi, hz0, hz1, hz2⟩ := info_parts infoU8
  have HA : ∀ o, Hid (Below w.heap.size w (w.alloc o)) := fun o => Lib.hid ((Below.refl w.heap.size w).alloc (Nat.le_refl _) o)
  have HROW : Hid ((w.alloc (.cells #[.int .i64 W, .int .i64 H, .int .i64 C, .int .i64 M, .slice x0 n0 c0] 44)).heap[w.heap.size]? = some (.cells #[.int .i64 W, .int .i64 H, .int .i64 C, .int .i64 M, .slice x0 n0 c0] 44 (0, 0))) := Lib.hid (heap_alloc_new w _)
  obtain ⟨⟨t0, t1, t2, t3, t4⟩, -⟩ := row5v HROW.out
  have HMM := Lib.hid hm
  clear h hx hL hnl ht hnn iW iH iM
  go_enter Tryd.func26, Tryd.ntmps26
  go_wp2_with fail
  refine (HTX.out _ (HT.out.below (HA _).out)).mono ?_
  rintro e wt ⟨rfl, hBt⟩
  have HBt := Lib.hid ((HA _).out.trans (hBt.mono (HA _).out.size))
  have hrow := below_row (B := 0) hBt HROW.out
  have HROWT := Lib.hid hrow
  clear t0 t1 t2 t3 t4
  obtain ⟨⟨t0, t1, t2, t3, t4⟩, -⟩ := row5v hrow
  clear hBt hrow
  go_wp2_with fail
  go_loopw [4, 20] (fun o i wr => ∃ (k : Nat) (xo : Option Addr) (co len : Nat), k ≤ n0 ∧ i = .int .i64 k ∧ o = .slice xo len co ∧ len = 2 * k ∧ Own wr w.heap.size 5 .u8 (.slice xo len co) (pxL M (xs.take k)) ∧ (Value.slice xo len co).ownBlock ≠ some w.heap.size ∧ Below w.heap.size w wr ∧
    wr.heap[w.heap.size]? = some (.cells #[.int .i64 W, .int .i64 H, .int .i64 C, .int .i64 M, .slice x0 n0 c0] 44 (0, 0))) (fun _ i _ => n0 - (intOf i).toNat)
  case atStart => exact ⟨0, none, 0, 0, by omega, rfl, rfl, rfl, World.ownsRow_nil wt w.heap.size 5 1, by simp [Value.ownBlock], HBt.out, HROWT.out⟩
  case round =>
    obtain ⟨k, xo, co, len2, hk, rfl, rfl, hlen2, hown, hob, hB, hrow⟩ := hrel
    have HOK := Lib.hid hown
    have HOB := Lib.hid hob
    have HBK := Lib.hid hB
    have HROWK := Lib.hid hrow
    clear t0 t1 t2 t3 t4
    obtain ⟨⟨t0, t1, t2, t3, t4⟩, -⟩ := row5v hrow
    have hgk : w.heap.size < wr.heap.size := (Array.getElem?_eq_some_iff.1 hrow).1
    clear hown hob hB hrow
    subst hlen2
    by_cases hlt : k < n0
    · have hkx : k < xs.length := by have := HN.out; omega
      obtain ⟨x1, rfl⟩ := HR.out.some_ (by omega)
      obtain ⟨u, HU, cu⟩ := (HR.out.below HBK.out).get rfl hkx
      have HTK := Lib.hid (pxL_take (m := M) hkx HU.out)
      have hu := HX.out u (by rw [← HU.out, List.getD_eq_getElem?_getD, List.getElem?_eq_getElem hkx]; exact List.getElem_mem _)
      obtain ⟨u0, u1⟩ := hu
      have hal : ∀ o, Below wr.heap.size wr (wr.alloc o) := fun o => (Below.refl wr.heap.size wr).alloc (Nat.le_refl _) o
      have HAL : ∀ o, Hid (Below wr.heap.size wr (wr.alloc o)) := fun o => Lib.hid (hal o)
      have hwr : w.heap.size ≤ wr.heap.size := HBK.out.size
      clear hal
      obtain ⟨T, hT⟩ : ∃ T, pxL M (xs.take k) = T := ⟨_, rfl⟩
      rw [hT] at HTK HOK
      have hTl : T.length = 2 * k := by
        obtain ⟨_, _, he, _⟩ := HOK.out.form
        injection he with _ he _
        exact he.symm
      have HTL := Lib.hid hTl
      clear hT hTl
      have hdv : IntKind.u16.wrap (u.tdiv 256) = u / 256 := by rw [Int.tdiv_eq_ediv_of_nonneg u0]; simp [IntKind.wrap, IntKind.bits, IntKind.signed]; omega
      have hdv2 : u / 256 % 256 = u / 256 := by omega
      go_wp2_with (first
        | (at_builtin; refine wpList_append_rd_at _ rfl _ _ 24 rfl w.heap.size 5 i .u8 1 Tryd.underlying24 hi hz0 hz1 hz2 _ (T ++ [u / 256]) rfl (HO1.out.below ((Below.refl w1.heap.size w1).alloc (Nat.le_refl _) _)) _ [u % 256] rfl (rd_new _ _ _ [u % 256] _ rfl 1 rfl (by unfold maxLen; omega) _) (by rw [HL1.out]; unfold maxLen; simp only [List.length_cons, List.length_nil]; omega) (by rw [HL1.out]; simp only [List.length_cons, List.length_nil]; omega) (Nat.le_trans hw1 ((Below.refl w1.heap.size w1).alloc (Nat.le_refl _) _).size) ?_; intro v2 w2 ho1 hg1 hk1; obtain ⟨y2, c2, rfl, hy1⟩ := ho1.form; have hl1 : ((T ++ [u / 256]) ++ [u % 256]).length = 2 * k + 2 := (by rw [List.length_append, HL1.out]; rfl); rw [hl1] at ho1 hk1 ⊢; have HO2 := Lib.hid ho1; have HG2 := Lib.hid hg1; have HK2 := Lib.hid hk1; clear ho1 hg1 hk1 hy1; clear hl1)
        | (at_builtin; refine wpList_append_rd_at _ rfl _ _ 24 rfl w.heap.size 5 i .u8 1 Tryd.underlying24 hi hz0 hz1 hz2 _ (T) rfl (HOK.out.below (HAL _).out) _ [u / 256] rfl (rd_new _ _ _ [u / 256] _ rfl 1 rfl (by unfold maxLen; omega) _) (by rw [HTL.out]; unfold maxLen; simp only [List.length_cons, List.length_nil]; omega) (by rw [HTL.out]; simp only [List.length_cons, List.length_nil]; omega) (Nat.le_trans hwr (HAL _).out.size) ?_; intro v1 w1 ho1 hg1 hk1; obtain ⟨y1, c1, rfl, hy1⟩ := ho1.form; have hl1 : ((T) ++ [u / 256]).length = 2 * k + 1 := (by rw [List.length_append, HTL.out]; rfl); rw [hl1] at ho1 hk1 ⊢; have HO1 := Lib.hid ho1; have HG1 := Lib.hid hg1; have HK1 := Lib.hid hk1; clear ho1 hg1 hk1 hy1; have HL1 := Lib.hid hl1; have hw1 : w.heap.size ≤ w1.heap.size := Nat.le_trans hwr (Nat.le_trans (HAL (.cells #[.int .u8 (u / 256)] 5)).out.size HG1.out.size); clear hl1))
      have hsz := (HAL (.cells #[.int .u8 (u / 256)] 5)).out.size
      have hbb : Below w.heap.size w w1 := (HBK.out.alloc HBK.out.size _).grown HG1.out (by omega) (fun q hq => (HOK.out.blk q hq).1)
      have hob1 : (Value.slice y1 (2 * k + 1) c1).ownBlock ≠ some w.heap.size := by
        rcases HK1.out with hk1 | hk1
        · rw [hk1]; exact HOB.out
        · rw [hk1]; intro he; have he2 := Option.some.inj he; omega
      have hrow1 := (HG1.out.block _ (by omega) (fun he => HOB.out he.symm)).trans (((HAL _).out.block _ hgk).trans HROWK.out)
      have hgk1 : w.heap.size < w1.heap.size := (Array.getElem?_eq_some_iff.1 hrow1).1
      have hal1 : ∀ o, Below w1.heap.size w1 (w1.alloc o) := fun o => (Below.refl w1.heap.size w1).alloc (Nat.le_refl _) o
      have hsz1 := (hal1 (.cells #[.int .u8 (u % 256)] 5)).size
      have hbb2 : Below w.heap.size w w2 := (hbb.alloc hbb.size _).grown HG2.out (by omega) (fun q hq => (HO1.out.blk q hq).1)
      have e1 : (T ++ [u / 256]) ++ [u % 256] = T ++ [u / 256, u % 256] := by rw [List.append_assoc]; rfl
      refine ⟨⟨k + 1, y2, c2, 2 * k + 2, by omega, by go_num, rfl, by omega, by rw [HTK.out, if_neg (by have := HMM.out; omega), ← e1]; exact HO2.out, ?_, hbb2, ?_⟩, by simp [intOf]; omega⟩
      · rcases HK2.out with hk2 | hk2
        · rw [hk2]; exact hob1
        · rw [hk2]; intro he; have he2 := Option.some.inj he; omega
      · exact (HG2.out.block _ (by omega) (fun he => hob1 he.symm)).trans (((hal1 _).block _ hgk1).trans hrow1)
    · have hkn : k = n0 := by omega
      subst hkn
      have hfull : xs.take k = xs := List.take_of_length_le (by have := HN.out; omega)
      rw [hfull] at HOK
      have kc := conv_str HOK.out.rd
      have hcat : strOfNums L ++ strOfNums (pxL M xs) = strOfNums (encL W H C M xs) := by rw [son_app, HENC.out]
      have hs1 : (strOfNums L).size = nl := by rw [son_size, HNL.out]
      have hs2 : (strOfNums (pxL M xs)).size = 2 * k := by
        rw [son_size]
        obtain ⟨_, _, he, _⟩ := HOK.out.form
        injection he with _ he _
        exact he.symm
      go_wp2_with fail
      go_ret
      exact ⟨rfl, HBK.out⟩
end Go.Proofs.YtnpkkcbgfnnfmaaDoor
