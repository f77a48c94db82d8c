import Derived.Test.YtnpkkcbgfnnfmaaFc
import Derived.Lib.MinMax
/- diff.Range, diff.Mean, smaltoref27.Mean. -/
namespace Go.Proofs.Ytnpkkcbgfnnfmaa
open Go.RowKit
set_option linter.unusedVariables false
set_option linter.unusedSimpArgs false
set_option maxRecDepth 100000

section
variable {w : World} {g b : Nat} {W H C M : Int} {xs : List Int}

set_option maxHeartbeats 2000000 in
theorem range_any (h : ImgR w g b W H C M xs) (hn : xs.length ≤ 268435456) (hx : ∀ z ∈ xs, 0 ≤ z ∧ z ≤ 65535) :
    Calls Try.prog 71 #[.pointer (some ⟨g, 0, none⟩)] w fun e w' => e = .returned (.tuple #[.int .i64 (mnTo M xs xs.length), .int .i64 (mxTo 0 xs xs.length)]) ∧ Below w.heap.size w w' := by
  have HI := Lib.hid h
  obtain ⟨n, hnn⟩ : ∃ n, xs.length = n := ⟨_, rfl⟩
  rw [hnn] at hn ⊢
  have HN := Lib.hid hnn
  have HX := Lib.hid hx
  clear h hnn hx
  go_enter Try.func71, Try.ntmps71
  go_wp2_with (first
    | (go_at_call 29; refine (most_any HI.out).mono ?_; rintro e w2 ⟨rfl, rfl⟩)
    | (go_at_call 25; refine (samples_any HI.out (by rw [HN.out]; omega)).mono ?_; rw [HN.out]; rintro e ws ⟨xa, ca, rfl, hos, hbs⟩; have HBS := Lib.hid hbs; have HSM := Lib.hid hos.rd; clear hbs hos))
  go_loop [2, 3, 5, 11] (fun a b _ i => ∃ k : Nat, k ≤ n ∧ i = .int .i64 k ∧ a = .int .i64 (mnTo M xs k) ∧ b = .int .i64 (mxTo 0 xs k)) (fun _ _ _ i => n - (intOf i).toNat)
  case atStart => exact ⟨0, by omega, rfl, rfl, rfl⟩
  case round =>
    obtain ⟨k, hk, rfl, rfl, rfl⟩ := hrel
    by_cases hlt : k < n
    · have hkx : k < xs.length := by have := HN.out; omega
      obtain ⟨x, rfl⟩ := HSM.out.some_ (by omega)
      obtain ⟨u, HU, cu⟩ := HSM.out.get rfl hkx
      have H1 := Lib.hid (mnTo_step (m := M) HU.out)
      have H2 := Lib.hid (mxTo_step (m := 0) HU.out)
      have hub := HX.out u (by rw [← HU.out, List.getD_eq_getElem?_getD, List.getElem?_eq_getElem hkx]; exact List.getElem_mem _)
      have e1 : wrap64 u = u := wrap_in (by omega) (by omega)
      clear hub
      obtain ⟨p, hp⟩ : ∃ p, mnTo M xs k = p := ⟨_, rfl⟩
      obtain ⟨q, hq⟩ : ∃ q, mxTo 0 xs k = q := ⟨_, rfl⟩
      rw [hp] at H1
      rw [hq] at H2
      rw [hp, hq]
      clear hp hq
      go_wp2_with fail
      exact ⟨⟨k + 1, by omega, by go_num, by rw [H1.out], by rw [H2.out]⟩, by simp [intOf]; omega⟩
    · have hkn : k = n := by omega
      subst hkn
      go_wp2_with fail
      exact bodyPost_ret (v := .tuple #[.int .i64 (mnTo M xs k), .int .i64 (mxTo 0 xs k)]) (by simp [results, Try.results71, go_sem]) rfl ⟨rfl, HBS.out⟩

set_option maxHeartbeats 2000000 in
theorem mean_in (h : ImgR w g b W H C M xs) (c : Int) (c0 : 0 ≤ c) (c1 : c < C) (hC : C = 1 ∨ C = 3) (hn : xs.length ≤ 65536) (hx : ∀ z ∈ xs, 0 ≤ z ∧ z ≤ 65535) (hl : 1 ≤ (chTo C c xs xs.length).length) :
    Calls Try.prog 72 #[.pointer (some ⟨g, 0, none⟩), .int .i64 c] w fun e w' => e = .returned (.int .i64 (rdiv (sm (chTo C c xs xs.length) * 65536) (chTo C c xs xs.length).length)) ∧ Below w.heap.size w w' := by
  have HCH := Lib.hid (channel_in h c c0 c1 hC (by omega))
  have hll := chTo_len C c xs xs.length
  have hLm : ∀ v ∈ chTo C c xs xs.length, 0 ≤ v ∧ v ≤ 65535 := chTo_mem (P := fun z => 0 ≤ z ∧ z ≤ 65535) (fun k => by
    rw [List.getD_eq_getElem?_getD]
    by_cases hk : k < xs.length
    · rw [List.getElem?_eq_getElem hk]; exact hx _ (List.getElem_mem _)
    · rw [List.getElem?_eq_none (by omega)]; exact ⟨Int.le_refl 0, (by show (0 : Int) ≤ 65535; omega)⟩) _
  obtain ⟨L, hL⟩ : ∃ L, chTo C c xs xs.length = L := ⟨_, rfl⟩
  rw [hL] at HCH hll hLm hl ⊢
  obtain ⟨n, hN⟩ : ∃ n, L.length = n := ⟨_, rfl⟩
  rw [hN] at HCH hll hl ⊢
  have HN := Lib.hid hN
  have HLM := Lib.hid hLm
  have hn2 : n ≤ 65536 := by omega
  clear h hx hL hN hLm c0 c1 hC hn hll
  go_enter Try.func72, Try.ntmps72
  go_wp2_with (go_at_call 89; refine HCH.out.mono ?_; rintro e w1 ⟨xa, ca, rfl, ho, hB⟩; have HB := Lib.hid hB; have HR := Lib.hid ho.rd; clear ho hB)
  go_loop [5, 8, 14] (fun s _ i => ∃ k : Nat, k ≤ n ∧ i = .int .i64 k ∧ s = .int .i64 (sm (L.take k))) (fun _ _ i => n - (intOf i).toNat)
  case atStart => exact ⟨0, by omega, rfl, rfl⟩
  case round =>
    obtain ⟨k, hk, rfl, rfl⟩ := hrel
    have hsb := sm_bd (lo := 0) (hi := 65535) (l := L.take k) fun v hv => HLM.out v (List.mem_of_mem_take hv)
    have htl : (L.take k).length ≤ 65536 := by rw [List.length_take]; omega
    obtain ⟨S, hS⟩ : ∃ S, sm (L.take k) = S := ⟨_, rfl⟩
    rw [hS] at hsb
    have hS1 : 0 ≤ S ∧ S ≤ 4294967296 := by omega
    by_cases hlt : k < n
    · have hkx : k < L.length := by have := HN.out; omega
      obtain ⟨x, rfl⟩ := HR.out.some_ (by omega)
      obtain ⟨u, HU, cu⟩ := HR.out.get rfl hkx
      have H1 := Lib.hid (sm_take hkx HU.out)
      have hub : 0 ≤ u ∧ u ≤ 65535 := HLM.out u (by rw [← HU.out, List.getD_eq_getElem?_getD, List.getElem?_eq_getElem hkx]; exact List.getElem_mem _)
      rw [hS] at H1 ⊢
      clear hS hsb
      have e1 : wrap64 (S + u) = S + u := wrap_in (by omega) (by omega)
      go_wp2_with fail
      exact ⟨⟨k + 1, by omega, by go_num, by rw [H1.out]⟩, by simp [intOf]; omega⟩
    · have hkn : k = n := by omega
      subst hkn
      have hS2 : sm L = S := by rw [← hS, ← HN.out, List.take_length]
      have HS2 := Lib.hid hS2
      rw [hS]
      clear hS hsb hS2
      have e1 : wrap64 (S * 65536) = S * 65536 := wrap_in (by omega) (by omega)
      go_wp2_with (go_at_call 90; refine (fixDiv_any (S * 65536) k _ (by omega) (by omega) (by omega) (by omega)).mono ?_; rintro e w2 ⟨rfl, m, rfl⟩)
      go_ret
      exact ⟨ret_int (by rw [HS2.out]), HB.out.trans ((Below.drewN _).mono HB.out.size)⟩

theorem mean_out (h : ImgR w g b W H C M xs) (c : Int) (hc : c < 0 ∨ C ≤ c) :
    Calls Try.prog 72 #[.pointer (some ⟨g, 0, none⟩), .int .i64 c] w fun e w' => e = .returned (.int .i64 0) ∧ w = w' := by
  have HCH := Lib.hid (channel_out h c hc)
  clear hc h
  go_enter Try.func72, Try.ntmps72
  go_wp2_with (go_at_call 89; refine HCH.out.mono ?_; rintro e w1 ⟨rfl, rfl⟩)
  go_loop [5, 8, 14] (fun s _ i => i = .int .i64 0 ∧ s = .int .i64 0) (fun _ _ _ => 0)
  case atStart => exact ⟨rfl, rfl⟩
  case round =>
    obtain ⟨rfl, rfl⟩ := hrel
    go_wp2_with (go_at_call 90; refine (fixDiv_zero 0 _).mono ?_; rintro e w2 ⟨rfl, rfl⟩)
    go_ret
    exact ⟨rfl, rfl⟩
end

set_option maxHeartbeats 2000000 in
theorem refMean_any {w : World} {W H C M : Int} {xs : List Int} {x0 : Option Addr} {n0 cap : Nat} (h : Rd w .u16 (.slice x0 n0 cap) xs) (c : Int) (hC : C = 1 ∨ C = 3) (hn : xs.length ≤ 65536) (hx : ∀ z ∈ xs, 0 ≤ z ∧ z ≤ 65535) (hwh : 1 ≤ W * H ∧ W * H ≤ 65536) :
    Calls Try.prog 73 #[imgV W H C M (.slice x0 n0 cap), .int .i64 c] w fun e w' => e = .returned (.int .i64 (rdiv (sm (chTo C c xs n0) * 65536) (W * H))) ∧ Below w.heap.size w w' := by
  have hn0 : n0 = xs.length := by
    obtain ⟨_, _, he, _⟩ := h.form
    injection he with _ he2 _
  subst hn0
  have HR := Lib.hid h
  have HX := Lib.hid hx
  obtain ⟨N, hN⟩ : ∃ N, xs.length = N := ⟨_, rfl⟩
  rw [hN] at hn HR ⊢
  have HN := Lib.hid hN
  have HA : ∀ o, Hid (Below w.heap.size w (w.alloc o)) := fun o => Lib.hid ((Below.refl w.heap.size w).alloc (Nat.le_refl _) o)
  have hrow : (w.alloc (.cells #[.int .i64 W, .int .i64 H, .int .i64 C, .int .i64 M, .slice x0 N cap] 87)).heap[w.heap.size]? = some (.cells #[.int .i64 W, .int .i64 H, .int .i64 C, .int .i64 M, .slice x0 N cap] 87 (0, 0)) := heap_alloc_new w _
  obtain ⟨⟨t0, t1, t2, t3, t4⟩, -⟩ := row5v hrow
  have ewh : wrap64 (W * H) = W * H := wrap_in (by omega) (by omega)
  clear h hx hN hrow
  go_enter Try.func73, Try.ntmps73
  go_wp2_with fail
  go_loop [5, 6, 7, 11] (fun s _ _ i => ∃ j : Nat, j ≤ N ∧ i = .int .i64 j ∧ s = .int .i64 (sm (chTo C c xs j))) (fun _ _ _ i => N - (intOf i).toNat)
  case atStart => exact ⟨0, by omega, rfl, rfl⟩
  case round =>
    obtain ⟨j, hj, rfl, rfl⟩ := hrel
    have hLm : ∀ v ∈ chTo C c xs j, 0 ≤ v ∧ v ≤ 65535 := chTo_mem (P := fun z => 0 ≤ z ∧ z ≤ 65535) (fun k => by
      rw [List.getD_eq_getElem?_getD]
      by_cases hk : k < xs.length
      · rw [List.getElem?_eq_getElem hk]; exact HX.out _ (List.getElem_mem _)
      · rw [List.getElem?_eq_none (by omega)]; exact ⟨Int.le_refl 0, (by show (0 : Int) ≤ 65535; omega)⟩) _
    have hsb := sm_bd hLm
    have htl := chTo_len C c xs j
    obtain ⟨S, hS⟩ : ∃ S, sm (chTo C c xs j) = S := ⟨_, rfl⟩
    rw [hS] at hsb
    have hS1 : 0 ≤ S ∧ S ≤ 4294967296 := by omega
    clear hLm hsb htl
    by_cases hlt : j < N
    · have hjx : j < xs.length := by have := HN.out; omega
      have hR2 := HR.out.below (HA (.cells #[.int .i64 W, .int .i64 H, .int .i64 C, .int .i64 M, .slice x0 N cap] 87)).out
      obtain ⟨x1, rfl⟩ := HR.out.some_ (by omega)
      obtain ⟨u, HU, cu⟩ := hR2.get rfl hjx
      have HST := Lib.hid (sm_ch (C := C) (c := c) HU.out)
      rw [hS] at HST ⊢
      have hub := HX.out u (by rw [← HU.out, List.getD_eq_getElem?_getD, List.getElem?_eq_getElem hjx]; exact List.getElem_mem _)
      obtain ⟨u0, u1⟩ := hub
      have e1 : wrap64 (S + u) = S + u := wrap_in (by omega) (by omega)
      clear hS hR2
      by_cases hjc : (j : Int) % C = c
      · have HE : Hid (sm (chTo C c xs (j + 1)) = S + u) := Lib.hid (by rw [HST.out, if_pos hjc])
        go_wp2_with fail
        all_goals exact ⟨⟨j + 1, by omega, by go_num, by rw [HE.out]⟩, by simp [intOf]; omega⟩
      · have HE : Hid (sm (chTo C c xs (j + 1)) = S) := Lib.hid (by rw [HST.out, if_neg hjc, Int.add_zero])
        go_wp2_with fail
        all_goals exact ⟨⟨j + 1, by omega, by go_num, by rw [HE.out]⟩, by simp [intOf]; omega⟩
    · have hjn : j = N := by omega
      subst hjn
      have e1 : wrap64 (S * 65536) = S * 65536 := wrap_in (by omega) (by omega)
      have HS := Lib.hid hS
      rw [hS]
      clear hS
      go_wp2_with (go_at_call 91; refine (refDiv_any (S * 65536) (W * H) _ (by omega) (by omega) hwh.1 (by omega)).mono ?_; rintro e w2 ⟨rfl, hB⟩; have HB := Lib.hid ((bel1 w _).trans (hB.mono (bel1 w _).size)); clear hB)
      go_ret
      exact ⟨ret_int (by rw [HS.out]), HB.out⟩
end Go.Proofs.Ytnpkkcbgfnnfmaa
