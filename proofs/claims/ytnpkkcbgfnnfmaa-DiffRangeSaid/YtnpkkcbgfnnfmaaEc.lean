import Derived.Test.YtnpkkcbgfnnfmaaEb
import Derived.Test.YtnpkkcbgfnnfmaaRi
/- smaltoref27.Bin. -/
namespace Go.Proofs.Ytnpkkcbgfnnfmaa
open Go.RowKit
set_option linter.unusedVariables false
set_option linter.unusedSimpArgs false
set_option maxRecDepth 100000

theorem cnt_step {C c n M k : Int} {xs : List Int} {j : Nat} {u : Int} (hu : xs.getD j 0 = u) : cntL n M (chTo C c xs (j + 1)) k = cntL n M (chTo C c xs j) k + if (j : Int) % C = c ∧ binV n M u = k then 1 else 0 := by
  rw [chTo, hu]
  by_cases h : (j : Int) % C = c
  · rw [if_pos h, cntL_app]
    by_cases h2 : binV n M u = k
    · rw [if_pos h2, if_pos ⟨h, h2⟩]
    · rw [if_neg h2, if_neg (fun e => h2 e.2)]
  · rw [if_neg h, List.append_nil, if_neg (fun e => h e.1), Int.add_zero]

set_option maxHeartbeats 2000000 in
theorem bin_any {w : World} {W H C M : Int} {xs : List Int} {x0 : Option Addr} {n0 cap : Nat} (h : Rd w .u16 (.slice x0 n0 cap) xs) (c : Int) (n : Nat) (k : Int) (hC : C = 1 ∨ C = 3) (hn : xs.length ≤ 268435456) (n2 : n ≤ 1024) (n1 : 1 ≤ n) (m1 : 1 ≤ M) (m2 : M ≤ 65535) (hx : ∀ z ∈ xs, 0 ≤ z ∧ z ≤ M) :
    Calls Try.prog 70 #[imgV W H C M (.slice x0 n0 cap), .int .i64 c, .int .i64 n, .int .i64 k] w fun e w' => e = .returned (.int .i64 (cntL n M (chTo C c xs n0) k)) ∧ Below w.heap.size w w' := by
  have hn0 : n0 = xs.length := by
    obtain ⟨_, _, he, _⟩ := h.form
    injection he with _ he2 _
  subst hn0
  have HR := Lib.hid h
  have HX := Lib.hid hx
  obtain ⟨N, hN⟩ : ∃ N, xs.length = N := ⟨_, rfl⟩
  rw [hN] at hn HR ⊢
  have HN := Lib.hid hN
  have HA : ∀ o, Hid (Below w.heap.size w (w.alloc o)) := fun o => Lib.hid ((Below.refl w.heap.size w).alloc (Nat.le_refl _) o)
  have hrow : (w.alloc (.cells #[.int .i64 W, .int .i64 H, .int .i64 C, .int .i64 M, .slice x0 N cap] 87)).heap[w.heap.size]? = some (.cells #[.int .i64 W, .int .i64 H, .int .i64 C, .int .i64 M, .slice x0 N cap] 87 (0, 0)) := heap_alloc_new w _
  obtain ⟨⟨t0, t1, t2, t3, t4⟩, -⟩ := row5v hrow
  clear h hx hN hrow
  go_enter Try.func70, Try.ntmps70
  go_wp2_with fail
  go_loop [9, 15] (fun s i => ∃ j : Nat, j ≤ N ∧ i = .int .i64 j ∧ s = .int .i64 (cntL n M (chTo C c xs j) k)) (fun _ i => N - (intOf i).toNat)
  case atStart => exact ⟨0, by omega, rfl, rfl⟩
  case round =>
    obtain ⟨j, hj, rfl, rfl⟩ := hrel
    obtain ⟨T, hT⟩ : ∃ T, cntL n M (chTo C c xs j) k = T := ⟨_, rfl⟩
    have hTb := cntL_nn n M (chTo C c xs j) k
    have hTl := chTo_len C c xs j
    rw [hT] at hTb ⊢
    by_cases hlt : j < N
    · have hjx : j < xs.length := by have := HN.out; omega
      have hR2 := HR.out.below (HA (.cells #[.int .i64 W, .int .i64 H, .int .i64 C, .int .i64 M, .slice x0 N cap] 87)).out
      obtain ⟨x1, rfl⟩ := HR.out.some_ (by omega)
      obtain ⟨u, HU, cu⟩ := hR2.get rfl hjx
      have HST := Lib.hid (cnt_step (C := C) (c := c) (n := n) (M := M) (k := k) HU.out)
      rw [hT] at HST
      have hub := HX.out u (by rw [← HU.out, List.getD_eq_getElem?_getD, List.getElem?_eq_getElem hjx]; exact List.getElem_mem _)
      obtain ⟨u0, u1⟩ := hub
      have hun : 0 ≤ u * (n : Int) ∧ u * (n : Int) ≤ 65535 * 1024 := ⟨Int.mul_nonneg u0 (by omega), Int.mul_le_mul (by omega) (by omega) (by omega) (by omega)⟩
      have e1 : wrap64 u = u := wrap_in (by omega) (by omega)
      have e2 : wrap64 (u * (n : Int)) = u * n := wrap_in (by omega) (by omega)
      obtain ⟨p, hp⟩ : ∃ p, binV n M u = p := ⟨_, rfl⟩
      have hbv := binV_in (bins := n) (M := M) (v := u) (by omega) m1 u0 u1
      have e3 : (u * (n : Int)).tdiv (M + 1) = p := by rw [Int.tdiv_eq_ediv_of_nonneg hun.1]; exact hp
      rw [hp] at HST hbv
      clear hT hp hun hR2
      go_wp2_with fail
      all_goals (refine ⟨⟨j + 1, by omega, by go_num, ?_⟩, by simp [intOf]; omega⟩)
      all_goals (rw [HST.out])
      all_goals (first | (rw [if_pos (by constructor <;> first | assumption | omega | simp_all)]; done) | (rw [if_neg (by rintro ⟨h1, h2⟩; simp_all), Int.add_zero]))
    · go_wp2_with fail
      go_ret
      have hjn : j = N := by omega
      subst hjn
      exact ⟨ret_int hT.symm, (HA _).out⟩
end Go.Proofs.Ytnpkkcbgfnnfmaa
