import Derived.Test.YtnpkkcbgfnnfmaaDoorPj
/- smaltoref11.Decode behind a good head. -/
namespace Go.Proofs.YtnpkkcbgfnnfmaaDoor
open Go.RowKit Go.Sort
set_option linter.unusedVariables false
set_option linter.unusedSimpArgs false
set_option maxRecDepth 100000

abbrev zRow : Array Value := #[.int .i64 0, .int .i64 0, .int .i64 0, .int .i64 0, .slice none 0 0]

set_option maxHeartbeats 2000000 in
theorem refDecode_short (bs : List Int) (w : World) (hl : bs.length ≤ 4503599627370496) (hb : Byt bs) (c x y m s : Int) (hp : parseL bs = (0, ⟨c, x, y, m, s⟩)) (hsh : ((bs.drop s.toNat).length : Int) < szL c x y m) :
    Calls Tryd.prog 19 #[.string (strOfNums bs)] w fun e w' => e = .returned (.tuple #[imgZ, .int .i64 3]) ∧ Below w.heap.size w w' := by
  have HPA := Lib.hid fun w => refParse_any bs hb hl w
  rw [hp] at HPA
  obtain ⟨hco, hs1, hs2⟩ := parse_good hb hp
  simp only at hco hs1 hs2
  obtain ⟨S, rfl⟩ : ∃ S : Nat, s = S := ⟨s.toNat, by omega⟩
  rw [Int.toNat_natCast] at hsh
  obtain ⟨n, hn⟩ : ∃ n, bs.length = n := ⟨_, rfl⟩
  have hSn : S ≤ n := by omega
  obtain ⟨R, hRR⟩ : ∃ R, bs.drop S = R := ⟨_, rfl⟩
  have hrn : R.length = n - S := by rw [← hRR, List.length_drop, hn]
  obtain ⟨rn, hrn2⟩ : ∃ rn, n - S = rn := ⟨_, rfl⟩
  rw [hrn2] at hrn
  obtain ⟨m1, m2, hc3, a1, a2, b1', b2, d1, d2, p1, p2⟩ := codeR_zero hco
  obtain ⟨N, hN⟩ : ∃ N : Nat, x * y * c = N := ⟨(x * y * c).toNat, by omega⟩
  obtain ⟨P1, hP1⟩ : ∃ P1, x * y = P1 := ⟨_, rfl⟩
  have e1 : wrap64 (x * y) = P1 := by rw [wrap_in (by omega) (by omega)]; exact hP1
  have e2 : wrap64 (P1 * c) = (N : Int) := by rw [← hP1, wrap_in (by omega) (by omega)]; exact hN
  have hq := szL_of hco
  rw [hN] at hq
  rw [hRR, hrn, hq] at hsh
  have hsz : (strOfNums bs).size = n := by rw [son_size, hn]
  have hex : (strOfNums bs).extract S n = strOfNums R := by rw [son_drop bs S n hn, hRR]
  have hszR : (strOfNums R).size = rn := by rw [son_size, hrn]
  have hN1 : 1 ≤ N := by omega
  have hN2 : N ≤ 268435456 := by omega
  have hl2 : n ≤ 4503599627370496 := by omega
  have HA : ∀ o, Hid (Below w.heap.size w (w.alloc o)) := fun o => Lib.hid ((Below.refl w.heap.size w).alloc (Nat.le_refl _) o)
  have hw2 : (m < 256 ∧ (rn : Int) < N) ∨ (¬ m < 256 ∧ (rn : Int) < N * 2) := by
    by_cases h : m < 256
    · left; unfold wdL at hsh; rw [if_pos h] at hsh; exact ⟨h, by omega⟩
    · right; unfold wdL at hsh; rw [if_neg h] at hsh; exact ⟨h, hsh⟩
  clear hp hs1 hs2 hco hRR hrn hrn2 m1 m2 hc3 a1 a2 b1' b2 d1 d2 p1 p2 hN hP1 hq hsh hl hn
  rcases hw2 with ⟨hm, hsh⟩ | ⟨hm, hsh⟩
  all_goals
    go_enter Tryd.func19, Tryd.ntmps19
    go_wp2_with fail
    refine (HPA.out _).mono ?_
    rintro e w1 ⟨rfl, hB⟩
    have HB := Lib.hid ((HA _).out.trans (hB.mono (HA _).out.size))
    have hrow : w1.heap[w.heap.size]? = some (.cells zRow 44 (0, 0)) := below_row (B := 0) hB (heap_alloc_new w _)
    have hrowA : ∀ o, (w1.alloc o).heap[w.heap.size]? = some (.cells zRow 44 (0, 0)) := fun o => (heap_alloc_old w1 o (Array.getElem?_eq_some_iff.1 hrow).1).trans hrow
    have HROW := Lib.hid hrowA
    clear hB
    have t0 := fun o => (row5v (hrowA o)).1.1
    have t1 := fun o => (row5v (hrowA o)).1.2.1
    have t2 := fun o => (row5v (hrowA o)).1.2.2.1
    have t3 := fun o => (row5v (hrowA o)).1.2.2.2.1
    have t4 := fun o => (row5v (hrowA o)).1.2.2.2.2
    have f0 := fun o => (row5v (hrowA o)).2.1
    have f1 := fun o => (row5v (hrowA o)).2.2.1
    have f2 := fun o => (row5v (hrowA o)).2.2.2.1
    have f3 := fun o => (row5v (hrowA o)).2.2.2.2.1
    have f4 := fun o => (row5v (hrowA o)).2.2.2.2.2
    clear hrow hrowA
    go_wp2_with fail
    exact bodyPost_ret (results_ct_row rfl _ _ w.heap.size 44 zRow (0, 0) _ rfl (row_set5v (HROW.out _) _ _ _ _ _) Tryd.underlying44 rfl (by kernel_rfl)) rfl ⟨rfl, below_set5v (HB.out.alloc HB.out.size _) (Nat.le_refl _) _ _ _ _ _⟩
end Go.Proofs.YtnpkkcbgfnnfmaaDoor
