import Derived.Test.YtnpkkcbgfnnfmaaFa
import Derived.Test.YtnpkkcbgfnnfmaaReg2
import Derived.Deep.RegionWith
import Derived.Deep.QuietTactic
import Derived.BigQuiet
import Derived.BigRegion
/- smaltoref01.Over: quotient and rest. (Region 8's walk is printed by wip/mkfb.py.) -/
namespace Go.Proofs.Ytnpkkcbgfnnfmaa
open Go.RowKit
set_option linter.unusedVariables false
set_option linter.unusedSimpArgs false
set_option maxRecDepth 100000

theorem bit_any (a : Int) (i : Nat) (w : World) (h0 : 0 ≤ a) (h1 : a < 2 ^ 64) (hi : i < 128) :
    Calls Try.prog 102 #[bigV 0 a, .int .i64 i] w fun e w' => e = .returned (.int .u64 (a / 2 ^ i % 2)) ∧ Below w.heap.size w w' := by
  by_cases h : i < 64
  · exact bit_lo a i w h0 h1 h
  · refine (bit_hi a i w h0 (by omega) hi).mono fun e w' he => ⟨he.1.trans (ret_int ?_), he.2⟩
    have h2 : (2 : Int) ^ 64 ≤ 2 ^ i := by exact_mod_cast Nat.pow_le_pow_right (show 0 < 2 by omega) (show 64 ≤ i by omega)
    rw [Int.ediv_eq_zero_of_lt h0 (by omega)]
    rfl
theorem bit_bd (a : Int) (i : Nat) : 0 ≤ a / 2 ^ i % 2 ∧ a / 2 ^ i % 2 ≤ 1 := by omega
theorem pre_step (a : Int) (j : Nat) : a / 2 ^ j = a / 2 ^ (j + 1) * 2 + a / 2 ^ j % 2 := by
  have h : a / 2 ^ (j + 1) = a / 2 ^ j / 2 := by
    rw [Int.pow_succ, Int.ediv_ediv_of_nonneg (Int.le_of_lt (Int.pow_pos (by omega)))]
  omega
theorem pre_nn {a : Int} (h0 : 0 ≤ a) (j : Nat) : 0 ≤ a / 2 ^ j ∧ a / 2 ^ j ≤ a :=
  ⟨Int.ediv_nonneg h0 (Int.le_of_lt (Int.pow_pos (by omega))), Int.ediv_le_self _ h0⟩
theorem div_step {n n' b t : Int} (hb : 1 ≤ b) (hn : n' = n * 2 + t) (ht : 0 ≤ t ∧ t ≤ 1) :
    (n % b * 2 + t < b → n' / b = n / b * 2 ∧ n' % b = n % b * 2 + t) ∧ (¬ n % b * 2 + t < b → n' / b = n / b * 2 + 1 ∧ n' % b = n % b * 2 + t - b) := by
  have e := Int.ediv_mul_add_emod n b
  have r0 := Int.emod_nonneg n (show b ≠ 0 by omega)
  have r1 := Int.emod_lt_of_pos n (show 0 < b by omega)
  obtain ⟨q, hq⟩ : ∃ q, n / b = q := ⟨_, rfl⟩
  obtain ⟨r, hr⟩ : ∃ r, n % b = r := ⟨_, rfl⟩
  rw [hq, hr] at e
  rw [hr] at r0 r1
  rw [hq, hr]
  constructor
  · intro h
    have e2 : n' = (r * 2 + t) + b * (q * 2) := by rw [hn, ← e, Int.mul_comm q b, ← Int.mul_assoc b q 2]; omega
    constructor
    · rw [e2, Int.add_mul_ediv_left _ _ (by omega), Int.ediv_eq_zero_of_lt (by omega) h]; omega
    · rw [e2, Int.add_mul_emod_self_left, Int.emod_eq_of_lt (by omega) h]
  · intro h
    have e2 : n' = (r * 2 + t - b) + b * (q * 2 + 1) := by rw [hn, ← e, Int.mul_comm q b, Int.mul_add b (q * 2) 1, ← Int.mul_assoc b q 2]; omega
    constructor
    · rw [e2, Int.add_mul_ediv_left _ _ (by omega), Int.ediv_eq_zero_of_lt (by omega) (by omega)]; omega
    · rw [e2, Int.add_mul_emod_self_left, Int.emod_eq_of_lt (by omega) (by omega)]

theorem alloc4_fourth (w : World) (a b c : Obj) (cs : Array Value) (t : TypeId) : ((((w.alloc a).alloc b).alloc c).alloc (.cells cs t)).heap[w.heap.size + 1 + 1 + 1]? = some (.cells cs t (0, 0)) := by
  have h := heap_alloc_new (((w.alloc a).alloc b).alloc c) (.cells cs t)
  have hs : (((w.alloc a).alloc b).alloc c).heap.size = w.heap.size + 1 + 1 + 1 := by simp
  rw [hs] at h
  exact h

/-- the rows of Over -/
structure OV (w w' : World) (a q r : Int) : Prop where
  A : w'.heap[w.heap.size]? = some (.cells #[.int .u64 0, .int .u64 a] 142 (0, 0))
  O : w'.heap[w.heap.size + 1]? = some (.cells #[.int .u64 0, .int .u64 0] 142 (0, 0))
  Qr : w'.heap[w.heap.size + 1 + 1]? = some (.cells #[.int .u64 0, .int .u64 q] 142 (0, 0))
  R : w'.heap[w.heap.size + 1 + 1 + 1]? = some (.cells #[.int .u64 0, .int .u64 r] 142 (0, 0))
  bel : Below w.heap.size w w'
theorem OV.below {w w1 w2 : World} {a q r : Int} (h : OV w w1 a q r) (hB : Below w1.heap.size w1 w2) : OV w w2 a q r :=
  ⟨row_below h.A hB, row_below h.O hB, row_below h.Qr hB, row_below h.R hB, h.bel.trans (hB.mono h.bel.size)⟩
theorem OV.setR {w w1 : World} {a q r : Int} (h : OV w w1 a q r) (r' : Int) : OV w ((w1.setCell ⟨w.heap.size + 1 + 1 + 1, 0, none⟩ (.int .u64 0)).setCell ⟨w.heap.size + 1 + 1 + 1, 1, none⟩ (.int .u64 r')) a q r' := by
  refine ⟨?_, ?_, ?_, row_set2 h.R _ _, (h.bel.setCell (by show w.heap.size ≤ w.heap.size + 1 + 1 + 1; omega) _).setCell (by show w.heap.size ≤ w.heap.size + 1 + 1 + 1; omega) _⟩
  · rw [Below.heap_setCell _ _ _ _ (by show _ ≠ _; simp only; omega), Below.heap_setCell _ _ _ _ (by show _ ≠ _; simp only; omega)]; exact h.A
  · rw [Below.heap_setCell _ _ _ _ (by show _ ≠ _; simp only; omega), Below.heap_setCell _ _ _ _ (by show _ ≠ _; simp only; omega)]; exact h.O
  · rw [Below.heap_setCell _ _ _ _ (by show _ ≠ _; simp only; omega), Below.heap_setCell _ _ _ _ (by show _ ≠ _; simp only; omega)]; exact h.Qr
theorem OV.setQ {w w1 : World} {a q r : Int} (h : OV w w1 a q r) (q' : Int) : OV w ((w1.setCell ⟨w.heap.size + 1 + 1, 0, none⟩ (.int .u64 0)).setCell ⟨w.heap.size + 1 + 1, 1, none⟩ (.int .u64 q')) a q' r := by
  refine ⟨?_, ?_, row_set2 h.Qr _ _, ?_, (h.bel.setCell (by show w.heap.size ≤ w.heap.size + 1 + 1; omega) _).setCell (by show w.heap.size ≤ w.heap.size + 1 + 1; omega) _⟩
  · rw [Below.heap_setCell _ _ _ _ (by show _ ≠ _; simp only; omega), Below.heap_setCell _ _ _ _ (by show _ ≠ _; simp only; omega)]; exact h.A
  · rw [Below.heap_setCell _ _ _ _ (by show _ ≠ _; simp only; omega), Below.heap_setCell _ _ _ _ (by show _ ≠ _; simp only; omega)]; exact h.O
  · rw [Below.heap_setCell _ _ _ _ (by show _ ≠ _; simp only; omega), Below.heap_setCell _ _ _ _ (by show _ ≠ _; simp only; omega)]; exact h.R
theorem OV.setQ1 {w w1 : World} {a q r : Int} (h : OV w w1 a q r) (q' : Int) : OV w (w1.setCell ⟨w.heap.size + 1 + 1, 1, none⟩ (.int .u64 q')) a q' r := by
  refine ⟨?_, ?_, by simp [World.setCell, Array.getElem?_modify, h.Qr], ?_, h.bel.setCell (by show w.heap.size ≤ w.heap.size + 1 + 1; omega) _⟩
  · rw [Below.heap_setCell _ _ _ _ (by show _ ≠ _; simp only; omega)]; exact h.A
  · rw [Below.heap_setCell _ _ _ _ (by show _ ≠ _; simp only; omega)]; exact h.O
  · rw [Below.heap_setCell _ _ _ _ (by show _ ≠ _; simp only; omega)]; exact h.R
theorem OV.cellsR {w w1 : World} {a q r : Int} (h : OV w w1 a q r) : OV w w1 a q r ∧ w1.cell? ⟨w.heap.size, 0, none⟩ = some (.int .u64 0) ∧ w1.cell? ⟨w.heap.size, 1, none⟩ = some (.int .u64 a) ∧
    w1.cell? ⟨w.heap.size + 1 + 1 + 1, 0, none⟩ = some (.int .u64 0) ∧ w1.cell? ⟨w.heap.size + 1 + 1 + 1, 1, none⟩ = some (.int .u64 r) ∧ w1.frozen? ⟨w.heap.size + 1 + 1 + 1, 0, none⟩ = false ∧ w1.frozen? ⟨w.heap.size + 1 + 1 + 1, 1, none⟩ = false :=
  ⟨h, (row2 h.A).1.1, (row2 h.A).1.2, (row2 h.R).1.1, (row2 h.R).1.2, (row2 h.R).2.1, (row2 h.R).2.2⟩

theorem results_ct_row' {P : Program} {fn : Func} {p u : Tmp} {ty : TypeId} (h : fn.results = #[.cell p ty, .tmp u]) (tmps : Array Value) (w : World) (g : Nat) (t : TypeId) (cs : Array Value) (fr : Nat × Nat) (d : TypeDesc)
    (hp : tmps.getD p undef = .pointer (some ⟨g, 0, none⟩)) (hg : w.heap[g]? = some (.cells cs t fr))
    (hu : P.underlying ty = some d) (hd : (match d with | .struct _ | .array _ _ => true | _ => false) = true) (hi : (P.info? ty).map (·.size) = some cs.size) :
    (results fn tmps).run P w = .ok (.tuple #[.agg cs, tmps.getD u undef]) w := by
  rw [results_cell_tmp h, hp]
  simp [asAddr, run_loadVar_row w g t ty cs fr d hg hu hd hi, Result.andThen]
theorem twice0_any (x : Int) (w : World) (h0 : 0 ≤ x) (h1 : x < 4611686018427387904) :
    Calls Try.prog 98 #[bigV 0 x, .int .u64 0] w fun e w' => e = .returned (bigV 0 (x * 2)) ∧ Below w.heap.size w w' :=
  (twice_any x 0 w h0 h1 (by omega)).mono fun e w' he => ⟨he.1.trans (by rw [Int.add_zero]), he.2⟩

set_option maxHeartbeats 4000000 in
theorem over_any (a b : Int) (w : World) (a0 : 0 ≤ a) (a1 : a < 4611686018427387904) (b0 : 1 ≤ b) (b1 : b < 1152921504606846976) :
    Calls Try.prog 97 #[bigV 0 a, .int .u64 b] w fun e w' => e = .returned (.tuple #[bigV 0 (a / b), .int .u64 (a % b)]) ∧ Below w.heap.size w w' := by
  go_enter Try.func97, Try.ntmps97
  go_wp2_with fail
  have hb0 : (b == 0) = false := by rw [beq_eq_false_iff_ne]; omega
  rw [hb0]
  have hz : ∀ n : Nat, a / 2 ^ 128 = 0 := fun _ => Int.ediv_eq_zero_of_lt a0 (by omega)
  go_loopw [8] (fun i wr => ∃ k : Nat, k ≤ 128 ∧ i = .int .i64 ((k : Int) - 1) ∧ OV w wr a (a / 2 ^ k / b) (a / 2 ^ k % b)) (fun i _ => (intOf i + 1).toNat)
  case atStart =>
    refine ⟨128, by omega, rfl, ?_⟩
    rw [hz 0, Int.zero_ediv, Int.zero_emod]
    exact ⟨row_alloc (row_alloc (row_alloc (heap_alloc_new w _) _) _) _, row_alloc (row_alloc (heap_alloc2_new w _ _) _) _, alloc4_third w _ _ _ _ _, alloc4_fourth w _ _ _ _ _, bel4 _ _ _ _ _⟩
  case round =>
    obtain ⟨k, hk, rfl, hov⟩ := hrel
    clear hz
    rcases Nat.eq_zero_or_pos k with hk0 | hk0
    · subst hk0
      rw [show a / 2 ^ 0 = a by simp] at hov
      have HOV := Lib.hid hov
      obtain ⟨⟨t0, t1⟩, -⟩ := row2 hov.Qr
      obtain ⟨⟨t2, t3⟩, -⟩ := row2 hov.R
      obtain ⟨⟨t4, t5⟩, f4, f5⟩ := row2 hov.O
      clear hov
      go_wp2_with fail
      go_region
      go_wp2_with fail
      exact bodyPost_ret (results_ct_row' rfl _ _ (w.heap.size + 1) 142 #[.int .u64 0, .int .u64 (a / b)] (0, 0) _ rfl (row_set2 HOV.out.O _ _) Try.underlying142 rfl (by kernel_rfl)) rfl ⟨rfl, ((HOV.out.bel.setCell (by show w.heap.size ≤ w.heap.size + 1; omega) _).setCell (by show w.heap.size ≤ w.heap.size + 1; omega) _).drew⟩
    · obtain ⟨j, rfl⟩ : ∃ j, k = j + 1 := ⟨k - 1, by omega⟩
      have ej : (((j + 1 : Nat) : Int) - 1) = j := by omega
      rw [ej]
      obtain ⟨t, ht⟩ : ∃ t, a / 2 ^ j % 2 = t := ⟨_, rfl⟩
      have htb := bit_bd a j
      have hps := pre_step a j
      have hpn := pre_nn a0 (j + 1)
      have HBIT := Lib.hid fun w' => bit_any a j w' a0 (by omega) (by omega)
      rw [ht] at htb hps HBIT
      obtain ⟨d1, d2⟩ := div_step b0 hps htb
      have q0 := Int.ediv_nonneg hpn.1 (show 0 ≤ b by omega)
      have q1 := Int.ediv_le_self b hpn.1
      have r0 := Int.emod_nonneg (a / 2 ^ (j + 1)) (show b ≠ 0 by omega)
      have r1 := Int.emod_lt_of_pos (a / 2 ^ (j + 1)) (show 0 < b by omega)
      obtain ⟨q, hq⟩ : ∃ q, a / 2 ^ (j + 1) / b = q := ⟨_, rfl⟩
      obtain ⟨r, hr⟩ : ∃ r, a / 2 ^ (j + 1) % b = r := ⟨_, rfl⟩
      have qb : q ≤ a := by omega
      rw [hq, hr] at d1 d2
      rw [hq] at q0 hov
      rw [hr] at r0 r1 hov
      have D1 := Lib.hid d1
      have D2 := Lib.hid d2
      have HOV := Lib.hid hov
      clear ej ht hps hpn d1 d2 q1 hq hr hov
      go_wp2_with fail
      refine re_start (n := 6) (S := fun w' => OV w w' a q r ∧ w'.cell? ⟨w.heap.size, 0, none⟩ = some (.int .u64 0) ∧ w'.cell? ⟨w.heap.size, 1, none⟩ = some (.int .u64 a) ∧ w'.cell? ⟨w.heap.size + 1 + 1 + 1, 0, none⟩ = some (.int .u64 0) ∧ w'.cell? ⟨w.heap.size + 1 + 1 + 1, 1, none⟩ = some (.int .u64 r) ∧ w'.frozen? ⟨w.heap.size + 1 + 1 + 1, 0, none⟩ = false ∧ w'.frozen? ⟨w.heap.size + 1 + 1 + 1, 1, none⟩ = false) 5 #[false, false, false, false, false, false] (by kernel_rfl) rfl rfl (OV.cellsR (HOV.out.below (Below.drew (Below.refl _ _)))) (fun hHeld => ?_)
      refine re_take (i := 0) (N := some 18) (v := ?vp0) (a' := ?ap0) #[true, false, false, false, false, false] rfl rfl (by kernel_rfl) (fun _ _ _ h => h) (Or.inl ⟨by rfl, ?yp0⟩) hHeld ?hp0 ?kp0
      case yp0 => (intro w' hSw; obtain ⟨sV, s0, s1, s2, s3, s4, s5⟩ := hSw; go_simp <;> with_reducible rfl)
      case hp0 => (simp only [Act.put, List.setIfInBounds_toArray, List.set_cons_zero, List.set_cons_succ]; rfl)
      refine re_take (i := 1) (N := some 19) (v := ?vp1) (a' := ?ap1) #[true, true, false, false, false, false] rfl rfl (by kernel_rfl) (fun _ _ _ h => h) (Or.inl ⟨by rfl, ?yp1⟩) hHeld ?hp1 ?kp1
      case yp1 => (intro w' hSw; obtain ⟨sV, s0, s1, s2, s3, s4, s5⟩ := hSw; go_simp <;> with_reducible rfl)
      case hp1 => (simp only [Act.put, List.setIfInBounds_toArray, List.set_cons_zero, List.set_cons_succ]; rfl)
      refine re_take (i := 2) (N := some 20) (v := ?vp2) (a' := ?ap2) #[true, true, true, false, false, false] rfl rfl (by kernel_rfl) (fun _ _ _ h => h) (Or.inl ⟨by rfl, ?yp2⟩) hHeld ?hp2 ?kp2
      case yp2 => (intro w' hSw; obtain ⟨sV, s0, s1, s2, s3, s4, s5⟩ := hSw; go_simp <;> with_reducible rfl)
      case hp2 => (simp only [Act.put, List.setIfInBounds_toArray, List.set_cons_zero, List.set_cons_succ]; rfl)
      refine re_one (i := 3) (N := some 21) #[true, true, true, true, false, false] rfl rfl (by kernel_rfl) (fun K hK => ?_)
      obtain ⟨sV, s0, s1, s2, s3, s4, s5⟩ := hHeld
      refine rg_call Try.func102 (by kernel_rfl) rfl #[bigV 0 a, .int .i64 j] (by rfl) rfl rfl (by simp only [List.map_toArray, List.map_cons, List.map_nil]; rfl) ?_
      with_reducible refine (HBIT.out _).mono ?_
      rintro e w1 ⟨rfl, hB⟩
      refine ⟨_, rfl, ?_⟩
      refine hK.out _ _ (OV.cellsR (sV.below hB)) (fun hHeld => ?_)
      clear hK K
      refine re_norm (a' := ?ap3) ?hp3 ?kp3
      case hp3 => (simp only [Act.put, List.setIfInBounds_toArray, List.set_cons_zero, List.set_cons_succ]; rfl)
      refine re_one (i := 4) (N := some 22) #[true, true, true, true, true, false] rfl rfl (by kernel_rfl) (fun K hK => ?_)
      obtain ⟨sV, s0, s1, s2, s3, s4, s5⟩ := hHeld
      refine rg_call Try.func98 (by kernel_rfl) rfl #[bigV 0 r, .int .u64 t] (by rfl) rfl rfl (by simp only [List.map_toArray, List.map_cons, List.map_nil]; rfl) ?_
      with_reducible refine (twice_any r t _ (by omega) (by omega) htb).mono ?_
      rintro e w1 ⟨rfl, hB⟩
      refine ⟨_, rfl, ?_⟩
      refine hK.out _ _ (OV.cellsR (sV.below hB)) (fun hHeld => ?_)
      clear hK K
      refine re_norm (a' := ?ap4) ?hp4 ?kp4
      case hp4 => (simp only [Act.put, List.setIfInBounds_toArray, List.set_cons_zero, List.set_cons_succ]; rfl)
      refine re_last (N := none) #[true, true, true, true, true, true] rfl rfl (by kernel_rfl) (fun K hK => ?_)
      obtain ⟨sV, s0, s1, s2, s3, s4, s5⟩ := hHeld
      refine re_store (w1 := ?wp5) (by rfl) rfl ?rp5 ?kp5
      case rp5 => (go_simp; rfl)
      refine hK.out _ _ ?_
      clear hK K
      clear s0 s1 s2 s3 s4 s5
      have hv2 := sV.setR (r * 2 + t)
      obtain ⟨w2, hw2⟩ : ∃ w2, (w1.setCell ⟨w.heap.size + 1 + 1 + 1, 0, none⟩ (.int .u64 0)).setCell ⟨w.heap.size + 1 + 1 + 1, 1, none⟩ (.int .u64 (r * 2 + t)) = w2 := ⟨_, rfl⟩
      rw [hw2] at hv2 ⊢
      clear hw2
      have HV2 := Lib.hid hv2
      obtain ⟨⟨t0, t1⟩, -⟩ := row2 hv2.Qr
      clear hv2
      go_wp2_with (first
        | (go_at_call 98; refine (twice0_any q _ q0 (by omega)).mono ?_; rintro e w3 ⟨rfl, hB⟩; have hv3 := HV2.out.below hB; have HV3 := Lib.hid hv3; obtain ⟨⟨t2, t3⟩, f2, f3⟩ := row2 hv3.Qr; obtain ⟨⟨t4, t5⟩, f4, f5⟩ := row2 hv3.R; clear hv3 hB t0 t1))
      have hv4 := HV3.out.setQ (q * 2)
      refine (less_any _ _ _).mono ?_
      rintro e w5 ⟨rfl, hB⟩
      have hv5 := hv4.below hB
      have HV5 := Lib.hid hv5
      clear hv4 hB t2 t3 t4 t5 f2 f3 f4 f5
      obtain ⟨⟨t2, t3⟩, f2, f3⟩ := row2 hv5.Qr
      obtain ⟨⟨t4, t5⟩, f4, f5⟩ := row2 hv5.R
      clear hv5
      by_cases hlt : r * 2 + t < b
      · have hd : decide (r * 2 + t < b) = true := decide_eq_true hlt
        go_wp2_with fail
        obtain ⟨d1, d2⟩ := D1.out hlt
        exact ⟨⟨j, by omega, rfl, by rw [d1, d2]; exact HV5.out⟩, by simp [intOf]⟩
      · have hd : decide (r * 2 + t < b) = false := decide_eq_false hlt
        go_wp2_with (go_at_call 103; refine (minus_any _ _ _ (by omega) (by omega) (by omega)).mono ?_; rintro e w6 ⟨rfl, hB⟩; have hv6 := HV5.out.below hB; have HV6 := Lib.hid hv6; clear hB t2 t3 t4 t5 f2 f3 f4 f5; obtain ⟨⟨t2, t3⟩, f2, f3⟩ := row2 hv6.Qr; obtain ⟨⟨t4, t5⟩, f4, f5⟩ := row2 hv6.R; clear hv6)
        obtain ⟨d1, d2⟩ := D2.out hlt
        exact ⟨⟨j, by omega, rfl, by rw [d1, d2]; exact (HV6.out.setR _).setQ1 _⟩, by simp [intOf]⟩
end Go.Proofs.Ytnpkkcbgfnnfmaa
