import Derived.Test.YtnpkkcbgfnnfmaaQc
import Derived.Test.YtnpkkcbgfnnfmaaLMath
/- The law QueueFull: its walk. -/
namespace Go.Proofs.Ytnpkkcbgfnnfmaa
open Go.RowKit
set_option linter.unusedVariables false
set_option linter.unusedSimpArgs false
set_option maxRecDepth 100000

set_option maxHeartbeats 1000000 in
theorem queueFull_walk (a0 a1 : Int) (w : World) (w0 : (Lit.int .u8 a0).wf = true) (w1 : (Lit.int .u8 a1).wf = true) :
    Calls Try.prog 5 #[.int .u8 a0, .int .u8 a1] w fun e w' => e = .returned (.bool true) ∧ Below w.heap.size w w' := by
  obtain ⟨p1, p2⟩ := of_wf_u8 w0
  obtain ⟨q1, q2⟩ := of_wf_u8 w1
  clear w0 w1
  go_enter Try.func5, Try.ntmps5
  go_wp2_with (first
    | (go_at_call 30; refine (lives18_any _).mono ?_; rintro e wl ⟨rfl, hBl⟩; have HBl := Lib.hid hBl; clear hBl)
    | (go_at_call 31; refine (qnew_any _ _).mono ?_; rintro e w1 ⟨g, rfl, hg, hq, hB1⟩; have HQ1 := Lib.hid hq; have HB1 := Lib.hid hB1; clear hq hB1))
  obtain ⟨k, hk⟩ : ∃ k : Nat, 1 + a0 % 40 = (k : Int) := ⟨(1 + a0 % 40).toNat, by omega⟩
  obtain ⟨m, hm⟩ : ∃ m : Nat, a1 % 40 = (m : Int) := ⟨(a1 % 40).toNat, by omega⟩
  have k1 : 1 ≤ k := by omega
  have k2 : k ≤ 40 := by omega
  have m2 : m ≤ 39 := by omega
  have hroom : roomQ (1 + a0 % 40) = (k : Int) := by unfold roomQ; rw [if_neg (by omega), if_neg (by omega)]; exact hk
  rw [hroom] at HQ1
  rw [hk]
  have HM := Lib.hid hm
  clear hroom hk hm
  have hwl := HBl.out.size
  have hw1 := HB1.out.size
  obtain ⟨B, hB⟩ : ∃ B, wl.heap.size = B := ⟨_, rfl⟩
  rw [hB] at HQ1 hg hwl hw1
  have HB0 : Hid (Below w.heap.size w w1) := Lib.hid (HBl.out.trans (HB1.out.mono (by rw [hB]; exact hwl)))
  clear hB
  go_loopw [7, 20] (fun _ i wr => ∃ (j : Nat) (ob : Option Nat), j ≤ k ∧ i = .int .i64 j ∧ Qu wr B g ob k (seqI 0 j) false ∧ Below w.heap.size w wr ∧ B ≤ wr.heap.size) (fun _ i _ => k - (intOf i).toNat)
  case atStart => exact ⟨0, none, by omega, rfl, HQ1.out, HB0.out, hw1⟩
  case round =>
    obtain ⟨j, ob, hj, rfl, hq, hB, hBw⟩ := hrel
    have HQ := Lib.hid hq
    have HB := Lib.hid hB
    clear hq hB
    by_cases hlt : j < k
    · have hcs : (false || decide (((seqI 0 j).length : Int) < (k : Int))) = true := by rw [seqI_len]; simp; omega
      have HCS := Lib.hid hcs
      clear hcs
      go_wp2_with fail
      refine (qcanSend_any HQ.out).mono ?_
      rw [HCS.out]
      rintro e w2 ⟨rfl, q, rfl⟩
      go_wp2_with fail
      refine (qsend_ok (w := wr.drewN q) HQ.out (by rw [seqI_len]; omega) (by omega) hBw _).mono ?_
      rintro e w3 ⟨rfl, ob2, hq2, hk2, ho2⟩
      go_wp2
      refine ⟨⟨j + 1, ob2, by omega, by go_num, by rw [seqI_snoc, Nat.zero_add]; exact hq2, Kept2.below (HB.out.trans (Below.drewN q)) hk2 HB.out.size (by omega) (fun p hp => by have := (HQ.out.ob_ge p hp).1; omega), Nat.le_trans hBw hk2.size⟩, by simp [intOf]; omega⟩
    · have hjk : k = j := by omega
      subst hjk
      have hq := HQ.out
      have HQX := Lib.hid hq
      clear hq
      go_wp2_with fail
      rw [HM.out]
      go_loopw [8, 9, 10, 36, 52] (fun _ _ _ i _ wr => ∃ (j : Nat) (ob : Option Nat), j ≤ m ∧ i = .int .i64 j ∧ Qu wr B g ob k (seqI j k) false ∧ Below w.heap.size w wr ∧ B ≤ wr.heap.size) (fun _ _ _ i _ _ => m - (intOf i).toNat)
      case atStart => exact ⟨0, ob, by omega, rfl, HQX.out, HB.out, hBw⟩
      case round =>
        obtain ⟨j2, ob', hj2, rfl, hq, hB, hBw2⟩ := hrel
        have HQ2 := Lib.hid hq
        have HB2 := Lib.hid hB
        clear hq hB
        by_cases hlt2 : j2 < m
        · have hcs : (false || decide (((seqI j2 k).length : Int) < (k : Int))) = false := by rw [seqI_len]; simp
          have HCS := Lib.hid hcs
          clear hcs
          go_wp2_with fail
          refine (qcanSend_any HQ2.out).mono ?_
          rw [HCS.out]
          rintro e w2 ⟨rfl, q, rfl⟩
          go_wp2_with fail
          refine (qsend_full (w := wr.drewN q) HQ2.out (by rw [seqI_len]; omega) _).mono ?_
          rintro e w3 ⟨rfl, q2, rfl⟩
          go_wp2_with fail
          refine (qlen_any (w := wr.drewN (q + q2)) HQ2.out).mono ?_
          rw [seqI_len]
          rintro e w3 ⟨rfl, rfl⟩
          go_wp2_with fail
          have hq := HQ2.out
          obtain ⟨k', hk'⟩ : ∃ k', k = k' + 1 := ⟨k - 1, by omega⟩
          rw [show seqI j2 k = (j2 : Int) :: seqI (j2 + 1) k' by rw [hk', seqI_cons]] at hq
          refine (qrecv_some (w := wr.drewN (q + q2)) hq).mono ?_
          rintro e w4 ⟨rfl, hq4, hk4⟩
          have HQ4 := Lib.hid hq4
          have HB4 := Lib.hid (Kept2.below (HB2.out.trans (Below.drewN (q + q2))) hk4 HB2.out.size (by omega) (fun p hp => by have := (HQ2.out.ob_ge p hp).1; omega))
          have hBw4 := Nat.le_trans hBw2 hk4.size
          have HK' := Lib.hid hk'
          clear hq4 hk4 hq hk'
          go_wp2_with fail
          refine (qsend_ok HQ4.out (by rw [seqI_len]; have := HK'.out; omega) (by omega) hBw4 _).mono ?_
          rintro e w5 ⟨rfl, ob5, hq5, hk5, ho5⟩
          go_wp2
          refine ⟨⟨j2 + 1, ob5, by omega, by go_num, ?_, Kept2.below HB4.out hk5 HB4.out.size (by omega) (fun p hp => by have := (HQ4.out.ob_ge p hp).1; omega), Nat.le_trans hBw4 hk5.size⟩, by simp [intOf]; omega⟩
          have e1 : seqI (j2 + 1) k = seqI (j2 + 1) k' ++ [(k : Int) + (j2 : Int)] := by
            have e2 := HK'.out
            rw [e2, seqI_snoc]
            congr 2
            push_cast
            omega
          rw [e1]
          exact hq5
        · go_wp2_with (first
            | (go_at_call 37; refine (qlen_any HQ2.out).mono ?_; rw [seqI_len]; rintro e w2 ⟨rfl, rfl⟩)
            | (go_at_call 33; refine (qroom_any HQ2.out).mono ?_; rintro e w2 ⟨rfl, rfl⟩)
            | (go_at_call 38; refine (qcanReceive_any HQ2.out).mono ?_; rw [seqI_len]; rintro e w2 ⟨rfl, q, rfl⟩))
          go_ret
          exact ⟨ret_bool (by simp; omega), HB2.out.trans (Below.drewN q)⟩
end Go.Proofs.Ytnpkkcbgfnnfmaa
