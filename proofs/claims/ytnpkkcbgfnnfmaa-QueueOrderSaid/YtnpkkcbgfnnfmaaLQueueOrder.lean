import Derived.Test.YtnpkkcbgfnnfmaaQc
import Derived.Test.YtnpkkcbgfnnfmaaLMath
import Derived.Test.YtnpkkcbgfnnfmaaBools
/- The law QueueOrder: its walk. -/
namespace Go.Proofs.Ytnpkkcbgfnnfmaa
open Go.RowKit
set_option linter.unusedVariables false
set_option linter.unusedSimpArgs false
set_option maxRecDepth 100000

set_option maxHeartbeats 1000000 in
theorem queueOrder_walk (a0 : Int) (v1 : Value) (bs1 : List Bool) (w : World) (w0 : (Lit.int .u8 a0).wf = true) (rd : RdB w v1 bs1) :
    Calls Try.prog 4 #[.int .u8 a0, v1] w fun e w' => e = .returned (.bool true) ∧ Below w.heap.size w w' := by
  obtain ⟨p1, p2⟩ := of_wf_u8 w0
  have HR := Lib.hid rd
  obtain ⟨xo, cc, rfl, h1, h2, hx⟩ := rd.form
  unfold maxLen at h1
  obtain ⟨n, hn⟩ : ∃ n, bs1.length = n := ⟨_, rfl⟩
  rw [hn] at h2 HR ⊢
  have HN := Lib.hid hn
  have HX := Lib.hid hx
  clear w0 rd hn hx
  by_cases h5 : 200 < n
  · go_enter Try.func4, Try.ntmps4
    go_wp2_with (first
      | (go_at_call 30; refine (lives18_any _).mono ?_; rintro e wl ⟨rfl, hBl⟩; have HBl := Lib.hid hBl; clear hBl))
    go_ret
    rename_i wx hbx _
    exact ⟨rfl, hbx.out.trans (HBl.out.mono hbx.out.size)⟩
  · have h5' : n ≤ 200 := by omega
    clear h5
    obtain ⟨k, hk⟩ : ∃ k : Nat, 1 + a0 % 9 = (k : Int) := ⟨(1 + a0 % 9).toNat, by omega⟩
    have k1 : 1 ≤ k := by omega
    have k2 : k ≤ 9 := by omega
    have HROOM : Hid (roomQ (1 + a0 % 9) = (k : Int)) := Lib.hid (by unfold roomQ; rw [if_neg (by omega), if_neg (by omega)]; exact hk)
    clear hk
    go_enter Try.func4, Try.ntmps4
    go_wp2_with (first
      | (go_at_call 30; refine (lives18_any _).mono ?_; rintro e wl ⟨rfl, hBl⟩; have HBl := Lib.hid hBl; clear hBl)
      | (go_at_call 31; refine (qnew_any _ _).mono ?_; rw [HROOM.out]; rintro e w1 ⟨g, rfl, hg, hq, hB1⟩; have HQ1 := Lib.hid hq; have HB1 := Lib.hid hB1; clear hq hB1))
    have hwl := HBl.out.size
    have hw1 := HB1.out.size
    obtain ⟨B, hB⟩ : ∃ B, wl.heap.size = B := ⟨_, rfl⟩
    rw [hB] at HQ1 hg hwl hw1
    have HB0 : Hid (Below w.heap.size w w1) := Lib.hid (HBl.out.trans (HB1.out.mono (by rw [hB]; exact hwl)))
    clear hB
    go_loopw [6, 7, 32] (fun s t i wr => ∃ (j a b : Nat) (ob : Option Nat), j ≤ n ∧ i = .int .i64 j ∧ s = .int .i64 (a + b : Nat) ∧ t = .int .i64 a ∧ a + b ≤ j ∧ b ≤ k ∧ Qu wr B g ob k (seqI a b) false ∧ Below w.heap.size w wr ∧ B ≤ wr.heap.size) (fun _ _ i _ => n - (intOf i).toNat)
    case atStart => exact ⟨0, 0, 0, none, by omega, rfl, rfl, rfl, by omega, by omega, HQ1.out, HB0.out, hw1⟩
    case round =>
      obtain ⟨j, a, b, ob, hj, rfl, rfl, rfl, hab, hbk, hq, hB, hBw⟩ := hrel
      have HQ := Lib.hid hq
      have HB := Lib.hid hB
      clear hq hB
      by_cases hlt : j < n
      · have hkx : j < bs1.length := by have := HN.out; omega
        cases xo with
        | none => have := HX.out rfl; rw [this] at hkx; simp at hkx
        | some x =>
        obtain ⟨u, HU, cu⟩ := (HR.out.below HB.out).get rfl hkx
        clear HU
        cases u with
        | true =>
          by_cases hfull : b < k
          · have hsub : (a : Int) + (b : Int) - (a : Int) = (b : Int) := by omega
            have hfi : (b : Int) < (k : Int) := by omega
            go_wp2_with (first
              | (go_at_call 32; refine (qsend_ok HQ.out (by rw [seqI_len]; omega) (by omega) hBw _).mono ?_; rintro e w3 ⟨rfl, ob2, hq2, hk2, ho2⟩; have HQ3 := Lib.hid hq2; have HB3 := Lib.hid (Kept2.below HB.out hk2 HB.out.size (by omega) (fun p hp => by have := (HQ.out.ob_ge p hp).1; omega)); have hBw3 := Nat.le_trans hBw hk2.size; clear hq2 hk2 ho2)
              | (go_at_call 33; refine (qroom_any HQ3.out).mono ?_; rintro e w2 ⟨rfl, rfl⟩))
            refine ⟨⟨j + 1, a, b + 1, ob2, by omega, by go_num, by go_num, rfl, by omega, by omega, by rw [seqI_snoc]; push_cast; exact HQ3.out, HB3.out, hBw3⟩, by simp [intOf]; omega⟩
          · have hsub : (a : Int) + (b : Int) - (a : Int) = (b : Int) := by omega
            have hfi : ¬ (b : Int) < (k : Int) := by omega
            go_wp2_with (first
              | (go_at_call 32; refine (qsend_full HQ.out (by rw [seqI_len]; omega) _).mono ?_; rintro e w3 ⟨rfl, m, rfl⟩)
              | (go_at_call 33; refine (qroom_any (w := wr.drewN m) HQ.out).mono ?_; rintro e w2 ⟨rfl, rfl⟩))
            refine ⟨⟨j + 1, a, b, ob, by omega, by go_num, by go_num, rfl, by omega, by omega, HQ.out, HB.out.trans (Below.drewN m), hBw⟩, by simp [intOf]; omega⟩
        | false =>
          rcases Nat.eq_zero_or_pos b with hb0 | hb0
          · subst hb0
            have hlt0 : ¬ (a : Int) < (a : Int) + ((0 : Nat) : Int) := by omega
            have hq := HQ.out
            rw [seqI_zero] at hq
            have HQX := Lib.hid hq
            clear hq
            go_wp2_with (go_at_call 34; refine (qrecv_none HQX.out).mono ?_; rw [if_neg (by decide)]; rintro e w2 ⟨rfl, rfl⟩)
            refine ⟨⟨j + 1, a, 0, ob, by omega, by go_num, by go_num, rfl, by omega, by omega, HQ.out, HB.out, hBw⟩, by simp [intOf]; omega⟩
          · obtain ⟨b', hb'⟩ : ∃ b', b = b' + 1 := ⟨b - 1, by omega⟩
            subst hb'
            have hlt0 : (a : Int) < (a : Int) + ((b' + 1 : Nat) : Int) := by omega
            have hq := HQ.out
            rw [seqI_cons] at hq
            have HQX := Lib.hid hq
            clear hq
            go_wp2_with (go_at_call 34; refine (qrecv_some HQX.out).mono ?_; rintro e w3 ⟨rfl, hq2, hk2⟩; have HQ3 := Lib.hid hq2; have HB3 := Lib.hid (Kept2.below HB.out hk2 HB.out.size (by omega) (fun p hp => by have := (HQ.out.ob_ge p hp).1; omega)); have hBw3 := Nat.le_trans hBw hk2.size; clear hq2 hk2)
            refine ⟨⟨j + 1, a + 1, b', ob, by omega, by go_num, by go_num, by go_num, by omega, by omega, HQ3.out, HB3.out, hBw3⟩, by simp [intOf]; omega⟩
      · go_wp2_with fail
        refine (qclose_any HQ.out).mono ?_
        rintro e w2 ⟨rfl, hq2, hk2⟩
        have HQ2 := Lib.hid hq2
        have HB2 := Lib.hid (Kept2.below HB.out hk2 HB.out.size (by omega) (fun q hq => by have := (HQ.out.ob_ge q hq).1; omega))
        have hBw2 := Nat.le_trans hBw hk2.size
        clear hq2 hk2
        go_wp2_with fail
        go_loopw [7] (fun t wr => ∃ (c d : Nat), t = .int .i64 c ∧ c + d = a + b ∧ Qu wr B g ob k (seqI c d) true ∧ Below w.heap.size w wr ∧ B ≤ wr.heap.size) (fun t _ => a + b - (intOf t).toNat)
        case atStart => exact ⟨a, b, rfl, rfl, HQ2.out, HB2.out, hBw2⟩
        case round =>
          obtain ⟨c, d, rfl, hcd, hq, hB, hBw3⟩ := hrel
          have HQ3 := Lib.hid hq
          have HB3 := Lib.hid hB
          clear hq hB
          rcases Nat.eq_zero_or_pos d with hd0 | hd0
          · have hlt0 : ¬ (c : Int) < (a : Int) + (b : Int) := by omega
            have hq := HQ3.out
            subst hd0
            rw [seqI_zero] at hq
            have HQX := Lib.hid hq
            clear hq
            go_wp2_with (first
              | (go_at_call 34; refine (qrecv_none HQX.out).mono ?_; rw [if_pos rfl]; rintro e w4 ⟨rfl, rfl⟩)
              | (go_at_call 32; refine (qsend_closed HQX.out _).mono ?_; rintro e w5 ⟨rfl, rfl⟩))
            go_ret
            exact ⟨rfl, HB3.out⟩
          · obtain ⟨d', hd'⟩ : ∃ d', d = d' + 1 := ⟨d - 1, by omega⟩
            subst hd'
            have hlt0 : (c : Int) < (a : Int) + (b : Int) := by omega
            have hq := HQ3.out
            rw [seqI_cons] at hq
            have HQX := Lib.hid hq
            clear hq
            go_wp2_with (go_at_call 34; refine (qrecv_some HQX.out).mono ?_; rintro e w4 ⟨rfl, hq4, hk4⟩; have HQ4 := Lib.hid hq4; have HB4 := Lib.hid (Kept2.below HB3.out hk4 HB3.out.size (by omega) (fun p hp => by have := (HQ3.out.ob_ge p hp).1; omega)); have hBw4 := Nat.le_trans hBw3 hk4.size; clear hq4 hk4)
            refine ⟨⟨c + 1, d', by go_num, by omega, HQ4.out, HB4.out, hBw4⟩, by simp [intOf]; omega⟩
end Go.Proofs.Ytnpkkcbgfnnfmaa
