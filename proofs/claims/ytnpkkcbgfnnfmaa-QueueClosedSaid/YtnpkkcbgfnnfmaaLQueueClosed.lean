import Derived.Test.YtnpkkcbgfnnfmaaQc
import Derived.Test.YtnpkkcbgfnnfmaaLMath
/- The law QueueClosed: its walk. -/
namespace Go.Proofs.Ytnpkkcbgfnnfmaa
open Go.RowKit
set_option linter.unusedVariables false
set_option linter.unusedSimpArgs false
set_option maxRecDepth 100000

set_option maxHeartbeats 1000000 in
theorem queueClosed_walk (v0 : Value) (xs0 : List Int) (w : World) (rd : Rd w .i64 v0 xs0) (wf : ∀ x ∈ xs0, (Lit.int .i64 x).wf = true) (sz : xs0.length * 8 ≤ 140737488351232) :
    Calls Try.prog 6 #[v0] w fun e w' => e = .returned (.bool true) ∧ Below w.heap.size w w' := by
  have HR := Lib.hid rd
  obtain ⟨xo, cc, rfl, h1, h2, hx⟩ := rd.form
  unfold maxLen at h1
  obtain ⟨n, hn⟩ : ∃ n, xs0.length = n := ⟨_, rfl⟩
  rw [hn] at h2 HR sz ⊢
  have HN := Lib.hid hn
  clear rd wf hn hx
  by_cases h5 : 40 < n
  · go_enter Try.func6, Try.ntmps6
    go_wp2_with (first
      | (go_at_call 30; refine (lives18_any _).mono ?_; rintro e wl ⟨rfl, hBl⟩; have HBl := Lib.hid hBl; clear hBl))
    go_ret
    rename_i wx hbx _
    exact ⟨rfl, hbx.out.trans (HBl.out.mono hbx.out.size)⟩
  · have h5' : n ≤ 40 := by omega
    clear h5
    go_enter Try.func6, Try.ntmps6
    go_wp2_with (first
      | (go_at_call 30; refine (lives18_any _).mono ?_; rintro e wl ⟨rfl, hBl⟩; have HBl := Lib.hid hBl; clear hBl)
      | (go_at_call 31; refine (qnew_any 50 _).mono ?_; rintro e w1 ⟨g, rfl, hg, hq, hB1⟩; have HQ1 := Lib.hid hq; have HB1 := Lib.hid hB1; clear hq hB1))
    have hwl := HBl.out.size
    have hw1 := HB1.out.size
    obtain ⟨B, hB⟩ : ∃ B, wl.heap.size = B := ⟨_, rfl⟩
    rw [hB] at HQ1 hg hwl hw1
    have HB0 : Hid (Below w.heap.size w w1) := Lib.hid (HBl.out.trans (HB1.out.mono (by rw [hB]; exact hwl)))
    clear hB
    go_loopw [5, 23] (fun _ i wr => ∃ (k : Nat) (ob : Option Nat), k ≤ n ∧ i = .int .i64 k ∧ Qu wr B g ob 50 (xs0.take k) false ∧ Below w.heap.size w wr ∧ B ≤ wr.heap.size) (fun _ i _ => n - (intOf i).toNat)
    case atStart => exact ⟨0, none, by omega, rfl, HQ1.out, HB0.out, hw1⟩
    case round =>
      obtain ⟨k, ob, hk, rfl, hq, hB, hBw⟩ := hrel
      have HQ := Lib.hid hq
      have HB := Lib.hid hB
      clear hq hB
      by_cases hlt : k < n
      · have hkx : k < xs0.length := by have := HN.out; omega
        obtain ⟨x, rfl⟩ := HR.out.some_ (by omega)
        obtain ⟨u, HU, cu⟩ := (HR.out.below HB.out).get rfl hkx
        go_wp2_with (go_at_call 32; refine (qsend_ok HQ.out (by rw [List.length_take]; omega) (by omega) hBw _).mono ?_; rintro e w2 ⟨rfl, ob2, hq2, hk2, ho2⟩)
        refine ⟨⟨k + 1, ob2, by omega, by go_num, by rw [take_succ_getD hkx, HU.out]; exact hq2, Kept2.below HB.out hk2 HB.out.size (by omega) (fun q hq => by have := (HQ.out.ob_ge q hq).1; omega), Nat.le_trans hBw hk2.size⟩, by simp [intOf]; omega⟩
      · have hkn : k = n := by omega
        subst hkn
        have hq := HQ.out
        rw [List.take_of_length_le (by have := HN.out; omega)] at hq
        have HQX := Lib.hid hq
        clear hq
        go_wp2_with fail
        refine (qclose_any HQX.out).mono ?_
        rintro e w2 ⟨rfl, hq2, hk2⟩
        have HQ2 := Lib.hid hq2
        have HB2 := Lib.hid (Kept2.below HB.out hk2 HB.out.size (by omega) (fun q hq => by have := (HQX.out.ob_ge q hq).1; omega))
        have hBw2 := Nat.le_trans hBw hk2.size
        clear hq2 hk2
        go_wp2_with fail
        refine (qclose_any HQ2.out).mono ?_
        rintro e w3 ⟨rfl, hq3, hk3⟩
        have HQ3 := Lib.hid hq3
        have HB3 := Lib.hid (Kept2.below HB2.out hk3 HB2.out.size (by omega) (fun q hq => by have := (HQ2.out.ob_ge q hq).1; omega))
        have hBw3 := Nat.le_trans hBw2 hk3.size
        clear hq3 hk3
        go_wp2_with fail
        refine (qsend_closed HQ3.out _).mono ?_
        rintro e w4 ⟨rfl, rfl⟩
        go_wp2_with fail
        refine (qcanSend_any HQ3.out).mono ?_
        rw [Bool.true_or]
        rintro e w4 ⟨rfl, m, rfl⟩
        go_wp2_with fail
        refine (qcanReceive_any (w := w3.drewN m) HQ3.out).mono ?_
        rw [Bool.true_or]
        rintro e w4 ⟨rfl, m', rfl⟩
        go_wp2_with fail
        refine (qlist_any (w := w3.drewN (m + m')) HQ3.out (by have := HN.out; omega)).mono ?_
        rintro e w4 ⟨x4, c4, rfl, ho4, hB4⟩
        have HO4 := Lib.hid ho4
        have HQ4 := Lib.hid (Qu.below (w := w3.drewN (m + m')) HQ3.out hB4)
        have HB4 := Lib.hid ((HB3.out.trans (Below.drewN (B := w.heap.size) (w := w3) (m + m'))).trans (hB4.mono HB3.out.size))
        have hBw4 := Nat.le_trans hBw3 hB4.size
        clear ho4 hB4
        go_wp2_with fail
        refine (sameInt_any _ _ _ _ _ HO4.out.rd (HR.out.below HB4.out)).mono ?_
        rw [decide_eq_true rfl]
        rintro e w5 ⟨rfl, m5, rfl⟩
        go_wp2_with fail
        have HB5 := Lib.hid (HB4.out.trans (Below.drewN m5))
        have HQ5 : Hid (Qu (w4.drewN m5) B g ob 50 xs0 true) := Lib.hid HQ4.out
        obtain ⟨wd, hwd⟩ : ∃ wd, w4.drewN m5 = wd := ⟨_, rfl⟩
        have hBw5 : B ≤ (w4.drewN m5).heap.size := hBw4
        rw [hwd] at HB5 HQ5 hBw5 ⊢
        clear hwd
        go_loopw [7, 8, 9, 62, 66] (fun _ _ _ i _ wr => ∃ (j : Nat), j ≤ k ∧ i = .int .i64 j ∧ Qu wr B g ob 50 (xs0.drop j) true ∧ Below w.heap.size w wr ∧ B ≤ wr.heap.size) (fun _ _ _ i _ _ => k - (intOf i).toNat)
        case atStart => exact ⟨0, by omega, rfl, HQ5.out, HB5.out, hBw5⟩
        case round =>
          obtain ⟨j, hj, rfl, hq, hB, hBw⟩ := hrel
          have HQ := Lib.hid hq
          have HB := Lib.hid hB
          clear hq hB
          by_cases hlt : j < k
          · have hkx : j < xs0.length := by have := HN.out; omega
            obtain ⟨x, rfl⟩ := HR.out.some_ (by omega)
            obtain ⟨u, HU, cu⟩ := (HR.out.below HB.out).get rfl hkx
            have hq := HQ.out
            rw [drop_getD hkx, HU.out] at hq
            have HQX := Lib.hid hq
            clear hq
            go_wp2_with (go_at_call 34; refine (qrecv_some HQX.out).mono ?_; rintro e w2 ⟨rfl, hq2, hk2⟩)
            refine ⟨⟨j + 1, by omega, by go_num, hq2, Kept2.below HB.out hk2 HB.out.size (by omega) (fun q hq => by have := (HQ.out.ob_ge q hq).1; omega), Nat.le_trans hBw hk2.size⟩, by simp [intOf]; omega⟩
          · have hq := HQ.out
            rw [List.drop_of_length_le (by have := HN.out; omega)] at hq
            have HQX := Lib.hid hq
            clear hq
            go_wp2_with fail
            go_loop [10, 11, 79, 81] (fun _ _ i _ => ∃ (j : Nat), j ≤ 3 ∧ i = .int .i64 j) (fun _ _ i _ => 3 - (intOf i).toNat)
            case atStart => exact ⟨0, by omega, rfl⟩
            case round =>
              obtain ⟨j, hj, rfl⟩ := hrel
              by_cases hlt : j < 3
              · go_wp2_with (go_at_call 34; refine (qrecv_none HQX.out).mono ?_; rw [if_pos rfl]; rintro e w2 ⟨rfl, rfl⟩)
                refine ⟨⟨j + 1, by omega, by go_num⟩, by simp [intOf]; omega⟩
              · go_wp2_with (first
                  | (go_at_call 37; refine (qlen_any HQX.out).mono ?_; rintro e w2 ⟨rfl, rfl⟩)
                  | (go_at_call 41; refine (qclosed_any HQX.out).mono ?_; rintro e w2 ⟨rfl, rfl⟩))
                go_ret
                exact ⟨ret_bool (by simp), HB.out⟩
end Go.Proofs.Ytnpkkcbgfnnfmaa
