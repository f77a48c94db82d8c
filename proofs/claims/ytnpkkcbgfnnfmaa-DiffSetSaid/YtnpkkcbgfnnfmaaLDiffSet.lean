import Derived.Test.YtnpkkcbgfnnfmaaDe
import Derived.Test.YtnpkkcbgfnnfmaaDSMath
import Derived.Deep.QuietTactic
import Derived.BigQuiet
/- The law DiffSet: its walk. -/
namespace Go.Proofs.Ytnpkkcbgfnnfmaa
open Go.RowKit
set_option linter.unusedVariables false
set_option linter.unusedSimpArgs false
set_option maxRecDepth 100000

theorem place_in3 {X Y K : Int} {p q r : Int} (hp : 0 ≤ p ∧ p < X) (hq : 0 ≤ q ∧ q < Y) (hr : 0 ≤ r ∧ r < K) : inB X Y K p q r = true := by
  unfold inB
  rw [decide_eq_true_eq]
  omega

/-- what a set place makes of the difference -/
theorem dSet {X Y K T p q r u to : Int} {xs : List Int} (hs : Small X Y K T xs) (hp : 0 ≤ p ∧ p < X) (hq : 0 ≤ q ∧ q < Y) (hr : 0 ≤ r ∧ r < K) (hu : xs.getD (placeI X K p q r).toNat 0 = u) :
    dTo X K xs (xs.set (placeI X K p q r).toNat to) xs.length = DD.zero.step (absd u to) p q r := by
  have hin := place_in3 hp hq hr
  have hb := hs.bd
  have hpb := place_bd hs.code hin
  have hl := hs.len
  obtain ⟨Xn, rfl⟩ : ∃ n : Nat, X = n := ⟨X.toNat, by omega⟩
  obtain ⟨Kn, rfl⟩ : ∃ n : Nat, K = n := ⟨K.toNat, by omega⟩
  obtain ⟨pn, rfl⟩ : ∃ n : Nat, p = n := ⟨p.toNat, by omega⟩
  obtain ⟨qn, rfl⟩ : ∃ n : Nat, q = n := ⟨q.toNat, by omega⟩
  obtain ⟨rn, rfl⟩ : ∃ n : Nat, r = n := ⟨r.toNat, by omega⟩
  have e := place_nat Xn Kn pn qn rn
  have hj : (placeI Xn Kn pn qn rn).toNat < xs.length := by
    unfold placeI
    omega
  rw [← hu]
  exact dTo_set_at (by omega) (by omega) xs e.symm hj to

set_option maxHeartbeats 4000000 in
theorem diffSet_walk (a0 b0 c0 e0 : Int) (l0 : Value) (xs0 : List Int) (a1 a2 a3 a4 : Int) (w : World)
    (wa0 : (Lit.int .u16 a0).wf = true) (wb0 : (Lit.int .u16 b0).wf = true) (wc0 : (Lit.int .u16 c0).wf = true) (we0 : (Lit.int .u16 e0).wf = true) (rd0 : Rd w .u16 l0 xs0) (wf0 : ∀ x ∈ xs0, (Lit.int .u16 x).wf = true) (sz0 : xs0.length * 2 ≤ 140737488351232)
    (w1 : (Lit.int .u8 a1).wf = true) (w2 : (Lit.int .u8 a2).wf = true) (w3 : (Lit.int .u8 a3).wf = true) (w4 : (Lit.int .u16 a4).wf = true) :
    Calls Try.prog 16 #[picV a0 b0 c0 e0 l0, .int .u8 a1, .int .u8 a2, .int .u8 a3, .int .u16 a4] w fun e w' => e = .returned (.bool true) ∧ Below w.heap.size w w' := by
  have HDA := Lib.hid fun w' h => picdraw_any a0 b0 c0 e0 l0 xs0 w' (of_wf_u16 wa0) (of_wf_u16 wb0) (of_wf_u16 wc0) (of_wf_u16 we0) h (fun x hx => of_wf_u16 (wf0 x hx)) sz0
  have HR0 := Lib.hid rd0
  obtain ⟨x0, k0, rfl, -⟩ := rd0.form
  obtain ⟨p1, p2⟩ := of_wf_u8 w1
  obtain ⟨q1, q2⟩ := of_wf_u8 w2
  obtain ⟨r1, r2⟩ := of_wf_u8 w3
  obtain ⟨v1, v2⟩ := of_wf_u16 w4
  clear rd0 wf0 wa0 wb0 wc0 we0 sz0 w1 w2 w3 w4
  go_enter Try.func16, Try.ntmps16
  go_wp2_with fail
  refine (lives27_any _).mono ?_
  rintro e wl ⟨rfl, hBl⟩
  obtain ⟨t0, t1, t2, t3, t4⟩ := box5 hBl
  have HBl := Lib.hid (((Below.refl w.heap.size w).alloc (Nat.le_refl _) _).trans (hBl.mono (by simp)))
  clear hBl
  go_wp2_with fail
  refine (HDA.out _ (HR0.out.below HBl.out)).mono ?_
  rintro e w5 ⟨g, r, X, Y, K, T, xs, rfl, hg, hr, hi, hs, -, hB⟩
  have HIA := Lib.hid hi
  have HSA := Lib.hid hs
  have HB5 := Lib.hid (HBl.out.trans (hB.mono HBl.out.size))
  obtain ⟨s1, s2, hK, s3, s4, s5, s6, s7, s8, s9, s10⟩ := hs.bd
  have hK1 : 1 ≤ K := by omega
  have hK3 : K ≤ 3 := by omega
  have hX20 := hs.lx
  have hY20 := hs.ly
  have hne : xs ≠ [] := hs.ne
  have HCP := Lib.hid (copy_any hi hne (by omega))
  have P1 := Int.emod_nonneg a1 (show X ≠ 0 by omega)
  have P2 := Int.emod_lt_of_pos a1 (show 0 < X by omega)
  have Q1 := Int.emod_nonneg a2 (show Y ≠ 0 by omega)
  have Q2 := Int.emod_lt_of_pos a2 (show 0 < Y by omega)
  have R1 := Int.emod_nonneg a3 (show K ≠ 0 by omega)
  have R2 := Int.emod_lt_of_pos a3 (show 0 < K by omega)
  have V1 := Int.emod_nonneg a4 (show T + 1 ≠ 0 by omega)
  have V2 := Int.emod_lt_of_pos a4 (show 0 < T + 1 by omega)
  have X0 : ¬ X = 0 := by omega
  have Y0 : ¬ Y = 0 := by omega
  have K0 : ¬ K = 0 := by omega
  have T0 : ¬ T + 1 = 0 := by omega
  clear hg hr hi hs hB t0 t1 t2 t3 t4 hK s5 s6 s7 s8 hne
  go_wp2_with fail
  refine HCP.out.mono ?_
  rintro e w6 ⟨g', r', rfl, hg', hr', hi', hB⟩
  have HIA6 := Lib.hid (HIA.out.below hB)
  have HIB6 := Lib.hid hi'
  have HB6 := Lib.hid (HB5.out.trans (hB.mono HB5.out.size))
  have hgl := HIA.out.lt_g
  have hrl := HIA.out.lt_b
  have hz56 := hB.size
  clear hB hi'
  go_wp2_with fail
  go_quiet (first | (go_at_call 26; exact Calls.quiet_of_same (width_same (HIA6.out.drewN _))) | (go_at_call 27; exact Calls.quiet_of_same (height_same (HIA6.out.drewN _))) | (go_at_call 28; exact Calls.quiet_of_same (chan_same (HIA6.out.drewN _))))
  obtain ⟨P, hP⟩ : ∃ P, a1 % X = P := ⟨_, rfl⟩
  obtain ⟨Q, hQ⟩ : ∃ Q, a2 % Y = Q := ⟨_, rfl⟩
  obtain ⟨R, hR⟩ : ∃ R, a3 % K = R := ⟨_, rfl⟩
  obtain ⟨V, hV⟩ : ∃ V, a4 % (T + 1) = V := ⟨_, rfl⟩
  rw [hP] at P1 P2 ⊢
  rw [hQ] at Q1 Q2 ⊢
  rw [hR] at R1 R2 ⊢
  rw [hV] at V1 V2
  obtain ⟨w7, hw7⟩ : ∃ w7, w6.drewN nq = w7 := ⟨_, rfl⟩
  have HIA7 : Hid (ImgR w7 g r X Y K T xs) := Lib.hid (by rw [← hw7]; exact HIA6.out.drewN nq)
  have HIB7 : Hid (ImgR w7 g' r' X Y K T xs) := Lib.hid (by rw [← hw7]; exact HIB6.out.drewN nq)
  have HB7 : Hid (Below w.heap.size w w7) := Lib.hid (by rw [← hw7]; exact HB6.out.trans (Below.drewN nq))
  rw [hw7]
  have HIN := Lib.hid (place_in3 ⟨P1, P2⟩ ⟨Q1, Q2⟩ ⟨R1, R2⟩)
  obtain ⟨u, hu⟩ : ∃ u, xs.getD (placeI X K P Q R).toNat 0 = u := ⟨_, rfl⟩
  have hub := (show U16 xs from HSA.out.u16).getD (placeI X K P Q R).toNat
  rw [hu] at hub
  obtain ⟨u0, u1⟩ := hub
  have HAT := Lib.hid (at_in HIA7.out HSA.out.code HSA.out.len P Q R HIN.out)
  rw [hu] at HAT
  have HDS := Lib.hid (dSet (to := V) HSA.out ⟨P1, P2⟩ ⟨Q1, Q2⟩ ⟨R1, R2⟩ hu)
  have HMO := Lib.hid fun m => most_any (HIA7.out.drewN m)
  have HST := Lib.hid fun m => set_ok (HIB7.out.drewN m) HSA.out.code HSA.out.len P Q R V V1 (by omega) HIN.out
  have HSB := Lib.hid (HSA.out.set (placeI X K P Q R).toNat V1 (by omega))
  have hVV : Hid (a4 % (T + 1) = V) := Lib.hid hV
  have hlen : xs.length ≤ 1200 := s10
  clear hP hQ hR hw7 hu HIA6 HIB6 HB6 hV s9 s10
  have Va : 0 ≤ a4 % (T + 1) := by rw [hVV.out]; exact V1
  have Vb : a4 % (T + 1) ≤ 65535 := by rw [hVV.out]; omega
  go_wp2_with fail
  refine HAT.out.mono ?_
  rintro e w8 ⟨rfl, m, rfl⟩
  go_wp2_with fail
  refine (HMO.out m).mono ?_
  rintro e w8 ⟨rfl, rfl⟩
  go_wp2_with fail
  rw [hVV.out]
  refine (HST.out m).mono ?_
  rintro e w8 ⟨rfl, hib, hgr⟩
  have HA8 := Lib.hid ((HIA7.out.drewN m).grown hgr (by simp; omega) (by simp; omega))
  have HB8 := Lib.hid hib
  have HBB := Lib.hid ((HB7.out.trans (Below.drewN m)).grown hgr (by have := HB7.out.size; exact this) (by intro q hq; cases hq; have := HB5.out.size; omega))
  have HDF := Lib.hid (diffOf_yes HA8.out HB8.out HSA.out HSB.out)
  rw [HDS.out] at HDF
  clear hib hgr Va Vb
  rcases Int.lt_trichotomy u V with huv | huv | huv
  · have hd : absd u V = V - u := by unfold absd; rw [if_pos huv]
    rw [hd, zero_step (by omega)] at HDF
    obtain ⟨z1, z2⟩ := sq_bd (b := V - u) (by omega) (by omega)
    have hb : (u == V) = false := by rw [beq_eq_false_iff_ne]; omega
    clear hd
    go_wp2_with fail
    refine HDF.out.mono ?_
    rintro e w9 ⟨rfl, hB⟩
    have HB9 := Lib.hid (HBB.out.trans (hB.mono HBB.out.size))
    clear hB
    go_wp2_with fail
    go_ret
    exact ⟨ret_bool (by simp), HB9.out.alloc HB9.out.size _⟩
  · subst huv
    rw [absd_self, show DD.zero.step 0 P Q R = DD.zero from rfl] at HDF
    go_wp2_with fail
    refine HDF.out.mono ?_
    rintro e w9 ⟨rfl, hB⟩
    have HB9 := Lib.hid (HBB.out.trans (hB.mono HBB.out.size))
    clear hB
    go_wp2_with fail
    go_ret
    exact ⟨ret_bool (by simp), HB9.out.alloc HB9.out.size _⟩
  · have hd : absd u V = u - V := by rw [absd_comm]; unfold absd; rw [if_pos huv]
    rw [hd, zero_step (by omega)] at HDF
    obtain ⟨z1, z2⟩ := sq_bd (b := u - V) (by omega) (by omega)
    have hb : (u == V) = false := by rw [beq_eq_false_iff_ne]; omega
    clear hd
    go_wp2_with fail
    refine HDF.out.mono ?_
    rintro e w9 ⟨rfl, hB⟩
    have HB9 := Lib.hid (HBB.out.trans (hB.mono HBB.out.size))
    clear hB
    go_wp2_with fail
    go_ret
    exact ⟨ret_bool (by simp), HB9.out.alloc HB9.out.size _⟩
end Go.Proofs.Ytnpkkcbgfnnfmaa
