import Derived.Test.YtnpkkcbgfnnfmaaRh
import Derived.Test.YtnpkkcbgfnnfmaaBase2
import Derived.Deep.QuietTactic
import Derived.BigQuiet
/- The law RasterRows: its walk. -/
namespace Go.Proofs.Ytnpkkcbgfnnfmaa
open Go.RowKit
set_option linter.unusedVariables false
set_option linter.unusedSimpArgs false
set_option maxRecDepth 100000

theorem row_nat {w : World} {g b : Nat} {W H C M : Int} {xs : List Int} (h : ImgR w g b W H C M xs) (hv : codeR W H C M = 0) (hl : (xs.length : Int) = W * H * C) {n y : Nat} (hn : W * C = n) (hy : (y : Int) < H) :
    Calls Try.prog 48 #[.pointer (some ⟨g, 0, none⟩), .int .i64 y] w fun e w' => ∃ x c, e = .returned (.slice x n c) ∧ Own w' w.heap.size 31 .u16 (.slice x n c) ((xs.drop (y * n)).take n) ∧ Below w.heap.size w w' := by
  have := row_in h hv hl y (by omega) hy
  rw [hn, ← Int.natCast_mul, Int.toNat_natCast, Int.toNat_natCast] at this
  exact this

theorem channels_same {w : World} {g b : Nat} {W H C M : Int} {xs : List Int} (h : ImgR w g b W H C M xs) : Calls Try.prog 28 #[.pointer (some ⟨g, 0, none⟩)] w fun e w' => e = .returned (.int .i64 C) ∧ w' = w :=
  (channels_any h).mono fun _ _ h => ⟨h.1, h.2.symm⟩

theorem getD_row (xs : List Int) (a n k : Nat) (h : k < n) : ((xs.drop a).take n).getD k 0 = xs.getD (a + k) 0 := by
  simp [List.getD_eq_getElem?_getD, List.getElem?_take, List.getElem?_drop, h]

theorem place_row {X Y K T : Int} {n y k : Nat} (hk : K = 1 ∨ K = 3) (hn : X * K = n) (hy : (y : Int) < Y) (hkn : k < n) : inB X Y K ((k : Int) / K) y ((k : Int) % K) = true ∧ (placeI X K ((k : Int) / K) y ((k : Int) % K)).toNat = y * n + k := by
  have e : (y : Int) * X * K = ((y * n : Nat) : Int) := by rw [Int.mul_assoc, hn, Int.natCast_mul]
  constructor
  · unfold inB
    rw [decide_eq_true_eq]
    rcases hk with rfl | rfl <;> omega
  · unfold placeI
    rw [Int.add_mul, e]
    rcases hk with rfl | rfl <;> omega

theorem own_ge {w : World} {base : Nat} {t : TypeId} {k : IntKind} {v : Value} {xs : List Int} (h : Own w base t k v xs) : ∀ q, v.ownBlock = some q → base ≤ q ∧ q < w.heap.size := World.ownsRow.lt h

set_option maxHeartbeats 1000000 in
theorem rasterRows_walk (a0 a1 a2 a3 : Int) (v4 : Value) (xs4 : List Int) (w : World) (w0 : (Lit.int .u16 a0).wf = true) (w1 : (Lit.int .u16 a1).wf = true) (w2 : (Lit.int .u16 a2).wf = true) (w3 : (Lit.int .u16 a3).wf = true)
    (rd : Rd w .u16 v4 xs4) (wf : ∀ x ∈ xs4, (Lit.int .u16 x).wf = true) (sz : xs4.length * 2 ≤ 140737488351232) :
    Calls Try.prog 9 #[.int .u16 a0, .int .u16 a1, .int .u16 a2, .int .u16 a3, v4] w fun e w' => e = .returned (.bool true) ∧ Below w.heap.size w w' := by
  obtain ⟨i, hi, hz0, hz1, hz2⟩ := info_parts infoU16
  have HD := fun w' (h : Rd w' .u16 v4 xs4) => draw_small a0 a1 a2 a3 v4 xs4 w' (of_wf_u16 w0) (of_wf_u16 w1) (of_wf_u16 w2) (of_wf_u16 w3) h (fun x hx => of_wf_u16 (wf x hx)) sz
  have HDH := Lib.hid HD
  have HR := Lib.hid rd
  obtain ⟨x, c, rfl, _⟩ := rd.form
  clear HD rd wf sz w0 w1 w2 w3
  go_enter Try.func9, Try.ntmps9
  go_wp2_with (first
    | (go_at_call 20; refine (lives09_any _).mono ?_; rintro e wl ⟨rfl, hB1⟩; have HB1 := Lib.hid hB1; clear hB1)
    | (go_at_call 47; refine (HDH.out _ (HR.out.below HB1.out)).mono ?_; rintro e wd ⟨g, r, X, Y, K, T, xs, rfl, hg, hr, hi, hs, _, hB2⟩; have HI := Lib.hid hi; have HB2 := Lib.hid (HB1.out.trans (hB2.mono HB1.out.size)); have HS := Lib.hid hs; clear hi hB2 hs)
    | (go_at_call 27; refine (height_any HI.out).mono ?_; rintro e w2 ⟨rfl, rfl⟩))
  obtain ⟨s1, s2, hK, s3, s4, s5, s6, s7, s8, s9, s10⟩ := HS.out.bd
  obtain ⟨n, hn⟩ : ∃ n : Nat, X * K = n := ⟨(X * K).toNat, by rcases hK with rfl | rfl <;> omega⟩
  obtain ⟨Yn, rfl⟩ : ∃ Yn : Nat, Y = Yn := ⟨Y.toNat, by omega⟩
  have hY := HS.out.ly
  have hX := HS.out.lx
  have hn1 : 1 ≤ n := by rcases hK with rfl | rfl <;> omega
  have hn2 : n ≤ 60 := by rcases hK with rfl | rfl <;> omega
  have hln : xs.length = Yn * n := by
    have := HS.out.len
    rw [Int.mul_comm X, Int.mul_assoc, hn, ← Int.natCast_mul] at this
    exact_mod_cast this
  have HN := Lib.hid hn
  have HLN := Lib.hid hln
  have HK := Lib.hid hK
  have hgw := HI.out.lt_g
  have hrw := HI.out.lt_b
  have hwd := HB2.out.size
  clear hn hln hK hg hr s5 s6 s7 s8
  obtain ⟨B, hB⟩ : ∃ B, wd.heap.size = B := ⟨_, rfl⟩
  have HBd := Lib.hid hB
  rw [hB] at hgw hrw hwd
  clear hB
  go_loopw [12, 30] (fun al i wr => ∃ (y : Nat) (x : Option Addr) (c : Nat), y ≤ Yn ∧ i = .int .i64 y ∧ al = .slice x (y * n) c ∧ Own wr B 31 .u16 (.slice x (y * n) c) (xs.take (y * n)) ∧ ImgR wr g r X Yn K T xs ∧ Below w.heap.size w wr ∧ B ≤ wr.heap.size) (fun _ i _ => Yn - (intOf i).toNat)
  case atStart => exact ⟨0, none, 0, by omega, rfl, by rw [Nat.zero_mul], by rw [Nat.zero_mul, List.take_zero]; exact World.ownsRow_nil _ _ _ _, HI.out, HB2.out, by rw [HBd.out]; exact Nat.le_refl _⟩
  case round =>
    obtain ⟨y, x, c, hy, rfl, rfl, hown, himg, hbel, hsz⟩ := hrel
    have HO := Lib.hid hown
    have HM := Lib.hid himg
    have HB := Lib.hid hbel
    clear hown himg hbel
    by_cases hlt : y < Yn
    · have hltI : (y : Int) < (Yn : Int) := by omega
      have hle : y * n + n ≤ xs.length := by
        have := Nat.mul_le_mul_right n (show y + 1 ≤ Yn by omega)
        rw [Nat.add_mul, Nat.one_mul] at this
        rw [HLN.out]
        exact this
      have hrl : ((xs.drop (y * n)).take n).length = n := by rw [List.length_take, List.length_drop]; omega
      obtain ⟨row, hrow⟩ : ∃ row, (xs.drop (y * n)).take n = row := ⟨_, rfl⟩
      have HROW := Lib.hid hrow
      rw [hrow] at hrl
      have HRL := Lib.hid hrl
      clear hrow hrl
      go_wp2_with fail
      refine (row_nat HM.out HS.out.code HS.out.len HN.out hltI).mono ?_
      rw [HROW.out]
      rintro e w4 ⟨xr, cr, rfl, hor, hBr⟩
      have hne : row ≠ [] := by intro e; have := HRL.out; rw [e] at this; simp at this; omega
      obtain ⟨rb, rfl, hrb1, hrb2⟩ := hor.at_ hne
      have HOR := Lib.hid hor
      have HM4 := Lib.hid (HM.out.below hBr)
      have HB4 := Lib.hid (HB.out.trans (hBr.mono HB.out.size))
      have HO4 := Lib.hid (HO.out.below hBr)
      have hsz4 := Nat.le_trans hsz hBr.size
      have HALL := Lib.hid fun q hq => (own_ge HO.out q hq).2
      clear hor hBr hne
      go_wp2_with fail
      go_loopw [15, 16, 38] (fun _ _ i wq => ∃ (k : Nat), k ≤ n ∧ i = .int .i64 k ∧ Below w4.heap.size w4 wq) (fun _ _ i _ => n - (intOf i).toNat)
      case atStart => exact ⟨0, by omega, rfl, Below.refl _ _⟩
      case round =>
        obtain ⟨k, hk, rfl, hbq⟩ := hrel
        have HBQ := Lib.hid hbq
        clear hbq
        by_cases hkn : k < n
        · obtain ⟨u, HU, cu⟩ := (HOR.out.rd.below HBQ.out).get rfl (j := k) (by rw [HRL.out]; exact hkn)
          rw [Addr.add_lit, Nat.zero_add] at cu
          have hpl := place_row (T := T) HK.out HN.out hltI hkn
          have HU2 : Hid (xs.getD (placeI X K ((k : Int) / K) y ((k : Int) % K)).toNat 0 = u) := Lib.hid (by rw [hpl.2, ← getD_row xs (y * n) n k hkn, HROW.out]; exact HU.out)
          have HAT := Lib.hid fun wq (h : ImgR wq g r X Yn K T xs) => at_in h HS.out.code HS.out.len _ _ _ hpl.1
          rw [HU2.out] at HAT
          have HM5 := Lib.hid (HM4.out.below HBQ.out)
          clear hpl
          rcases HK.out with rfl | rfl
          · simp only [Int.ediv_one, Int.emod_one] at HAT
            go_wp2_with fail
            go_quiet (first | (go_at_call 28; exact Calls.quiet_of_same (channels_same (HM5.out.drewN _))) | (go_at_call 49; exact Calls.quiet_of (HAT.out _ (HM5.out.drewN _))))
            go_wp2
            refine ⟨⟨k + 1, by omega, by go_num, HBQ.out.trans (Below.drewN _)⟩, by simp [intOf]; omega⟩
          · go_wp2_with fail
            go_quiet (first | (go_at_call 28; exact Calls.quiet_of_same (channels_same (HM5.out.drewN _))) | (go_at_call 49; exact Calls.quiet_of (HAT.out _ (HM5.out.drewN _))))
            go_wp2
            refine ⟨⟨k + 1, by omega, by go_num, HBQ.out.trans (Below.drewN _)⟩, by simp [intOf]; omega⟩
        · clear hk
          have HM5 := Lib.hid (HM4.out.below HBQ.out)
          have HB5 := Lib.hid (HB4.out.trans (HBQ.out.mono HB4.out.size))
          have HO5 := Lib.hid (HO4.out.below HBQ.out)
          have HOR5 := Lib.hid ((HOR.out.below HBQ.out).mono hsz)
          have hsz5 := Nat.le_trans hsz4 HBQ.out.size
          have hq45 := HBQ.out.size
          have hl1 : (xs.take (y * n)).length ≤ 1200 := by rw [List.length_take]; omega
          go_wp2_with (at_builtin; refine wpList_append_rd_at _ rfl _ _ 29 rfl B 31 i .u16 2 Try.underlying29 hi hz0 hz1 hz2 _ (xs.take (y * n)) rfl HO5.out _ row rfl HOR5.out.rd (by rw [HRL.out]; unfold maxLen; omega) (by rw [HRL.out]; omega) hsz5 ?_; intro v' wa hown hgrow hat; have hrw1 := HALL.out; have hva := own_ge HO5.out; obtain ⟨xa, ca, hve, _⟩ := hown.form; have hla : (xs.take (y * n) ++ row).length = (y + 1) * n := by { rw [List.length_append, HRL.out, List.length_take, Nat.add_mul, Nat.one_mul]; omega }; rw [hla] at hve; subst hve; have hta : xs.take (y * n) ++ row = xs.take ((y + 1) * n) := by { rw [← HROW.out, Nat.add_mul, Nat.one_mul, List.take_add] }; rw [hta] at hown; clear hla hta; have HOA := Lib.hid hown; have HGA := Lib.hid hgrow; have HAT := Lib.hid hat; have HRW := Lib.hid hrw1; have HVA := Lib.hid hva; clear hown hgrow hat hrw1 hva)
          have hrne : some rb ≠ (Value.slice x (y * n) c).ownBlock := fun e => by have := HRW.out rb e.symm; omega
          have hrne2 : (Value.slice xa ((y + 1) * n) ca).ownBlock ≠ some rb := fun e => by
            rcases HAT.out with h | h
            · rw [h] at e; exact hrne e.symm
            · rw [h] at e; injection e with e; omega
          have HRN := Lib.hid hrne2
          have HORA := Lib.hid (HOR5.out.grown HGA.out (.inr hrne))
          have HMA := Lib.hid (HM5.out.grown HGA.out (fun e => by have := (HVA.out g e.symm).1; omega) (fun e => by have := (HVA.out r e.symm).1; omega))
          have HBA := Lib.hid (HB5.out.grown HGA.out HB5.out.size (fun q hq => by have := (HVA.out q hq).1; omega))
          have hszA := Nat.le_trans hsz5 HGA.out.size
          have hrbA : rb < wa.heap.size := by have := HGA.out.size; omega
          have hB0 : w.heap.size ≤ B := hwd
          clear hrne hrne2
          go_wp2_with fail
          go_loopw [17, 62] (fun _ i wq => ∃ (k : Nat) (ys : List Int), k ≤ n ∧ i = .int .i64 k ∧ ys.length = n ∧ Own wq B 31 .u16 (.slice (some ⟨rb, 0, none⟩) n cr) ys ∧ wa.grownBy wq (some rb)) (fun _ i _ => n - (intOf i).toNat)
          case atStart => exact ⟨0, row, by omega, rfl, HRL.out, HORA.out, World.grownBy.refl _ _⟩
          case round =>
            obtain ⟨k2, ys, hk2, rfl, hys, hown, hgr⟩ := hrel
            have HOK := Lib.hid hown
            have HGR := Lib.hid hgr
            have HYS := Lib.hid hys
            clear hown hgr hys
            by_cases hlt2 : k2 < n
            · obtain ⟨u, HU, cu⟩ := HOK.out.rd.get rfl (j := k2) (by rw [HYS.out]; exact hlt2)
              rw [Addr.add_lit, Nat.zero_add] at cu
              have hf := HOK.out.frozen k2
              go_wp2
              refine ⟨⟨k2 + 1, ys.set k2 (IntKind.u16.wrap (u + 1)), by omega, by go_num, by rw [List.length_set]; exact HYS.out, HOK.out.set k2 _, grown_trans HGR.out (grown_setCell _ _ _ _)⟩, by simp [intOf]; omega⟩
            · clear hk2
              go_wp2
              refine ⟨⟨y + 1, xa, ca, by omega, by go_num, rfl, HOA.out.grown HGR.out (.inr HRN.out), HMA.out.grown HGR.out (by simp; omega) (by simp; omega), HBA.out.grown HGR.out (by omega) (fun q hq => by cases hq; omega), Nat.le_trans hszA HGR.out.size⟩, by simp [intOf]; omega⟩
    · have hyn : y = Yn := by omega
      subst hyn
      have ho := HO.out
      have hlx : (xs.take (y * n)) = xs := List.take_of_length_le (by rw [HLN.out]; exact Nat.le_refl _)
      rw [hlx] at ho
      have HOX := Lib.hid ho
      clear ho hlx hlt hy
      have e5 : X * (y : Int) ≤ 20 * 20 := Int.mul_le_mul hX hY (by omega) (by omega)
      have e6 : 1 * 1 ≤ X * (y : Int) := Int.mul_le_mul s1 s2 (by omega) (by omega)
      have e7 : 1 ≤ X * (y : Int) * K ∧ X * (y : Int) * K ≤ 1200 := by rcases HK.out with rfl | rfl <;> omega
      have e8 : ((y * n : Nat) : Int) = X * (y : Int) * K := by rw [Int.natCast_mul, ← HN.out, ← Int.mul_assoc, Int.mul_comm X]
      have E8 := Lib.hid e8
      clear e8
      go_wp2_with fail
      refine (samples_any HM.out (by omega)).mono ?_
      rintro e ws ⟨x1, c1, rfl, hs1, hBs⟩
      have HS1 := Lib.hid hs1
      have HB5 := Lib.hid (HB.out.trans (hBs.mono HB.out.size))
      have HO5 := Lib.hid (HOX.out.below hBs)
      have HM5 := Lib.hid (HM.out.below hBs)
      clear hs1 hBs
      go_wp2_with (first
        | (go_at_call 46; refine (refSame_any _ _ _ _ _ HO5.out.rd HS1.out.rd).mono ?_; rw [decide_eq_true rfl]; rintro e wu ⟨rfl, m, rfl⟩)
        | (go_at_call 26; refine (width_any (w := ws.drewN m) HM5.out).mono ?_; rintro e w2 ⟨rfl, rfl⟩)
        | (go_at_call 27; refine (height_any (w := ws.drewN m) HM5.out).mono ?_; rintro e w2 ⟨rfl, rfl⟩)
        | (go_at_call 28; refine (channels_any (w := ws.drewN m) HM5.out).mono ?_; rintro e w2 ⟨rfl, rfl⟩))
      go_ret
      refine ⟨ret_bool ?_, HB5.out.trans (Below.drewN m)⟩
      have e8 := E8.out
      rw [Int.natCast_mul] at e8
      go_tidy
      rw [beq_iff_eq]
      exact e8
end Go.Proofs.Ytnpkkcbgfnnfmaa
