import Derived.Test.YtnpkkcbgfnnfmaaRg
import Derived.BigRegion
/- smaltolaw09.Draw. -/
namespace Go.Proofs.Ytnpkkcbgfnnfmaa
open Go.RowKit
set_option linter.unusedVariables false
set_option linter.unusedSimpArgs false
set_option maxRecDepth 100000

/-- the samples of a drawn image -/
def drawV (l : List Int) (top : Int) (i : Nat) : Int := if l = [] then 0 else (l.getD (i % l.length) 0 + (i / l.length : Nat)) % (top + 1)
def drawL (l : List Int) (top : Int) (n : Nat) : List Int := (List.range n).map (drawV l top)

theorem drawL_len (l : List Int) (top : Int) (n : Nat) : (drawL l top n).length = n := by simp [drawL]
theorem drawL_get (l : List Int) (top : Int) {n k : Nat} (h : k < n) : (drawL l top n).getD k 0 = drawV l top k := by
  simp [drawL, List.getD_eq_getElem?_getD, h]
theorem part_set (l : List Int) (top : Int) {n k : Nat} (h : k < n) :
    ((drawL l top n).take k ++ List.replicate (n - k) (0 : Int)).set k (drawV l top k) = (drawL l top n).take (k + 1) ++ List.replicate (n - (k + 1)) 0 := by
  have hlen := drawL_len l top n
  rw [take_succ_getD (by omega), drawL_get l top h, List.append_assoc, List.set_append_right _ _ (by rw [List.length_take]; omega)]
  congr 1
  rw [List.length_take, Nat.min_eq_left (by omega), Nat.sub_self, show n - k = (n - (k + 1)) + 1 from by omega, List.replicate_succ, List.set_cons_zero]
  rfl
theorem part_len (l : List Int) (top : Int) {n k : Nat} (h : k ≤ n) : ((drawL l top n).take k ++ List.replicate (n - k) (0 : Int)).length = n := by
  rw [List.length_append, List.length_take, drawL_len, List.length_replicate]
  omega

theorem drawL_all (l : List Int) {top : Int} (n : Nat) (ht : 1 ≤ top) : ∀ q ∈ drawL l top n, 0 ≤ q ∧ q ≤ top := by
  intro q hq
  unfold drawL at hq
  obtain ⟨i, _, rfl⟩ := List.mem_map.1 hq
  unfold drawV
  split
  · omega
  · have := Int.emod_nonneg (l.getD (i % l.length) 0 + ((i / l.length : Nat) : Int)) (show top + 1 ≠ 0 by omega)
    have := Int.emod_lt_of_pos (l.getD (i % l.length) 0 + ((i / l.length : Nat) : Int)) (show 0 < top + 1 by omega)
    omega
theorem part_nil {l : List Int} (hl : l = []) (top : Int) {n k : Nat} (h : k ≤ n) : (drawL l top n).take k ++ List.replicate (n - k) (0 : Int) = List.replicate n 0 := by
  subst hl
  have : drawL [] top n = List.replicate n 0 := by
    unfold drawL drawV
    simp [List.map_const']
  rw [this, List.take_replicate, List.replicate_append_replicate]
  congr 1
  omega

theorem draw_any (a b c d : Int) (v : Value) (l : List Int) (w : World) (ha : 0 ≤ a ∧ a ≤ 65535) (hb : 0 ≤ b ∧ b ≤ 65535) (hc : 0 ≤ c ∧ c ≤ 65535) (hd : 0 ≤ d ∧ d ≤ 65535)
    (hr : Rd w .u16 v l) (hw : ∀ x ∈ l, 0 ≤ x ∧ x ≤ 65535) (hl : l.length * 2 ≤ 140737488351232) :
    Calls Try.prog 47 #[.int .u16 a, .int .u16 b, .int .u16 c, .int .u16 d, v] w fun e w' => ∃ g r : Nat, e = .returned (.pointer (some ⟨g, 0, none⟩)) ∧
      w.heap.size ≤ g ∧ w.heap.size ≤ r ∧ ImgR w' g r (1 + a % 20) (1 + b % 20) (1 + 2 * (c % 2)) (1 + d % 65535) (drawL l (1 + d % 65535) ((1 + a % 20) * (1 + b % 20) * (1 + 2 * (c % 2))).toNat) ∧ Below w.heap.size w w' := by
  obtain ⟨a1, a2⟩ := ha
  obtain ⟨b1, b2⟩ := hb
  obtain ⟨c1, c2⟩ := hc
  obtain ⟨d1, d2⟩ := hd
  obtain ⟨xo, cc, rfl, h1, h2, hx⟩ := hr.form
  obtain ⟨i, hi, hz0, hz1, hz2⟩ := info_parts infoU16
  unfold maxLen at h1
  obtain ⟨m, hm⟩ : ∃ m, l.length = m := ⟨_, rfl⟩
  have HR := Lib.hid hr
  have HX := Lib.hid hx
  have HW := Lib.hid hw
  rw [hm] at HR h2 hl ⊢
  have HM := Lib.hid hm
  clear hr hx hw hm
  obtain ⟨X, hX⟩ : ∃ X, 1 + a % 20 = X := ⟨_, rfl⟩
  obtain ⟨Y, hY⟩ : ∃ Y, 1 + b % 20 = Y := ⟨_, rfl⟩
  obtain ⟨K, hK⟩ : ∃ K, 1 + 2 * (c % 2) = K := ⟨_, rfl⟩
  obtain ⟨T, hT⟩ : ∃ T, 1 + d % 65535 = T := ⟨_, rfl⟩
  have X1 : 1 ≤ X := by omega
  have X2 : X ≤ 20 := by omega
  have Y1 : 1 ≤ Y := by omega
  have Y2 : Y ≤ 20 := by omega
  have K1 : 1 ≤ K := by omega
  have K2 : K ≤ 3 := by omega
  have T1 : 1 ≤ T := by omega
  have T2 : T ≤ 65535 := by omega
  have p1 : 1 ≤ X * Y := by have := Int.mul_le_mul X1 Y1 (by omega) (by omega); omega
  have p2 : X * Y ≤ 400 := by have := Int.mul_le_mul X2 Y2 (by omega) (by omega); omega
  have q1 : 1 ≤ X * Y * K := by have := Int.mul_le_mul p1 K1 (by omega) (by omega); omega
  have q2 : X * Y * K ≤ 1200 := by have := Int.mul_le_mul p2 K2 (by omega) (by omega); omega
  have hcode : codeR X Y K T = 0 := by
    refine codeR_ok T1 T2 (by omega) ?_
    unfold fitsB
    rw [decide_eq_true_eq]
    omega
  obtain ⟨n, hn⟩ : ∃ n : Nat, X * Y * K = (n : Int) := ⟨(X * Y * K).toNat, by omega⟩
  have hn2 : (X * Y * K).toNat = n := by omega
  have n1 : 1 ≤ n := by omega
  have n2 : n ≤ 1200 := by omega
  rw [hX, hY, hK, hT, hn2]
  have HN := Lib.hid hn
  have HCODE := Lib.hid hcode
  have e1 : (1 + a % 20) * (1 + b % 20) * (1 + 2 * (c % 2)) = (n : Int) := by rw [hX, hY, hK]; exact hn
  have p1' : 1 ≤ (1 + a % 20) * (1 + b % 20) := by rw [hX, hY]; exact p1
  have p2' : (1 + a % 20) * (1 + b % 20) ≤ 400 := by rw [hX, hY]; exact p2
  have q1' : 1 ≤ (1 + a % 20) * (1 + b % 20) * (1 + 2 * (c % 2)) := by rw [hX, hY, hK]; exact q1
  have q2' : (1 + a % 20) * (1 + b % 20) * (1 + 2 * (c % 2)) ≤ 1200 := by rw [hX, hY, hK]; exact q2
  have HE := Lib.hid e1
  have HXX := Lib.hid hX
  have HYY := Lib.hid hY
  have HKK := Lib.hid hK
  have HTT := Lib.hid hT
  clear hX hY hK hT hn hn2 hcode e1 q1 q2 p1 p2
  go_enter Try.func47, Try.ntmps47
  go_wp2_with (at_make; refine wpList_make_full _ rfl _ _ 29 rfl w.heap.size 31 i (.int .u16 0) 1 Try.underlying29 hi hz0 hz1 .i64 .i64 _ _ n rfl rfl HE.out HE.out (by rw [hz2]; omega) (by unfold maxLen; omega) (Nat.le_refl _) ?_; intro w1 hown hgrow; rw [zeros_eq] at hown; have HO := Lib.hid hown; have HG := Lib.hid hgrow; clear hown hgrow)
  rw [HXX.out, HYY.out, HKK.out, HTT.out]
  go_loopw [16, 44] (fun _ i wr => ∃ k : Nat, k ≤ n ∧ i = .int .i64 k ∧ Own wr w.heap.size 31 .u16 (.slice (some ⟨w.heap.size, 0, none⟩) n n) ((drawL l T n).take k ++ List.replicate (n - k) 0) ∧ Below w.heap.size w wr) (fun _ i _ => n - (intOf i).toNat)
  case atStart =>
    refine ⟨0, by omega, rfl, ?_, (Below.refl _ _).grown HG.out (Nat.le_refl _) (by simp)⟩
    unfold Own
    rw [List.take_zero, List.nil_append, Nat.sub_zero, List.length_replicate]
    exact HO.out
  case round =>
    obtain ⟨k, hk, rfl, ho, hB⟩ := hrel
    have HOK := Lib.hid ho
    have HBK := Lib.hid hB
    clear ho hB
    by_cases hlt : k < n
    · by_cases hm0 : 0 < m
      · obtain ⟨x, rfl⟩ := HR.out.some_ (by have := HM.out; omega)
        obtain ⟨u, HU, cu⟩ := (HR.out.below HBK.out).get rfl (j := k % m) (by have := HM.out; have := Nat.mod_lt k hm0; omega)
        obtain ⟨z, _, cs⟩ := HOK.out.rd.get rfl (j := k) (by rw [part_len l T hk]; exact hlt)
        rw [Addr.add_lit, Nat.zero_add] at cs
        have hkk : k ≤ 1200 := by omega
        have HBX := Lib.hid HM.out
        have hf := HOK.out.frozen k
        have hmod : k % m < m := Nat.mod_lt k hm0
        have hdiv : k / m ≤ 1200 := Nat.le_trans (Nat.div_le_self k m) (by omega)
        obtain ⟨u0, u1⟩ : 0 ≤ u ∧ u ≤ 65535 := by
          have := HW.out (l.getD (k % m) 0) (by rw [List.getD_eq_getElem?_getD, List.getElem?_eq_getElem (by have := HM.out; omega)]; exact List.getElem_mem _)
          rw [HU.out] at this
          exact this
        have hm1 : ¬ m = 0 := by omega
        go_wp2
        have HV : Hid (IntKind.u16.wrap ((wrap64 (u + wrap64 ((k : Int) / (m : Int)))).tmod (T + 1)) = drawV l T k) := by
          refine Lib.hid ?_
          have hne : l ≠ [] := by rintro rfl; have := HM.out; simp at this; omega
          have hkm : (k : Int) / (m : Int) = ((k / m : Nat) : Int) := (Int.natCast_ediv k m).symm
          rw [hkm]
          unfold drawV
          rw [if_neg hne, HM.out, HU.out]
          generalize k / m = q at *
          rw [wrap_in (x := (q : Int)) (by omega) (by omega), wrap_in (by omega) (by omega), Int.tmod_eq_emod_of_nonneg (by omega)]
          have := Int.emod_nonneg (u + (q : Int)) (show T + 1 ≠ 0 by omega)
          have := Int.emod_lt_of_pos (u + (q : Int)) (show 0 < T + 1 by omega)
          exact IntWalk.u16_in _ (by omega)
        go_region
        go_wp2
        rw [HV.out]
        refine ⟨⟨k + 1, by omega, by go_num, ?_, ?_⟩, by simp [intOf]; omega⟩
        · have := HOK.out.set k (drawV l T k)
          rw [part_set l T hlt] at this
          exact this
        · exact (HBK.out.trans (grown_below_set _ _ _ _ _ (Nat.le_refl _))).drew
      · have hm2 : m = 0 := by omega
        have hl0 : l = [] := List.eq_nil_of_length_eq_zero (by have := HM.out; omega)
        have HL0 := Lib.hid hl0
        clear hl0
        subst hm2
        go_wp2
        refine ⟨⟨k + 1, by omega, by go_num, ?_, HBK.out⟩, by simp [intOf]; omega⟩
        have := HOK.out
        rw [part_nil HL0.out T hk] at this
        rw [part_nil HL0.out T hlt]
        exact this
    · have hkn : k = n := by omega
      subst hkn
      have hown := HOK.out
      rw [Nat.sub_self, List.replicate_zero, List.append_nil, List.take_of_length_le (by rw [drawL_len]; omega)] at hown
      have HOF := Lib.hid hown
      have hall := drawL_all l k T1
      have HOFB := Lib.hid hall
      have HOR : Hid (ofR X Y K T (drawL l T k) = 0) := by
        refine Lib.hid ?_
        unfold ofR
        have h1 : drawL l T k ≠ [] := by intro h; have := congrArg List.length h; rw [drawL_len] at this; simp at this; omega
        rw [if_neg (by rw [HCODE.out]; simp), if_neg (by rw [drawL_len, HN.out]; simp), if_neg]
        have := (maxl_le h1 T).2 fun x hx => (hall x hx).2
        omega
      clear hown hall
      go_wp2_with (go_at_call 45; refine (of_ok _ _ _ _ _ _ _ HOF.out.rd (fun x hx => ⟨(HOFB.out x hx).1, by have := (HOFB.out x hx).2; omega⟩) HOR.out).mono ?_; rintro e w' ⟨g, r, rfl, hg, hr, hi, hB⟩)
      go_ret
      have hs := HBK.out.size
      exact ⟨g, r, rfl, by omega, by omega, hi, HBK.out.trans (hB.mono hs)⟩

theorem draw_small (a b c d : Int) (v : Value) (l : List Int) (w : World) (ha : 0 ≤ a ∧ a ≤ 65535) (hb : 0 ≤ b ∧ b ≤ 65535) (hc : 0 ≤ c ∧ c ≤ 65535) (hd : 0 ≤ d ∧ d ≤ 65535)
    (hr : Rd w .u16 v l) (hw : ∀ x ∈ l, 0 ≤ x ∧ x ≤ 65535) (hl : l.length * 2 ≤ 140737488351232) :
    Calls Try.prog 47 #[.int .u16 a, .int .u16 b, .int .u16 c, .int .u16 d, v] w fun e w' => ∃ (g r : Nat) (X Y K T : Int) (xs : List Int), e = .returned (.pointer (some ⟨g, 0, none⟩)) ∧
      w.heap.size ≤ g ∧ w.heap.size ≤ r ∧ ImgR w' g r X Y K T xs ∧ Small X Y K T xs ∧ Hid (X = 1 + a % 20 ∧ Y = 1 + b % 20 ∧ K = 1 + 2 * (c % 2) ∧ T = 1 + d % 65535 ∧ xs = drawL l T (X * Y * K).toNat) ∧ Below w.heap.size w w' := by
  refine (draw_any a b c d v l w ha hb hc hd hr hw hl).mono ?_
  rintro e w' ⟨g, r, rfl, hg, hr, hi, hB⟩
  refine ⟨g, r, _, _, _, _, _, rfl, hg, hr, hi, ?_, Lib.hid ⟨rfl, rfl, rfl, rfl, rfl⟩, hB⟩
  have X1 : 1 ≤ 1 + a % 20 := by omega
  have X2 : 1 + a % 20 ≤ 20 := by omega
  have Y1 : 1 ≤ 1 + b % 20 := by omega
  have Y2 : 1 + b % 20 ≤ 20 := by omega
  have K0 : 1 + 2 * (c % 2) = 1 ∨ 1 + 2 * (c % 2) = 3 := by omega
  have T1 : 1 ≤ 1 + d % 65535 := by omega
  have T2 : 1 + d % 65535 ≤ 65535 := by omega
  generalize 1 + a % 20 = X at *
  generalize 1 + b % 20 = Y at *
  generalize 1 + 2 * (c % 2) = K at *
  generalize 1 + d % 65535 = T at *
  have p1 : 1 ≤ X * Y := by have := Int.mul_le_mul X1 Y1 (by omega) (by omega); omega
  have p2 : X * Y ≤ 400 := by have := Int.mul_le_mul X2 Y2 (by omega) (by omega); omega
  have q12 : 1 ≤ X * Y * K ∧ X * Y * K ≤ 1200 := by rcases K0 with rfl | rfl <;> omega
  refine ⟨codeR_ok T1 T2 K0 ?_, X2, Y2, ?_, drawL_all l _ T1⟩
  · unfold fitsB
    rw [decide_eq_true_eq]
    omega
  · rw [drawL_len]
    omega
end Go.Proofs.Ytnpkkcbgfnnfmaa
