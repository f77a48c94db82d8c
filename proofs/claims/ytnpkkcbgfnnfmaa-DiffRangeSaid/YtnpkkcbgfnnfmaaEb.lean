import Derived.Test.YtnpkkcbgfnnfmaaEa
/- diff.Histogram. -/
namespace Go.Proofs.Ytnpkkcbgfnnfmaa
open Go.RowKit
set_option linter.unusedVariables false
set_option linter.unusedSimpArgs false
set_option maxRecDepth 100000

theorem infoIntE : (Try.prog.info? 3).map (fun i => (i.zero, i.size, i.bytes)) = some (some (.int .i64 0), 1, 8) := by kernel_rfl

/-- how many of l lie in each bin -/
def histL (bins M : Int) (l : List Int) (n : Nat) : List Int := (List.range n).map fun (k : Nat) => cntL bins M l (k : Int)
theorem histL_len (bins M : Int) (l : List Int) (n : Nat) : (histL bins M l n).length = n := by simp [histL]
theorem histL_get (bins M : Int) (l : List Int) {n k : Nat} (h : k < n) : (histL bins M l n).getD k 0 = cntL bins M l k := by
  simp [histL, List.getD_eq_getElem?_getD, h]
theorem histL_app (bins M : Int) (l : List Int) (v : Int) {n p : Nat} (hp : p < n) (hv : binV bins M v = p) : histL bins M (l ++ [v]) n = (histL bins M l n).set p (cntL bins M l p + 1) := by
  apply List.ext_getElem
  · simp [histL]
  · intro j h1 h2
    rw [List.getElem_set]
    simp only [histL, List.getElem_map, List.getElem_range]
    rw [cntL_app, hv]
    by_cases h : p = j
    · subst h; rw [if_pos rfl, if_pos rfl]
    · rw [if_neg (by omega), if_neg h, Int.add_zero]
theorem cntL_nn (bins M : Int) (l : List Int) (k : Int) : 0 ≤ cntL bins M l k ∧ cntL bins M l k ≤ l.length := by
  unfold cntL
  have := List.length_filter_le (fun v => binV bins M v == k) l
  omega

section
variable {w : World} {g b : Nat} {W H C M : Int} {xs : List Int}
theorem hist_nil (h : ImgR w g b W H C M xs) (c bins : Int) (hC : C = 1 ∨ C = 3) (hn : xs.length ≤ 268435456) (hb : c < 0 ∨ C ≤ c) :
    Calls Try.prog 69 #[.pointer (some ⟨g, 0, none⟩), .int .i64 c, .int .i64 bins] w fun e w' => e = .returned (.slice none 0 0) ∧ Below w.heap.size w w' := by
  have HO := Lib.hid (channel_out h c hb)
  go_enter Try.func69, Try.ntmps69
  go_wp2_with (go_at_call 89; refine HO.out.mono ?_; rintro e w2 ⟨rfl, rfl⟩)
  all_goals go_ret
  all_goals exact ⟨rfl, Below.refl _ _⟩
theorem zerosE (n : Nat) : (madeCells (Value.int .i64 0).cells (n * 1)).toList = (List.replicate n (0 : Int)).map (Value.int .i64) := by
  have h : ∀ x : Nat, [Value.int IntKind.i64 0][x % 1]?.getD default = Value.int IntKind.i64 0 := fun x => by rw [Nat.mod_one]; rfl
  simp only [madeCells, Value.cells, Nat.mul_one]
  simp [h, List.map_const']

set_option maxHeartbeats 2000000 in
theorem hist_in (h : ImgR w g b W H C M xs) (c : Int) (n : Nat) (hC : C = 1 ∨ C = 3) (hn : xs.length ≤ 268435456) (c0 : 0 ≤ c) (c1 : c < C) (n1 : 1 ≤ n) (n2 : n ≤ 1024) (m1 : 1 ≤ M) (m2 : M ≤ 65535) (hx : ∀ z ∈ xs, 0 ≤ z ∧ z ≤ M) (hl : 0 < (chTo C c xs xs.length).length) :
    Calls Try.prog 69 #[.pointer (some ⟨g, 0, none⟩), .int .i64 c, .int .i64 n] w fun e w' => ∃ ob : Nat, e = .returned (.slice (some ⟨ob, 0, none⟩) n n) ∧
      Own w' w.heap.size 3 .i64 (.slice (some ⟨ob, 0, none⟩) n n) (histL n M (chTo C c xs xs.length) n) ∧ Below w.heap.size w w' := by
  have HI := Lib.hid h
  have HCH := Lib.hid (channel_in h c c0 c1 hC hn)
  obtain ⟨L, hL⟩ : ∃ L, chTo C c xs xs.length = L := ⟨_, rfl⟩
  have hLl : L.length ≤ 268435456 := by rw [← hL]; exact Nat.le_trans (chTo_len _ _ _ _) hn
  rw [hL] at HCH hl ⊢
  obtain ⟨len, hlen⟩ : ∃ len, L.length = len := ⟨_, rfl⟩
  rw [hlen] at HCH hl hLl
  have HLEN := Lib.hid hlen
  have HLX : Hid (∀ z ∈ L, 0 ≤ z ∧ z ≤ M) := Lib.hid (by rw [← hL]; exact chTo_mem (P := fun z => 0 ≤ z ∧ z ≤ M) (fun k => by
    rw [List.getD_eq_getElem?_getD]
    by_cases hk : k < xs.length
    · rw [List.getElem?_eq_getElem hk]; exact hx _ (List.getElem_mem _)
    · rw [List.getElem?_eq_none (by omega)]; exact ⟨Int.le_refl 0, (by show (0 : Int) ≤ M; omega)⟩) _)
  obtain ⟨i, hi, hz0, hz1, hz2⟩ := info_parts infoIntE
  have hl0 : ((len : Int) == 0) = false := by rw [beq_eq_false_iff_ne]; omega
  have hl1 : ¬ len = 0 := by omega
  clear h hL hlen hx
  go_enter Try.func69, Try.ntmps69
  go_wp2_with (first
    | (go_at_call 89; refine HCH.out.mono ?_; rintro e wc ⟨xa, ca, rfl, ho, hB⟩; have HOC := Lib.hid ho; have HBC := Lib.hid hB; have hwc := hB.size; clear ho hB)
    | (at_make; refine wpList_make_full _ rfl _ _ 43 rfl w.heap.size 3 i (.int .i64 0) 1 Try.underlying43 hi hz0 hz1 .i64 .i64 _ _ n rfl rfl (by omega) (by omega) (by rw [hz2]; omega) (by unfold maxLen; omega) hwc ?_; intro w1 hown hgrow; rw [zerosE] at hown; have HO := Lib.hid hown; have HG := Lib.hid hgrow; clear hown hgrow))
  have hs1 : wc.heap.size ≤ w1.heap.size := HG.out.size
  have HRC := Lib.hid ((HOC.out.rd).below (below_of_grown HG.out))
  have HB1 := Lib.hid (HBC.out.trans ((below_of_grown HG.out).mono hwc))
  have hcn : ∀ q, (Value.slice xa len ca).ownBlock = some q → q < wc.heap.size := fun q hq => (HOC.out.blk q hq).2
  have HCN := Lib.hid hcn
  have hob : wc.heap.size < w1.heap.size := by
    obtain ⟨_, ⟨he, h0⟩ | ⟨q, cap, cur, hq, h1, h2, _⟩⟩ := HO.out
    · omega
    · injection hq with hq
      injection hq with hq
      injection hq with hq
      have := (Array.getElem?_eq_some_iff.1 h2).1
      omega
  have h00 : List.replicate n (0 : Int) = histL n M (L.take 0) n := by
    apply List.ext_getElem
    · simp [histL]
    · intro j h1 h2
      simp [histL, cntL]
  have HO2 : Hid (Own w1 w.heap.size 3 .i64 (.slice (some ⟨wc.heap.size, 0, none⟩) n n) (histL n M (L.take 0) n)) := Lib.hid (by unfold Own; rw [histL_len, ← h00]; exact HO.out)
  clear hcn h00 HO
  go_loopw [29] (fun i wr => ∃ k : Nat, k ≤ len ∧ i = .int .i64 k ∧ Own wr w.heap.size 3 .i64 (.slice (some ⟨wc.heap.size, 0, none⟩) n n) (histL n M (L.take k) n) ∧ Below w.heap.size w wr ∧ Rd wr .u16 (.slice xa len ca) L) (fun i _ => len - (intOf i).toNat)
  case atStart => exact ⟨0, by omega, rfl, HO2.out, HB1.out, HRC.out⟩
  case round =>
    obtain ⟨k, hk, rfl, hown, hB, hrd⟩ := hrel
    have HOK := Lib.hid hown
    have HBK := Lib.hid hB
    have HRK := Lib.hid hrd
    have HIK := Lib.hid (HI.out.below hB)
    clear hown hB hrd
    by_cases hlt : k < len
    · have hkx : k < L.length := by have := HLEN.out; omega
      obtain ⟨x, rfl⟩ := HRK.out.some_ (by omega)
      obtain ⟨u, HU, cu⟩ := HRK.out.get rfl hkx
      have hub := HLX.out u (by rw [← HU.out, List.getD_eq_getElem?_getD, List.getElem?_eq_getElem hkx]; exact List.getElem_mem _)
      obtain ⟨u0, u1⟩ := hub
      have hbv := binV_in (bins := n) (M := M) (v := u) (by omega) m1 u0 u1
      have hun : 0 ≤ u * (n : Int) ∧ u * (n : Int) ≤ 65535 * 1024 := ⟨Int.mul_nonneg u0 (by omega), Int.mul_le_mul (by omega) (by omega) (by omega) (by omega)⟩
      obtain ⟨p, hp⟩ : ∃ p : Nat, binV n M u = p := ⟨(binV n M u).toNat, by omega⟩
      rw [hp] at hbv
      have e1 : wrap64 u = u := wrap_in (by omega) (by omega)
      have e2 : wrap64 (u * (n : Int)) = u * n := wrap_in (by omega) (by omega)
      have e3 : (u * (n : Int)).tdiv (M + 1) = (p : Int) := by rw [Int.tdiv_eq_ediv_of_nonneg hun.1]; exact hp
      have hpn : p < n := by omega
      obtain ⟨t, ht, cp⟩ := HOK.out.rd.get rfl (show p < (histL n M (L.take k) n).length by rw [histL_len]; exact hpn)
      rw [Addr.add_lit, Nat.zero_add] at cp
      have htc : t = cntL n M (L.take k) p := by rw [← ht.out, histL_get _ _ _ hpn]
      have htb := cntL_nn n M (L.take k) p
      rw [← htc, List.length_take] at htb
      have fp := HOK.out.frozen p
      have HTC := Lib.hid htc
      have HBV := Lib.hid hp
      clear ht htc hp hun
      go_wp2_with (go_at_call 29; refine (most_any HIK.out).mono ?_; rintro e w2 ⟨rfl, rfl⟩)
      refine ⟨⟨k + 1, by omega, by go_num, ?_, HBK.out.setCell (by show w.heap.size ≤ wc.heap.size; exact hwc) _, HRK.out.kept (fun q hq _ => Below.heap_setCell _ _ _ _ (by show q ≠ wc.heap.size; have := HCN.out q hq; omega))⟩, by simp [intOf]; omega⟩
      rw [take_succ_getD hkx, HU.out, histL_app _ _ _ _ hpn HBV.out, ← HTC.out]
      exact HOK.out.set p (t + 1)
    · go_wp2_with fail
      go_ret
      have hkn : k = len := by omega
      subst hkn
      have ho := HOK.out
      rw [List.take_of_length_le (by have := HLEN.out; omega)] at ho
      exact ⟨wc.heap.size, rfl, ho, HBK.out⟩

theorem hist_bad (h : ImgR w g b W H C M xs) (c bins : Int) (hC : C = 1 ∨ C = 3) (hn : xs.length ≤ 268435456) (c0 : 0 ≤ c) (c1 : c < C) (hb : bins < 1 ∨ 1024 < bins) :
    Calls Try.prog 69 #[.pointer (some ⟨g, 0, none⟩), .int .i64 c, .int .i64 bins] w fun e w' => e = .returned (.slice none 0 0) ∧ Below w.heap.size w w' := by
  have HCH := Lib.hid (channel_in h c c0 c1 hC hn)
  obtain ⟨L, hL⟩ : ∃ L, chTo C c xs xs.length = L := ⟨_, rfl⟩
  rw [hL] at HCH
  clear hL h
  by_cases h1 : bins < 1
  · go_enter Try.func69, Try.ntmps69
    go_wp2_with (go_at_call 89; refine HCH.out.mono ?_; rintro e wc ⟨xa, ca, rfl, -, hB⟩; have HBC := Lib.hid hB; clear hB)
    go_ret
    exact ⟨rfl, HBC.out⟩
  · have h2 : 1024 < bins := by omega
    clear hb
    go_enter Try.func69, Try.ntmps69
    go_wp2_with (go_at_call 89; refine HCH.out.mono ?_; rintro e wc ⟨xa, ca, rfl, -, hB⟩; have HBC := Lib.hid hB; clear hB)
    go_ret
    exact ⟨rfl, HBC.out⟩
end
end Go.Proofs.Ytnpkkcbgfnnfmaa
