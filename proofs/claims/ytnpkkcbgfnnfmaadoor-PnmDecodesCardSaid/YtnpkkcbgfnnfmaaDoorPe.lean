import Derived.Test.YtnpkkcbgfnnfmaaDoorPd0
/- pnm.Decode behind a good head. (printed by mkpd.py) -/
namespace Go.Proofs.YtnpkkcbgfnnfmaaDoor
open Go.RowKit Go.Sort
set_option linter.unusedVariables false
set_option linter.unusedSimpArgs false
set_option maxRecDepth 100000

/-- what is told of bytes whose samples are l -/
def DP (w : World) (l : List Int) (c x y m : Int) (e : Ending) (w' : World) : Prop :=
  Below w.heap.size w w' ∧ ((m < maxl l ∧ e = .returned (.tuple #[.pointer none, .int .i64 4])) ∨
    (¬ m < maxl l ∧ ∃ g r : Nat, e = .returned (.tuple #[.pointer (some ⟨g, 0, none⟩), .int .i64 0]) ∧ w.heap.size ≤ g ∧ w.heap.size ≤ r ∧ ImgR w' g r x y c m l))
theorem ofR_eq {x y c m : Int} {l : List Int} (h : codeR x y c m = 0) (hl : (l.length : Int) = x * y * c) : ofR x y c m l = if m < maxl l then 4 else 0 := by
  unfold ofR
  rw [if_neg (by rw [h]; simp), if_neg (by rw [hl]; simp)]

set_option maxHeartbeats 2000000 in
theorem decode_short (v : Value) (bs : List Int) (w : World) (h : Rd w .u8 v bs) (hl : bs.length ≤ 4503599627370496) (hb : Byt bs) (c x y m s : Int) (hp : parseL bs = (0, ⟨c, x, y, m, s⟩)) (n0 : Nat) (hsh : (n0 : Int) < szL c x y m) (hn0 : (bs.drop s.toNat).length = n0) :
    Calls Tryd.prog 18 #[v] w fun e w' => e = .returned (.tuple #[.pointer none, .int .i64 3]) ∧ Below w.heap.size w w' := by
  have HPA := Lib.hid (parse_any v bs w h hl)
  rw [hp] at HPA
  obtain ⟨hco, hs1, hs2⟩ := parse_good hb hp
  simp only at hco hs1 hs2
  obtain ⟨S, rfl⟩ : ∃ S : Nat, s = S := ⟨s.toNat, by omega⟩
  rw [Int.toNat_natCast, List.length_drop] at hn0
  obtain ⟨xo, cp, rfl, hcp, hcl, -⟩ := h.form
  obtain ⟨xa, rfl⟩ := h.some_ (by omega)
  obtain ⟨n, hn⟩ : ∃ n, bs.length = n := ⟨_, rfl⟩
  have HR := Lib.hid h
  rw [hn] at hl hs2 hcl HPA HR ⊢
  have HN := Lib.hid hn
  have hSn : S ≤ n := by omega
  obtain ⟨q, hq⟩ : ∃ q, szL c x y m = q := ⟨_, rfl⟩
  have HSZ : Hid (∀ w : World, Calls Tryd.prog 17 #[headV c x y m S] w fun e w' => e = .returned (.int .i64 q) ∧ Below w.heap.size w w') := Lib.hid fun w => by have := psize_any c x y m S w; rw [hq] at this; exact this
  unfold maxLen at hcp
  rw [hq] at hsh
  clear h hp hn hs1 hs2
  go_enter Tryd.func18, Tryd.ntmps18
  go_wp2_with (go_at_call 13; refine HPA.out.mono ?_; rintro e w1 ⟨rfl, hB⟩; have HB := Lib.hid hB; clear hB)
  have HB0 := Lib.hid (HB.out.alloc HB.out.size (.cells #[.int .i64 c, .int .i64 x, .int .i64 y, .int .i64 m, .int .i64 S] 23))
  have hrow : (w1.alloc (.cells #[.int .i64 c, .int .i64 x, .int .i64 y, .int .i64 m, .int .i64 S] 23)).heap[w1.heap.size]? = some (.cells #[.int .i64 c, .int .i64 x, .int .i64 y, .int .i64 m, .int .i64 S] 23 (0, 0)) := heap_alloc_new w1 _
  have HROW := Lib.hid hrow
  have hgw : w.heap.size ≤ w1.heap.size := HB.out.size
  obtain ⟨wb, hwb⟩ : ∃ wb, w1.alloc (.cells #[.int .i64 c, .int .i64 x, .int .i64 y, .int .i64 m, .int .i64 S] 23) = wb := ⟨_, rfl⟩
  rw [hwb] at HB0 HROW ⊢
  obtain ⟨g, hg⟩ : ∃ g, w1.heap.size = g := ⟨_, rfl⟩
  rw [hg] at HROW hgw ⊢
  clear hwb hrow hg
  obtain ⟨⟨t0, t1, t2, t3, t4⟩, _⟩ := row5 HROW.out
  have k0 := cell_regrown t0
  have k1 := cell_regrown t1
  have k2 := cell_regrown t2
  have k3 := cell_regrown t3
  have k4 := cell_regrown t4
  have HSQ : Hid (∀ d os, Calls Tryd.prog 17 #[headV c x y m S] (grow (redrawn wb d) os) fun e w'' => e = .returned (.int .i64 q) ∧ ∃ p : Regrown, w'' = grow (redrawn wb p.d) p.os) :=
    Lib.hid fun d os => Calls.regrown_of (HSZ.out _)
  refine wp_region_quiet_below (by kernel_rfl) (by kernel_rfl) ?_
  repeat (go_big_quiet_step ((with_reducible (first | exact HSQ.out _ _))))
  refine wpQuiet_nil ?_
  intro _ hw'
  obtain ⟨⟨dq, osq⟩, hw''⟩ := hw'
  subst hw''
  obtain ⟨wr, hwr⟩ : ∃ wr, grow (redrawn wb dq) osq = wr := ⟨_, rfl⟩
  have HBR : Hid (Below w.heap.size w wr) := Lib.hid (by rw [← hwr]; exact HB0.out.trans ((below_regrown wb dq osq).mono HB0.out.size))
  have HROW2 : Hid (wr.heap[g]? = some (.cells #[.int .i64 c, .int .i64 x, .int .i64 y, .int .i64 m, .int .i64 S] 23 (0, 0))) := Lib.hid (by rw [← hwr]; exact ((below_regrown wb dq osq).block g (Array.getElem?_eq_some_iff.1 HROW.out).1).trans HROW.out)
  rw [hwr]
  clear hwr k0 k1 k2 k3 k4 t0 t1 t2 t3 t4 HSQ
  have hrr := (HR.out.below HBR.out).drop hSn
  obtain ⟨ra, hra⟩ : ∃ ra, (if cp = S then some xa else some (xa.add S)) = ra := ⟨_, rfl⟩
  obtain ⟨rn, hrn⟩ : ∃ rn, n - S = rn := ⟨_, rfl⟩
  obtain ⟨rc, hrc⟩ : ∃ rc, cp - S = rc := ⟨_, rfl⟩
  obtain ⟨R, hRR⟩ : ∃ R, bs.drop S = R := ⟨_, rfl⟩
  have hRl : R.length = rn := by rw [← hRR, List.length_drop, HN.out, hrn]
  have hrb : Byt R := fun z hz => hb z (by rw [← hRR] at hz; exact List.mem_of_mem_drop hz)
  have hrn2 : rn ≤ 4503599627370496 := by omega
  have hrc2 : rc ≤ 9223372036854775807 := by omega
  rw [hra, hrn, hrc, hRR] at hrr
  rw [hra, hrn, hrc]
  have HRR := Lib.hid hrr
  have HRL := Lib.hid hRl
  have HRB := Lib.hid hrb
  have HDR := Lib.hid hRR
  obtain ⟨⟨t0, t1, t2, t3, t4⟩, _⟩ := row5 HROW2.out
  have hcmp : (rn : Int) < q := by rw [← hrn, ← HN.out, hn0]; exact hsh
  clear hsh
  clear hrr hRl hrb hRR hra hrn hrc HSZ
  go_wp2_with fail
  go_ret2
  exact ⟨rfl, HBR.out⟩

set_option maxHeartbeats 2000000 in
theorem decode_one (v : Value) (bs : List Int) (w : World) (h : Rd w .u8 v bs) (hl : bs.length ≤ 4503599627370496) (hb : Byt bs) (c x y m s : Int) (hp : parseL bs = (0, ⟨c, x, y, m, s⟩)) (hm : m < 256) (hlong : ¬ ((bs.drop s.toNat).length : Int) < szL c x y m) :
    Calls Tryd.prog 18 #[v] w fun e w' => DP w (upL m ((bs.drop s.toNat).take (szL c x y m).toNat)) c x y m e w' := by
  have HPA := Lib.hid (parse_any v bs w h hl)
  rw [hp] at HPA
  obtain ⟨hco, hs1, hs2⟩ := parse_good hb hp
  simp only at hco hs1 hs2
  obtain ⟨S, rfl⟩ : ∃ S : Nat, s = S := ⟨s.toNat, by omega⟩
  obtain ⟨xo, cp, rfl, hcp, hcl, -⟩ := h.form
  obtain ⟨xa, rfl⟩ := h.some_ (by omega)
  obtain ⟨n, hn⟩ : ∃ n, bs.length = n := ⟨_, rfl⟩
  have HR := Lib.hid h
  rw [hn] at hl hs2 hcl HPA HR ⊢
  have HN := Lib.hid hn
  have hSn : S ≤ n := by omega
  obtain ⟨q, hq⟩ : ∃ q, szL c x y m = q := ⟨_, rfl⟩
  have HSZ : Hid (∀ w : World, Calls Tryd.prog 17 #[headV c x y m S] w fun e w' => e = .returned (.int .i64 q) ∧ Below w.heap.size w w') := Lib.hid fun w => by have := psize_any c x y m S w; rw [hq] at this; exact this
  unfold maxLen at hcp
  have hwd : wdL m = 1 := by unfold wdL; rw [if_pos hm]
  have HWD : Hid (∀ w : World, Calls Tryd.prog 16 #[.int .i64 m] w fun e w' => e = .returned (.int .i64 1) ∧ w = w') := Lib.hid fun w => by have := pwidth_any m w; rw [hwd] at this; exact this
  obtain ⟨m1, m2, hc3, a1, a2, b1', b2, d1, d2, p1, p2⟩ := codeR_zero hco
  obtain ⟨N, hN⟩ : ∃ N : Nat, x * y * c = N := ⟨(x * y * c).toNat, by omega⟩
  have hqN := szL_of hco
  rw [hq, hN, hwd] at hqN
  obtain rfl : q = ((N : Nat) : Int) := by rw [hqN]; push_cast; omega
  have HXN := Lib.hid hN
  have HCO := Lib.hid hco
  have hN1 : 1 ≤ N := by omega
  have hN2 : N ≤ 268435456 := by omega
  rw [hq, Int.toNat_natCast, Int.toNat_natCast]
  rw [hq, Int.toNat_natCast] at hlong
  obtain ⟨LF, hLF⟩ : ∃ LF, upL m ((bs.drop S).take (N)) = LF := ⟨_, rfl⟩
  rw [hLF]
  have HLF := Lib.hid hLF
  clear hLF
  clear hwd m1 m2 hc3 a1 a2 b1' b2 d1 d2 p1 p2 hqN hN hq
  clear h hp hn hs1 hs2
  go_enter Tryd.func18, Tryd.ntmps18
  go_wp2_with (go_at_call 13; refine HPA.out.mono ?_; rintro e w1 ⟨rfl, hB⟩; have HB := Lib.hid hB; clear hB)
  have HB0 := Lib.hid (HB.out.alloc HB.out.size (.cells #[.int .i64 c, .int .i64 x, .int .i64 y, .int .i64 m, .int .i64 S] 23))
  have hrow : (w1.alloc (.cells #[.int .i64 c, .int .i64 x, .int .i64 y, .int .i64 m, .int .i64 S] 23)).heap[w1.heap.size]? = some (.cells #[.int .i64 c, .int .i64 x, .int .i64 y, .int .i64 m, .int .i64 S] 23 (0, 0)) := heap_alloc_new w1 _
  have HROW := Lib.hid hrow
  have hgw : w.heap.size ≤ w1.heap.size := HB.out.size
  obtain ⟨wb, hwb⟩ : ∃ wb, w1.alloc (.cells #[.int .i64 c, .int .i64 x, .int .i64 y, .int .i64 m, .int .i64 S] 23) = wb := ⟨_, rfl⟩
  rw [hwb] at HB0 HROW ⊢
  obtain ⟨g, hg⟩ : ∃ g, w1.heap.size = g := ⟨_, rfl⟩
  rw [hg] at HROW hgw ⊢
  clear hwb hrow hg
  obtain ⟨⟨t0, t1, t2, t3, t4⟩, _⟩ := row5 HROW.out
  have k0 := cell_regrown t0
  have k1 := cell_regrown t1
  have k2 := cell_regrown t2
  have k3 := cell_regrown t3
  have k4 := cell_regrown t4
  have HSQ : Hid (∀ d os, Calls Tryd.prog 17 #[headV c x y m S] (grow (redrawn wb d) os) fun e w'' => e = .returned (.int .i64 ((N : Nat) : Int)) ∧ ∃ p : Regrown, w'' = grow (redrawn wb p.d) p.os) :=
    Lib.hid fun d os => Calls.regrown_of (HSZ.out _)
  refine wp_region_quiet_below (by kernel_rfl) (by kernel_rfl) ?_
  repeat (go_big_quiet_step ((with_reducible (first | exact HSQ.out _ _))))
  refine wpQuiet_nil ?_
  intro _ hw'
  obtain ⟨⟨dq, osq⟩, hw''⟩ := hw'
  subst hw''
  obtain ⟨wr, hwr⟩ : ∃ wr, grow (redrawn wb dq) osq = wr := ⟨_, rfl⟩
  have HBR : Hid (Below w.heap.size w wr) := Lib.hid (by rw [← hwr]; exact HB0.out.trans ((below_regrown wb dq osq).mono HB0.out.size))
  have HROW2 : Hid (wr.heap[g]? = some (.cells #[.int .i64 c, .int .i64 x, .int .i64 y, .int .i64 m, .int .i64 S] 23 (0, 0))) := Lib.hid (by rw [← hwr]; exact ((below_regrown wb dq osq).block g (Array.getElem?_eq_some_iff.1 HROW.out).1).trans HROW.out)
  rw [hwr]
  clear hwr k0 k1 k2 k3 k4 t0 t1 t2 t3 t4 HSQ
  have hrr := (HR.out.below HBR.out).drop hSn
  obtain ⟨ra, hra⟩ : ∃ ra, (if cp = S then some xa else some (xa.add S)) = ra := ⟨_, rfl⟩
  obtain ⟨rn, hrn⟩ : ∃ rn, n - S = rn := ⟨_, rfl⟩
  obtain ⟨rc, hrc⟩ : ∃ rc, cp - S = rc := ⟨_, rfl⟩
  obtain ⟨R, hRR⟩ : ∃ R, bs.drop S = R := ⟨_, rfl⟩
  have hRl : R.length = rn := by rw [← hRR, List.length_drop, HN.out, hrn]
  have hrb : Byt R := fun z hz => hb z (by rw [← hRR] at hz; exact List.mem_of_mem_drop hz)
  have hrn2 : rn ≤ 4503599627370496 := by omega
  have hrc2 : rc ≤ 9223372036854775807 := by omega
  rw [hra, hrn, hrc, hRR] at hrr
  rw [hra, hrn, hrc]
  have HRR := Lib.hid hrr
  have HRL := Lib.hid hRl
  have HRB := Lib.hid hrb
  have HDR := Lib.hid hRR
  obtain ⟨⟨t0, t1, t2, t3, t4⟩, _⟩ := row5 HROW2.out
  have hge : N ≤ rn := by rw [← hrn, ← HN.out]; rw [List.length_drop] at hlong; omega
  rw [hRR] at HLF
  have hrk : ∀ w', Below w.heap.size w w' → Rd w' .u8 (.slice ra rn rc) R := fun w' hb' => by
    have := (HR.out.below hb').drop hSn
    rw [hra, hrn, hrc, hRR] at this
    exact this
  have HRK := Lib.hid hrk
  clear hrk
  clear hlong hco
  clear hrr hRl hrb hRR hra hrn hrc HSZ
  have hal : ∀ o, Below wr.heap.size wr (wr.alloc o) := fun o => (Below.refl wr.heap.size wr).alloc (Nat.le_refl _) o
  obtain ⟨i, hi, hz0, hz1, hz2⟩ := info_parts infoU16
  have hwr : w.heap.size ≤ wr.heap.size := HBR.out.size
  clear hal
  go_wp2_with (first
    | (go_at_call 16; refine (HWD.out _).mono ?_; rintro e w2 ⟨rfl, rfl⟩)
    | (at_make; refine wpList_make_own _ rfl _ _ 42 rfl w.heap.size 34 i (.int .u16 0) 1 Tryd.underlying42 hi hz0 hz1 .i64 .i64 _ N rfl rfl (by omega) (by rw [hz2]; omega) (by unfold maxLen; omega) hwr ?_; intro wm hown hgm; have HOM := Lib.hid (OwnM.of_row (k := .u16) (xs := []) hown); have hgm2 := below_of_grown hgm; have HBM := Lib.hid (HBR.out.trans (hgm2.mono hwr)); have HROWM := Lib.hid (below_row (B := 0) hgm2 HROW2.out); clear hown hgm hgm2))
  have hgr : g < wr.heap.size := (Array.getElem?_eq_some_iff.1 HROW2.out).1
  go_loopw [9, 10] (fun l i w' => ∃ (k b' c' : Nat), k ≤ N ∧ i = .int .i64 (k : Nat) ∧ l = .slice (some ⟨b', 0, none⟩) k c' ∧ OwnM w' w.heap.size .u16 (.slice (some ⟨b', 0, none⟩) k c') (R.take k) ∧ Below w.heap.size w w' ∧ b' ≠ g ∧
    w'.heap[g]? = some (.cells #[.int .i64 c, .int .i64 x, .int .i64 y, .int .i64 m, .int .i64 S] 23 (0, 0))) (fun _ i _ => (N) - (intOf i).toNat)
  case atStart => exact ⟨0, _, N, by omega, rfl, rfl, by simpa [upL2] using HOM.out, HBM.out, by omega, HROWM.out⟩
  case round =>
    obtain ⟨k, b', c', hk, rfl, rfl, hown, hB, hbg, hrow⟩ := hrel
    have HOK := Lib.hid hown
    have HBK := Lib.hid hB
    have HROWK := Lib.hid hrow
    have hwk : w.heap.size ≤ wr.heap.size := hB.size
    have hgk : g < wr.heap.size := (Array.getElem?_eq_some_iff.1 hrow).1
    clear hown hB hrow
    by_cases hlt : k < N
    · have hkx : k < R.length := by have := HRL.out; omega
      obtain ⟨x1, rfl⟩ := HRR.out.some_ (by omega)
      obtain ⟨u, HU, cu⟩ := (HRK.out _ HBK.out).get rfl hkx
      have HTK : Hid (R.take (k + 1) = R.take k ++ [u]) := Lib.hid (by rw [take_succ_getD hkx, HU.out])
      have hu := HRB.out u (by rw [← HU.out, List.getD_eq_getElem?_getD, List.getElem?_eq_getElem hkx]; exact List.getElem_mem _)
      obtain ⟨u0, u1⟩ := hu
      have hal : ∀ o, Below wr.heap.size wr (wr.alloc o) := fun o => (Below.refl wr.heap.size wr).alloc (Nat.le_refl _) o
      have HAL : ∀ o, Hid (Below wr.heap.size wr (wr.alloc o)) := fun o => Lib.hid (hal o)
      clear hal
      obtain ⟨T, hT⟩ : ∃ T, R.take k = T := ⟨_, rfl⟩
      rw [hT] at HOK HTK
      have hTk : T.length = k := by
        obtain ⟨b9, c9, he, -⟩ := HOK.out
        injection he with _ he _
        exact he.symm
      have HTL := Lib.hid hTk
      clear hT hTk
      go_wp2_with (at_builtin; refine wpList_append_mk _ rfl _ _ 42 rfl w.heap.size 34 i .u16 2 Tryd.underlying42 hi hz0 hz1 hz2 _ T rfl (HOK.out.below (HAL _).out) _ [u] rfl (rd_new _ _ _ [u] _ rfl 1 rfl (by unfold maxLen; omega) _) (by rw [HTL.out]; unfold maxLen; simp only [List.length_cons, List.length_nil]; omega) (by rw [HTL.out]; simp only [List.length_cons, List.length_nil]; omega) (Nat.le_trans hwk (HAL _).out.size) ?_; intro v1 w1 ho1 hb1 hg1 hk1; obtain ⟨b1, c1, rfl, -⟩ := id ho1; have hl1 : (T ++ [u]).length = k + 1 := (by rw [List.length_append, HTL.out]; rfl); rw [hl1] at ho1 ⊢; have HO1 := Lib.hid ho1; have HB1 := Lib.hid hb1; have HG1 := Lib.hid hg1; have HK1 := Lib.hid hk1; clear ho1 hb1 hg1 hk1 hl1)
      refine ⟨⟨k + 1, b1, c1, by omega, by go_num, rfl, by rw [HTK.out]; exact HO1.out, (HBK.out.alloc HBK.out.size _).trans HB1.out, ?_, ?_⟩, by simp [intOf]; omega⟩
      · rcases HK1.out with hk1 | ⟨p, hk1, hp⟩
        · have hk2 : b1 = b' := Option.some.inj hk1
          omega
        · have hk2 : b1 = p := Option.some.inj hk1
          have h2 := (HAL (.cells #[.int .u16 (u)] 34)).out.size
          omega
      · have h3 := HG1.out.block g (Nat.lt_of_lt_of_le hgk (HAL (.cells #[.int .u16 (u)] 34)).out.size) (by intro he; exact hbg (Option.some.inj he).symm)
        exact h3.trans (((HAL _).out.block g hgk).trans HROWK.out)
    · have hkN : k = N := by omega
      subst hkN
      have hLF : R.take k = LF := by rw [← HLF.out]; unfold upL; rw [if_pos (by omega)]
      rw [hLF] at HOK
      have hLb : ∀ z ∈ LF, 0 ≤ z ∧ z ≤ 65535 := by
        rw [← HLF.out]
        exact upL_b m _ (fun z hz => HRB.out z (List.mem_of_mem_take hz))
      have hLl : LF.length = k := by
        obtain ⟨b9, c9, he, -⟩ := HOK.out
        injection he with _ he _
        exact he.symm
      have hofr := ofR_eq HCO.out (l := LF) (by rw [hLl]; exact HXN.out.symm)
      have HOF := Lib.hid hofr
      have HLB := Lib.hid hLb
      clear hLF hLl hLb hofr
      obtain ⟨⟨t0, t1, t2, t3, t4⟩, _⟩ := row5 HROWK.out
      go_wp2_with fail
      by_cases hmx : m < maxl LF
      · refine (of_bad x y c m _ LF _ HOK.out.rd HLB.out (by rw [HOF.out, if_pos hmx]; decide)).mono ?_
        rw [HOF.out, if_pos hmx]
        rintro e wo ⟨rfl, hB⟩
        have HBo := Lib.hid (HBK.out.trans (hB.mono hwk))
        have HMX := Lib.hid hmx
        clear hB hmx
        go_wp2_with fail
        go_ret2
        exact ⟨HBo.out, .inl ⟨HMX.out, rfl⟩⟩
      · refine (of_ok x y c m _ LF _ HOK.out.rd HLB.out (by rw [HOF.out, if_neg hmx])).mono ?_
        rintro e wo ⟨g2, r2, rfl, hg2, hr2, hi2, hB⟩
        have HBo := Lib.hid (HBK.out.trans (hB.mono hwk))
        have HMX := Lib.hid hmx
        have HI2 := Lib.hid hi2
        clear hB hmx hi2
        go_wp2_with fail
        go_ret2
        exact ⟨HBo.out,   .inr ⟨by have := HMX.out; omega, g2, r2, rfl, by omega, by omega, HI2.out⟩⟩

set_option maxHeartbeats 2000000 in
theorem decode_two (v : Value) (bs : List Int) (w : World) (h : Rd w .u8 v bs) (hl : bs.length ≤ 4503599627370496) (hb : Byt bs) (c x y m s : Int) (hp : parseL bs = (0, ⟨c, x, y, m, s⟩)) (hm : ¬ m < 256) (hlong : ¬ ((bs.drop s.toNat).length : Int) < szL c x y m) :
    Calls Tryd.prog 18 #[v] w fun e w' => DP w (upL m ((bs.drop s.toNat).take (szL c x y m).toNat)) c x y m e w' := by
  have HPA := Lib.hid (parse_any v bs w h hl)
  rw [hp] at HPA
  obtain ⟨hco, hs1, hs2⟩ := parse_good hb hp
  simp only at hco hs1 hs2
  obtain ⟨S, rfl⟩ : ∃ S : Nat, s = S := ⟨s.toNat, by omega⟩
  obtain ⟨xo, cp, rfl, hcp, hcl, -⟩ := h.form
  obtain ⟨xa, rfl⟩ := h.some_ (by omega)
  obtain ⟨n, hn⟩ : ∃ n, bs.length = n := ⟨_, rfl⟩
  have HR := Lib.hid h
  rw [hn] at hl hs2 hcl HPA HR ⊢
  have HN := Lib.hid hn
  have hSn : S ≤ n := by omega
  obtain ⟨q, hq⟩ : ∃ q, szL c x y m = q := ⟨_, rfl⟩
  have HSZ : Hid (∀ w : World, Calls Tryd.prog 17 #[headV c x y m S] w fun e w' => e = .returned (.int .i64 q) ∧ Below w.heap.size w w') := Lib.hid fun w => by have := psize_any c x y m S w; rw [hq] at this; exact this
  unfold maxLen at hcp
  have hwd : wdL m = 2 := by unfold wdL; rw [if_neg hm]
  have HWD : Hid (∀ w : World, Calls Tryd.prog 16 #[.int .i64 m] w fun e w' => e = .returned (.int .i64 2) ∧ w = w') := Lib.hid fun w => by have := pwidth_any m w; rw [hwd] at this; exact this
  obtain ⟨m1, m2, hc3, a1, a2, b1', b2, d1, d2, p1, p2⟩ := codeR_zero hco
  obtain ⟨N, hN⟩ : ∃ N : Nat, x * y * c = N := ⟨(x * y * c).toNat, by omega⟩
  have hqN := szL_of hco
  rw [hq, hN, hwd] at hqN
  obtain rfl : q = ((2 * N : Nat) : Int) := by rw [hqN]; push_cast; omega
  have HXN := Lib.hid hN
  have HCO := Lib.hid hco
  have hN1 : 1 ≤ N := by omega
  have hN2 : N ≤ 268435456 := by omega
  rw [hq, Int.toNat_natCast, Int.toNat_natCast]
  rw [hq, Int.toNat_natCast] at hlong
  obtain ⟨LF, hLF⟩ : ∃ LF, upL m ((bs.drop S).take (2 * N)) = LF := ⟨_, rfl⟩
  rw [hLF]
  have HLF := Lib.hid hLF
  clear hLF
  clear hwd m1 m2 hc3 a1 a2 b1' b2 d1 d2 p1 p2 hqN hN hq
  clear h hp hn hs1 hs2
  go_enter Tryd.func18, Tryd.ntmps18
  go_wp2_with (go_at_call 13; refine HPA.out.mono ?_; rintro e w1 ⟨rfl, hB⟩; have HB := Lib.hid hB; clear hB)
  have HB0 := Lib.hid (HB.out.alloc HB.out.size (.cells #[.int .i64 c, .int .i64 x, .int .i64 y, .int .i64 m, .int .i64 S] 23))
  have hrow : (w1.alloc (.cells #[.int .i64 c, .int .i64 x, .int .i64 y, .int .i64 m, .int .i64 S] 23)).heap[w1.heap.size]? = some (.cells #[.int .i64 c, .int .i64 x, .int .i64 y, .int .i64 m, .int .i64 S] 23 (0, 0)) := heap_alloc_new w1 _
  have HROW := Lib.hid hrow
  have hgw : w.heap.size ≤ w1.heap.size := HB.out.size
  obtain ⟨wb, hwb⟩ : ∃ wb, w1.alloc (.cells #[.int .i64 c, .int .i64 x, .int .i64 y, .int .i64 m, .int .i64 S] 23) = wb := ⟨_, rfl⟩
  rw [hwb] at HB0 HROW ⊢
  obtain ⟨g, hg⟩ : ∃ g, w1.heap.size = g := ⟨_, rfl⟩
  rw [hg] at HROW hgw ⊢
  clear hwb hrow hg
  obtain ⟨⟨t0, t1, t2, t3, t4⟩, _⟩ := row5 HROW.out
  have k0 := cell_regrown t0
  have k1 := cell_regrown t1
  have k2 := cell_regrown t2
  have k3 := cell_regrown t3
  have k4 := cell_regrown t4
  have HSQ : Hid (∀ d os, Calls Tryd.prog 17 #[headV c x y m S] (grow (redrawn wb d) os) fun e w'' => e = .returned (.int .i64 ((2 * N : Nat) : Int)) ∧ ∃ p : Regrown, w'' = grow (redrawn wb p.d) p.os) :=
    Lib.hid fun d os => Calls.regrown_of (HSZ.out _)
  refine wp_region_quiet_below (by kernel_rfl) (by kernel_rfl) ?_
  repeat (go_big_quiet_step ((with_reducible (first | exact HSQ.out _ _))))
  refine wpQuiet_nil ?_
  intro _ hw'
  obtain ⟨⟨dq, osq⟩, hw''⟩ := hw'
  subst hw''
  obtain ⟨wr, hwr⟩ : ∃ wr, grow (redrawn wb dq) osq = wr := ⟨_, rfl⟩
  have HBR : Hid (Below w.heap.size w wr) := Lib.hid (by rw [← hwr]; exact HB0.out.trans ((below_regrown wb dq osq).mono HB0.out.size))
  have HROW2 : Hid (wr.heap[g]? = some (.cells #[.int .i64 c, .int .i64 x, .int .i64 y, .int .i64 m, .int .i64 S] 23 (0, 0))) := Lib.hid (by rw [← hwr]; exact ((below_regrown wb dq osq).block g (Array.getElem?_eq_some_iff.1 HROW.out).1).trans HROW.out)
  rw [hwr]
  clear hwr k0 k1 k2 k3 k4 t0 t1 t2 t3 t4 HSQ
  have hrr := (HR.out.below HBR.out).drop hSn
  obtain ⟨ra, hra⟩ : ∃ ra, (if cp = S then some xa else some (xa.add S)) = ra := ⟨_, rfl⟩
  obtain ⟨rn, hrn⟩ : ∃ rn, n - S = rn := ⟨_, rfl⟩
  obtain ⟨rc, hrc⟩ : ∃ rc, cp - S = rc := ⟨_, rfl⟩
  obtain ⟨R, hRR⟩ : ∃ R, bs.drop S = R := ⟨_, rfl⟩
  have hRl : R.length = rn := by rw [← hRR, List.length_drop, HN.out, hrn]
  have hrb : Byt R := fun z hz => hb z (by rw [← hRR] at hz; exact List.mem_of_mem_drop hz)
  have hrn2 : rn ≤ 4503599627370496 := by omega
  have hrc2 : rc ≤ 9223372036854775807 := by omega
  rw [hra, hrn, hrc, hRR] at hrr
  rw [hra, hrn, hrc]
  have HRR := Lib.hid hrr
  have HRL := Lib.hid hRl
  have HRB := Lib.hid hrb
  have HDR := Lib.hid hRR
  obtain ⟨⟨t0, t1, t2, t3, t4⟩, _⟩ := row5 HROW2.out
  have hge : 2 * N ≤ rn := by rw [← hrn, ← HN.out]; rw [List.length_drop] at hlong; omega
  rw [hRR] at HLF
  have hrk : ∀ w', Below w.heap.size w w' → Rd w' .u8 (.slice ra rn rc) R := fun w' hb' => by
    have := (HR.out.below hb').drop hSn
    rw [hra, hrn, hrc, hRR] at this
    exact this
  have HRK := Lib.hid hrk
  clear hrk
  clear hlong hco
  clear hrr hRl hrb hRR hra hrn hrc HSZ
  have hal : ∀ o, Below wr.heap.size wr (wr.alloc o) := fun o => (Below.refl wr.heap.size wr).alloc (Nat.le_refl _) o
  obtain ⟨i, hi, hz0, hz1, hz2⟩ := info_parts infoU16
  have hwr : w.heap.size ≤ wr.heap.size := HBR.out.size
  clear hal
  go_wp2_with (first
    | (go_at_call 16; refine (HWD.out _).mono ?_; rintro e w2 ⟨rfl, rfl⟩)
    | (at_make; refine wpList_make_own _ rfl _ _ 42 rfl w.heap.size 34 i (.int .u16 0) 1 Tryd.underlying42 hi hz0 hz1 .i64 .i64 _ N rfl rfl (by omega) (by rw [hz2]; omega) (by unfold maxLen; omega) hwr ?_; intro wm hown hgm; have HOM := Lib.hid (OwnM.of_row (k := .u16) (xs := []) hown); have hgm2 := below_of_grown hgm; have HBM := Lib.hid (HBR.out.trans (hgm2.mono hwr)); have HROWM := Lib.hid (below_row (B := 0) hgm2 HROW2.out); clear hown hgm hgm2))
  have hgr : g < wr.heap.size := (Array.getElem?_eq_some_iff.1 HROW2.out).1
  go_loopw [9, 10] (fun l i w' => ∃ (k b' c' : Nat), k ≤ N ∧ i = .int .i64 (2 * k : Nat) ∧ l = .slice (some ⟨b', 0, none⟩) k c' ∧ OwnM w' w.heap.size .u16 (.slice (some ⟨b', 0, none⟩) k c') (upL2 (R.take (2 * k))) ∧ Below w.heap.size w w' ∧ b' ≠ g ∧
    w'.heap[g]? = some (.cells #[.int .i64 c, .int .i64 x, .int .i64 y, .int .i64 m, .int .i64 S] 23 (0, 0))) (fun _ i _ => (2 * N) - (intOf i).toNat)
  case atStart => exact ⟨0, _, N, by omega, rfl, rfl, by simpa [upL2] using HOM.out, HBM.out, by omega, HROWM.out⟩
  case round =>
    obtain ⟨k, b', c', hk, rfl, rfl, hown, hB, hbg, hrow⟩ := hrel
    have HOK := Lib.hid hown
    have HBK := Lib.hid hB
    have HROWK := Lib.hid hrow
    have hwk : w.heap.size ≤ wr.heap.size := hB.size
    have hgk : g < wr.heap.size := (Array.getElem?_eq_some_iff.1 hrow).1
    clear hown hB hrow
    by_cases hlt : k < N
    · have hkx : 2 * k + 1 < R.length := by have := HRL.out; omega
      obtain ⟨x1, rfl⟩ := HRR.out.some_ (by omega)
      obtain ⟨u, HU, cu⟩ := (HRK.out _ HBK.out).get rfl (show 2 * k < R.length by omega)
      obtain ⟨v, HV, cv⟩ := (HRK.out _ HBK.out).get rfl hkx
      have HTK : Hid (upL2 (R.take (2 * (k + 1))) = upL2 (R.take (2 * k)) ++ [256 * u + v]) := Lib.hid (up2_take hkx HU.out HV.out)
      have hu := HRB.out u (by rw [← HU.out, List.getD_eq_getElem?_getD, List.getElem?_eq_getElem (show 2 * k < R.length by omega)]; exact List.getElem_mem _)
      have hv := HRB.out v (by rw [← HV.out, List.getD_eq_getElem?_getD, List.getElem?_eq_getElem hkx]; exact List.getElem_mem _)
      obtain ⟨u0, u1⟩ := hu
      obtain ⟨v0, v1⟩ := hv
      have cv2 : wr.cell? ⟨x1.block, x1.off + (2 * k + 1), none⟩ = some (.int .u8 v) := by
        have := cv
        unfold Addr.add at this
        rw [if_neg (by omega)] at this
        exact this
      have hor := or16 u0 u1 v0 v1
      have hal : ∀ o, Below wr.heap.size wr (wr.alloc o) := fun o => (Below.refl wr.heap.size wr).alloc (Nat.le_refl _) o
      have HAL : ∀ o, Hid (Below wr.heap.size wr (wr.alloc o)) := fun o => Lib.hid (hal o)
      clear hal
      obtain ⟨T, hT⟩ : ∃ T, upL2 (R.take (2 * k)) = T := ⟨_, rfl⟩
      rw [hT] at HOK HTK
      have hTk : T.length = k := by
        obtain ⟨b9, c9, he, -⟩ := HOK.out
        injection he with _ he _
        exact he.symm
      have HTL := Lib.hid hTk
      clear hT hTk
      go_wp2_with (at_builtin; refine wpList_append_mk _ rfl _ _ 42 rfl w.heap.size 34 i .u16 2 Tryd.underlying42 hi hz0 hz1 hz2 _ T rfl (HOK.out.below (HAL _).out) _ [256 * u + v] rfl (rd_new _ _ _ [256 * u + v] _ rfl 1 rfl (by unfold maxLen; omega) _) (by rw [HTL.out]; unfold maxLen; simp only [List.length_cons, List.length_nil]; omega) (by rw [HTL.out]; simp only [List.length_cons, List.length_nil]; omega) (Nat.le_trans hwk (HAL _).out.size) ?_; intro v1 w1 ho1 hb1 hg1 hk1; obtain ⟨b1, c1, rfl, -⟩ := id ho1; have hl1 : (T ++ [256 * u + v]).length = k + 1 := (by rw [List.length_append, HTL.out]; rfl); rw [hl1] at ho1 ⊢; have HO1 := Lib.hid ho1; have HB1 := Lib.hid hb1; have HG1 := Lib.hid hg1; have HK1 := Lib.hid hk1; clear ho1 hb1 hg1 hk1 hl1)
      refine ⟨⟨k + 1, b1, c1, by omega, by go_num, rfl, by rw [HTK.out]; exact HO1.out, (HBK.out.alloc HBK.out.size _).trans HB1.out, ?_, ?_⟩, by simp [intOf]; omega⟩
      · rcases HK1.out with hk1 | ⟨p, hk1, hp⟩
        · have hk2 : b1 = b' := Option.some.inj hk1
          omega
        · have hk2 : b1 = p := Option.some.inj hk1
          have h2 := (HAL (.cells #[.int .u16 (256 * u + v)] 34)).out.size
          omega
      · have h3 := HG1.out.block g (Nat.lt_of_lt_of_le hgk (HAL (.cells #[.int .u16 (256 * u + v)] 34)).out.size) (by intro he; exact hbg (Option.some.inj he).symm)
        exact h3.trans (((HAL _).out.block g hgk).trans HROWK.out)
    · have hkN : k = N := by omega
      subst hkN
      have hLF : upL2 (R.take (2 * k)) = LF := by rw [← HLF.out]; unfold upL; rw [if_neg (by omega)]
      rw [hLF] at HOK
      have hLb : ∀ z ∈ LF, 0 ≤ z ∧ z ≤ 65535 := by
        rw [← HLF.out]
        exact upL_b m _ (fun z hz => HRB.out z (List.mem_of_mem_take hz))
      have hLl : LF.length = k := by
        obtain ⟨b9, c9, he, -⟩ := HOK.out
        injection he with _ he _
        exact he.symm
      have hofr := ofR_eq HCO.out (l := LF) (by rw [hLl]; exact HXN.out.symm)
      have HOF := Lib.hid hofr
      have HLB := Lib.hid hLb
      clear hLF hLl hLb hofr
      obtain ⟨⟨t0, t1, t2, t3, t4⟩, _⟩ := row5 HROWK.out
      go_wp2_with fail
      by_cases hmx : m < maxl LF
      · refine (of_bad x y c m _ LF _ HOK.out.rd HLB.out (by rw [HOF.out, if_pos hmx]; decide)).mono ?_
        rw [HOF.out, if_pos hmx]
        rintro e wo ⟨rfl, hB⟩
        have HBo := Lib.hid (HBK.out.trans (hB.mono hwk))
        have HMX := Lib.hid hmx
        clear hB hmx
        go_wp2_with fail
        go_ret2
        exact ⟨HBo.out, .inl ⟨HMX.out, rfl⟩⟩
      · refine (of_ok x y c m _ LF _ HOK.out.rd HLB.out (by rw [HOF.out, if_neg hmx])).mono ?_
        rintro e wo ⟨g2, r2, rfl, hg2, hr2, hi2, hB⟩
        have HBo := Lib.hid (HBK.out.trans (hB.mono hwk))
        have HMX := Lib.hid hmx
        have HI2 := Lib.hid hi2
        clear hB hmx hi2
        go_wp2_with fail
        go_ret2
        exact ⟨HBo.out,   .inr ⟨by have := HMX.out; omega, g2, r2, rfl, by omega, by omega, HI2.out⟩⟩

end Go.Proofs.YtnpkkcbgfnnfmaaDoor
