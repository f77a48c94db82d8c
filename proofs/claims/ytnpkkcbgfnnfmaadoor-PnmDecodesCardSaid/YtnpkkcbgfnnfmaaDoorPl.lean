import Derived.Test.YtnpkkcbgfnnfmaaDoorPk
/- smaltoref11.Decode of bytes that are enough. (printed by mkpl.py) -/
namespace Go.Proofs.YtnpkkcbgfnnfmaaDoor
open Go.RowKit Go.Sort
set_option linter.unusedVariables false
set_option linter.unusedSimpArgs false
set_option maxRecDepth 100000

/-- what the document tells of bytes whose samples are l -/
def DR (w : World) (l : List Int) (c x y m : Int) (e : Ending) (w' : World) : Prop :=
  Below w.heap.size w w' ∧ ((m < maxl l ∧ e = .returned (.tuple #[imgZ, .int .i64 4])) ∨
    (¬ m < maxl l ∧ ∃ (xo : Option Addr) (co : Nat), e = .returned (.tuple #[imgV x y c m (.slice xo l.length co), .int .i64 0]) ∧ Rd w' .u16 (.slice xo l.length co) l))

set_option maxHeartbeats 2000000 in
theorem refDecode_one (bs : List Int) (w : World) (hl : bs.length ≤ 4503599627370496) (hb : Byt bs) (c x y m s : Int) (hp : parseL bs = (0, ⟨c, x, y, m, s⟩)) (hm : m < 256) (hsh : ¬ ((bs.drop s.toNat).length : Int) < szL c x y m) :
    Calls Tryd.prog 19 #[.string (strOfNums bs)] w fun e w' => DR w (upL m ((bs.drop s.toNat).take (szL c x y m).toNat)) c x y m e w' := by
  have HPA := Lib.hid fun w => refParse_any bs hb hl w
  rw [hp] at HPA
  obtain ⟨hco, hs1, hs2⟩ := parse_good hb hp
  simp only at hco hs1 hs2
  obtain ⟨S, rfl⟩ : ∃ S : Nat, s = S := ⟨s.toNat, by omega⟩
  rw [Int.toNat_natCast] at hsh
  rw [Int.toNat_natCast]
  obtain ⟨n, hn⟩ : ∃ n, bs.length = n := ⟨_, rfl⟩
  have hSn : S ≤ n := by omega
  obtain ⟨R, hRR⟩ : ∃ R, bs.drop S = R := ⟨_, rfl⟩
  have hrn : R.length = n - S := by rw [← hRR, List.length_drop, hn]
  obtain ⟨rn, hrn2⟩ : ∃ rn, n - S = rn := ⟨_, rfl⟩
  rw [hrn2] at hrn
  obtain ⟨m1, m2, hc3, a1, a2, b1', b2, d1, d2, p1, p2⟩ := codeR_zero hco
  obtain ⟨N, hN⟩ : ∃ N : Nat, x * y * c = N := ⟨(x * y * c).toNat, by omega⟩
  obtain ⟨P1, hP1⟩ : ∃ P1, x * y = P1 := ⟨_, rfl⟩
  have e1 : wrap64 (x * y) = P1 := by rw [wrap_in (by omega) (by omega)]; exact hP1
  have e2 : wrap64 (P1 * c) = (N : Int) := by rw [← hP1, wrap_in (by omega) (by omega)]; exact hN
  have hq := szL_of hco
  rw [hN] at hq
  rw [hRR, hrn, hq] at hsh
  have hrb : Byt R := fun z hz => hb z (by rw [← hRR] at hz; exact List.mem_of_mem_drop hz)
  have HRB := Lib.hid hrb
  have HRL := Lib.hid hrn
  rw [hq, hRR]
  clear hrb
  have hsz : (strOfNums bs).size = n := by rw [son_size, hn]
  have hex : (strOfNums bs).extract S n = strOfNums R := by rw [son_drop bs S n hn, hRR]
  have hszR : (strOfNums R).size = rn := by rw [son_size, hrn]
  have hN1 : 1 ≤ N := by omega
  have hN2 : N ≤ 268435456 := by omega
  have hl2 : n ≤ 4503599627370496 := by omega
  have HA : ∀ o, Hid (Below w.heap.size w (w.alloc o)) := fun o => Lib.hid ((Below.refl w.heap.size w).alloc (Nat.le_refl _) o)
  have hwd : wdL m = 1 := by unfold wdL; rw [if_pos hm]
  rw [hwd] at hsh ⊢
  have hge : N ≤ rn := by omega
  have hsh2 : ¬ (rn : Int) < N := by omega
  have hqt : ((N : Int) * 1).toNat = N := by omega
  rw [hqt]
  obtain ⟨LF, hLF⟩ : ∃ LF, upL m (R.take (N)) = LF := ⟨_, rfl⟩
  rw [hLF]
  have HLF := Lib.hid hLF
  clear hLF hqt hwd hsh
  clear hp hs1 hs2 hco hRR hrn hrn2 m1 m2 hc3 a1 a2 b1' b2 d1 d2 p1 p2 hN hP1 hq hl hn
  go_enter Tryd.func19, Tryd.ntmps19
  go_wp2_with fail
  refine (HPA.out _).mono ?_
  rintro e w1 ⟨rfl, hB⟩
  have HB := Lib.hid ((HA _).out.trans (hB.mono (HA _).out.size))
  have hrow : w1.heap[w.heap.size]? = some (.cells zRow 44 (0, 0)) := below_row (B := 0) hB (heap_alloc_new w _)
  have hrowA : ∀ o, (w1.alloc o).heap[w.heap.size]? = some (.cells zRow 44 (0, 0)) := fun o => (heap_alloc_old w1 o (Array.getElem?_eq_some_iff.1 hrow).1).trans hrow
  have HROW := Lib.hid hrowA
  clear hB
  have t0 := fun o => (row5v (hrowA o)).1.1
  have t1 := fun o => (row5v (hrowA o)).1.2.1
  have t2 := fun o => (row5v (hrowA o)).1.2.2.1
  have t3 := fun o => (row5v (hrowA o)).1.2.2.2.1
  have t4 := fun o => (row5v (hrowA o)).1.2.2.2.2
  have f0 := fun o => (row5v (hrowA o)).2.1
  have f1 := fun o => (row5v (hrowA o)).2.2.1
  have f2 := fun o => (row5v (hrowA o)).2.2.2.1
  have f3 := fun o => (row5v (hrowA o)).2.2.2.2.1
  have f4 := fun o => (row5v (hrowA o)).2.2.2.2.2
  clear hrow hrowA
  go_wp2_with fail
  rw [e2, e1]
  rw [show decide (rn < N) = false from decide_eq_false (by omega)]
  have hl1 : w.heap.size < w1.heap.size := by
    have := (Array.getElem?_eq_some_iff.1 (HROW.out (.cells #[] 5))).1
    rcases Nat.lt_or_ge w.heap.size w1.heap.size with h | h
    · exact h
    · exfalso
      have h2 := HB.out.size
      have h3 : w.heap.size = w1.heap.size := by omega
      have h4 := HROW.out (.cells #[] 5)
      rw [h3, heap_alloc_new] at h4
      cases h4
  obtain ⟨G4, hG4⟩ : ∃ G4, w1.heap.size = G4 := ⟨_, rfl⟩
  obtain ⟨W2, hW2⟩ : ∃ W2, (w1.alloc (.cells #[.int .i64 c, .int .i64 x, .int .i64 y, .int .i64 m, .int .i64 S] 28)).alloc (.cells #[.int .i64 x, .int .i64 y, .int .i64 c, .int .i64 m, .slice none 0 0] 44) = W2 := ⟨_, rfl⟩
  have hz : W2.heap[w.heap.size]? = some (.cells zRow 44 (0, 0)) := by rw [← hW2]; exact (heap_alloc_old _ _ (by simp; omega)).trans (HROW.out _)
  have hh : W2.heap[G4]? = some (.cells #[.int .i64 c, .int .i64 x, .int .i64 y, .int .i64 m, .int .i64 S] 28 (0, 0)) := by rw [← hW2, ← hG4]; exact (heap_alloc_old _ _ (by simp)).trans (heap_alloc_new w1 _)
  have hi9 : W2.heap[G4 + 1]? = some (.cells #[.int .i64 x, .int .i64 y, .int .i64 c, .int .i64 m, .slice none 0 0] 44 (0, 0)) := by
    have := heap_alloc_new (w1.alloc (.cells #[.int .i64 c, .int .i64 x, .int .i64 y, .int .i64 m, .int .i64 S] 28)) (.cells #[.int .i64 x, .int .i64 y, .int .i64 c, .int .i64 m, .slice none 0 0] 44)
    rw [← hW2, ← hG4]
    simpa using this
  have hB2 : Below w.heap.size w W2 := by rw [← hW2]; exact (HB.out.alloc HB.out.size _).alloc (by have := HB.out.size; simp; omega) _
  have hs2 : G4 + 2 ≤ W2.heap.size := (Array.getElem?_eq_some_iff.1 hi9).1
  rw [hG4] at hl1
  rw [hW2, hG4]
  clear hW2 hG4 t0 t1 t2 t3 t4 f0 f1 f2 f3 f4 e1 e2
  have HZ2 := Lib.hid hz
  have HH2 := Lib.hid hh
  have HI2 := Lib.hid hi9
  have HB2 := Lib.hid hB2
  obtain ⟨i, hi, hz0, hz1, hz2⟩ := info_parts infoU16
  clear hz hh hi9 hB2
  go_loopw [53] (fun i wr => ∃ (k : Nat) (xo : Option Addr) (co : Nat), k ≤ N ∧ i = .int .i64 k ∧ wr.heap[w.heap.size]? = some (.cells zRow 44 (0, 0)) ∧ wr.heap[G4]? = some (.cells #[.int .i64 c, .int .i64 x, .int .i64 y, .int .i64 m, .int .i64 S] 28 (0, 0)) ∧
    wr.heap[G4 + 1]? = some (.cells #[.int .i64 x, .int .i64 y, .int .i64 c, .int .i64 m, .slice xo k co] 44 (0, 0)) ∧ Own wr (G4 + 2) 34 .u16 (.slice xo k co) (R.take k) ∧ Below w.heap.size w wr ∧ ∀ z ∈ R.take k, z ≤ m) (fun i _ => N - (intOf i).toNat)
  case atStart => exact ⟨0, none, 0, by omega, rfl, HZ2.out, HH2.out, HI2.out, World.ownsRow_nil _ _ _ _, HB2.out, by simp [upL2]⟩
  case round =>
    obtain ⟨k, xo, co, hk, rfl, hz, hh, hi9, hown, hB, hall⟩ := hrel
    have HZK := Lib.hid hz
    have HHK := Lib.hid hh
    have HIK := Lib.hid hi9
    have HOK := Lib.hid hown
    have HBK := Lib.hid hB
    have HAK := Lib.hid hall
    obtain ⟨⟨t0, t1, t2, t3, t4⟩, -⟩ := row5v hh
    obtain ⟨⟨s0, s1, s2, s3, s4⟩, g0, g1, g2, g3, g4⟩ := row5v hi9
    obtain ⟨⟨r0, r1, r2, r3, r4⟩, q0, q1, q2, q3, q4⟩ := row5v hz
    clear hz hh hi9 hown hB hall
    by_cases hlt : k < N
    · have hgs : G4 + 2 ≤ wr.heap.size := (Array.getElem?_eq_some_iff.1 HIK.out).1
      have hwr : w.heap.size ≤ wr.heap.size := HBK.out.size
      have hkx : k < R.length := by have := HRL.out; omega
      obtain ⟨u, hu⟩ : ∃ u, R.getD k 0 = u := ⟨_, rfl⟩
      have hub := HRB.out u (by rw [← hu, List.getD_eq_getElem?_getD, List.getElem?_eq_getElem hkx]; exact List.getElem_mem _)
      obtain ⟨u0, u1⟩ := hub
      have hch : ∀ (h : k < (strOfNums R).size), (((strOfNums R)[k]'h).toNat : Int) = u := fun h => by rw [son_at HRB.out hkx, hu]
      have HTK : Hid (R.take (k + 1) = R.take k ++ [u]) := Lib.hid (by rw [take_succ_getD hkx, hu])
      have HIN : Hid (u ∈ LF) := Lib.hid (by rw [← HLF.out]; unfold upL; rw [if_pos (by omega)]; exact List.mem_of_mem_take (show u ∈ (R.take N).take (k + 1) by rw [List.take_take, Nat.min_eq_left (by omega), HTK.out]; simp))
      obtain ⟨z, hz⟩ : ∃ z, u = z := ⟨_, rfl⟩
      by_cases hmz : m < u
      · go_wp2_with fail
        exact bodyPost_ret (results_ct_row rfl _ _ w.heap.size 44 zRow (0, 0) _ rfl (row_set5v HZK.out _ _ _ _ _) Tryd.underlying44 rfl (by kernel_rfl)) rfl ⟨below_set5v HBK.out (Nat.le_refl _) _ _ _ _ _, .inl ⟨by have := le_maxl HIN.out; omega, rfl⟩⟩
      · have HAL : ∀ o, Hid (Below wr.heap.size wr (wr.alloc o)) := fun o => Lib.hid ((Below.refl wr.heap.size wr).alloc (Nat.le_refl _) o)
        clear hz
        obtain ⟨T, hT⟩ : ∃ T, R.take k = T := ⟨_, rfl⟩
        rw [hT] at HTK HOK HAK
        have hTl : T.length = k := by
          obtain ⟨_, _, he, _⟩ := HOK.out.form
          injection he with _ he _
          exact he.symm
        have HTL := Lib.hid hTl
        clear hT hTl
        go_wp2_with (at_builtin; refine wpList_append_rd_at _ rfl _ _ 42 rfl (G4 + 2) 34 i .u16 2 Tryd.underlying42 hi hz0 hz1 hz2 _ T rfl (HOK.out.below (HAL _).out) _ [u] rfl (rd_new _ _ _ [u] _ rfl 1 rfl (by unfold maxLen; omega) _) (by rw [HTL.out]; unfold maxLen; simp only [List.length_cons, List.length_nil]; omega) (by rw [HTL.out]; simp only [List.length_cons, List.length_nil]; omega) (Nat.le_trans hgs (HAL _).out.size) ?_; intro v1 w7 ho1 hg1 hk1; obtain ⟨y1, c1, rfl, hy1⟩ := ho1.form; have hl1' : (T ++ [u]).length = k + 1 := (by rw [List.length_append, HTL.out]; rfl); rw [hl1'] at ho1 hk1 ⊢; have HO1 := Lib.hid ho1; have HG1 := Lib.hid hg1; have hrow9 := (hg1.block (G4 + 1) (Nat.lt_of_lt_of_le (by omega) (HAL (.cells #[.int .u16 (u)] 34)).out.size) (by intro he; have := (HOK.out.blk _ he.symm).1; omega)).trans (((HAL _).out.block (G4 + 1) (by omega)).trans HIK.out); clear s0 s1 s2 s3 s4 g0 g1 g2 g3 g4; obtain ⟨⟨s0, s1, s2, s3, s4⟩, g0, g1, g2, g3, g4⟩ := row5v hrow9; have HR9 := Lib.hid hrow9; clear ho1 hg1 hk1 hl1' hy1 hrow9)
        have hsa := (HAL (.cells #[.int .u16 (u)] 34)).out.size
        have hs7 := HG1.out.size
        have kp : ∀ q, q < G4 + 2 → w7.heap[q]? = wr.heap[q]? := fun q hq => (HG1.out.block q (by omega) (by intro he; have := (HOK.out.blk _ he.symm).1; omega)).trans ((HAL _).out.block q (by omega))
        have hbb : Below w.heap.size w w7 := (HBK.out.alloc HBK.out.size _).grown HG1.out (by omega) (fun q hq => by have := (HOK.out.blk q hq).1; omega)
        refine ⟨⟨k + 1, y1, c1, by omega, by go_num, ?_, ?_, row_set HR9.out 4 (.slice y1 (k + 1) c1), ?_, hbb.setCell (by show w.heap.size ≤ G4 + 1; omega) _, ?_⟩, by simp [intOf]; omega⟩
        · rw [Below.heap_setCell _ _ _ _ (by show w.heap.size ≠ G4 + 1; omega), kp _ (by omega)]; exact HZK.out
        · rw [Below.heap_setCell _ _ _ _ (by show G4 ≠ G4 + 1; omega), kp _ (by omega)]; exact HHK.out
        · rw [HTK.out]
          exact HO1.out.kept (fun q hq _ => Below.heap_setCell _ _ _ _ (by show q ≠ G4 + 1; have := (HO1.out.blk q hq).1; omega))
        · rw [HTK.out]
          intro z hz
          rw [List.mem_append, List.mem_singleton] at hz
          rcases hz with hz | rfl
          · exact HAK.out z hz
          · omega
    · have hkn : k = N := by omega
      subst hkn
      have hLF : R.take k = LF := by rw [← HLF.out]; unfold upL; rw [if_pos (by omega)]
      rw [hLF] at HOK HAK
      have hll : LF.length = k := by
        obtain ⟨_, _, he, _⟩ := HOK.out.form
        injection he with _ he _
        exact he.symm
      have HLL := Lib.hid hll
      have hne : LF ≠ [] := by intro he; rw [he] at hll; simp at hll; omega
      have hmx : maxl LF ≤ m := (maxl_le hne m).2 HAK.out
      have HMX := Lib.hid hmx
      clear hLF hll hne hmx
      go_wp2_with fail
      refine bodyPost_ret (results_ct_row rfl _ _ w.heap.size 44 #[.int .i64 x, .int .i64 y, .int .i64 c, .int .i64 m, .slice xo k co] (0, 0) _ rfl (row_set5v HZK.out _ _ _ _ _) Tryd.underlying44 rfl (by kernel_rfl)) rfl ⟨below_set5v HBK.out (Nat.le_refl _) _ _ _ _ _, .inr ⟨by have := HMX.out; omega, xo, co, ?_, ?_⟩⟩
      · rw [HLL.out]; rfl
      · rw [HLL.out]; exact (own_set5v HOK.out (by omega) _ _ _ _ _).rd

set_option maxHeartbeats 2000000 in
theorem refDecode_two (bs : List Int) (w : World) (hl : bs.length ≤ 4503599627370496) (hb : Byt bs) (c x y m s : Int) (hp : parseL bs = (0, ⟨c, x, y, m, s⟩)) (hm : ¬ m < 256) (hsh : ¬ ((bs.drop s.toNat).length : Int) < szL c x y m) :
    Calls Tryd.prog 19 #[.string (strOfNums bs)] w fun e w' => DR w (upL m ((bs.drop s.toNat).take (szL c x y m).toNat)) c x y m e w' := by
  have HPA := Lib.hid fun w => refParse_any bs hb hl w
  rw [hp] at HPA
  obtain ⟨hco, hs1, hs2⟩ := parse_good hb hp
  simp only at hco hs1 hs2
  obtain ⟨S, rfl⟩ : ∃ S : Nat, s = S := ⟨s.toNat, by omega⟩
  rw [Int.toNat_natCast] at hsh
  rw [Int.toNat_natCast]
  obtain ⟨n, hn⟩ : ∃ n, bs.length = n := ⟨_, rfl⟩
  have hSn : S ≤ n := by omega
  obtain ⟨R, hRR⟩ : ∃ R, bs.drop S = R := ⟨_, rfl⟩
  have hrn : R.length = n - S := by rw [← hRR, List.length_drop, hn]
  obtain ⟨rn, hrn2⟩ : ∃ rn, n - S = rn := ⟨_, rfl⟩
  rw [hrn2] at hrn
  obtain ⟨m1, m2, hc3, a1, a2, b1', b2, d1, d2, p1, p2⟩ := codeR_zero hco
  obtain ⟨N, hN⟩ : ∃ N : Nat, x * y * c = N := ⟨(x * y * c).toNat, by omega⟩
  obtain ⟨P1, hP1⟩ : ∃ P1, x * y = P1 := ⟨_, rfl⟩
  have e1 : wrap64 (x * y) = P1 := by rw [wrap_in (by omega) (by omega)]; exact hP1
  have e2 : wrap64 (P1 * c) = (N : Int) := by rw [← hP1, wrap_in (by omega) (by omega)]; exact hN
  have hq := szL_of hco
  rw [hN] at hq
  rw [hRR, hrn, hq] at hsh
  have hrb : Byt R := fun z hz => hb z (by rw [← hRR] at hz; exact List.mem_of_mem_drop hz)
  have HRB := Lib.hid hrb
  have HRL := Lib.hid hrn
  rw [hq, hRR]
  clear hrb
  have hsz : (strOfNums bs).size = n := by rw [son_size, hn]
  have hex : (strOfNums bs).extract S n = strOfNums R := by rw [son_drop bs S n hn, hRR]
  have hszR : (strOfNums R).size = rn := by rw [son_size, hrn]
  have hN1 : 1 ≤ N := by omega
  have hN2 : N ≤ 268435456 := by omega
  have hl2 : n ≤ 4503599627370496 := by omega
  have HA : ∀ o, Hid (Below w.heap.size w (w.alloc o)) := fun o => Lib.hid ((Below.refl w.heap.size w).alloc (Nat.le_refl _) o)
  have hwd : wdL m = 2 := by unfold wdL; rw [if_neg hm]
  rw [hwd] at hsh ⊢
  have hge : 2 * N ≤ rn := by omega
  have hsh2 : ¬ (rn : Int) < N * 2 := by omega
  have hqt : ((N : Int) * 2).toNat = 2 * N := by omega
  rw [hqt]
  obtain ⟨LF, hLF⟩ : ∃ LF, upL m (R.take (2 * N)) = LF := ⟨_, rfl⟩
  rw [hLF]
  have HLF := Lib.hid hLF
  clear hLF hqt hwd hsh
  clear hp hs1 hs2 hco hRR hrn hrn2 m1 m2 hc3 a1 a2 b1' b2 d1 d2 p1 p2 hN hP1 hq hl hn
  go_enter Tryd.func19, Tryd.ntmps19
  go_wp2_with fail
  refine (HPA.out _).mono ?_
  rintro e w1 ⟨rfl, hB⟩
  have HB := Lib.hid ((HA _).out.trans (hB.mono (HA _).out.size))
  have hrow : w1.heap[w.heap.size]? = some (.cells zRow 44 (0, 0)) := below_row (B := 0) hB (heap_alloc_new w _)
  have hrowA : ∀ o, (w1.alloc o).heap[w.heap.size]? = some (.cells zRow 44 (0, 0)) := fun o => (heap_alloc_old w1 o (Array.getElem?_eq_some_iff.1 hrow).1).trans hrow
  have HROW := Lib.hid hrowA
  clear hB
  have t0 := fun o => (row5v (hrowA o)).1.1
  have t1 := fun o => (row5v (hrowA o)).1.2.1
  have t2 := fun o => (row5v (hrowA o)).1.2.2.1
  have t3 := fun o => (row5v (hrowA o)).1.2.2.2.1
  have t4 := fun o => (row5v (hrowA o)).1.2.2.2.2
  have f0 := fun o => (row5v (hrowA o)).2.1
  have f1 := fun o => (row5v (hrowA o)).2.2.1
  have f2 := fun o => (row5v (hrowA o)).2.2.2.1
  have f3 := fun o => (row5v (hrowA o)).2.2.2.2.1
  have f4 := fun o => (row5v (hrowA o)).2.2.2.2.2
  clear hrow hrowA
  go_wp2_with fail
  rw [e2, e1]
  rw [show decide ((rn : Int) < (N : Int) * 2) = false from decide_eq_false (by omega), show decide (255 < m) = true from decide_eq_true (by omega)]
  have hl1 : w.heap.size < w1.heap.size := by
    have := (Array.getElem?_eq_some_iff.1 (HROW.out (.cells #[] 5))).1
    rcases Nat.lt_or_ge w.heap.size w1.heap.size with h | h
    · exact h
    · exfalso
      have h2 := HB.out.size
      have h3 : w.heap.size = w1.heap.size := by omega
      have h4 := HROW.out (.cells #[] 5)
      rw [h3, heap_alloc_new] at h4
      cases h4
  obtain ⟨G4, hG4⟩ : ∃ G4, w1.heap.size = G4 := ⟨_, rfl⟩
  obtain ⟨W2, hW2⟩ : ∃ W2, (w1.alloc (.cells #[.int .i64 c, .int .i64 x, .int .i64 y, .int .i64 m, .int .i64 S] 28)).alloc (.cells #[.int .i64 x, .int .i64 y, .int .i64 c, .int .i64 m, .slice none 0 0] 44) = W2 := ⟨_, rfl⟩
  have hz : W2.heap[w.heap.size]? = some (.cells zRow 44 (0, 0)) := by rw [← hW2]; exact (heap_alloc_old _ _ (by simp; omega)).trans (HROW.out _)
  have hh : W2.heap[G4]? = some (.cells #[.int .i64 c, .int .i64 x, .int .i64 y, .int .i64 m, .int .i64 S] 28 (0, 0)) := by rw [← hW2, ← hG4]; exact (heap_alloc_old _ _ (by simp)).trans (heap_alloc_new w1 _)
  have hi9 : W2.heap[G4 + 1]? = some (.cells #[.int .i64 x, .int .i64 y, .int .i64 c, .int .i64 m, .slice none 0 0] 44 (0, 0)) := by
    have := heap_alloc_new (w1.alloc (.cells #[.int .i64 c, .int .i64 x, .int .i64 y, .int .i64 m, .int .i64 S] 28)) (.cells #[.int .i64 x, .int .i64 y, .int .i64 c, .int .i64 m, .slice none 0 0] 44)
    rw [← hW2, ← hG4]
    simpa using this
  have hB2 : Below w.heap.size w W2 := by rw [← hW2]; exact (HB.out.alloc HB.out.size _).alloc (by have := HB.out.size; simp; omega) _
  have hs2 : G4 + 2 ≤ W2.heap.size := (Array.getElem?_eq_some_iff.1 hi9).1
  rw [hG4] at hl1
  rw [hW2, hG4]
  clear hW2 hG4 t0 t1 t2 t3 t4 f0 f1 f2 f3 f4 e1 e2
  have HZ2 := Lib.hid hz
  have HH2 := Lib.hid hh
  have HI2 := Lib.hid hi9
  have HB2 := Lib.hid hB2
  obtain ⟨i, hi, hz0, hz1, hz2⟩ := info_parts infoU16
  clear hz hh hi9 hB2
  go_loopw [53] (fun i wr => ∃ (k : Nat) (xo : Option Addr) (co : Nat), k ≤ N ∧ i = .int .i64 k ∧ wr.heap[w.heap.size]? = some (.cells zRow 44 (0, 0)) ∧ wr.heap[G4]? = some (.cells #[.int .i64 c, .int .i64 x, .int .i64 y, .int .i64 m, .int .i64 S] 28 (0, 0)) ∧
    wr.heap[G4 + 1]? = some (.cells #[.int .i64 x, .int .i64 y, .int .i64 c, .int .i64 m, .slice xo k co] 44 (0, 0)) ∧ Own wr (G4 + 2) 34 .u16 (.slice xo k co) (upL2 (R.take (2 * k))) ∧ Below w.heap.size w wr ∧ ∀ z ∈ upL2 (R.take (2 * k)), z ≤ m) (fun i _ => N - (intOf i).toNat)
  case atStart => exact ⟨0, none, 0, by omega, rfl, HZ2.out, HH2.out, HI2.out, World.ownsRow_nil _ _ _ _, HB2.out, by simp [upL2]⟩
  case round =>
    obtain ⟨k, xo, co, hk, rfl, hz, hh, hi9, hown, hB, hall⟩ := hrel
    have HZK := Lib.hid hz
    have HHK := Lib.hid hh
    have HIK := Lib.hid hi9
    have HOK := Lib.hid hown
    have HBK := Lib.hid hB
    have HAK := Lib.hid hall
    obtain ⟨⟨t0, t1, t2, t3, t4⟩, -⟩ := row5v hh
    obtain ⟨⟨s0, s1, s2, s3, s4⟩, g0, g1, g2, g3, g4⟩ := row5v hi9
    obtain ⟨⟨r0, r1, r2, r3, r4⟩, q0, q1, q2, q3, q4⟩ := row5v hz
    clear hz hh hi9 hown hB hall
    by_cases hlt : k < N
    · have hgs : G4 + 2 ≤ wr.heap.size := (Array.getElem?_eq_some_iff.1 HIK.out).1
      have hwr : w.heap.size ≤ wr.heap.size := HBK.out.size
      have hkx : 2 * k + 1 < R.length := by have := HRL.out; omega
      obtain ⟨u, hu⟩ : ∃ u, R.getD (2 * k) 0 = u := ⟨_, rfl⟩
      obtain ⟨v, hv⟩ : ∃ v, R.getD (2 * k + 1) 0 = v := ⟨_, rfl⟩
      have hub := HRB.out u (by rw [← hu, List.getD_eq_getElem?_getD, List.getElem?_eq_getElem (show 2 * k < R.length by omega)]; exact List.getElem_mem _)
      have hvb := HRB.out v (by rw [← hv, List.getD_eq_getElem?_getD, List.getElem?_eq_getElem hkx]; exact List.getElem_mem _)
      obtain ⟨u0, u1⟩ := hub
      obtain ⟨v0, v1⟩ := hvb
      have hch : ∀ (h : k * 2 < (strOfNums R).size), (((strOfNums R)[k * 2]'h).toNat : Int) = u := fun h => by rw [son_at HRB.out (show k * 2 < R.length by omega), Nat.mul_comm k 2, hu]
      have hch2 : ∀ (h : 2 * k + 1 < (strOfNums R).size), (((strOfNums R)[2 * k + 1]'h).toNat : Int) = v := fun h => by rw [son_at HRB.out hkx, hv]
      have HTK : Hid (upL2 (R.take (2 * (k + 1))) = upL2 (R.take (2 * k)) ++ [256 * u + v]) := Lib.hid (up2_take hkx hu hv)
      have HIN : Hid (256 * u + v ∈ LF) := Lib.hid (by
        rw [← HLF.out]; unfold upL; rw [if_neg (by omega)]
        have e9 : R.take (2 * N) = R.take (2 * (k + 1)) ++ (R.take (2 * N)).drop (2 * (k + 1)) := by
          have := (List.take_append_drop (2 * (k + 1)) (R.take (2 * N))).symm
          rw [List.take_take, Nat.min_eq_left (by omega)] at this
          exact this
        rw [e9, up2_app _ _ (by rw [List.length_take]; omega), HTK.out]
        simp)
      obtain ⟨z, hz⟩ : ∃ z, 256 * u + v = z := ⟨_, rfl⟩
      by_cases hmz : m < 256 * u + v
      · go_wp2_with fail
        exact bodyPost_ret (results_ct_row rfl _ _ w.heap.size 44 zRow (0, 0) _ rfl (row_set5v HZK.out _ _ _ _ _) Tryd.underlying44 rfl (by kernel_rfl)) rfl ⟨below_set5v HBK.out (Nat.le_refl _) _ _ _ _ _, .inl ⟨by have := le_maxl HIN.out; omega, rfl⟩⟩
      · have HAL : ∀ o, Hid (Below wr.heap.size wr (wr.alloc o)) := fun o => Lib.hid ((Below.refl wr.heap.size wr).alloc (Nat.le_refl _) o)
        clear hz
        obtain ⟨T, hT⟩ : ∃ T, upL2 (R.take (2 * k)) = T := ⟨_, rfl⟩
        rw [hT] at HTK HOK HAK
        have hTl : T.length = k := by
          obtain ⟨_, _, he, _⟩ := HOK.out.form
          injection he with _ he _
          exact he.symm
        have HTL := Lib.hid hTl
        clear hT hTl
        go_wp2_with (at_builtin; refine wpList_append_rd_at _ rfl _ _ 42 rfl (G4 + 2) 34 i .u16 2 Tryd.underlying42 hi hz0 hz1 hz2 _ T rfl (HOK.out.below (HAL _).out) _ [256 * u + v] rfl (rd_new _ _ _ [256 * u + v] _ rfl 1 rfl (by unfold maxLen; omega) _) (by rw [HTL.out]; unfold maxLen; simp only [List.length_cons, List.length_nil]; omega) (by rw [HTL.out]; simp only [List.length_cons, List.length_nil]; omega) (Nat.le_trans hgs (HAL _).out.size) ?_; intro v1 w7 ho1 hg1 hk1; obtain ⟨y1, c1, rfl, hy1⟩ := ho1.form; have hl1' : (T ++ [256 * u + v]).length = k + 1 := (by rw [List.length_append, HTL.out]; rfl); rw [hl1'] at ho1 hk1 ⊢; have HO1 := Lib.hid ho1; have HG1 := Lib.hid hg1; have hrow9 := (hg1.block (G4 + 1) (Nat.lt_of_lt_of_le (by omega) (HAL (.cells #[.int .u16 (256 * u + v)] 34)).out.size) (by intro he; have := (HOK.out.blk _ he.symm).1; omega)).trans (((HAL _).out.block (G4 + 1) (by omega)).trans HIK.out); clear s0 s1 s2 s3 s4 g0 g1 g2 g3 g4; obtain ⟨⟨s0, s1, s2, s3, s4⟩, g0, g1, g2, g3, g4⟩ := row5v hrow9; have HR9 := Lib.hid hrow9; clear ho1 hg1 hk1 hl1' hy1 hrow9)
        have hsa := (HAL (.cells #[.int .u16 (256 * u + v)] 34)).out.size
        have hs7 := HG1.out.size
        have kp : ∀ q, q < G4 + 2 → w7.heap[q]? = wr.heap[q]? := fun q hq => (HG1.out.block q (by omega) (by intro he; have := (HOK.out.blk _ he.symm).1; omega)).trans ((HAL _).out.block q (by omega))
        have hbb : Below w.heap.size w w7 := (HBK.out.alloc HBK.out.size _).grown HG1.out (by omega) (fun q hq => by have := (HOK.out.blk q hq).1; omega)
        refine ⟨⟨k + 1, y1, c1, by omega, by go_num, ?_, ?_, row_set HR9.out 4 (.slice y1 (k + 1) c1), ?_, hbb.setCell (by show w.heap.size ≤ G4 + 1; omega) _, ?_⟩, by simp [intOf]; omega⟩
        · rw [Below.heap_setCell _ _ _ _ (by show w.heap.size ≠ G4 + 1; omega), kp _ (by omega)]; exact HZK.out
        · rw [Below.heap_setCell _ _ _ _ (by show G4 ≠ G4 + 1; omega), kp _ (by omega)]; exact HHK.out
        · rw [HTK.out]
          exact HO1.out.kept (fun q hq _ => Below.heap_setCell _ _ _ _ (by show q ≠ G4 + 1; have := (HO1.out.blk q hq).1; omega))
        · rw [HTK.out]
          intro z hz
          rw [List.mem_append, List.mem_singleton] at hz
          rcases hz with hz | rfl
          · exact HAK.out z hz
          · omega
    · have hkn : k = N := by omega
      subst hkn
      have hLF : upL2 (R.take (2 * k)) = LF := by rw [← HLF.out]; unfold upL; rw [if_neg (by omega)]
      rw [hLF] at HOK HAK
      have hll : LF.length = k := by
        obtain ⟨_, _, he, _⟩ := HOK.out.form
        injection he with _ he _
        exact he.symm
      have HLL := Lib.hid hll
      have hne : LF ≠ [] := by intro he; rw [he] at hll; simp at hll; omega
      have hmx : maxl LF ≤ m := (maxl_le hne m).2 HAK.out
      have HMX := Lib.hid hmx
      clear hLF hll hne hmx
      go_wp2_with fail
      refine bodyPost_ret (results_ct_row rfl _ _ w.heap.size 44 #[.int .i64 x, .int .i64 y, .int .i64 c, .int .i64 m, .slice xo k co] (0, 0) _ rfl (row_set5v HZK.out _ _ _ _ _) Tryd.underlying44 rfl (by kernel_rfl)) rfl ⟨below_set5v HBK.out (Nat.le_refl _) _ _ _ _ _, .inr ⟨by have := HMX.out; omega, xo, co, ?_, ?_⟩⟩
      · rw [HLL.out]; rfl
      · rw [HLL.out]; exact (own_set5v HOK.out (by omega) _ _ _ _ _).rd
end Go.Proofs.YtnpkkcbgfnnfmaaDoor
