import Derived.Test.YtnpkkcbgfnnfmaaProg
import Derived.Test.YtnpkkcbgfnnfmaaBase
import Derived.Test.YtnpkkcbgfnnfmaaBase2
import Derived.BigRegion
/- Contracts of package queue. -/
namespace Go.Proofs.Ytnpkkcbgfnnfmaa
open Go.RowKit
set_option linter.unusedVariables false
set_option linter.unusedSimpArgs false
set_option maxRecDepth 100000

theorem infoInt : (Try.prog.info? 3).map (fun i => (i.zero, i.size, i.bytes)) = some (some (.int .i64 0), 1, 8) := by kernel_rfl

/-- A queue: its block g; its numbers in a row of the call's own, whose block is 'ob'. -/
def Qu (w : World) (base g : Nat) (ob : Option Nat) (room : Int) (xs : List Int) (cl : Bool) : Prop :=
  ∃ x c, w.heap[g]? = some (.cells #[.int .i64 room, .slice x xs.length c, .bool cl] 114 (0, 0)) ∧ base ≤ g ∧ Own w base 3 .i64 (.slice x xs.length c) xs ∧ (Value.slice x xs.length c).ownBlock = ob

/-- but for two blocks all is as it was -/
structure Kept2 (w w' : World) (g : Nat) (ob : Option Nat) : Prop where
  os : w'.os = w.os
  tape : w'.tape = w.tape
  output : w'.output = w.output
  size : w.heap.size ≤ w'.heap.size
  block : ∀ k, k < w.heap.size → k ≠ g → some k ≠ ob → w'.heap[k]? = w.heap[k]?

theorem Kept2.below {w0 w w' : World} {B g : Nat} {ob : Option Nat} (hB : Below B w0 w) (h : Kept2 w w' g ob) (hs : B ≤ w.heap.size) (hg : B ≤ g) (ho : ∀ k, ob = some k → B ≤ k) : Below B w0 w' :=
  ⟨h.os.trans hB.os, h.tape.trans hB.tape, h.output.trans hB.output, Nat.le_trans hB.size h.size, fun k hk => (h.block k (by omega) (by omega) (by intro e; have := ho k e.symm; omega)).trans (hB.block k hk)⟩
theorem Kept2.refl (w : World) (g : Nat) (ob : Option Nat) : Kept2 w w g ob := ⟨rfl, rfl, rfl, Nat.le_refl _, fun _ _ _ _ => rfl⟩
theorem Kept2.of_below {w w' : World} (h : Below w.heap.size w w') (g : Nat) (ob : Option Nat) : Kept2 w w' g ob := ⟨h.os, h.tape, h.output, h.size, fun k hk _ _ => h.block k hk⟩
theorem Kept2.trans {w w' w'' : World} {g : Nat} {ob ob' : Option Nat} (h : Kept2 w w' g ob) (h' : Kept2 w' w'' g ob') (hb : ob' = ob ∨ ∃ k, ob' = some k ∧ w.heap.size ≤ k) : Kept2 w w'' g ob :=
  ⟨h'.os.trans h.os, h'.tape.trans h.tape, h'.output.trans h.output, Nat.le_trans h.size h'.size, fun k hk hg ho => (h'.block k (Nat.lt_of_lt_of_le hk h.size) hg (by
    rcases hb with rfl | ⟨q, rfl, hq⟩
    · exact ho
    · intro e
      injection e with e
      omega)).trans (h.block k hk hg ho)⟩

theorem Qu.lt {w : World} {base g : Nat} {ob : Option Nat} {room : Int} {xs : List Int} {cl : Bool} (h : Qu w base g ob room xs cl) : g < w.heap.size := by
  obtain ⟨x, c, h1, _⟩ := h
  exact (Array.getElem?_eq_some_iff.1 h1).1
theorem Qu.ob_ge {w : World} {base g : Nat} {ob : Option Nat} {room : Int} {xs : List Int} {cl : Bool} (h : Qu w base g ob room xs cl) : ∀ k, ob = some k → base ≤ k ∧ k < w.heap.size := by
  obtain ⟨x, c, h1, h2, h3, rfl⟩ := h
  exact World.ownsRow.lt h3
theorem Qu.ge {w : World} {base g : Nat} {ob : Option Nat} {room : Int} {xs : List Int} {cl : Bool} (h : Qu w base g ob room xs cl) : base ≤ g := by
  obtain ⟨x, c, h1, h2, _⟩ := h
  exact h2
theorem Qu.ob_ne {w : World} {base g : Nat} {ob : Option Nat} {room : Int} {xs : List Int} {cl : Bool} (h : Qu w base g ob room xs cl) : some g ≠ ob := by
  obtain ⟨x, c, h1, h2, h3, rfl⟩ := h
  intro e
  obtain ⟨_, h3⟩ := h3
  rcases h3 with ⟨h4, _⟩ | ⟨g', cap, cur, h4, _, h5, _⟩
  · injection h4 with h4 _ _
    subst h4
    simp [Value.ownBlock] at e
  · injection h4 with h4 _ _
    subst h4
    simp only [Value.ownBlock] at e
    injection e with e
    subst e
    rw [h1] at h5
    injection h5 with h5
    injection h5 with _ h6 _
    exact absurd h6 (by decide)
theorem Qu.kept {w w' : World} {base g : Nat} {ob : Option Nat} {room : Int} {xs : List Int} {cl : Bool} (h : Qu w base g ob room xs cl) (hg : w'.heap[g]? = w.heap[g]?) (ho : ∀ k, ob = some k → w'.heap[k]? = w.heap[k]?) : Qu w' base g ob room xs cl := by
  obtain ⟨x, c, h1, h2, h3, rfl⟩ := h
  exact ⟨x, c, hg.trans h1, h2, h3.kept fun b hb _ => ho b hb, rfl⟩
theorem Qu.below {w w' : World} {base g : Nat} {ob : Option Nat} {room : Int} {xs : List Int} {cl : Bool} (h : Qu w base g ob room xs cl) (hB : Below w.heap.size w w') : Qu w' base g ob room xs cl :=
  h.kept (hB.block _ h.lt) fun k hk => hB.block _ (h.ob_ge k hk).2
theorem Qu.cells {w : World} {g : Nat} {room : Int} {v : Value} {cl : Bool} (h : w.heap[g]? = some (.cells #[.int .i64 room, v, .bool cl] 114 (0, 0))) :
    w.cell? ⟨g, 0, none⟩ = some (.int .i64 room) ∧ w.cell? ⟨g, 1, none⟩ = some v ∧ w.cell? ⟨g, 2, none⟩ = some (.bool cl) ∧ w.frozen? ⟨g, 1, none⟩ = false ∧ w.frozen? ⟨g, 2, none⟩ = false :=
  ⟨cell_of_row w g 0 _ _ _ h, cell_of_row w g 1 _ _ _ h, cell_of_row w g 2 _ _ _ h, by simp [World.frozen?, h], by simp [World.frozen?, h]⟩

/-- how much room a new one has -/
def roomQ (r : Int) : Int := if r < 1 then 1 else if 4096 < r then 4096 else r

theorem qu_new (w : World) (r : Int) : Qu (w.alloc (.cells #[.int .i64 r, .slice none 0 0, .bool false] 114)) w.heap.size w.heap.size none r [] false :=
  ⟨none, 0, heap_alloc_new _ _, Nat.le_refl _, World.ownsRow_nil _ _ _ _, rfl⟩

theorem qnew_any (r : Int) (w : World) :
    Calls Try.prog 31 #[.int .i64 r] w fun e w' => ∃ g, e = .returned (.pointer (some ⟨g, 0, none⟩)) ∧ w.heap.size ≤ g ∧ Qu w' w.heap.size g none (roomQ r) [] false ∧ Below w.heap.size w w' := by
  have hb : ∀ o, Below w.heap.size w (w.alloc o) := fun o => (Below.refl _ _).alloc (Nat.le_refl _) o
  have HB := Lib.hid hb
  clear hb
  go_enter Try.func31, Try.ntmps31
  go_wp2
  all_goals
    go_ret
    refine ⟨_, rfl, Nat.le_refl _, ?_, HB.out _⟩
  · rw [show roomQ r = 4096 from by unfold roomQ; rw [if_neg (by omega), if_pos (by omega)]]
    exact qu_new _ _
  · rw [show roomQ r = r from by unfold roomQ; rw [if_neg (by omega), if_neg (by omega)]]
    exact qu_new _ _
  · rw [show roomQ r = 1 from by unfold roomQ; split <;> first | rfl | (rw [if_neg (by omega)]; omega)]
    exact qu_new _ _

section
variable {w : World} {base g : Nat} {ob : Option Nat} {room : Int} {xs : List Int} {cl : Bool}
theorem qroom_any (h : Qu w base g ob room xs cl) : Calls Try.prog 33 #[.pointer (some ⟨g, 0, none⟩)] w fun e w' => e = .returned (.int .i64 room) ∧ w = w' := by
  obtain ⟨x, c, h1, _⟩ := h
  obtain ⟨c0, c1, c2, _, _⟩ := Qu.cells h1
  clear h1
  go_enter Try.func33, Try.ntmps33
  go_wp2
  go_ret
  exact ⟨rfl, rfl⟩
theorem qlen_any (h : Qu w base g ob room xs cl) : Calls Try.prog 37 #[.pointer (some ⟨g, 0, none⟩)] w fun e w' => e = .returned (.int .i64 xs.length) ∧ w = w' := by
  obtain ⟨x, c, h1, _⟩ := h
  obtain ⟨c0, c1, c2, _, _⟩ := Qu.cells h1
  clear h1
  go_enter Try.func37, Try.ntmps37
  go_wp2
  go_ret
  exact ⟨rfl, rfl⟩
theorem qclosed_any (h : Qu w base g ob room xs cl) : Calls Try.prog 41 #[.pointer (some ⟨g, 0, none⟩)] w fun e w' => e = .returned (.bool cl) ∧ w = w' := by
  obtain ⟨x, c, h1, _⟩ := h
  obtain ⟨c0, c1, c2, _, _⟩ := Qu.cells h1
  clear h1
  go_enter Try.func41, Try.ntmps41
  go_wp2
  go_ret
  exact ⟨rfl, rfl⟩
theorem qcanSend_any (h : Qu w base g ob room xs cl) : Calls Try.prog 36 #[.pointer (some ⟨g, 0, none⟩)] w fun e w' => e = .returned (.bool (cl || decide ((xs.length : Int) < room))) ∧ ∃ m, w' = w.drewN m := by
  obtain ⟨x, c, h1, _⟩ := h
  obtain ⟨c0, c1, c2, _, _⟩ := Qu.cells h1
  clear h1
  cases cl
  · go_enter Try.func36, Try.ntmps36
    go_wp2
    go_quiet (fail)
    go_wp2
    go_ret
    exact ⟨ret_bool (by simp), nq, rfl⟩
  · go_enter Try.func36, Try.ntmps36
    go_wp2
    go_quiet (fail)
    go_wp2
    go_ret
    exact ⟨ret_bool (by simp), nq, rfl⟩
theorem qcanReceive_any (h : Qu w base g ob room xs cl) : Calls Try.prog 38 #[.pointer (some ⟨g, 0, none⟩)] w fun e w' => e = .returned (.bool (cl || decide (0 < xs.length))) ∧ ∃ m, w' = w.drewN m := by
  obtain ⟨x, c, h1, _⟩ := h
  obtain ⟨c0, c1, c2, _, _⟩ := Qu.cells h1
  clear h1
  obtain ⟨n, hn⟩ : ∃ n, xs.length = n := ⟨_, rfl⟩
  rw [hn] at c1 ⊢
  clear hn
  cases cl
  · go_enter Try.func38, Try.ntmps38
    go_wp2
    all_goals try go_quiet (fail)
    go_wp2
    go_ret
    exact ⟨ret_bool (by simp), 0, (World.drewN_zero _).symm⟩
  · go_enter Try.func38, Try.ntmps38
    go_wp2
    all_goals try go_quiet (fail)
    go_wp2
    go_ret
    exact ⟨ret_bool (by simp), 0, (World.drewN_zero _).symm⟩
theorem qclose_any (h : Qu w base g ob room xs cl) : Calls Try.prog 35 #[.pointer (some ⟨g, 0, none⟩)] w fun e w' => e = .returned (.bool (!cl)) ∧ Qu w' base g ob room xs true ∧ Kept2 w w' g ob := by
  have hne := h.ob_ne
  have HH := Lib.hid h
  obtain ⟨x, c, h1, h2, h3, h4⟩ := h
  obtain ⟨c0, c1, c2, f1, f2⟩ := Qu.cells h1
  have H1 := Lib.hid h1
  have H3 := Lib.hid h3
  have H4 := Lib.hid h4
  have HN := Lib.hid hne
  clear h1 h3 h4 hne
  go_enter Try.func35, Try.ntmps35
  go_wp2
  go_ret
  refine ⟨rfl, ⟨x, c, ?_, h2, H3.out.kept fun b hb _ => Below.heap_setCell _ _ _ _ ?_, H4.out⟩, ?_⟩
  · have := H1.out
    simp [World.setCell, Array.getElem?_modify, this]
  · intro e
    have := H4.out
    rw [hb] at this
    exact HN.out (by rw [← this, e])
  · exact ⟨rfl, rfl, rfl, by simp [World.setCell], fun k _ hk _ => Below.heap_setCell _ _ _ _ hk⟩

theorem qsend_closed (h : Qu w base g ob room xs true) (v : Int) : Calls Try.prog 32 #[.pointer (some ⟨g, 0, none⟩), .int .i64 v] w fun e w' => e = .returned (.int .i64 2) ∧ w = w' := by
  obtain ⟨x, c, h1, _⟩ := h
  obtain ⟨c0, c1, c2, _, _⟩ := Qu.cells h1
  clear h1
  go_enter Try.func32, Try.ntmps32
  go_wp2
  go_ret
  exact ⟨rfl, rfl⟩
theorem qsend_full (h : Qu w base g ob room xs false) (hf : room ≤ xs.length) (v : Int) : Calls Try.prog 32 #[.pointer (some ⟨g, 0, none⟩), .int .i64 v] w fun e w' => e = .returned (.int .i64 1) ∧ ∃ m, w' = w.drewN m := by
  have HC := Lib.hid (qcanSend_any h)
  have hd : decide ((xs.length : Int) < room) = false := by simp; omega
  rw [hd] at HC
  obtain ⟨x, c, h1, _⟩ := h
  obtain ⟨c0, c1, c2, _, _⟩ := Qu.cells h1
  clear h1 hd
  go_enter Try.func32, Try.ntmps32
  go_wp2_with (go_at_call 36; refine HC.out.mono ?_; rintro e w1 ⟨rfl, m, rfl⟩)
  go_ret
  exact ⟨rfl, m, rfl⟩

theorem one_cell (w : World) (t : TypeId) (v : Int) : Rd (w.alloc (.cells #[.int .i64 v] t)) .i64 (.slice (some ⟨w.heap.size, 0, none⟩) 1 1) [v] :=
  ⟨by simp [maxLen], .inr ⟨_, 1, rfl, by simp, by simp [maxLen], cell_one_new _ _ _⟩⟩

theorem qsend_after {m : Nat} {x : Option Addr} {n c : Nat} {o : Obj} {w' : World} {v' : Value} (h1 : w.heap[g]? = some (.cells #[.int .i64 room, .slice x n c, .bool cl] 114 (0, 0)))
    (h4 : (Value.slice x n c).ownBlock = ob) (hne : some g ≠ ob) (hg : ((w.drewN m).alloc o).grownBy w' (Value.slice x n c).ownBlock) (hat : v'.ownBlock = (Value.slice x n c).ownBlock ∨ v'.ownBlock = some ((w.drewN m).alloc o).heap.size) :
    w.heap.size < w'.heap.size ∧ w'.os = w.os ∧ w'.tape = w.tape ∧ w'.output = w.output ∧ (v'.ownBlock = ob ∨ ∃ k, v'.ownBlock = some k ∧ w.heap.size ≤ k) ∧ w'.heap[g]? = w.heap[g]? ∧ ∀ k, k < w.heap.size → some k ≠ ob → w'.heap[k]? = w.heap[k]? := by
  have hlt := (Array.getElem?_eq_some_iff.1 h1).1
  have hs : ((w.drewN m).alloc o).heap.size = w.heap.size + 1 := by simp
  have hblk : ∀ k, k < w.heap.size → some k ≠ ob → w'.heap[k]? = w.heap[k]? := fun k hk ho =>
    (hg.block k (by omega) (by rw [h4]; exact ho)).trans (Below.heap_alloc _ _ _ hk)
  refine ⟨by have := hg.size; omega, hg.os, hg.tape, hg.output, ?_, hblk g hlt hne, hblk⟩
  rcases hat with h | h
  · exact .inl (h.trans h4)
  · exact .inr ⟨_, h, by omega⟩

theorem qsend_ok (h : Qu w base g ob room xs false) (hf : xs.length < room) (hr : room ≤ 4096) (hbase : base ≤ w.heap.size) (v : Int) :
    Calls Try.prog 32 #[.pointer (some ⟨g, 0, none⟩), .int .i64 v] w fun e w' => e = .returned (.int .i64 0) ∧ ∃ ob', Qu w' base g ob' room (xs ++ [v]) false ∧ Kept2 w w' g ob ∧ (ob' = ob ∨ ∃ k, ob' = some k ∧ w.heap.size ≤ k) := by
  have HC := Lib.hid (qcanSend_any h)
  obtain ⟨i, hi, hz0, hz1, hz2⟩ := info_parts infoInt
  have hd : decide ((xs.length : Int) < room) = true := by simp; omega
  rw [hd] at HC
  have hlt := h.lt
  have HNE := Lib.hid h.ob_ne
  have HH := Lib.hid h
  have hl : xs.length ≤ 4096 := by omega
  obtain ⟨x, c, h1, h2, h3, h4⟩ := h
  obtain ⟨c0, c1, c2, f1, f2⟩ := Qu.cells h1
  have H1 := Lib.hid h1
  have H3 := Lib.hid h3
  have H4 := Lib.hid h4
  clear h1 hd h3 h4
  go_enter Try.func32, Try.ntmps32
  go_wp2_with (first
    | (go_at_call 36; refine HC.out.mono ?_; rintro e w1 ⟨rfl, m, rfl⟩)
    | (at_builtin; refine wpList_append_rd_at _ rfl _ _ 43 rfl base 3 i .i64 8 Try.underlying43 hi hz0 hz1 hz2 _ xs rfl (World.ownsRow.alloc (w := w.drewN m) H3.out _) _ [v] rfl (one_cell (w.drewN m) 3 v) (by simp [maxLen]; omega) (by simp; omega) (by simp; omega) ?_; intro v' w' hown hgrow hat; obtain ⟨hsz, hos, htp, hou, hat', hg', hblk⟩ := qsend_after H1.out H4.out HNE.out hgrow hat; obtain ⟨x', c', rfl, _⟩ := hown.form; obtain ⟨k0, k1, k2, l1, l2⟩ := Qu.cells (hg'.trans H1.out); have HO := Lib.hid hown; have HG := Lib.hid hg'; have HAT := Lib.hid hat'; have HBK := Lib.hid hblk; have HOS := Lib.hid hos; have HTP := Lib.hid htp; have HOU := Lib.hid hou; clear hown hg' hgrow hat hat' hblk hos htp hou))
  go_ret
  have hlen : (xs ++ [v]).length = xs.length + 1 := by simp
  have ho2 := HO.out
  have hat2 := HAT.out
  rw [hlen] at ho2 hat2
  have hne' : ∀ k, (Value.slice x' (xs.length + 1) c').ownBlock = some k → k ≠ g := by
    intro k hk e
    subst e
    rcases hat2 with h | ⟨q, hq, hq2⟩
    · exact HNE.out (by rw [← h]; exact hk.symm)
    · have : some k = some q := by rw [← hq]; exact hk.symm
      injection this with this
      omega
  have ho3 : Own (w'.setCell ⟨g, 1, none⟩ (Value.slice x' (xs.length + 1) c')) base 3 .i64 (.slice x' (xs.length + 1) c') (xs ++ [v]) := ho2.kept fun b hb _ => Below.heap_setCell _ _ _ _ (hne' b hb)
  refine ⟨rfl, (Value.slice x' (xs.length + 1) c').ownBlock, ⟨x', c', ?_, h2, by rw [hlen]; exact ho3, by rw [hlen]⟩, ⟨HOS.out, HTP.out, HOU.out, ?_, ?_⟩, hat2⟩
  · have := HG.out.trans H1.out
    rw [hlen]
    simp [World.setCell, Array.getElem?_modify, this]
  · simp [World.setCell]; omega
  · intro k hk hg ho
    rw [Below.heap_setCell _ _ _ _ hg]
    exact HBK.out k hk ho

end
end Go.Proofs.Ytnpkkcbgfnnfmaa
