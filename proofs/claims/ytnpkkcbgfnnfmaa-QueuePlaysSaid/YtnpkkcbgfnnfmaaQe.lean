import Derived.Test.YtnpkkcbgfnnfmaaQc
/- Contracts of the document's queue (smaltoref18), a value. -/
namespace Go.Proofs.Ytnpkkcbgfnnfmaa
open Go.RowKit
set_option linter.unusedVariables false
set_option linter.unusedSimpArgs false
set_option maxRecDepth 100000

/-- a queue as a value -/
abbrev qV (room : Int) (v : Value) (cl : Bool) : Value := .agg #[.int .i64 room, v, .bool cl]

theorem box3 {w w' : World} {a b c : Value} {t : TypeId} (hB : Below (w.alloc (.cells #[a, b, c] t)).heap.size (w.alloc (.cells #[a, b, c] t)) w') :
    w'.cell? ⟨w.heap.size, 0, none⟩ = some a ∧ w'.cell? ⟨w.heap.size, 1, none⟩ = some b ∧ w'.cell? ⟨w.heap.size, 2, none⟩ = some c :=
  ⟨cell_later hB (by simp), cell_later hB (by simp), cell_later hB (by simp)⟩

theorem cell_alloc2 {w : World} {a : Addr} {v : Value} (h : w.cell? a = some v) (o1 o2 : Obj) : ((w.alloc o1).alloc o2).cell? a = some v :=
  cell_later (((Below.refl _ _).alloc (Nat.le_refl _) o1).alloc (by simp) o2) h

theorem refQNew_any (r : Int) (w : World) :
    Calls Try.prog 42 #[.int .i64 r] w fun e w' => e = .returned (qV (roomQ r) (.slice none 0 0) false) ∧ Below w.heap.size w w' := by
  go_enter Try.func42, Try.ntmps42
  go_wp2
  · rw [show roomQ r = 1 from by unfold roomQ; rw [if_pos (by omega)]]
    exact bodyPost_ret (v := qV 1 (.slice none 0 0) false) (by simp [results, Try.results42, go_sem]) rfl ⟨rfl, by repeat (first | exact Below.refl _ _ | apply Below.setCell | apply Below.alloc | simp)⟩
  · rw [show roomQ r = 4096 from by unfold roomQ; rw [if_neg (by omega), if_pos (by omega)]]
    exact bodyPost_ret (v := qV 4096 (.slice none 0 0) false) (by simp [results, Try.results42, go_sem]) rfl ⟨rfl, by repeat (first | exact Below.refl _ _ | apply Below.setCell | apply Below.alloc | simp)⟩
  · rw [show roomQ r = r from by unfold roomQ; rw [if_neg (by omega), if_neg (by omega)]]
    exact bodyPost_ret (v := qV r (.slice none 0 0) false) (by simp [results, Try.results42, go_sem]) rfl ⟨rfl, by repeat (first | exact Below.refl _ _ | apply Below.setCell | apply Below.alloc | simp)⟩

theorem refRecv_none (room : Int) (x : Option Addr) (c : Nat) (cl : Bool) (w : World) :
    Calls Try.prog 43 #[qV room (.slice x 0 c) cl] w fun e w' => e = .returned (.tuple #[qV room (.slice x 0 c) cl, .int .i64 0, .int .i64 (if cl = true then 2 else 1)]) ∧ Below w.heap.size w w' := by
  cases cl
  · go_enter Try.func43, Try.ntmps43
    go_wp2
    exact bodyPost_ret (v := .tuple #[qV room (.slice x 0 c) false, .int .i64 0, .int .i64 1]) (by simp [results, Try.results43, go_sem]) rfl ⟨rfl, by repeat (first | exact Below.refl _ _ | apply Below.setCell | apply Below.alloc | simp)⟩
  · go_enter Try.func43, Try.ntmps43
    go_wp2
    exact bodyPost_ret (v := .tuple #[qV room (.slice x 0 c) true, .int .i64 0, .int .i64 2]) (by simp [results, Try.results43, go_sem]) rfl ⟨rfl, by repeat (first | exact Below.refl _ _ | apply Below.setCell | apply Below.alloc | simp)⟩

theorem refSend_closed (room : Int) (x : Option Addr) (n c : Nat) (v : Int) (w : World) :
    Calls Try.prog 44 #[qV room (.slice x n c) true, .int .i64 v] w fun e w' => e = .returned (.tuple #[qV room (.slice x n c) true, .int .i64 2]) ∧ Below w.heap.size w w' := by
  go_enter Try.func44, Try.ntmps44
  go_wp2
  exact bodyPost_ret (v := .tuple #[qV room (.slice x n c) true, .int .i64 2]) (by simp [results, Try.results44, go_sem]) rfl ⟨rfl, by repeat (first | exact Below.refl _ _ | apply Below.setCell | apply Below.alloc | simp)⟩

theorem refSend_full (room : Int) (x : Option Addr) (n c : Nat) (v : Int) (w : World) (h : room ≤ n) :
    Calls Try.prog 44 #[qV room (.slice x n c) false, .int .i64 v] w fun e w' => e = .returned (.tuple #[qV room (.slice x n c) false, .int .i64 1]) ∧ Below w.heap.size w w' := by
  go_enter Try.func44, Try.ntmps44
  go_wp2
  exact bodyPost_ret (v := .tuple #[qV room (.slice x n c) false, .int .i64 1]) (by simp [results, Try.results44, go_sem]) rfl ⟨rfl, by repeat (first | exact Below.refl _ _ | apply Below.setCell | apply Below.alloc | simp)⟩

theorem refRecv_some (room : Int) (b o n c : Nat) (cl : Bool) (u : Int) (l : List Int) (w : World) (hr : Rd w .i64 (.slice (some ⟨b, o, none⟩) (n + 1) c) (u :: l)) (hn : l.length = n) :
    ∃ o' c', Rd w .i64 (.slice (some ⟨b, o', none⟩) n c') l ∧
    Calls Try.prog 43 #[qV room (.slice (some ⟨b, o, none⟩) (n + 1) c) cl] w fun e w' => e = .returned (.tuple #[qV room (.slice (some ⟨b, o', none⟩) n c') cl, .int .i64 u, .int .i64 0]) ∧ Below w.heap.size w w' := by
  have hform := hr.form
  obtain ⟨_, _, he, hcap, hnc, _⟩ := hform
  injection he with f1 f2 f3
  subst f3
  rw [← f2] at hnc
  clear f1 f2
  unfold maxLen at hcap
  have cx := (hr.src rfl) 0 (.int .i64 u) rfl
  rw [Addr.add_zero'] at cx
  have cx2 := fun o1 o2 => cell_alloc2 cx o1 o2
  clear cx
  by_cases hc1 : c = 1
  · have hn0 : n = 0 := by omega
    subst hc1
    subst hn0
    have hl0 : l = [] := List.eq_nil_of_length_eq_zero hn
    subst hl0
    refine ⟨o, 0, ?_, ?_⟩
    · have := hr.sub (lo := 0) (m := 0) (by simp)
      refine ⟨by simp, .inr ⟨⟨b, o, none⟩, 0, rfl, by simp, by simp, by simp⟩⟩
    clear hr
    go_enter Try.func43, Try.ntmps43
    go_wp2
    exact bodyPost_ret (v := .tuple #[qV room (.slice (some ⟨b, o, none⟩) 0 0) cl, .int .i64 u, .int .i64 0]) (by simp [results, Try.results43, go_sem]) rfl ⟨rfl, by repeat (first | exact Below.refl _ _ | apply Below.setCell | apply Below.alloc | simp)⟩
  · have hc2 : 1 < c := by omega
    refine ⟨o + 1, c - 1, ?_, ?_⟩
    · have := hr.sub (lo := 1) (m := n) (by simp; omega)
      simpa [hn, List.take_of_length_le] using this
    clear hr hn
    go_enter Try.func43, Try.ntmps43
    go_wp2
    exact bodyPost_ret (v := .tuple #[qV room (.slice (some ⟨b, o + 1, none⟩) n (c - 1)) cl, .int .i64 u, .int .i64 0]) (by simp [results, Try.results43, go_sem]) rfl ⟨rfl, by repeat (first | exact Below.refl _ _ | apply Below.setCell | apply Below.alloc | simp)⟩

theorem row3 {w : World} {g : Nat} {a b c : Value} {t : TypeId} (h : w.heap[g]? = some (.cells #[a, b, c] t (0, 0))) :
    (w.cell? ⟨g, 0, none⟩ = some a ∧ w.cell? ⟨g, 1, none⟩ = some b ∧ w.cell? ⟨g, 2, none⟩ = some c) ∧
    w.frozen? ⟨g, 0, none⟩ = false ∧ w.frozen? ⟨g, 1, none⟩ = false ∧ w.frozen? ⟨g, 2, none⟩ = false :=
  ⟨⟨cell_of_row w g 0 _ _ _ h, cell_of_row w g 1 _ _ _ h, cell_of_row w g 2 _ _ _ h⟩, by simp [World.frozen?, h], by simp [World.frozen?, h], by simp [World.frozen?, h]⟩
theorem heap_lt {w : World} {k : Nat} {o : Obj} (h : w.heap[k]? = some o) : k < w.heap.size := (Array.getElem?_eq_some_iff.1 h).1
theorem Own.empty' (w : World) (e : TypeId) (k : IntKind) (base g : Nat) (hg : w.heap.size = g) (hb : base ≤ g) : Own (w.alloc (.cells #[] e)) base e k (.slice (some ⟨g, 0, none⟩) 0 0) [] := by
  subst hg
  exact Own.empty w e k base hb
theorem grown_row {w w' : World} {row : Option Nat} {g : Nat} {o : Obj} (hg : w.grownBy w' row) (h : w.heap[g]? = some o) (hne : some g ≠ row) : w'.heap[g]? = some o :=
  (hg.block g (heap_lt h) hne).trans h
theorem set_row {w : World} {g b p : Nat} {v : Value} {o : Obj} (h : w.heap[g]? = some o) (hne : g ≠ b) : (w.setCell ⟨b, p, none⟩ v).heap[g]? = some o :=
  (Below.heap_setCell _ _ _ _ hne).trans h

theorem refSend_first {w w1 : World} {A B : Obj} {v1 : Value} {l : List Int} {x : Option Addr} {n c : Nat} (hown : Own w1 w.heap.size 3 .i64 v1 ([] ++ l))
    (hgrow : (((w.alloc A).alloc B).alloc (.cells #[] 3)).grownBy w1 (Value.slice (some ⟨w.heap.size + 1 + 1, 0, none⟩) 0 0).ownBlock)
    (hat : v1.ownBlock = (Value.slice (some ⟨w.heap.size + 1 + 1, 0, none⟩) 0 0).ownBlock ∨ v1.ownBlock = some (((w.alloc A).alloc B).alloc (.cells #[] 3)).heap.size) :
    Own w1 w.heap.size 3 .i64 v1 l ∧ w1.heap[w.heap.size]? = some A ∧ w1.heap[w.heap.size + 1]? = some B ∧ Below w.heap.size w w1 ∧ w.heap.size + 3 ≤ w1.heap.size ∧ (∀ q, v1.ownBlock = some q → w.heap.size + 2 ≤ q ∧ q < w1.heap.size) := by
  rw [List.nil_append] at hown
  have hs : (((w.alloc A).alloc B).alloc (.cells #[] 3)).heap.size = w.heap.size + 3 := by simp
  have hsz := hgrow.size
  rw [hs] at hsz hat
  refine ⟨hown, grown_row hgrow ((heap_alloc_old _ _ (by simp; omega)).trans (heap_alloc2_old w A B)) (by simp [Value.ownBlock]; omega), grown_row hgrow ((heap_alloc_old _ _ (by simp)).trans (heap_alloc2_new w A B)) (by simp [Value.ownBlock]), ?_, hsz, fun q hq => ⟨?_, (World.ownsRow.lt hown q hq).2⟩⟩
  · exact ((((Below.refl _ _).alloc (Nat.le_refl _) _).alloc (by simp) _).alloc (by simp; omega) _).grown hgrow (by simp; omega) (by intro k hk; simp [Value.ownBlock] at hk; omega)
  · rcases hat with h | h
    · rw [hq] at h; simp [Value.ownBlock] at h; omega
    · rw [hq] at h; injection h with h; omega

theorem refSend_second {w w1 w2 : World} {A B o : Obj} {v1 v2 : Value} (h1 : w1.heap[w.heap.size]? = some A) (h2 : w1.heap[w.heap.size + 1]? = some B) (hB : Below w.heap.size w w1) (hs : w.heap.size + 3 ≤ w1.heap.size)
    (hq : ∀ q, v1.ownBlock = some q → w.heap.size + 2 ≤ q ∧ q < w1.heap.size) (hgrow : (w1.alloc o).grownBy w2 v1.ownBlock) (hat : v2.ownBlock = v1.ownBlock ∨ v2.ownBlock = some (w1.alloc o).heap.size) :
    w2.heap[w.heap.size]? = some A ∧ w2.heap[w.heap.size + 1]? = some B ∧ Below w.heap.size w w2 ∧ (∀ q, v2.ownBlock = some q → w.heap.size + 2 ≤ q) := by
  have hs1 : (w1.alloc o).heap.size = w1.heap.size + 1 := by simp
  rw [hs1] at hat
  refine ⟨grown_row hgrow ((heap_alloc_old w1 o (by omega)).trans h1) (fun e => by have := (hq _ e.symm).1; omega), grown_row hgrow ((heap_alloc_old w1 o (by omega)).trans h2) (fun e => by have := (hq _ e.symm).1; omega), ?_, fun q hv => ?_⟩
  · exact (hB.alloc (by omega) _).grown hgrow (by omega) (fun k hk => by have := (hq k hk).1; omega)
  · rcases hat with h | h
    · exact (hq q (h.symm.trans hv)).1
    · rw [hv] at h; injection h with h; omega

theorem one_cell' (w : World) (t : TypeId) (v : Int) (g : Nat) (hg : w.heap.size = g) : Rd (w.alloc (.cells #[.int .i64 v] t)) .i64 (.slice (some ⟨g, 0, none⟩) 1 1) [v] := by
  subst hg
  exact one_cell w t v

set_option maxHeartbeats 400000 in
theorem refSend_ok (room : Int) (x : Option Addr) (n c : Nat) (l : List Int) (v : Int) (w : World) (hr : Rd w .i64 (.slice x n c) l) (hn : l.length = n) (h : n < room) (hb : n ≤ 4096) :
    Calls Try.prog 44 #[qV room (.slice x n c) false, .int .i64 v] w fun e w' => ∃ b' c', e = .returned (.tuple #[qV room (.slice (some ⟨b', 0, none⟩) (n + 1) c') false, .int .i64 0]) ∧ Below w.heap.size w w' ∧ w.heap.size ≤ b' ∧ Rd w' .i64 (.slice (some ⟨b', 0, none⟩) (n + 1) c') (l ++ [v]) := by
  obtain ⟨i, hi, hz0, hz1, hz2⟩ := info_parts infoInt
  have HR := Lib.hid hr
  have HN := Lib.hid hn
  clear hr hn
  go_enter Try.func44, Try.ntmps44
  go_wp2_with (first
    | (at_builtin; refine wpList_append_rd_at _ rfl (.tmp 16) (.tmp 18) 43 rfl w.heap.size 3 i .i64 8 Try.underlying43 hi hz0 hz1 hz2 _ [] rfl (Own.empty' _ _ _ _ _ (by simp) (by omega)) _ l rfl (HR.out.below ((((Below.refl _ _).alloc (Nat.le_refl _) _).alloc (by simp) _).alloc (by simp; omega) _)) (by rw [HN.out]; unfold maxLen; simp; omega) (by rw [HN.out]; simp; omega) (by simp; omega) ?_; intro v1 w1 hown hgrow hat; obtain ⟨ho1, hA, hBB, hbel, hsz, hq⟩ := refSend_first (x := x) (n := n) (c := c) hown hgrow hat; obtain ⟨⟨k0, k1, k2⟩, l0, l1, l2⟩ := row3 hA; obtain ⟨⟨m0, m1, m2⟩, p0, p1, p2⟩ := row3 hBB; have HO1 := Lib.hid ho1; have HA := Lib.hid hA; have HBB := Lib.hid hBB; have HBEL := Lib.hid hbel; have HQ := Lib.hid hq; clear hown hgrow hat ho1 hA hBB hbel hq)
    | (at_builtin; refine wpList_append_rd_at _ rfl (.tmp 19) (.tmp 21) 43 rfl w.heap.size 3 i .i64 8 Try.underlying43 hi hz0 hz1 hz2 _ l rfl (World.ownsRow.alloc HO1.out _) _ [v] rfl (one_cell' _ _ _ _ rfl) (by rw [HN.out]; unfold maxLen; simp; omega) (by rw [HN.out]; simp; omega) (by simp; omega) ?_; intro v2 w2 hown2 hgrow2 hat2; obtain ⟨hA2, hBB2, hbel2, hq2⟩ := refSend_second HA.out HBB.out HBEL.out hsz HQ.out hgrow2 hat2; clear k0 k1 k2 l0 l1 l2 m0 m1 m2 p0 p1 p2; obtain ⟨⟨k0, k1, k2⟩, l0, l1, l2⟩ := row3 hA2; obtain ⟨⟨m0, m1, m2⟩, p0, p1, p2⟩ := row3 hBB2; obtain ⟨x2, c2, he2, hf2⟩ := hown2.form; have hl2 : (l ++ [v]).length = n + 1 := by { rw [List.length_append, HN.out]; rfl }; rw [hl2] at he2; subst he2; obtain ⟨b2, hx2, _, _⟩ := hf2 (by simp); subst hx2; have hb2 := hq2 b2 rfl; have HO2 := Lib.hid hown2; have HA2 := Lib.hid hA2; have HBB2 := Lib.hid hBB2; have HBEL2 := Lib.hid hbel2; clear hown2 hgrow2 hat2 hA2 hBB2 hbel2 hq2 hl2 hf2))
  refine bodyPost_ret (v := .tuple #[qV room (.slice (some ⟨b2, 0, none⟩) (n + 1) c2) false, .int .i64 0]) (by simp [results, Try.results44, go_sem, k0, k1, k2, l0, l1, l2, m0, m1, m2, p0, p1, p2]) rfl ⟨b2, c2, rfl, ?_, by omega, ?_⟩
  · repeat (first | exact HBEL2.out | apply Below.setCell | simp)
  · have ho := HO2.out.kept (w' := ((((w2.setCell ⟨w.heap.size, 1, none⟩ (.slice (some ⟨b2, 0, none⟩) (n + 1) c2)).setCell ⟨w.heap.size + 1, 0, none⟩ (.int .i64 room)).setCell ⟨w.heap.size + 1, 1, none⟩ (.slice (some ⟨b2, 0, none⟩) (n + 1) c2)).setCell ⟨w.heap.size + 1, 2, none⟩ (.bool false))) (fun q hq _ => by
      simp [Value.ownBlock] at hq
      subst hq
      rw [Below.heap_setCell _ _ _ _ (by show b2 ≠ w.heap.size + 1; omega), Below.heap_setCell _ _ _ _ (by show b2 ≠ w.heap.size + 1; omega), Below.heap_setCell _ _ _ _ (by show b2 ≠ w.heap.size + 1; omega), Below.heap_setCell _ _ _ _ (by show b2 ≠ w.heap.size; omega)])
    exact ho.rd

/-- what a Send would tell, and nothing else of it -/
theorem refSend_peek (room : Int) (x : Option Addr) (n c : Nat) (cl : Bool) (l : List Int) (w : World) (hr : Rd w .i64 (.slice x n c) l) (hn : l.length = n) (hb : n ≤ 4096) :
    Calls Try.prog 44 #[qV room (.slice x n c) cl, .int .i64 0] w fun e w' => ∃ x' n' c' a, e = .returned (.tuple #[qV room (.slice x' n' c') cl, .int .i64 a]) ∧ Hid ((a != 1) = (cl || decide ((n : Int) < room))) ∧ Below w.heap.size w w' := by
  cases cl
  · by_cases h : (n : Int) < room
    · refine (refSend_ok room x n c l 0 w hr hn h hb).mono ?_
      rintro e w' ⟨b', c', rfl, hB, _, _⟩
      exact ⟨_, _, _, 0, rfl, Lib.hid (by simp [h]), hB⟩
    · refine (refSend_full room x n c 0 w (by omega)).mono ?_
      rintro e w' ⟨rfl, hB⟩
      exact ⟨_, _, _, 1, rfl, Lib.hid (by simp; omega), hB⟩
  · refine (refSend_closed room x n c 0 w).mono ?_
    rintro e w' ⟨rfl, hB⟩
    exact ⟨_, _, _, 2, rfl, Lib.hid (by simp), hB⟩

/-- what a Receive would tell, and nothing else of it -/
theorem refRecv_peek (room : Int) (x : Option Addr) (n c : Nat) (cl : Bool) (l : List Int) (w : World) (hr : Rd w .i64 (.slice x n c) l) (hn : l.length = n) (hx : ∀ a, x = some a → ∃ b o, a = ⟨b, o, none⟩) :
    Calls Try.prog 43 #[qV room (.slice x n c) cl] w fun e w' => ∃ x' n' c' u a, e = .returned (.tuple #[qV room (.slice x' n' c') cl, .int .i64 u, .int .i64 a]) ∧ Hid ((a != 1) = (cl || decide (0 < n))) ∧ Below w.heap.size w w' := by
  cases l with
  | nil =>
    obtain rfl : n = 0 := hn.symm
    refine (refRecv_none room x c cl w).mono ?_
    rintro e w' ⟨rfl, hB⟩
    exact ⟨_, _, _, _, _, rfl, Lib.hid (by cases cl <;> simp), hB⟩
  | cons u l =>
    obtain ⟨n, rfl⟩ : ∃ k, n = k + 1 := ⟨l.length, by rw [← hn, List.length_cons]⟩
    obtain ⟨a, rfl⟩ := hr.some_ (by simp)
    obtain ⟨b, o, rfl⟩ := hx _ rfl
    obtain ⟨o', c', _, hc⟩ := refRecv_some room b o n c cl u l w hr (by simpa using hn)
    refine hc.mono ?_
    rintro e w' ⟨rfl, hB⟩
    exact ⟨_, _, _, _, _, rfl, Lib.hid (by simp), hB⟩
end Go.Proofs.Ytnpkkcbgfnnfmaa
