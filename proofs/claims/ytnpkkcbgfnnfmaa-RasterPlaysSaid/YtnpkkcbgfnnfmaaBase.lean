import Derived.WalkKit
import Derived.ProofKit
import Derived.BigQuiet
import Derived.Lib.Hide
import Derived.WalkSpells
import Derived.Lib.SliceRun
import Derived.Laws.AppendOwnNone
/- Words for what lies in memory: a slice that reads as a list, a row that the call made, an image; how they stand when other blocks change. No program in sight. -/
namespace Go.Proofs.Ytnpkkcbgfnnfmaa
open Go.RowKit
set_option linter.unusedVariables false
set_option linter.unusedSimpArgs false

theorem run_equalIn_nil_pointer {P : Program} (w : World) (d : Nat) (t : TypeId) (p : Option Addr) (h : P.underlying t = some (.pointer (P.pointee t))) :
    (Op.equalIn (d + 1) t (.pointer none) (.pointer p)).run P w = .ok p.isNone w := by
  cases p <;> simp [Op.equalIn, run_underlying h]
theorem run_equal_nil_pointer {P : Program} (w : World) (t : TypeId) (p : Option Addr) (h : P.underlying t = some (.pointer (P.pointee t))) :
    (Op.equal t (.pointer none) (.pointer p)).run P w = .ok p.isNone w := run_equalIn_nil_pointer w 9999 t p h
theorem run_eql_nil_pointer {P : Program} (w : World) (t : TypeId) (p : Option Addr) (h : P.underlying t = some (.pointer (P.pointee t))) :
    (binOp .eql t (.pointer none) (.pointer p)).run P w = .ok (.bool p.isNone) w := by
  simp only [binOp]
  simp [run_equal_nil_pointer w t p h]

theorem of_wf_u16 {a : Int} (h : (Lit.int .u16 a).wf = true) : 0 ≤ a ∧ a ≤ 65535 := by
  simp [Lit.wf, IntKind.min, IntKind.max, IntKind.signed, IntKind.bits] at h
  omega
theorem of_wf_u8 {a : Int} (h : (Lit.int .u8 a).wf = true) : 0 ≤ a ∧ a ≤ 255 := by
  simp [Lit.wf, IntKind.min, IntKind.max, IntKind.signed, IntKind.bits] at h
  omega
theorem of_wf_i64 {a : Int} (h : (Lit.int .i64 a).wf = true) : -9223372036854775808 ≤ a ∧ a ≤ 9223372036854775807 := by
  simp [Lit.wf, IntKind.min, IntKind.max, IntKind.signed, IntKind.bits] at h
  omega

theorem ret_bool {a b : Bool} (h : a = b) : Ending.returned (.bool a) = .returned (.bool b) := by rw [h]
theorem ret_int {k : IntKind} {a b : Int} (h : a = b) : Ending.returned (.int k a) = .returned (.int k b) := by rw [h]

/-- a slice value, and the values that its places hold -/
def RdV (w : World) (v : Value) (us : List Value) : Prop :=
  us.length ≤ maxLen ∧ ((v = .slice none 0 0 ∧ us = []) ∨
    ∃ x c, v = .slice (some x) us.length c ∧ us.length ≤ c ∧ c ≤ maxLen ∧ ∀ j u, us[j]? = some u → w.cell? (x.add j) = some u)

/-- a slice of whole numbers -/
def Rd (w : World) (k : IntKind) (v : Value) (xs : List Int) : Prop := RdV w v (xs.map (Value.int k))

theorem RdV.kept {w w' : World} {v : Value} {us : List Value} (h : RdV w v us) (hk : ∀ b, v.ownBlock = some b → b < w.heap.size → w'.heap[b]? = w.heap[b]?) : RdV w' v us := by
  obtain ⟨hl, h⟩ := h
  refine ⟨hl, ?_⟩
  rcases h with h | ⟨x, c, rfl, h1, h2, hc⟩
  · exact .inl h
  · refine .inr ⟨x, c, rfl, h1, h2, fun j u hu => ?_⟩
    have hj := hc j u hu
    have hb : (x.add j).block = x.block := by unfold Addr.add; split <;> rfl
    have hlt := World.block_lt_of_cell? w _ hj
    rw [World.cell?_of_block (w := w) (a := x.add j) (hk _ (by simp [Value.ownBlock, hb]) hlt)]
    exact hj

theorem RdV.below {w w' : World} {v : Value} {us : List Value} (h : RdV w v us) (hb : Below w.heap.size w w') : RdV w' v us :=
  h.kept fun b _ hlt => hb.block b hlt

theorem Rd.below {w w' : World} {k : IntKind} {v : Value} {xs : List Int} (h : Rd w k v xs) (hb : Below w.heap.size w w') : Rd w' k v xs :=
  RdV.below (us := xs.map (Value.int k)) h hb

theorem Rd.kept {w w' : World} {k : IntKind} {v : Value} {xs : List Int} (h : Rd w k v xs) (hk : ∀ b, v.ownBlock = some b → b < w.heap.size → w'.heap[b]? = w.heap[b]?) : Rd w' k v xs :=
  RdV.kept (us := xs.map (Value.int k)) h hk

theorem Rd.nil (w : World) (k : IntKind) : Rd w k (.slice none 0 0) [] := ⟨by simp, .inl ⟨rfl, rfl⟩⟩

/-- what is read, by its number of places -/
theorem Rd.cases {w : World} {k : IntKind} {v : Value} {xs : List Int} (h : Rd w k v xs) :
    xs.length ≤ maxLen ∧ ((v = .slice none 0 0 ∧ xs = []) ∨
      ∃ x c, v = .slice (some x) xs.length c ∧ xs.length ≤ c ∧ c ≤ maxLen ∧ ∀ j, j < xs.length → w.cell? (x.add j) = some (.int k (xs.getD j 0))) := by
  obtain ⟨hl, h⟩ := h
  simp only [List.length_map] at hl
  refine ⟨hl, ?_⟩
  rcases h with ⟨h1, h2⟩ | ⟨x, c, rfl, h1, h2, hc⟩
  · exact .inl ⟨h1, by simpa using h2⟩
  · simp only [List.length_map] at h1 ⊢
    refine .inr ⟨x, c, rfl, h1, h2, fun j hj => hc j _ ?_⟩
    rw [List.getElem?_map, List.getElem?_eq_getElem hj]
    simp [List.getD_eq_getElem?_getD, hj]

/-- a place of a slice that is read, its number under a name of its own -/
theorem Rd.get {w : World} {k : IntKind} {v : Value} {xs : List Int} (h : Rd w k v xs) {x : Addr} {n c : Nat} (hv : v = .slice (some x) n c) {j : Nat} (hj : j < xs.length) : ∃ u, Hid (xs.getD j 0 = u) ∧ w.cell? (x.add j) = some (.int k u) := by
  subst hv
  obtain ⟨_, h⟩ := h.cases
  rcases h with ⟨h, _⟩ | ⟨x', c', h, _, _, hc⟩
  · cases h
  · cases h
    exact ⟨_, Lib.hid rfl, hc j hj⟩
theorem Rd.src {w : World} {k : IntKind} {v : Value} {xs : List Int} (h : Rd w k v xs) {x : Addr} {n c : Nat} (hv : v = .slice (some x) n c) : ∀ j u, (xs.map (Value.int k))[j]? = some u → w.cell? (x.add j) = some u := by
  subst hv
  obtain ⟨_, h⟩ := h.cases
  rcases h with ⟨h, _⟩ | ⟨x', c', h, _, _, hc⟩
  · cases h
  · cases h
    intro j u hu
    rw [List.getElem?_map] at hu
    obtain ⟨y, hy, rfl⟩ := Option.map_eq_some_iff.1 hu
    obtain ⟨hlt, he⟩ := List.getElem?_eq_some_iff.1 hy
    rw [hc j hlt, List.getD_eq_getElem?_getD, hy]
    rfl
theorem Rd.some_ {w : World} {k : IntKind} {x : Option Addr} {n c : Nat} {xs : List Int} (h : Rd w k (.slice x n c) xs) (hl : 0 < xs.length) : ∃ a, x = some a := by
  obtain ⟨_, h⟩ := h.cases
  rcases h with ⟨_, rfl⟩ | ⟨x', c', h, _, _, hc⟩
  · simp at hl
  · injection h with h
    exact ⟨_, h⟩
/-- what a slice that is read looks like -/
theorem Rd.form {w : World} {k : IntKind} {v : Value} {xs : List Int} (h : Rd w k v xs) : ∃ x c, v = .slice x xs.length c ∧ c ≤ maxLen ∧ xs.length ≤ c ∧ (x = none → xs = [] ∧ c = 0) := by
  obtain ⟨_, h⟩ := h.cases
  rcases h with ⟨rfl, rfl⟩ | ⟨x', c', rfl, h1, h2, hc⟩
  · exact ⟨none, 0, rfl, by simp, by simp, fun _ => ⟨rfl, rfl⟩⟩
  · exact ⟨some x', c', rfl, h2, h1, fun h => by cases h⟩

theorem Rd.sub {w : World} {k : IntKind} {b o n c : Nat} {xs : List Int} (h : Rd w k (.slice (some ⟨b, o, none⟩) n c) xs) {lo m : Nat} (hm : lo + m ≤ xs.length) :
    Rd w k (.slice (some ⟨b, o + lo, none⟩) m (c - lo)) ((xs.drop lo).take m) := by
  obtain ⟨hl, h⟩ := h.cases
  rcases h with ⟨h, _⟩ | ⟨x', c', h, h1, h2, hc⟩
  · cases h
  · cases h
    have hlen : ((xs.drop lo).take m).length = m := by rw [List.length_take, List.length_drop]; omega
    refine ⟨by rw [List.length_map]; omega, .inr ⟨⟨b, o + lo, none⟩, c - lo, by rw [List.length_map, hlen], by rw [List.length_map]; omega, by omega, fun j u hu => ?_⟩⟩
    rw [List.getElem?_map] at hu
    obtain ⟨y, hy, rfl⟩ := Option.map_eq_some_iff.1 hu
    rw [List.getElem?_take] at hy
    split at hy
    · rw [List.getElem?_drop] at hy
      obtain ⟨hlt, he⟩ := List.getElem?_eq_some_iff.1 hy
      have := hc (lo + j) hlt
      rw [Addr.add_lit] at this ⊢
      rw [show o + lo + j = o + (lo + j) from by omega, this]
      simp [List.getD_eq_getElem?_getD, hy]
    · cases hy

theorem Rd.drewN {w : World} {k : IntKind} {v : Value} {xs : List Int} (h : Rd w k v xs) (n : Nat) : Rd (w.drewN n) k v xs := h
/-- a row of whole numbers that the call has made -/
def Own (w : World) (base : Nat) (t : TypeId) (k : IntKind) (v : Value) (xs : List Int) : Prop := w.ownsRow base t 1 v xs.length (xs.map (Value.int k))

theorem Own.rd {w : World} {base : Nat} {t : TypeId} {k : IntKind} {v : Value} {xs : List Int} (h : Own w base t k v xs) : Rd w k v xs := by
  have hc := fun g hg => World.ownsRow.cells h (g := g) hg
  obtain ⟨h1, h⟩ := h
  rcases h with ⟨rfl, h2⟩ | ⟨g, cap, cur, rfl, h2, h3, h4, h5, h6, h7⟩
  · have : xs = [] := List.eq_nil_of_length_eq_zero h2
    subst this
    exact Rd.nil _ _
  · exact ⟨by simp; omega, .inr ⟨_, cap, by simp, by simpa using h4, h5, fun j u hu => hc g rfl j u hu⟩⟩

theorem Own.kept {w w' : World} {base : Nat} {t : TypeId} {k : IntKind} {v : Value} {xs : List Int} (h : Own w base t k v xs) (hk : ∀ b, v.ownBlock = some b → b < w.heap.size → w'.heap[b]? = w.heap[b]?) : Own w' base t k v xs := by
  obtain ⟨h1, h⟩ := h
  refine ⟨h1, ?_⟩
  rcases h with h | ⟨g, cap, cur, rfl, h2, h3, r⟩
  · exact .inl h
  · exact .inr ⟨g, cap, cur, rfl, h2, (hk g rfl (Array.getElem?_eq_some_iff.1 h3).1).trans h3, r⟩

theorem Own.below {w w' : World} {base : Nat} {t : TypeId} {k : IntKind} {v : Value} {xs : List Int} (h : Own w base t k v xs) (hb : Below w.heap.size w w') : Own w' base t k v xs :=
  h.kept fun b _ hlt => hb.block b hlt

theorem Own.mono {w : World} {base base' : Nat} {t : TypeId} {k : IntKind} {v : Value} {xs : List Int} (h : Own w base t k v xs) (hb : base' ≤ base) : Own w base' t k v xs := by
  obtain ⟨h1, h⟩ := h
  refine ⟨h1, ?_⟩
  rcases h with h | ⟨g, cap, cur, rfl, h2, r⟩
  · exact .inl h
  · exact .inr ⟨g, cap, cur, rfl, Nat.le_trans hb h2, r⟩

theorem Own.set {w : World} {base b n c : Nat} {t : TypeId} {k : IntKind} {xs : List Int} (h : Own w base t k (.slice (some ⟨b, 0, none⟩) n c) xs) (p : Nat) (v : Int) :
    Own (w.setCell ⟨b, p, none⟩ (.int k v)) base t k (.slice (some ⟨b, 0, none⟩) n c) (xs.set p v) := by
  obtain ⟨h1, h⟩ := h
  refine ⟨by simp, ?_⟩
  rcases h with ⟨h, _⟩ | ⟨g, cap, cur, he, h2, h3, h4, h5, h6, h7⟩
  · cases h
  · injection he with h8 h9 h10
    injection h8 with h8
    injection h8 with h8 _ _
    subst h8
    subst h10
    rw [← h9] at h4 h7
    refine .inr ⟨b, c, cur.setIfInBounds p (.int k v), by rw [List.length_set, h9], h2, ?_, by rw [List.length_set, ← h9]; exact h4, h5, by simpa using h6, ?_⟩
    · simp [World.setCell, Array.getElem?_modify, h3]
    · rw [List.length_set, Array.toList_setIfInBounds, ← h9, List.take_set, h7, List.map_set]
theorem Own.frozen {w : World} {base b n c : Nat} {t : TypeId} {k : IntKind} {xs : List Int} (h : Own w base t k (.slice (some ⟨b, 0, none⟩) n c) xs) (p : Nat) : w.frozen? ⟨b, p, none⟩ = false := by
  obtain ⟨h1, h⟩ := h
  rcases h with ⟨h, _⟩ | ⟨g, cap, cur, he, h2, h3, _⟩
  · cases h
  · injection he with h8 _ _
    injection h8 with h8
    injection h8 with h8 _ _
    subst h8
    simp [World.frozen?, h3]
/-- what a row that the call has made looks like -/
theorem Own.form {w : World} {base : Nat} {t : TypeId} {k : IntKind} {v : Value} {xs : List Int} (h : Own w base t k v xs) : ∃ x c, v = .slice x xs.length c ∧ (xs ≠ [] → ∃ b, x = some ⟨b, 0, none⟩ ∧ base ≤ b ∧ b < w.heap.size) := by
  have hlt := World.ownsRow.lt h
  obtain ⟨h1, h⟩ := h
  rcases h with ⟨rfl, h2⟩ | ⟨g, cap, cur, rfl, h2, h3, h4, h5, h6, h7⟩
  · have : xs = [] := List.eq_nil_of_length_eq_zero h2
    subst this
    exact ⟨none, 0, rfl, fun h => absurd rfl h⟩
  · exact ⟨_, _, rfl, fun _ => ⟨g, rfl, h2, (Array.getElem?_eq_some_iff.1 h3).1⟩⟩

theorem Own.at_ {w : World} {base : Nat} {t : TypeId} {k : IntKind} {x : Option Addr} {n c : Nat} {xs : List Int} (h : Own w base t k (.slice x n c) xs) (hne : xs ≠ []) : ∃ b, x = some ⟨b, 0, none⟩ ∧ base ≤ b ∧ b < w.heap.size := by
  obtain ⟨x', c', he, hx⟩ := h.form
  injection he with e1 _ _
  rw [e1]
  exact hx hne

theorem ints_one {k : IntKind} {xs : List Int} : ∀ u ∈ xs.map (Value.int k), u.oneCell' = true := by
  intro u hu
  obtain ⟨x, _, rfl⟩ := List.mem_map.1 hu
  rfl

/-- 'append(v, s...)': v a row that the call has made, s whatever slice: the walk's law. -/
theorem wpList_append_rd {P : Program} (w : World) {ops : Array Oper} {rest : List Oper} {o : Oper} {a : Act} {Q : Exit → Act → World → Prop} (hgd : o.guard = none) (s x : Operand) (t : TypeId)
    (ho : o.op = .call { callee := .builtin .append, args := #[s, x], argTypes := #[t, t] })
    (base : Nat) (e : TypeId) (i : TypeInfo) (k : IntKind) (bytes : Nat) (ht : P.underlying t = some (.slice e)) (hi : P.info? e = some i) (hz : i.zero = some (.int k 0))
    (hsize : i.size = 1) (hby : i.bytes = bytes)
    (v : Value) (xs : List Int) (hs : a.eval s = v) (hown : Own w base e k v xs)
    (sv : Value) (ys : List Int) (hx : a.eval x = sv) (hr : Rd w k sv ys)
    (h63 : xs.length + ys.length ≤ maxLen) (hbytes : (xs.length + ys.length) * bytes ≤ 140737488355328) (hbase : base ≤ w.heap.size)
    (h : ∀ v' w', Own w' base e k v' (xs ++ ys) → w.grownBy w' v.ownBlock → wpList P ops Q rest (a.put o.dst v') w') : wpList P ops Q (o :: rest) a w := by
  obtain ⟨hl, hr⟩ := hr
  rcases hr with ⟨rfl, hn⟩ | ⟨ad, c, rfl, h1, h2, hc⟩
  · have : ys = [] := by simpa using hn
    subst this
    refine wpList_append_own_none hgd s x t ho base e i 1 ht hi v _ _ hs hown hx ?_
    exact h v w (by simpa using hown) (World.grownBy.refl w _)
  · refine wpList_append_own w hgd s x t ho base e i (.int k 0) 1 bytes ht hi hz hsize hby rfl (by decide) v xs.length (xs.map (Value.int k)) hs hown ad (ys.map (Value.int k)).length c (ys.map (Value.int k)) hx (by simp) hc ints_one
      (by simpa using h63) (by simpa using hbytes) hbase ?_
    intro v' w' h3 h4 _
    refine h v' w' ?_ h4
    unfold Own
    rw [List.length_append, List.map_append]
    simpa using h3

/-- a fresh row without places -/
theorem Own.empty (w : World) (e : TypeId) (k : IntKind) (base : Nat) (hb : base ≤ w.heap.size) : Own (w.alloc (.cells #[] e)) base e k (.slice (some ⟨w.heap.size, 0, none⟩) 0 0) [] :=
  World.ownsRow_made w #[] 0 hb (by simp [maxLen]) (by simp)

/-- the block of an image, and the block of its samples; 'ti' its type, 'te' its samples' -/
def Img (ti te : TypeId) (w : World) (g b : Nat) (W H C M : Int) (xs : List Int) : Prop :=
  ∃ cap cur, w.heap[g]? = some (.cells #[.int .i64 W, .int .i64 H, .int .i64 C, .int .i64 M, .slice (some ⟨b, 0, none⟩) xs.length cap] ti (0, 0)) ∧
    w.heap[b]? = some (.cells cur te (0, 0)) ∧ xs.length ≤ cap ∧ cap ≤ maxLen ∧ cur.size = cap ∧ cur.toList.take xs.length = xs.map (Value.int .u16)

section
variable {ti te : TypeId} {w w' : World} {g b : Nat} {W H C M : Int} {xs : List Int}

theorem Img.lt_g (h : Img ti te w g b W H C M xs) : g < w.heap.size := by
  obtain ⟨cap, cur, h1, _⟩ := h
  exact (Array.getElem?_eq_some_iff.1 h1).1
theorem Img.lt_b (h : Img ti te w g b W H C M xs) : b < w.heap.size := by
  obtain ⟨cap, cur, h1, h2, _⟩ := h
  exact (Array.getElem?_eq_some_iff.1 h2).1
theorem Img.ne (h : Img ti te w g b W H C M xs) (ht : ti ≠ te) : g ≠ b := by
  obtain ⟨cap, cur, h1, h2, _⟩ := h
  rintro rfl
  rw [h1] at h2
  injection h2 with h2
  injection h2 with _ h3 _
  exact ht h3
theorem Img.kept (h : Img ti te w g b W H C M xs) (hg : w'.heap[g]? = w.heap[g]?) (hb : w'.heap[b]? = w.heap[b]?) : Img ti te w' g b W H C M xs := by
  obtain ⟨cap, cur, h1, h2, r⟩ := h
  exact ⟨cap, cur, hg.trans h1, hb.trans h2, r⟩
theorem Img.below (h : Img ti te w g b W H C M xs) (hb : Below w.heap.size w w') : Img ti te w' g b W H C M xs :=
  h.kept (hb.block _ h.lt_g) (hb.block _ h.lt_b)
theorem Img.own (h : Img ti te w g b W H C M xs) : ∃ cap, Own w b te .u16 (.slice (some ⟨b, 0, none⟩) xs.length cap) xs ∧
    w.heap[g]? = some (.cells #[.int .i64 W, .int .i64 H, .int .i64 C, .int .i64 M, .slice (some ⟨b, 0, none⟩) xs.length cap] ti (0, 0)) := by
  obtain ⟨cap, cur, h1, h2, h3, h4, h5, h6⟩ := h
  exact ⟨cap, ⟨by simp, .inr ⟨b, cap, cur, rfl, Nat.le_refl _, h2, h3, h4, by simpa using h5, by simpa using h6⟩⟩, h1⟩
theorem Img.of_own {cap : Nat} {base : Nat} (h : Own w base te .u16 (.slice (some ⟨b, 0, none⟩) xs.length cap) xs)
    (hg : w.heap[g]? = some (.cells #[.int .i64 W, .int .i64 H, .int .i64 C, .int .i64 M, .slice (some ⟨b, 0, none⟩) xs.length cap] ti (0, 0))) : Img ti te w g b W H C M xs := by
  obtain ⟨_, h⟩ := h
  rcases h with ⟨h1, _⟩ | ⟨g', cap', cur, h1, h2, h3, h4, h5, h6, h7⟩
  · cases h1
  · cases h1
    exact ⟨cap, cur, hg, h3, h4, h5, by simpa using h6, by simpa using h7⟩
theorem Img.cell {n cap : Nat} (h : w.heap[g]? = some (.cells #[.int .i64 W, .int .i64 H, .int .i64 C, .int .i64 M, .slice (some ⟨b, 0, none⟩) n cap] ti (0, 0))) :
    w.cell? ⟨g, 0, none⟩ = some (.int .i64 W) ∧ w.cell? ⟨g, 1, none⟩ = some (.int .i64 H) ∧ w.cell? ⟨g, 2, none⟩ = some (.int .i64 C) ∧
    w.cell? ⟨g, 3, none⟩ = some (.int .i64 M) ∧ w.cell? ⟨g, 4, none⟩ = some (.slice (some ⟨b, 0, none⟩) n cap) :=
  ⟨cell_of_row w g 0 _ _ _ h, cell_of_row w g 1 _ _ _ h, cell_of_row w g 2 _ _ _ h, cell_of_row w g 3 _ _ _ h, cell_of_row w g 4 _ _ _ h⟩
end

section
variable {ti te : TypeId} {w w' : World} {g b : Nat} {W H C M : Int} {xs : List Int}
theorem Img.grown {row : Option Nat} (h : Img ti te w g b W H C M xs) (hw : w.grownBy w' row) (hg : some g ≠ row) (hb : some b ≠ row) : Img ti te w' g b W H C M xs :=
  h.kept (hw.block _ h.lt_g hg) (hw.block _ h.lt_b hb)
theorem Img.drewN (h : Img ti te w g b W H C M xs) (n : Nat) : Img ti te (w.drewN n) g b W H C M xs := h
theorem Img.set (h : Img ti te w g b W H C M xs) (ht : ti ≠ te) (p : Nat) (v : Int) : Img ti te (w.setCell ⟨b, p, none⟩ (.int .u16 v)) g b W H C M (xs.set p v) := by
  have hne := h.ne ht
  obtain ⟨cap, cur, h1, h2, h3, h4, h5, h6⟩ := h
  refine ⟨cap, cur.setIfInBounds p (.int .u16 v), ?_, ?_, by simpa using h3, h4, by simpa using h5, ?_⟩
  · rw [Below.heap_setCell _ _ _ _ hne, List.length_set]
    exact h1
  · simp [World.setCell, Array.getElem?_modify, h2]
  · rw [List.length_set, Array.toList_setIfInBounds, List.take_set, h6, List.map_set]
theorem Img.laid {cap : Nat} {cur : Array Value} (h1 : w.heap[g]? = some (.cells #[.int .i64 W, .int .i64 H, .int .i64 C, .int .i64 M, .slice (some ⟨b, 0, none⟩) xs.length cap] ti (0, 0)))
    (h2 : w.heap[b]? = some (.cells cur te (0, 0))) (ht : ti ≠ te) (h3 : xs.length ≤ cap) (h4 : cap ≤ maxLen) (h5 : cur.size = cap) :
    Img ti te (w.setRow b (cur.toList.take 0 ++ (xs.map (Value.int .u16) ++ cur.toList.drop (0 + (xs.map (Value.int .u16)).length))).toArray) g b W H C M xs := by
  have hne : g ≠ b := by
    rintro rfl
    rw [h1] at h2
    injection h2 with h2
    injection h2 with _ h3 _
    exact ht h3
  refine ⟨cap, _, ?_, setRow_heap w b cur _ te _ h2, h3, h4, ?_, ?_⟩
  · rw [setRow_other w b g _ hne]
    exact h1
  · simp; omega
  · simp
theorem grown_setRow (w : World) (b : Nat) (cs : Array Value) : w.grownBy (w.setRow b cs) (some b) :=
  ⟨rfl, rfl, rfl, by simp [World.setRow], fun k _ hk => setRow_other w b k cs (fun e => hk (by rw [e]))⟩
theorem Img.frozen (h : Img ti te w g b W H C M xs) (p : Nat) : w.frozen? ⟨b, p, none⟩ = false := by
  obtain ⟨cap, cur, h1, h2, _⟩ := h
  simp [World.frozen?, h2]
theorem grown_setCell (w : World) (b p : Nat) (v : Value) : w.grownBy (w.setCell ⟨b, p, none⟩ v) (some b) :=
  ⟨rfl, rfl, rfl, by simp [World.setCell], fun k _ hk => Below.heap_setCell _ _ _ _ (fun e => hk (by rw [e]))⟩
theorem grown_drewN (w : World) (n : Nat) (row : Option Nat) : w.grownBy (w.drewN n) row := ⟨rfl, rfl, rfl, Nat.le_refl _, fun _ _ _ => rfl⟩
theorem Rd.grown {k : IntKind} {v : Value} {row : Option Nat} (h : Rd w k v xs) (hw : w.grownBy w' row) (hv : v.ownBlock = none ∨ v.ownBlock ≠ row) : Rd w' k v xs :=
  h.kept fun b hb hlt => hw.block b hlt (by rcases hv with hv | hv <;> rw [hb] at hv <;> first | (exact hv) | (cases hv))
theorem Own.grown {base : Nat} {t : TypeId} {k : IntKind} {v : Value} {row : Option Nat} (h : Own w base t k v xs) (hw : w.grownBy w' row) (hv : v.ownBlock = none ∨ v.ownBlock ≠ row) : Own w' base t k v xs :=
  h.kept fun b hb hlt => hw.block b hlt (by rcases hv with hv | hv <;> rw [hb] at hv <;> first | (exact hv) | (cases hv))
theorem grown_of_below (h : Below w.heap.size w w') (row : Option Nat) : w.grownBy w' row := ⟨h.os, h.tape, h.output, h.size, fun k hk _ => h.block k hk⟩
theorem grown_trans {w'' : World} {row : Option Nat} (h : w.grownBy w' row) (h' : w'.grownBy w'' row) : w.grownBy w'' row :=
  ⟨h'.os.trans h.os, h'.tape.trans h.tape, h'.output.trans h.output, Nat.le_trans h.size h'.size, fun k hk hr => (h'.block k (Nat.lt_of_lt_of_le hk h.size) hr).trans (h.block k hk hr)⟩
theorem below_of_grown (h : w.grownBy w' none) : Below w.heap.size w w' := ⟨h.os, h.tape, h.output, h.size, fun k hk => h.block k hk (by simp)⟩
end

theorem grown_below_set (B : Nat) (w : World) (b p : Nat) (v : Value) (hb : B ≤ b) : Below B w (w.setCell ⟨b, p, none⟩ v) :=
  ⟨rfl, rfl, rfl, by simp [World.setCell], fun k hk => Below.heap_setCell _ _ _ _ (by show k ≠ b; omega)⟩
theorem Below.drewN {B : Nat} {w : World} (n : Nat) : Below B w (w.drewN n) := ⟨rfl, rfl, rfl, Nat.le_refl _, fun _ _ => rfl⟩
end Go.Proofs.Ytnpkkcbgfnnfmaa
