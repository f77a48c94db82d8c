import Derived.Test.YtnpkkcbgfnnfmaaDoorHi
import Derived.ArgAppend
/- A row that the call has made, a mark behind its cells or none: '[]byte(s)' gives one; append onto it. -/
namespace Go.Proofs.YtnpkkcbgfnnfmaaDoor
open Go.RowKit Go.Sort
set_option linter.unusedVariables false
set_option linter.unusedSimpArgs false
set_option maxRecDepth 100000

theorem below_row {B : Nat} {w w' : World} {k : Nat} {o : Obj} (hB : Below w.heap.size w w') (h : w.heap[k]? = some o) : w'.heap[k]? = some o :=
  (hB.block k (Array.getElem?_eq_some_iff.1 h).1).trans h

theorem infoU8 : (Tryd.prog.info? 5).map (fun i => (i.zero, i.size, i.bytes)) = some (some (.int .u8 0), 1, 1) := by kernel_rfl

/-- a row that the call has made; its cells may be written -/
def OwnM (w : World) (base : Nat) (k : IntKind) (v : Value) (xs : List Int) : Prop :=
  ∃ b c, v = .slice (some ⟨b, 0, none⟩) xs.length c ∧ base ≤ b ∧ b < w.heap.size ∧ xs.length ≤ c ∧ c ≤ maxLen ∧ (∀ j u, (xs.map (Value.int k))[j]? = some u → w.cell? ⟨b, j, none⟩ = some u) ∧
    ∀ j, j < c → (w.cell? ⟨b, j, none⟩).isSome = true ∧ w.frozen? ⟨b, j, none⟩ = false

theorem OwnM.rd {w : World} {base : Nat} {k : IntKind} {v : Value} {xs : List Int} (h : OwnM w base k v xs) : Rd w k v xs := by
  obtain ⟨b, c, rfl, h1, h2, h3, h4, h5, h6⟩ := h
  exact ⟨by rw [List.length_map]; omega, .inr ⟨_, c, by rw [List.length_map], by rw [List.length_map]; exact h3, h4, fun j u hu => by rw [Addr.add_lit, Nat.zero_add]; exact h5 j u hu⟩⟩

theorem OwnM.below {w w' : World} {base : Nat} {k : IntKind} {v : Value} {xs : List Int} (h : OwnM w base k v xs) (hb : Below w.heap.size w w') : OwnM w' base k v xs := by
  obtain ⟨b, c, rfl, h1, h2, h3, h4, h5, h6⟩ := h
  have e : ∀ j, w'.cell? ⟨b, j, none⟩ = w.cell? ⟨b, j, none⟩ := fun j => World.cell?_of_block (hb.block b h2)
  have f : ∀ j, w'.frozen? ⟨b, j, none⟩ = w.frozen? ⟨b, j, none⟩ := fun j => by unfold World.frozen?; rw [hb.block b h2]
  exact ⟨b, c, rfl, h1, Nat.lt_of_lt_of_le h2 hb.size, h3, h4, fun j u hu => by rw [e]; exact h5 j u hu, fun j hj => by rw [e, f]; exact h6 j hj⟩

theorem OwnM.mono {w : World} {base base' : Nat} {k : IntKind} {v : Value} {xs : List Int} (h : OwnM w base k v xs) (hb : base' ≤ base) : OwnM w base' k v xs := by
  obtain ⟨b, c, rfl, h1, h⟩ := h
  exact ⟨b, c, rfl, Nat.le_trans hb h1, h⟩

theorem OwnM.of_own {w : World} {base : Nat} {t : TypeId} {k : IntKind} {v : Value} {xs : List Int} (h : w.ownsRow base t 1 v xs.length (xs.map (Value.int k))) (hne : xs ≠ []) : OwnM w base k v xs := by
  obtain ⟨h0, h⟩ := h
  rcases h with ⟨rfl, hn⟩ | ⟨g, cap, cur, rfl, h1, h2, h3, h4, h5, h6⟩
  · exact absurd (List.eq_nil_of_length_eq_zero hn) hne
  · have hc : ∀ j, w.cell? ⟨g, j, none⟩ = cur[j]? := fun j => by simp [World.cell?, h2]
    refine ⟨g, cap, rfl, h1, (Array.getElem?_eq_some_iff.1 h2).1, h3, h4, fun j u hu => ?_, fun j hj => ⟨?_, ?_⟩⟩
    · rw [hc, ← Array.getElem?_toList]
      rw [← h6, List.getElem?_take] at hu
      split at hu
      · exact hu
      · cases hu
    · rw [hc]
      simp [Array.getElem?_eq_getElem (show j < cur.size by omega)]
    · simp [World.frozen?, h2]

theorem below_setCells (B b : Nat) (hb : B ≤ b) : ∀ (vs : List Value) (o : Nat) (w : World), Below B w (w.setCells b o vs)
  | [], o, w => ⟨rfl, rfl, rfl, Nat.le_refl _, fun _ _ => rfl⟩
  | v :: r, o, w => by
    have h1 := grown_below_set B w b o v hb
    have h2 := below_setCells B b hb r (o + 1) (w.setCell ⟨b, o, none⟩ v)
    exact ⟨h2.os.trans h1.os, h2.tape.trans h1.tape, h2.output.trans h1.output, Nat.le_trans h1.size h2.size, fun k hk => (h2.block k hk).trans (h1.block k hk)⟩

/-- the fresh row of '[]byte(s)' -/
theorem conv_own (w : World) (l : List Int) (hl : ∀ x ∈ l, 0 ≤ x ∧ x ≤ 255) (hn : l.length ≤ maxLen) :
    ∃ c wc, (convert 9 24 (.string (strOfNums l))).run Tryd.prog w = .ok (.slice (some ⟨w.heap.size, 0, none⟩) l.length c) wc ∧
      OwnM wc w.heap.size .u8 (.slice (some ⟨w.heap.size, 0, none⟩) l.length c) l ∧ Below w.heap.size w wc := by
  have hrd := rd_bytesWorld w 5 l hl hn
  refine ⟨grownCap w (strOfNums l).size 0 5, Lib.bytesWorld w 5 (strOfNums l), ?_, ⟨w.heap.size, grownCap w (strOfNums l).size 0 5, rfl, Nat.le_refl _, ?_, ?_, ?_, fun j u hu => ?_, fun j hj => ⟨?_, ?_⟩⟩, below_bytesWorld w 5 (strOfNums l)⟩
  · rw [Lib.run_convert_string_bytes w 9 24 5 (strOfNums l) Tryd.underlying9 Tryd.underlying24 Tryd.underlying5, son_size]
  · rw [Lib.bytesWorld_size]; omega
  · have := grownCap_ge w (strOfNums l).size 0 5
    rw [son_size] at this ⊢
    exact this
  · rw [son_size]; exact grownCap_le_maxLen w _ 0 _ hn
  · have hs := hrd.src rfl j u hu
    rw [Addr.add_lit, Nat.zero_add] at hs
    exact hs
  · have hsz : (Lib.bytesCells w 5 (strOfNums l)).size = grownCap w (strOfNums l).size 0 5 := by
      have := grownCap_ge w (strOfNums l).size 0 5
      have h2 : (strOfNums l).data.size = (strOfNums l).size := rfl
      simp only [Lib.bytesCells, Array.size_append, Array.size_map, Array.size_replicate, h2]
      omega
    simp only [World.cell?, Lib.bytesWorld_at_new]
    rw [son_size] at hsz
    rw [son_size] at hj
    have hj2 : j < (Lib.bytesCells w 5 (strOfNums l)).size := by rw [hsz]; exact hj
    simp [Array.getElem?_eq_getElem hj2]
  · have hsz : (Lib.bytesCells w 5 (strOfNums l)).size = grownCap w (strOfNums l).size 0 5 := by
      have := grownCap_ge w (strOfNums l).size 0 5
      have h2 : (strOfNums l).data.size = (strOfNums l).size := rfl
      simp only [Lib.bytesCells, Array.size_append, Array.size_map, Array.size_replicate, h2]
      omega
    simp only [World.frozen?, Lib.bytesWorld_at_new]
    rw [son_size] at hsz
    rw [son_size] at hj
    simp
    omega

theorem grown_setCells (b : Nat) : ∀ (vs : List Value) (o : Nat) (w : World), w.grownBy (w.setCells b o vs) (some b)
  | [], o, w => World.grownBy.refl w _
  | v :: r, o, w => grown_trans (grown_setCell w b o v) (grown_setCells b r (o + 1) (w.setCell ⟨b, o, none⟩ v))

/-- 'append(v, s...)': v such a row, s whatever slice: the walk's law. -/
theorem wpList_append_mk {P : Program} (w : World) {ops : Array Oper} {rest : List Oper} {o : Oper} {a : Act} {Q : Exit → Act → World → Prop} (hgd : o.guard = none) (s x : Operand) (t : TypeId)
    (ho : o.op = .call { callee := .builtin .append, args := #[s, x], argTypes := #[t, t] })
    (base : Nat) (e : TypeId) (i : TypeInfo) (k : IntKind) (bytes : Nat) (ht : P.underlying t = some (.slice e)) (hi : P.info? e = some i) (hz : i.zero = some (.int k 0))
    (hsize : i.size = 1) (hby : i.bytes = bytes)
    (v : Value) (xs : List Int) (hs : a.eval s = v) (hown : OwnM w base k v xs)
    (sv : Value) (ys : List Int) (hx : a.eval x = sv) (hr : Rd w k sv ys)
    (h63 : xs.length + ys.length ≤ maxLen) (hbytes : (xs.length + ys.length) * bytes ≤ 140737488355328) (hbase : base ≤ w.heap.size)
    (h : ∀ v' w', OwnM w' base k v' (xs ++ ys) → Below base w w' → w.grownBy w' v.ownBlock → (v'.ownBlock = v.ownBlock ∨ ∃ q, v'.ownBlock = some q ∧ w.heap.size ≤ q) → wpList P ops Q rest (a.put o.dst v') w') : wpList P ops Q (o :: rest) a w := by
  obtain ⟨hl, hr⟩ := hr
  obtain ⟨b, c, rfl, h1, h2, h3, h4, h5, h6⟩ := id hown
  rcases hr with ⟨rfl, hn⟩ | ⟨ad, cc, rfl, g1, g2, hc⟩
  · have : ys = [] := by simpa using hn
    subst this
    refine wpList_plain hgd fun K hK => ?_
    have hrun : (Builtin.append_ #[t, t] o.type #[.slice (some ⟨b, 0, none⟩) xs.length c, .slice none 0 0]).run P w = .ok (.slice (some ⟨b, 0, none⟩) xs.length c) w := by
      simp [Builtin.append_, run_underlying ht, sizeOf, typeInfo, hi, Builtin.lenOf, Builtin.firstCells, h3, storeCells]
    unfold Oper.wp
    simp [execOp, ho, resolve, invoke, builtin, hs, hx, hrun, Result.andThen]
    exact hK _ _ (h _ w (by simpa using hown) ⟨rfl, rfl, rfl, Nat.le_refl _, fun _ _ => rfl⟩ (World.grownBy.refl w _) (.inl rfl))
  · refine wpList_append_arg w hgd s x t ho e i (.int k 0) 1 bytes ht hi hz hsize hby rfl (by decide) b 0 xs.length c (xs.map (Value.int k)) hs (by simp) (fun j u hu => by rw [Nat.zero_add]; exact h5 j u hu) ad (ys.map (Value.int k)).length cc (ys.map (Value.int k)) hx (by simp) hc ints_one
      (fun hroom j hj => by rw [Nat.zero_add, Nat.mul_one]; exact h6 _ (by omega)) (by simpa using h63) (by simpa using hbytes) (fun hroom => ?_) (fun hgrow v' w' hown' hgr => ?_)
    · have hle : xs.length + ys.length ≤ c := by simpa using hroom
      have hso : ∀ j, j < (ys.map (Value.int k)).length → (w.cell? ⟨b, xs.length + j, none⟩).isSome = true := fun j hj => (h6 _ (by simp at hj; omega)).1
      have hbel := below_setCells base b h1 (ys.map (Value.int k)) (0 + xs.length * 1) w
      refine h _ _ ⟨b, c, by simp, h1, Nat.lt_of_lt_of_le h2 hbel.size, by simpa using hle, h4, fun j u hu => ?_, fun j hj => ⟨?_, ?_⟩⟩ hbel (grown_setCells b _ _ w) (.inl rfl)
      · rw [Nat.zero_add, Nat.mul_one]
        rw [List.map_append] at hu
        by_cases hjl : j < xs.length
        · rw [World.cell?_setCells_out b _ _ w _ (fun _ _ => .inl hjl)]
          rw [List.getElem?_append_left (by simpa using hjl)] at hu
          exact h5 j u hu
        · rw [List.getElem?_append_right (by simp; omega)] at hu
          obtain ⟨hlt, he⟩ := List.getElem?_eq_some_iff.1 hu
          have := World.cell?_setCells_in b (ys.map (Value.int k)) xs.length w hso _ hlt
          simp only [List.length_map] at this hlt he
          rw [show xs.length + (j - xs.length) = j by omega] at this
          rw [this, he]
      · rw [Nat.zero_add, Nat.mul_one]
        by_cases hin : xs.length ≤ j ∧ j < xs.length + ys.length
        · have hlt : j - xs.length < (ys.map (Value.int k)).length := by simp; omega
          have := World.cell?_setCells_in b (ys.map (Value.int k)) xs.length w hso _ hlt
          rw [show xs.length + (j - xs.length) = j by omega] at this
          rw [this]
          rfl
        · rw [World.cell?_setCells_out b _ _ w _ (fun _ _ => by simp; omega)]
          exact (h6 j hj).1
      · rw [World.frozen?_setCells]
        exact (h6 j hj).2
    · have hne : xs ++ ys ≠ [] := by
        intro he
        have := congrArg List.length he
        rw [List.length_append, List.length_nil] at this
        rw [List.length_map] at hgrow
        omega
      have ho2 : w'.ownsRow w.heap.size e 1 v' (xs ++ ys).length ((xs ++ ys).map (Value.int k)) := by
        rw [List.length_append, List.map_append]
        simpa using hown'
      have hm := OwnM.of_own (t := e) ho2 hne
      obtain ⟨b2, c2, rfl, hb2, -⟩ := id hm
      refine h _ w' (hm.mono hbase) ?_ (grown_of_below (below_of_grown hgr) _) (.inr ⟨b2, rfl, hb2⟩)
      · have hb := below_of_grown hgr
        exact ⟨hb.os, hb.tape, hb.output, hb.size, fun k hk => hb.block k (by omega)⟩

theorem wpList_append_m {P : Program} (w : World) {ops : Array Oper} {rest : List Oper} {o : Oper} {a : Act} {Q : Exit → Act → World → Prop} (hgd : o.guard = none) (s x : Operand) (t : TypeId)
    (ho : o.op = .call { callee := .builtin .append, args := #[s, x], argTypes := #[t, t] })
    (base : Nat) (e : TypeId) (i : TypeInfo) (k : IntKind) (bytes : Nat) (ht : P.underlying t = some (.slice e)) (hi : P.info? e = some i) (hz : i.zero = some (.int k 0))
    (hsize : i.size = 1) (hby : i.bytes = bytes)
    (v : Value) (xs : List Int) (hs : a.eval s = v) (hown : OwnM w base k v xs)
    (sv : Value) (ys : List Int) (hx : a.eval x = sv) (hr : Rd w k sv ys)
    (h63 : xs.length + ys.length ≤ maxLen) (hbytes : (xs.length + ys.length) * bytes ≤ 140737488355328) (hbase : base ≤ w.heap.size)
    (h : ∀ v' w', OwnM w' base k v' (xs ++ ys) → Below base w w' → wpList P ops Q rest (a.put o.dst v') w') : wpList P ops Q (o :: rest) a w :=
  wpList_append_mk w hgd s x t ho base e i k bytes ht hi hz hsize hby v xs hs hown sv ys hx hr h63 hbytes hbase fun v' w' h1 h2 _ _ => h v' w' h1 h2
end Go.Proofs.YtnpkkcbgfnnfmaaDoor
