import Derived.Test.YtnpkkcbgfnnfmaaReg
/- The moves of a walk through a region whose last operation d writes what the others have read: behind d nothing is asked. -/
namespace Go.Proofs.Ytnpkkcbgfnnfmaa
open Go.RowKit

section
variable {P : Program} {ops : Array Oper} {Q : Exit → Act → World → Prop} {md : Region.Mode} {S : World → Prop} {d : Nat}

/-- whatever order is picked; S holds behind each operation but d -/
def anyE (P : Program) (md : Region.Mode) (ops : Array Oper) (Q : Exit → Act → World → Prop) (S : World → Prop) (d : Nat) : Nat → Array Bool → Act → World → Prop
  | 0, listed, a, w => Region.ready md ops listed = [] ∧ Q .normal a w
  | fuel + 1, listed, a, w =>
    (Region.ready md ops listed = [] → Q .normal a w) ∧
    ∀ i ∈ Region.ready md ops listed, wpOp P ops Q i (fun a' w' => (i ≠ d → S w') ∧ anyE P md ops Q S d fuel (listed.setIfInBounds i true) a' w') a w

theorem any_of_E : ∀ (fuel : Nat) (listed : Array Bool) (a : Act) (w : World), anyE P md ops Q S d fuel listed a w → wpAny P md ops Q fuel listed a w
  | 0, _, _, _, h => h
  | fuel + 1, _, _, _, h => ⟨h.1, fun i hi => wpOp_mono (fun a' w' h' => any_of_E fuel _ a' w' h'.2) (h.2 i hi)⟩

/-- d waits for i by an edge of its own -/
def waitsB (md : Region.Mode) (ops : Array Oper) (d i : Nat) : Bool :=
  match ops[d]? with
  | some o => o.after.any fun e => Region.binds md e && e.on == i
  | none => false

theorem anyE_first {i : Nat} {oi : Oper} {v : Value} (hi : ops[i]? = some oi) (hd : waitsB md ops d i = true) (hsel : ∀ (j : Nat) (o : Oper) cs b, ops[j]? = some o → o.op ≠ .select cs b)
    (hQ : ∀ c a w, Q (.panic c) (a.put oi.dst v) w → Q (.panic c) a w) :
    ∀ (fuel : Nat) (listed : Array Bool) (a : Act) (w : World),
      (∀ j oj, ops[j]? = some oj → j ≠ i → listed.getD j true = false → (∀ e ∈ oj.after, Region.binds md e = true → e.on ≠ i) → oi.apart ops oj = true) →
      i ∈ Region.ready md ops listed → YieldsIf P ops S oi v a → S w →
      anyE P md ops Q S d fuel (listed.setIfInBounds i true) (a.put oi.dst v) w → anyE P md ops Q S d (fuel + 1) listed a w := by
  intro fuel
  induction fuel with
  | zero =>
    intro listed a w _ hr hy hS H
    refine ⟨fun h => (by rw [h] at hr; cases hr), fun j hj => ?_⟩
    by_cases hji : j = i
    · subst hji; exact hy.wpOp hi hS ⟨fun _ => hS, H⟩
    · have := ready_mono hj hji
      rw [H.1] at this
      cases this
  | succ fuel ih =>
    intro listed a w hfree hr hy hS H
    refine ⟨fun h => (by rw [h] at hr; cases hr), fun j hj => ?_⟩
    by_cases hji : j = i
    · subst hji; exact hy.wpOp hi hS ⟨fun _ => hS, H⟩
    · have h1 := H.2 j (ready_mono hj hji)
      obtain ⟨hjun, oj, hoj, hall⟩ := mem_ready.1 hj
      have hnot : ∀ e ∈ oj.after, Region.binds md e = true → e.on ≠ i := fun e he hb heq => by
        have h1 := hall e he hb
        have h0 := (mem_ready.1 hr).1
        rw [heq] at h1
        rcases Nat.lt_or_ge i listed.size with h' | h'
        · simp [h'] at h0 h1; rw [h0] at h1; cases h1
        · simp [Array.getElem?_eq_none h'] at h1
      have hjd : j ≠ d := fun hjd => by
        subst hjd
        unfold waitsB at hd
        rw [hoj] at hd
        obtain ⟨e, he, h2⟩ := Array.any_eq_true'.1 hd
        simp only [Bool.and_eq_true, beq_iff_eq] at h2
        exact hnot e he h2.1 h2.2
      have h2 := wpOp_putIf hoj (hfree j oj hoj hji hjun hnot) (fun cs b => hsel i oi cs b hi) (fun cs b => hsel j oj cs b hoj) hQ hy h1
      have hfree' : ∀ k ok, ops[k]? = some ok → k ≠ i → (listed.setIfInBounds j true).getD k true = false →
          (∀ e ∈ ok.after, Region.binds md e = true → e.on ≠ i) → oi.apart ops ok = true := fun k ok hk hki hun hno => by
        refine hfree k ok hk hki ?_ hno
        by_cases hjk : j = k
        · subst hjk; exact hjun
        · rw [getD_set_ne true hjk] at hun; exact hun
      refine wpOp_mono (fun a' w' h3 => ⟨h3.2.1, ih (listed.setIfInBounds j true) a' w' hfree' (ready_mono hr (Ne.symm hji)) h3.1 (h3.2.1 hjd) ?_⟩) h2
      rw [Array.setIfInBounds_comm _ _ hji]
      exact h3.2.2

theorem re_start {id n : Nat} {a : Act} {w : World} (d : Nat) (l : Array Bool) (hm : P.follows .mixedOrders = true) (hn : ops.size = n) (hl : Array.replicate n false = l) (hS : S w.drew)
    (h : S w.drew → anyE P .any ops Q S d n l a w.drew) : (Code.region id ops true).wp P Q a w := by
  subst hn
  subst hl
  exact wp_region_any hm (any_of_E _ _ _ _ (h hS))
theorem re_take {i : Nat} {N : Option Tmp} {oi : Oper} {v : Value} {fuel : Nat} {l : Array Bool} {a : Act} {w : World} (l' : Array Bool) (hi : ops[i]? = some oi) (hN : oi.dst = N)
    (hc : (Region.noSelect ops && (Region.free md ops l i && ((Region.ready md ops l).contains i && (waitsB md ops d i && l.setIfInBounds i true == l')))) = true)
    (hQ : ∀ c a w, Q (.panic c) (a.put oi.dst v) w → Q (.panic c) a w) (hy : YieldsIf P ops S oi v a) (hS : S w) {a' : Act} (ha : a.put N v = a')
    (h : anyE P md ops Q S d fuel l' a' w) : anyE P md ops Q S d (fuel + 1) l a w := by
  subst hN
  subst ha
  simp only [Bool.and_eq_true, beq_iff_eq] at hc
  obtain ⟨h1, h2, h3, h4, rfl⟩ := hc
  exact anyE_first hi h4 (Region.noSelect_spec h1) hQ fuel l a w (Region.free_spec hi h2) (by simpa using h3) hy hS h
theorem re_one {i : Nat} {N : Option Tmp} {oi : Oper} {fuel : Nat} {l : Array Bool} {a : Act} {w : World} (l' : Array Bool) (hi : ops[i]? = some oi) (hN : oi.dst = N)
    (hc : (Region.ready md ops l == [i] && l.setIfInBounds i true == l') = true)
    (h : ∀ K : Act → World → Prop, Shut (∀ a' w', S w' → (S w' → anyE P md ops Q S d fuel l' a' w') → K a' w') → if Region.wanted oi (yielded ops a.tmps) = true then Oper.wp P oi a w K Q else K (a.put N undef) w) :
    anyE P md ops Q S d (fuel + 1) l a w := by
  subst hN
  simp only [Bool.and_eq_true, beq_iff_eq] at hc
  obtain ⟨h1, rfl⟩ := hc
  refine ⟨fun h0 => (by rw [h1] at h0; cases h0), ?_⟩
  rw [h1]
  intro j hj
  obtain rfl : j = i := by simpa using hj
  exact wpOp_step hi (fun K' hK => h K' (fun a w hS hW => hK a w ⟨fun _ => hS, hW hS⟩))
/-- the last one -/
theorem re_last {N : Option Tmp} {oi : Oper} {fuel : Nat} {l : Array Bool} {a : Act} {w : World} (l' : Array Bool) (hi : ops[d]? = some oi) (hN : oi.dst = N)
    (hc : (Region.ready md ops l == [d] && (l.setIfInBounds d true == l' && Region.ready md ops l' == [])) = true)
    (h : ∀ K : Act → World → Prop, Shut (∀ a' w', Q .normal a' w' → K a' w') → if Region.wanted oi (yielded ops a.tmps) = true then Oper.wp P oi a w K Q else K (a.put N undef) w) :
    anyE P md ops Q S d (fuel + 1) l a w := by
  subst hN
  simp only [Bool.and_eq_true, beq_iff_eq] at hc
  obtain ⟨h1, rfl, h2⟩ := hc
  refine ⟨fun h0 => (by rw [h1] at h0; cases h0), ?_⟩
  rw [h1]
  intro j hj
  obtain rfl : j = d := by simpa using hj
  refine wpOp_step hi (fun K' hK => h K' (fun a w hq => hK a w ⟨fun hn => absurd rfl hn, ?_⟩))
  cases fuel with
  | zero => exact ⟨h2, hq⟩
  | succ n => exact ⟨fun _ => hq, by rw [h2]; intro i hi; cases hi⟩
theorem re_norm {fuel : Nat} {l : Array Bool} {a a' : Act} {w : World} (ha : a = a') (h : anyE P md ops Q S d fuel l a' w) : anyE P md ops Q S d fuel l a w := by
  subst ha
  exact h
/-- a store -/
theorem re_store {oi : Oper} {a : Act} {w w1 : World} {K : Act → World → Prop} (hw : Region.wanted oi (yielded ops a.tmps) = true) (hN : oi.dst = none) (hrun : (execOp a.eval oi).run P w = .ok .skip w1)
    (h : K a w1) : if Region.wanted oi (yielded ops a.tmps) = true then Oper.wp P oi a w K Q else K (a.put none undef) w := by
  rw [if_pos hw]
  unfold Oper.wp
  rw [hrun]
  show K (a.put oi.dst undef) w1
  rw [hN]
  exact h
end
end Go.Proofs.Ytnpkkcbgfnnfmaa
