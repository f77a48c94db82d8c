import Derived.Test.YtnpkkcbgfnnfmaaDoorPMath
import Derived.Test.YtnpkkcbgfnnfmaaDoorRf
import Derived.Test.YtnpkkcbgfnnfmaaDoorHg
/- Plain: what a head that is told good says; samples out of bytes; an image out of bytes. -/
namespace Go.Proofs.YtnpkkcbgfnnfmaaDoor

theorem dgl_nn (l : List Int) (m : Int) (hm : 0 ≤ m) : 0 ≤ (dgl m l).1 := by
  induction l generalizing m with
  | nil => exact hm
  | cons x r ih =>
    rw [dgl]
    split
    · rename_i h
      refine ih _ ?_
      unfold digitB at h
      simp at h
      split <;> omega
    · exact hm

def Byt (l : List Int) : Prop := ∀ x ∈ l, 0 ≤ x ∧ x ≤ 255
theorem numL_sub (l : List Int) (h : Byt l) : Byt (numL l).2.2 ∧ (numL l).2.2.length ≤ l.length ∧ 0 ≤ (numL l).2.1 := by
  unfold numL
  have h1 := ovl_sub false false l h
  generalize ovl false false l = ps at h1 ⊢
  obtain ⟨p, s⟩ := ps
  unfold resN
  cases p with
  | nil => exact ⟨(by intro x hx; cases hx), by simp, by simp⟩
  | cons x r =>
    simp only
    split
    · have h2 := dgl_sub (x :: r) 0 h1.1
      exact ⟨h2.1, Nat.le_trans h2.2 h1.2, dgl_nn _ _ (Int.le_refl _)⟩
    · exact ⟨(by intro x hx; cases hx), by simp, by simp⟩

theorem cont_good (c : Int) (N : Nat) : ∀ (r : Nat) (x y m : Int) (l : List Int) (h : Hd), Byt l → l.length ≤ N → (r = 0 → 0 ≤ m) → contP c N r x y m l = (0, h) → h.c = c ∧ judgeL h.c h.x h.y h.m = 0 ∧ 0 ≤ h.m ∧ 1 ≤ h.s ∧ h.s ≤ N
  | 0, x, y, m, l, h, hb, hl, hm, he => by
    unfold contP tailP at he
    cases l with
    | nil => simp at he
    | cons b t =>
      simp only at he
      split at he
      · simp at he
      · split at he
        · rename_i hj
          exact absurd (congrArg Prod.fst he) hj
        · rename_i hj
          injection he with _ he
          subst he
          have hl2 : t.length + 1 ≤ N := by simpa using hl
          have ht : (((b :: t).length : Nat) : Int) = t.length + 1 := by simp
          refine ⟨rfl, by simpa using hj, hm rfl, ?_, ?_⟩
          · show 1 ≤ (N : Int) - ((b :: t).length : Int) + 1
            omega
          · show (N : Int) - ((b :: t).length : Int) + 1 ≤ N
            omega
  | r + 1, x, y, m, l, h, hb, hl, hm, he => by
    unfold contP at he
    split at he
    · rename_i hj
      exact absurd (congrArg Prod.fst he) hj
    · have h1 := numL_sub l hb
      exact cont_good c N r _ _ _ _ h h1.1 (Nat.le_trans h1.2.1 hl) (fun hr => by subst hr; rw [if_pos rfl]; exact h1.2.2) he

/-- a head that is told good -/
theorem parse_good {l : List Int} {h : Hd} (hb : Byt l) (he : parseL l = (0, h)) : codeR h.x h.y h.c h.m = 0 ∧ 1 ≤ h.s ∧ h.s ≤ l.length := by
  unfold parseL at he
  split at he
  · simp at he
  · rename_i hm
    have h1 := cont_good (magicL l) l.length 3 0 0 0 (l.drop 2) h (fun x hx => hb x (List.mem_of_mem_drop hx)) (by simp) (by omega) he
    obtain ⟨e1, e2, e3, e4, e5⟩ := h1
    have hc : h.c = 1 ∨ h.c = 3 := by
      rw [e1]
      unfold magicL at hm ⊢
      split
      · rename_i a b t
        simp only at hm
        split
        · rename_i h1; rw [if_pos h1] at hm; exact absurd rfl hm
        · rename_i h1
          rw [if_neg h1] at hm
          split
          · exact .inl rfl
          · rename_i h2
            rw [if_neg h2] at hm
            split
            · exact .inr rfl
            · rename_i h3; rw [if_neg h3] at hm; exact absurd rfl hm
      · rename_i h1
        exfalso
        apply hm
        split
        · rename_i a b t
          exact absurd rfl (h1 a b t)
        · rfl
    refine ⟨?_, e4, e5⟩
    unfold judgeL at e2
    split at e2
    · omega
    · rename_i h1
      split at e2
      · rename_i h2
        exact codeR_ok (by omega) (by omega) hc h2
      · omega

/-- samples out of bytes -/
def upL2 : List Int → List Int
  | a :: b :: r => (256 * a + b) :: upL2 r
  | _ => []
def upL (m : Int) (l : List Int) : List Int := if m < 256 then l else upL2 l

theorem up2_len : ∀ (l : List Int), (upL2 l).length = l.length / 2
  | [] => rfl
  | [_] => by simp [upL2]
  | a :: b :: r => by
    have := up2_len r
    simp only [upL2, List.length_cons]
    omega
theorem up2_app : ∀ (a b : List Int), a.length % 2 = 0 → upL2 (a ++ b) = upL2 a ++ upL2 b
  | [], b, _ => rfl
  | [_], b, h => by simp at h
  | x :: y :: r, b, h => by
    have := up2_app r b (by simp only [List.length_cons] at h; omega)
    simp only [List.cons_append, upL2, this]
theorem up2_b : ∀ (l : List Int), Byt l → ∀ v ∈ upL2 l, 0 ≤ v ∧ v ≤ 65535
  | [], _, v, hv => by simp [upL2] at hv
  | [_], _, v, hv => by simp [upL2] at hv
  | a :: b :: r, h, v, hv => by
    simp only [upL2, List.mem_cons] at hv
    rcases hv with rfl | hv
    · have h1 := h a (by simp)
      have h2 := h b (by simp)
      omega
    · exact up2_b r (fun x hx => h x (by simp [hx])) v hv
theorem upL_b (m : Int) (l : List Int) (h : Byt l) : ∀ v ∈ upL m l, 0 ≤ v ∧ v ≤ 65535 := by
  unfold upL
  split
  · intro v hv
    have := h v hv
    omega
  · exact up2_b l h
theorem up2_take {R : List Int} {k : Nat} {u v : Int} (hk : 2 * k + 1 < R.length) (hu : R.getD (2 * k) 0 = u) (hv : R.getD (2 * k + 1) 0 = v) : upL2 (R.take (2 * (k + 1))) = upL2 (R.take (2 * k)) ++ [256 * u + v] := by
  have e1 : R.take (2 * (k + 1)) = R.take (2 * k) ++ [u, v] := by
    rw [show 2 * (k + 1) = 2 * k + 1 + 1 by omega, take_succ_getD (by omega), take_succ_getD (by omega), hu, hv, List.append_assoc]
    rfl
  rw [e1, up2_app _ _ (by rw [List.length_take]; omega)]
  rfl

/-- an image out of bytes: code, head, samples -/
def decC (b : List Int) : Int × Hd × List Int :=
  if (parseL b).1 ≠ 0 then ((parseL b).1, Hd.none, []) else
  if ((b.drop (parseL b).2.s.toNat).length : Int) < szL (parseL b).2.c (parseL b).2.x (parseL b).2.y (parseL b).2.m then (3, Hd.none, []) else
  if (parseL b).2.m < maxl (upL (parseL b).2.m ((b.drop (parseL b).2.s.toNat).take (szL (parseL b).2.c (parseL b).2.x (parseL b).2.y (parseL b).2.m).toNat)) then (4, Hd.none, []) else
  (0, (parseL b).2, upL (parseL b).2.m ((b.drop (parseL b).2.s.toNat).take (szL (parseL b).2.c (parseL b).2.x (parseL b).2.y (parseL b).2.m).toNat))
end Go.Proofs.YtnpkkcbgfnnfmaaDoor
