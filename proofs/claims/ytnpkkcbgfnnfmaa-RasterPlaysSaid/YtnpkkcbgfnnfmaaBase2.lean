import Derived.Test.YtnpkkcbgfnnfmaaBase
import Derived.Maps.AppendAt
import Derived.Deep.RegionLaw
/- append's law with where the new row lies. -/
namespace Go.Proofs.Ytnpkkcbgfnnfmaa
open Go.RowKit
set_option linter.unusedVariables false
set_option linter.unusedSimpArgs false

/-- 'append(v, s...)': as wpList_append_rd, and where the new row lies. -/
theorem wpList_append_rd_at {P : Program} (w : World) {ops : Array Oper} {rest : List Oper} {o : Oper} {a : Act} {Q : Exit → Act → World → Prop} (hgd : o.guard = none) (s x : Operand) (t : TypeId)
    (ho : o.op = .call { callee := .builtin .append, args := #[s, x], argTypes := #[t, t] })
    (base : Nat) (e : TypeId) (i : TypeInfo) (k : IntKind) (bytes : Nat) (ht : P.underlying t = some (.slice e)) (hi : P.info? e = some i) (hz : i.zero = some (.int k 0))
    (hsize : i.size = 1) (hby : i.bytes = bytes)
    (v : Value) (xs : List Int) (hs : a.eval s = v) (hown : Own w base e k v xs)
    (sv : Value) (ys : List Int) (hx : a.eval x = sv) (hr : Rd w k sv ys)
    (h63 : xs.length + ys.length ≤ maxLen) (hbytes : (xs.length + ys.length) * bytes ≤ 140737488355328) (hbase : base ≤ w.heap.size)
    (h : ∀ v' w', Own w' base e k v' (xs ++ ys) → w.grownBy w' v.ownBlock → (v'.ownBlock = v.ownBlock ∨ v'.ownBlock = some w.heap.size) → wpList P ops Q rest (a.put o.dst v') w') : wpList P ops Q (o :: rest) a w := by
  obtain ⟨hl, hr⟩ := hr
  rcases hr with ⟨rfl, hn⟩ | ⟨ad, c, rfl, h1, h2, hc⟩
  · have : ys = [] := by simpa using hn
    subst this
    refine wpList_append_own_none hgd s x t ho base e i 1 ht hi v _ _ hs hown hx ?_
    exact h v w (by simpa using hown) (World.grownBy.refl w _) (.inl rfl)
  · refine wpList_append_own_at w hgd s x t ho base e i (.int k 0) 1 bytes ht hi hz hsize hby rfl (by decide) v xs.length (xs.map (Value.int k)) hs hown ad (ys.map (Value.int k)).length c (ys.map (Value.int k)) hx (by simp) hc ints_one
      (by simpa using h63) (by simpa using hbytes) hbase ?_
    intro v' w' h3 h4 _ h5
    refine h v' w' ?_ h4 h5
    unfold Own
    rw [List.length_append, List.map_append]
    simpa using h3

/-- one step of a region that draws: append, by what it comes to. -/
theorem step_append_run {P : Program} {ops : Array Oper} {o : Oper} {a : Act} {w : World} {K : Act → World → Prop} {Q : Exit → Act → World → Prop} {E : Prop}
    (hg : o.guard = none) (s x : Operand) (t : TypeId) (hop : o.op = Op.call { callee := Callee.builtin Builtin.append, args := #[s, x], argTypes := #[t, t] })
    (v1 v2 v' : Value) (w2 : World) (hs : a.eval s = v1) (hx : a.eval x = v2) (hrun : (Builtin.append_ #[t, t] o.type #[v1, v2]).run P w = .ok v' w2)
    (hK : K (a.put o.dst v') w2) :
    if Region.wanted o (yielded ops a.tmps) = true then Oper.wp P o a w K Q else E := by
  have hw : Region.wanted o (yielded ops a.tmps) = true := by simp [Region.wanted, hg]
  rw [if_pos hw]
  unfold Oper.wp
  simp [execOp, hop, resolve, invoke, builtin, hs, hx, hrun, Result.andThen]
  exact hK
end Go.Proofs.Ytnpkkcbgfnnfmaa
