/- The law PnmDecodes: for every input the call returns true, and each argument reads behind it as it read before. No condition. -/
import Derived.Test.YtnpkkcbgfnnfmaaDoorKl
import Derived.Test.YtnpkkcbgfnnfmaaDoorTie
import Derived.Test.YtnpkkcbgfnnfmaaDoorCards
import Derived.SevenTiedAt
import Derived.Test.YtnpkkcbgfnnfmaaDoorRows
import Derived.Test.YtnpkkcbgfnnfmaaDoorLPnmDecodes
import Derived.Test.YtnpkkcbgfnnfmaaDoorRowBase
import Derived.WalkKit
import Derived.ProofKit
import Derived.OpenShut
import Derived.ChangeOld
import Derived.Below
import Derived.SizedLaws
namespace Go.Proofs.YtnpkkcbgfnnfmaaDoor.pnmDecodes
open Go.ChangeShapes Go.WideShapes Go.ChangeAt Go.RowKit
set_option linter.unusedVariables false
theorem own : ownKnob Tryd.prog.godebug = none := by kernel_rfl
theorem laidOut : laidOutB Tryd.prog = true := by kernel_rfl
set_option maxRecDepth 100000 in
theorem lifted (os : Os) (started : os.Started) (H : Type) (enc : TypeId × Value → H) :
    ReturnsInHanded {} Tryd.checked os 6 .any (fun w args => (Rows.pnmDecodesSpec.pre enc Tryd.prog Tryd.f6 [] false w args ∧ laidMetH Tryd.prog Rows.pnmDecodesRow.laid w) ∧ sizedMet enc Tryd.prog Tryd.f6 (OpenSpec.ofChange Rows.pnmDecodesSpec) false w args) (Rows.pnmDecodesSpec.post enc Tryd.prog Tryd.f6 false true false false) := by
  refine returnsInHanded_of_change_and (C := Tryd.checked) (X := fun w _ => laidMetH Tryd.prog Rows.pnmDecodesRow.laid w) (fun _ _ _ hh h => h.of_heap hh) own started (by kernel_rfl) Tryd.func6
    (ChangeSpec.witness_at (enc := enc) (C := Tryd.checked) (os := os) (X := fun w _ => laidMetH Tryd.prog Rows.pnmDecodesRow.laid w) false (laidWorld os) #[.slice none 0 0] 8 rfl (by kernel_rfl) (by kernel_rfl) (by kernel_rfl) (by kernel_rfl) (by kernel_rfl) (laidWorld_met os _)) ?_
  intro W base args ds gs before hval0 hW hcnd hsz0 hL _
  have hT := tab_of_laid hL
  have hsz : (DataW.weightsEach Tryd.prog (Tryd.f6.params.toList ++ Rows.pnmDecodesSpec.plain.varTypes Tryd.prog) (ds ++ gs)).all (· ≤ reachBytes) = true := hsz0
  have hval : ∀ (j : Nat) t v, Tryd.f6.params[j]? = some t → args[j]? = some v → Value.okWide Tryd.prog W .any base t v := hval0
  have hW' := hW
  obtain ⟨p, q, hA0, hV, rfl, hfz, hnd⟩ := hW
  have hA : DataW.TrodAll enc Tryd.prog W 0 (fun _ => true) true Tryd.f6.params.toList args.toList ds p := hA0
  rw [Tryd.params6] at hA hval hsz
  obtain ⟨v0, vs0, d0, ds0, p0, q0, hargs, rfl, rfl, h0, r0⟩ := trodAll_cons hA
  obtain ⟨rfl, rfl, rfl⟩ := trodAll_nil r0
  obtain rfl : args = #[v0] := by cases args; simp_all
  obtain ⟨rfl, rfl⟩ := trodVars_none hV
  have k0 := h0
  have lt0 : ∀ x ∈ p0, x.block < W.heap.size := by obtain ⟨m, hm⟩ := k0; exact DataW.trod_lt m _ _ _ hm
  obtain ⟨xs0, rd0, wf0, sz0⟩ := rd_of_arg hsz (j := 0) (t := 24) rfl rfl Tryd.underlying24 Tryd.underlying5 (by kernel_rfl) (B := 1) (by kernel_rfl) (okWide_slice Tryd.underlying24 (hval 0 24 v0 rfl rfl)) h0
  clear hA0 hval0 hsz0 hsz
  refine (pnmDecodes_walk v0 xs0 W rd0 wf0 sz0 hT).mono fun e W' ⟨he, bel⟩ => ?_
  subst he
  exact ⟨_, rfl, _, _, _, [], _, [], hW', trodAll_mk1 (shut_bool Tryd.underlying4 _), (trodAll_cons_mk (Below.trod laidOut (by kernel_rfl) (of_decide_eq_true (by kernel_rfl)) k0 bel lt0) trodAll_mk0), rfl, bel.frame _, fun h => by cases h⟩
theorem over : Rows.pnmDecodesRow.holds Tryd.pinned (OpenSpec.ofChange Rows.pnmDecodesSpec) :=
  OpenClaim.holds_of_wide 6 Tryd.f6 rfl rfl rfl rfl rfl rfl rfl ⟨rfl, rfl, rfl, rfl, rfl⟩ rfl rfl rfl rfl rfl (by kernel_rfl) Tryd.func6 (by kernel_rfl)
    (of_decide_eq_true (by kernel_rfl)) (by unfold Func.isWrapper; first | (rw [if_pos (by decide +kernel)]; kernel_rfl) | (rw [if_neg (by decide +kernel)]; exact ⟨rfl, rfl⟩))
    (fun os started H enc _ => lifted os started H enc)
theorem proved : Rows.PnmDecodesSaid := over
theorem card : Rows.PnmDecodesCardSaid :=
  Claim7.holds_tied_plain_at .later [] [.data, .data, .data] true (true, "3a194311f093e139d20d3f943578b0e50ffbdf4d94dbc835f92c15c81e43a4c4") false
    proved (fun _ h => by cases h) (by kernel_rfl) (fun _ h => by cases h) pnmDecodes_row_tie rfl ⟨rfl, rfl⟩ (by kernel_rfl) rfl
    (fun f fn hf hfn => by
      obtain rfl : f = 6 := Option.some.inj ((show Tryd.prog.funcNamed "smalto/smaltolaw11.PnmDecodes" = some 6 by kernel_rfl).symm.trans hf) |>.symm
      obtain rfl : fn = Tryd.f6 := (Option.some.inj (Tryd.func6.symm.trans hfn)).symm
      exact ⟨by kernel_rfl, fun j t ht => by
        rw [Tryd.params6] at ht
        have hm : t ∈ [24] := by
          have := List.mem_of_getElem? (by simpa using ht : ([24] : List TypeId)[j]? = some t)
          exact this
        have hall : ∀ u ∈ [24], Tryd.prog.wantsStandIn u = false := by
          intro u hu
          simp only [List.mem_cons, List.not_mem_nil, or_false] at hu
          subst hu
          all_goals kernel_rfl
        exact hall t hm⟩)
    (by kernel_rfl)
#print axioms proved
end Go.Proofs.YtnpkkcbgfnnfmaaDoor.pnmDecodes
namespace Go.Proofs.YtnpkkcbgfnnfmaaDoor
/-- The row, under a short name, for the claim. -/
theorem pnmDecodes_holds : Rows.PnmDecodesCardSaid := pnmDecodes.card
end Go.Proofs.YtnpkkcbgfnnfmaaDoor
