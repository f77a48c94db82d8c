import Derived.Test.YtnpkkcbgfnnfmaaDc
import Derived.Test.YtnpkkcbgfnnfmaaDd
/- What the laws of package diff share: two boxed Pictures, two drawn images. -/
namespace Go.Proofs.Ytnpkkcbgfnnfmaa
open Go.RowKit
set_option linter.unusedVariables false
set_option linter.unusedSimpArgs false
set_option maxRecDepth 100000

/-- two boxed Pictures -/
structure BX (w0 w : World) (ra rb : Array Value) : Prop where
  a : w.heap[w0.heap.size]? = some (.cells ra 77 (0, 0))
  b : w.heap[w0.heap.size + 1]? = some (.cells rb 77 (0, 0))
  bel : Below w0.heap.size w0 w
theorem row_below {w w' : World} {k : Nat} {o : Obj} (h : w.heap[k]? = some o) (hB : Below w.heap.size w w') : w'.heap[k]? = some o :=
  (hB.block k (Array.getElem?_eq_some_iff.1 h).1).trans h
theorem row_alloc {w : World} {k : Nat} {o : Obj} (h : w.heap[k]? = some o) (o2 : Obj) : (w.alloc o2).heap[k]? = some o :=
  (heap_alloc_old w o2 (Array.getElem?_eq_some_iff.1 h).1).trans h
theorem BX.below {w0 w w' : World} {ra rb : Array Value} (h : BX w0 w ra rb) (hB : Below w.heap.size w w') : BX w0 w' ra rb :=
  ⟨row_below h.a hB, row_below h.b hB, h.bel.trans (hB.mono h.bel.size)⟩
theorem BX.cells {w0 w : World} {a b c d e a' b' c' d' e' : Value} (h : BX w0 w #[a, b, c, d, e] #[a', b', c', d', e']) :
    BX w0 w #[a, b, c, d, e] #[a', b', c', d', e'] ∧
    w.cell? ⟨w0.heap.size, 0, none⟩ = some a ∧ w.cell? ⟨w0.heap.size, 1, none⟩ = some b ∧ w.cell? ⟨w0.heap.size, 2, none⟩ = some c ∧ w.cell? ⟨w0.heap.size, 3, none⟩ = some d ∧ w.cell? ⟨w0.heap.size, 4, none⟩ = some e ∧
    w.cell? ⟨w0.heap.size + 1, 0, none⟩ = some a' ∧ w.cell? ⟨w0.heap.size + 1, 1, none⟩ = some b' ∧ w.cell? ⟨w0.heap.size + 1, 2, none⟩ = some c' ∧ w.cell? ⟨w0.heap.size + 1, 3, none⟩ = some d' ∧ w.cell? ⟨w0.heap.size + 1, 4, none⟩ = some e' :=
  have r := (row5v h.a).1
  have s := (row5v h.b).1
  ⟨h, r.1, r.2.1, r.2.2.1, r.2.2.2.1, r.2.2.2.2, s.1, s.2.1, s.2.2.1, s.2.2.2.1, s.2.2.2.2⟩
theorem bx_start {w wl : World} {ra rb : Array Value} (hB : Below ((w.alloc (.cells ra 77)).alloc (.cells rb 77)).heap.size ((w.alloc (.cells ra 77)).alloc (.cells rb 77)) wl) : BX w wl ra rb :=
  ⟨(box55 hB).1, (box55 hB).2, (((Below.refl w.heap.size w).alloc (Nat.le_refl _) _).alloc (by simp) _).trans (hB.mono (by simp; omega))⟩

theorem BX.same {w0 w : World} {ra : Array Value} {a b c d e : Value} (h : BX w0 w ra #[a, b, c, d, e]) (a' b' c' : Value) :
    BX w0 ((((w.setCell ⟨w0.heap.size + 1, 0, none⟩ a').setCell ⟨w0.heap.size + 1, 1, none⟩ b').setCell ⟨w0.heap.size + 1, 2, none⟩ c').drew) ra #[a', b', c', d, e] := by
  obtain ⟨ha, hb, hB⟩ := h
  refine ⟨?_, ?_, ((((hB.setCell (show w0.heap.size ≤ w0.heap.size + 1 by omega) _).setCell (show w0.heap.size ≤ w0.heap.size + 1 by omega) _).setCell (show w0.heap.size ≤ w0.heap.size + 1 by omega) _).drew)⟩
  · simp [World.setCell, World.drew, -World.drew_eq, Array.getElem?_modify, ha]
  · simp [World.setCell, World.drew, -World.drew_eq, Array.getElem?_modify, hb]

/-- two images -/
structure DS (w0 w : World) (g r : Nat) (X Y K T : Int) (xs : List Int) (g' r' : Nat) (X' Y' K' T' : Int) (ys : List Int) : Prop where
  A : ImgR w g r X Y K T xs
  B : ImgR w g' r' X' Y' K' T' ys
  bel : Below w0.heap.size w0 w
theorem DS.below {w0 w w' : World} {g r : Nat} {X Y K T : Int} {xs : List Int} {g' r' : Nat} {X' Y' K' T' : Int} {ys : List Int} (h : DS w0 w g r X Y K T xs g' r' X' Y' K' T' ys) (hB : Below w.heap.size w w') : DS w0 w' g r X Y K T xs g' r' X' Y' K' T' ys :=
  ⟨h.A.below hB, h.B.below hB, h.bel.trans (hB.mono h.bel.size)⟩
theorem DS.alloc {w0 w : World} {g r : Nat} {X Y K T : Int} {xs : List Int} {g' r' : Nat} {X' Y' K' T' : Int} {ys : List Int} (h : DS w0 w g r X Y K T xs g' r' X' Y' K' T' ys) (o : Obj) : DS w0 (w.alloc o) g r X Y K T xs g' r' X' Y' K' T' ys :=
  h.below ((Below.refl w.heap.size w).alloc (Nat.le_refl _) o)

/-- how they differ -/
def szB (X Y K X' Y' K' : Int) : Bool := X == X' && (Y == Y' && K == K')
def dOf (X Y K X' Y' K' : Int) (xs ys : List Int) : DD := if szB X Y K X' Y' K' = true then dTo X K xs ys xs.length else DD.zero
theorem szB_true {X Y K X' Y' K' : Int} (h : szB X Y K X' Y' K' = true) : X = X' ∧ Y = Y' ∧ K = K' := by
  unfold szB at h
  simpa using h
theorem szB_comm (X Y K X' Y' K' : Int) : szB X' Y' K' X Y K = szB X Y K X' Y' K' := by
  unfold szB
  rw [Bool.eq_iff_iff]
  simp only [Bool.and_eq_true, beq_iff_eq]
  exact ⟨fun ⟨a, b, c⟩ => ⟨a.symm, b.symm, c.symm⟩, fun ⟨a, b, c⟩ => ⟨a.symm, b.symm, c.symm⟩⟩
theorem szB_self (X Y K : Int) : szB X Y K X Y K = true := by simp [szB]
theorem dOf_comm {X Y K T X' Y' K' T' : Int} {xs ys : List Int} (hs : Small X Y K T xs) (hs' : Small X' Y' K' T' ys) : dOf X' Y' K' X Y K ys xs = dOf X Y K X' Y' K' xs ys := by
  unfold dOf
  rw [szB_comm]
  by_cases h : szB X Y K X' Y' K' = true
  · rw [if_pos h, if_pos h]
    obtain ⟨rfl, rfl, rfl⟩ := szB_true h
    have e : ys.length = xs.length := by have := hs.len; have := hs'.len; omega
    rw [e, dTo_comm]
  · rw [if_neg h, if_neg h]
theorem dOf_self (X Y K : Int) (xs : List Int) : dOf X Y K X Y K xs xs = DD.zero := by
  unfold dOf
  rw [if_pos (szB_self X Y K), dTo_self]

theorem diffOf_all {w : World} {g b g' b' : Nat} {W H C M W' H' C' M' : Int} {xs ys : List Int} (h : ImgR w g b W H C M xs) (h' : ImgR w g' b' W' H' C' M' ys) (hs : Small W H C M xs) (hs' : Small W' H' C' M' ys) :
    Calls Try.prog 61 #[.pointer (some ⟨g, 0, none⟩), .pointer (some ⟨g', 0, none⟩)] w fun e w' => e = .returned (.tuple #[.agg (ddC (dOf W H C W' H' C' xs ys)), .bool (szB W H C W' H' C')]) ∧ Below w.heap.size w w' := by
  by_cases hz : szB W H C W' H' C' = true
  · have e : dOf W H C W' H' C' xs ys = dTo W C xs ys xs.length := by unfold dOf; rw [if_pos hz]
    rw [e, hz]
    obtain ⟨rfl, rfl, rfl⟩ := szB_true hz
    exact diffOf_yes h h' hs hs'
  · have e : dOf W H C W' H' C' xs ys = DD.zero := by unfold dOf; rw [if_neg hz]
    have hz' : szB W H C W' H' C' = false := by simpa using hz
    rw [e, hz']
    exact diffOf_no h h' hz'
theorem refOf_all {w : World} {W H C M W' H' C' M' : Int} {xs ys : List Int} {x x' : Option Addr} {c c' : Nat} (h : Rd w .u16 (.slice x xs.length c) xs) (h' : Rd w .u16 (.slice x' ys.length c') ys) (hs : Small W H C M xs) (hs' : Small W' H' C' M' ys) :
    Calls Try.prog 62 #[imgV W H C M (.slice x xs.length c), imgV W' H' C' M' (.slice x' ys.length c')] w fun e w' => e = .returned (.tuple #[.agg (ddC (dOf W H C W' H' C' xs ys)), .bool (szB W H C W' H' C')]) ∧ Below w.heap.size w w' := by
  by_cases hz : szB W H C W' H' C' = true
  · have e : dOf W H C W' H' C' xs ys = dTo W C xs ys xs.length := by unfold dOf; rw [if_pos hz]
    rw [e, hz]
    obtain ⟨rfl, rfl, rfl⟩ := szB_true hz
    have el : ys.length = xs.length := by have := hs.len; have := hs'.len; omega
    rw [el] at h' ⊢
    exact refOf_yes W H C M M' x x' xs.length c c' xs ys w h h' hs hs'
  · have e : dOf W H C W' H' C' xs ys = DD.zero := by unfold dOf; rw [if_neg hz]
    have hz' : szB W H C W' H' C' = false := by simpa using hz
    rw [e, hz']
    exact refOf_no W H C M W' H' C' M' x x' _ _ c c' w hz'
end Go.Proofs.Ytnpkkcbgfnnfmaa
