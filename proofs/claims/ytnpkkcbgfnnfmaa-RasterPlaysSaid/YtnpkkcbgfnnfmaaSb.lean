import Derived.Test.YtnpkkcbgfnnfmaaSa
/- Set and At whatever they are asked for; what RasterPlays' loop keeps. -/
namespace Go.Proofs.Ytnpkkcbgfnnfmaa
open Go.RowKit
set_option linter.unusedVariables false
set_option linter.unusedSimpArgs false
set_option maxRecDepth 100000

def okB (W H C M x y c v : Int) : Bool := inB W H C x y c && decide (v ≤ M)
def setL (W H C M : Int) (xs : List Int) (x y c v : Int) : List Int := if okB W H C M x y c v = true then xs.set (placeI W C x y c).toNat v else xs
def atV (W H C : Int) (xs : List Int) (x y c : Int) : Int := if inB W H C x y c = true then xs.getD (placeI W C x y c).toNat 0 else 0

theorem okB_no {W H C M x y c v : Int} (h : okB W H C M x y c v = false) : inB W H C x y c = false ∨ M < v := by
  unfold okB at h
  rw [Bool.and_eq_false_iff] at h
  rcases h with h | h
  · exact .inl h
  · right
    have := of_decide_eq_false h
    omega
theorem okB_yes {W H C M x y c v : Int} (h : okB W H C M x y c v = true) : inB W H C x y c = true ∧ v ≤ M := by
  unfold okB at h
  rw [Bool.and_eq_true] at h
  exact ⟨h.1, of_decide_eq_true h.2⟩
theorem Small.setL {X Y K T x y c v : Int} {xs : List Int} (h : Small X Y K T xs) (v0 : 0 ≤ v) : Small X Y K T (setL X Y K T xs x y c v) := by
  unfold Ytnpkkcbgfnnfmaa.setL
  split
  · rename_i hk
    exact h.set _ v0 (okB_yes hk).2
  · exact h

section
variable {w : World} {g b : Nat} {W H C M : Int} {xs : List Int}
theorem mset_any (h : ImgR w g b W H C M xs) (hs : Small W H C M xs) (x y c v : Int) (v0 : 0 ≤ v) (v1 : v ≤ 65535) :
    Calls Try.prog 66 #[.pointer (some ⟨g, 0, none⟩), .int .i64 x, .int .i64 y, .int .i64 c, .int .u16 v] w fun e w' => e = .returned (.bool (okB W H C M x y c v)) ∧
      ImgR w' g b W H C M (setL W H C M xs x y c v) ∧ w.grownBy w' (some b) := by
  unfold setL
  cases hk : okB W H C M x y c v
  · rw [if_neg (by simp)]
    refine (set_no h hs.code x y c v v0 v1 (okB_no hk)).mono ?_
    rintro e w' ⟨rfl, m, rfl⟩
    exact ⟨rfl, h.drewN m, grown_drewN w m _⟩
  · rw [if_pos rfl]
    obtain ⟨h1, h2⟩ := okB_yes hk
    exact set_ok h hs.code hs.len x y c v v0 h2 h1
theorem at_any (h : ImgR w g b W H C M xs) (hs : Small W H C M xs) (x y c : Int) :
    Calls Try.prog 49 #[.pointer (some ⟨g, 0, none⟩), .int .i64 x, .int .i64 y, .int .i64 c] w fun e w' => e = .returned (.int .u16 (atV W H C xs x y c)) ∧ ∃ m, w' = w.drewN m := by
  unfold atV
  cases hk : inB W H C x y c
  · rw [if_neg (by simp)]
    exact at_out h x y c hk
  · rw [if_pos rfl]
    exact at_in h hs.code hs.len x y c hk
theorem refAt_any {x0 : Option Addr} {n cap : Nat} (h : Rd w .u16 (.slice x0 n cap) xs) (hs : Small W H C M xs) (x y c : Int) :
    Calls Try.prog 67 #[imgV W H C M (.slice x0 n cap), .int .i64 x, .int .i64 y, .int .i64 c] w fun e w' => e = .returned (.int .u16 (atV W H C xs x y c)) ∧ Below w.heap.size w w' := by
  unfold atV
  cases hk : inB W H C x y c
  · rw [if_neg (by simp)]
    exact refAt_out W H C M x0 n cap x y c w hk
  · rw [if_pos rfl]
    exact refAt_in W H C M x0 n cap xs x y c w h hs.code hs.len hk
theorem refSet_any {q n cap : Nat} (h : Rd w .u16 (.slice (some ⟨q, 0, none⟩) n cap) xs) (hs : Small W H C M xs) (hq : q < w.heap.size) (x y c v : Int) (v0 : 0 ≤ v) (v1 : v ≤ 65535) :
    Calls Try.prog 65 #[imgV W H C M (.slice (some ⟨q, 0, none⟩) n cap), .int .i64 x, .int .i64 y, .int .i64 c, .int .u16 v] w fun e w' => ∃ (q' c' : Nat), e = .returned (.tuple #[imgV W H C M (.slice (some ⟨q', 0, none⟩) n c'), .bool (okB W H C M x y c v)]) ∧
      (q' = q ∨ w.heap.size ≤ q') ∧ q' < w'.heap.size ∧ Rd w' .u16 (.slice (some ⟨q', 0, none⟩) n c') (setL W H C M xs x y c v) ∧ Below w.heap.size w w' := by
  unfold setL
  cases hk : okB W H C M x y c v
  · rw [if_neg (by simp)]
    refine (refSet_no W H C M _ n cap x y c v w v0 v1 (okB_no hk)).mono ?_
    rintro e w' ⟨rfl, hB⟩
    exact ⟨q, cap, rfl, .inl rfl, Nat.lt_of_lt_of_le hq hB.size, h.below hB, hB⟩
  · rw [if_pos rfl]
    obtain ⟨h1, h2⟩ := okB_yes hk
    refine (refSet_ok W H C M _ n cap xs x y c v w h hs.code hs.len v0 h2 h1).mono ?_
    rintro e w' ⟨q', c', rfl, h3, h4, h5, h6⟩
    exact ⟨q', c', rfl, .inr h3, h4, h5, h6⟩
end

/-- an act that came in, at its place -/
structure ActI where
  x : Int
  y : Int
  c : Int
  v : Int
def RdA (w : World) (v : Value) (al : List ActI) : Prop :=
  al.length ≤ maxLen ∧ ((v = .slice none 0 0 ∧ al = []) ∨ ∃ x c, v = .slice (some x) al.length c ∧ ∀ j a, al[j]? = some a → (0 ≤ a.v ∧ a.v ≤ 65535) ∧
    w.cell? (x.add (j * 4)) = some (.int .i64 a.x) ∧ w.cell? (x.add (j * 4 + 1)) = some (.int .i64 a.y) ∧ w.cell? (x.add (j * 4 + 2)) = some (.int .i64 a.c) ∧ w.cell? (x.add (j * 4 + 3)) = some (.int .u16 a.v))

theorem far_set5v {w : World} {g k : Nat} (hk : k ≠ g) (a b c d e : Value) : (((((w.setCell ⟨g, 0, none⟩ a).setCell ⟨g, 1, none⟩ b).setCell ⟨g, 2, none⟩ c).setCell ⟨g, 3, none⟩ d).setCell ⟨g, 4, none⟩ e).heap[k]? = w.heap[k]? := by
  rw [Below.heap_setCell _ _ _ _ hk, Below.heap_setCell _ _ _ _ hk, Below.heap_setCell _ _ _ _ hk, Below.heap_setCell _ _ _ _ hk, Below.heap_setCell _ _ _ _ hk]
theorem size_set5v {w : World} {g : Nat} (a b c d e : Value) : (((((w.setCell ⟨g, 0, none⟩ a).setCell ⟨g, 1, none⟩ b).setCell ⟨g, 2, none⟩ c).setCell ⟨g, 3, none⟩ d).setCell ⟨g, 4, none⟩ e).heap.size = w.heap.size := by
  simp [World.setCell]
/-- what the loop keeps: the image, the first one, the document's box -/
structure PS (w0 w : World) (g r bx g1 r1 q n cr : Nat) (X Y K T : Int) (xm xr x1 : List Int) : Prop where
  M : ImgR w g r X Y K T xm
  F : ImgR w g1 r1 X Y K T x1
  B : w.heap[bx]? = some (.cells #[.int .i64 X, .int .i64 Y, .int .i64 K, .int .i64 T, .slice (some ⟨q, 0, none⟩) n cr] 87 (0, 0))
  R : Rd w .u16 (.slice (some ⟨q, 0, none⟩) n cr) xr
  qr : q ≠ r
  qb : q ≠ bx
  ql : q < w.heap.size
  bg : bx ≠ g
  br : bx ≠ r
  bg1 : bx ≠ g1
  br1 : bx ≠ r1
  rg1 : r ≠ g1
  rr1 : r ≠ r1
  bel : Below w0.heap.size w0 w
  r0 : w0.heap.size ≤ r
  b0 : w0.heap.size ≤ bx

section
variable {w0 w w' : World} {g r bx g1 r1 q n cr : Nat} {X Y K T : Int} {xm xr x1 : List Int}
theorem PS.below (h : PS w0 w g r bx g1 r1 q n cr X Y K T xm xr x1) (hB : Below w.heap.size w w') : PS w0 w' g r bx g1 r1 q n cr X Y K T xm xr x1 :=
  ⟨h.M.below hB, h.F.below hB, row_below h.B hB, h.R.below hB, h.qr, h.qb, Nat.lt_of_lt_of_le h.ql hB.size, h.bg, h.br, h.bg1, h.br1, h.rg1, h.rr1, h.bel.trans (hB.mono h.bel.size), h.r0, h.b0⟩
theorem PS.setImg {xm' : List Int} (h : PS w0 w g r bx g1 r1 q n cr X Y K T xm xr x1) (hi : ImgR w' g r X Y K T xm') (hg : w.grownBy w' (some r)) : PS w0 w' g r bx g1 r1 q n cr X Y K T xm' xr x1 :=
  ⟨hi, h.F.grown hg (by simpa using h.rg1.symm) (by simpa using h.rr1.symm), (hg.block bx (Array.getElem?_eq_some_iff.1 h.B).1 (by simpa using h.br)).trans h.B,
    h.R.grown hg (.inr (by simpa [Value.ownBlock] using h.qr)), h.qr, h.qb, Nat.lt_of_lt_of_le h.ql hg.size, h.bg, h.br, h.bg1, h.br1, h.rg1, h.rr1,
    h.bel.grown hg h.bel.size (fun k hk => by cases hk; exact h.r0), h.r0, h.b0⟩
theorem PS.setBox' {q' c' : Nat} {xr' : List Int} (h : PS w0 w g r bx g1 r1 q n cr X Y K T xm xr x1) (hR : Rd w .u16 (.slice (some ⟨q', 0, none⟩) n c') xr') (hqr : q' ≠ r) (hqb : q' ≠ bx) (hql : q' < w.heap.size)
    (far : ∀ k, k ≠ bx → w'.heap[k]? = w.heap[k]?) (hrow : w'.heap[bx]? = some (.cells #[.int .i64 X, .int .i64 Y, .int .i64 K, .int .i64 T, .slice (some ⟨q', 0, none⟩) n c'] 87 (0, 0))) (hsz : w'.heap.size = w.heap.size) (hbel : Below w0.heap.size w0 w') :
    PS w0 w' g r bx g1 r1 q' n c' X Y K T xm xr' x1 :=
  ⟨h.M.kept (far _ h.bg.symm) (far _ h.br.symm), h.F.kept (far _ h.bg1.symm) (far _ h.br1.symm), hrow, hR.kept (fun k hk _ => by injection hk with hk; subst hk; exact far _ hqb), hqr, hqb, by rw [hsz]; exact hql, h.bg, h.br, h.bg1, h.br1, h.rg1, h.rr1, hbel, h.r0, h.b0⟩
theorem PS.setBox {q' c' : Nat} {xr' : List Int} (h : PS w0 w g r bx g1 r1 q n cr X Y K T xm xr x1) (hR : Rd w .u16 (.slice (some ⟨q', 0, none⟩) n c') xr') (hqr : q' ≠ r) (hqb : q' ≠ bx) (hql : q' < w.heap.size)
    (hw : (((((w.setCell ⟨bx, 0, none⟩ (.int .i64 X)).setCell ⟨bx, 1, none⟩ (.int .i64 Y)).setCell ⟨bx, 2, none⟩ (.int .i64 K)).setCell ⟨bx, 3, none⟩ (.int .i64 T)).setCell ⟨bx, 4, none⟩ (.slice (some ⟨q', 0, none⟩) n c')) = w') :
    PS w0 w' g r bx g1 r1 q' n c' X Y K T xm xr' x1 :=
  h.setBox' hR hqr hqb hql (fun k hk => by rw [← hw]; exact far_set5v hk _ _ _ _ _) (by rw [← hw]; exact row_set5v h.B _ _ _ _ _) (by rw [← hw]; exact size_set5v _ _ _ _ _) (by rw [← hw]; exact below_set5v h.bel h.b0 _ _ _ _ _)
/-- in a round: the act's box and the copy beside it -/
structure PT (w0 w : World) (g r bx g1 r1 q n cr : Nat) (X Y K T : Int) (xm xr x1 : List Int) (ba : Nat) (a : ActI) (g2 r2 : Nat) (xk : List Int) : Prop where
  P : PS w0 w g r bx g1 r1 q n cr X Y K T xm xr x1
  A : w.heap[ba]? = some (.cells #[.int .i64 a.x, .int .i64 a.y, .int .i64 a.c, .int .u16 a.v] 92 (0, 0))
  ar : ba ≠ r
  K2 : ImgR w g2 r2 X Y K T xk
  g2r : g2 ≠ r
  r2r : r2 ≠ r
theorem PT.below {ba : Nat} {a : ActI} {g2 r2 : Nat} {xk : List Int} (h : PT w0 w g r bx g1 r1 q n cr X Y K T xm xr x1 ba a g2 r2 xk) (hB : Below w.heap.size w w') : PT w0 w' g r bx g1 r1 q n cr X Y K T xm xr x1 ba a g2 r2 xk :=
  ⟨h.P.below hB, row_below h.A hB, h.ar, h.K2.below hB, h.g2r, h.r2r⟩
theorem PT.setImg {ba : Nat} {a : ActI} {g2 r2 : Nat} {xk xm' : List Int} (h : PT w0 w g r bx g1 r1 q n cr X Y K T xm xr x1 ba a g2 r2 xk) (hi : ImgR w' g r X Y K T xm') (hg : w.grownBy w' (some r)) : PT w0 w' g r bx g1 r1 q n cr X Y K T xm' xr x1 ba a g2 r2 xk :=
  ⟨h.P.setImg hi hg, (hg.block ba (Array.getElem?_eq_some_iff.1 h.A).1 (by simpa using h.ar)).trans h.A, h.ar, h.K2.grown hg (by simpa using h.g2r) (by simpa using h.r2r), h.g2r, h.r2r⟩
end
theorem bel1' (w : World) (a : Obj) : Below w.heap.size w (w.alloc a) := (Below.refl _ _).alloc (Nat.le_refl _) _
theorem row4v {w : World} {g : Nat} {a b c d : Value} {t : TypeId} (h : w.heap[g]? = some (.cells #[a, b, c, d] t (0, 0))) :
    w.cell? ⟨g, 0, none⟩ = some a ∧ w.cell? ⟨g, 1, none⟩ = some b ∧ w.cell? ⟨g, 2, none⟩ = some c ∧ w.cell? ⟨g, 3, none⟩ = some d :=
  ⟨cell_of_row w g 0 _ _ _ h, cell_of_row w g 1 _ _ _ h, cell_of_row w g 2 _ _ _ h, cell_of_row w g 3 _ _ _ h⟩
end Go.Proofs.Ytnpkkcbgfnnfmaa
