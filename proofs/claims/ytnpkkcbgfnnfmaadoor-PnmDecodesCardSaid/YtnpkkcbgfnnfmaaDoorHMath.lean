import Derived.Test.YtnpkkcbgfnnfmaaDoorLMath
import Derived.Test.YtnpkkcbgfnnfmaaDoorRMath
/- The head of an image's bytes, as plain lists. -/
namespace Go.Proofs.YtnpkkcbgfnnfmaaDoor

def blankB (x : Int) : Bool := decide (x = 32 ∨ (9 ≤ x ∧ x ≤ 13))
def digitB (x : Int) : Bool := decide (48 ≤ x ∧ x ≤ 57)

/-- over blanks and remarks: what is left, and whether there were some -/
def ovl : Bool → Bool → List Int → List Int × Bool
  | _, s, [] => ([], s)
  | true, _, x :: l => ovl (!(x == 10 || x == 13)) true l
  | false, s, x :: l => if x = 35 then ovl true true l else if blankB x = true then ovl false true l else (x :: l, s)

/-- a number that a text begins with; what is left -/
def dgl : Int → List Int → Int × List Int
  | m, [] => (m, [])
  | m, x :: l => if digitB x = true then dgl (if 1000000000 < 10 * m + (x - 48) then 1000000000 else 10 * m + (x - 48)) l else (m, x :: l)

/-- of what is left behind the blanks: code, number, what is left -/
def resN (p : List Int × Bool) : Int × Int × List Int :=
  match p.1 with
  | [] => (3, 0, [])
  | x :: l => if p.2 = true ∧ digitB x = true then (0, dgl 0 (x :: l)) else (2, 0, [])
def numL (l : List Int) : Int × Int × List Int := resN (ovl false false l)

theorem resN_nil (s : Bool) : resN ([], s) = (3, 0, []) := rfl
theorem ovl_blank {s : Bool} {x : Int} {l : List Int} (h : blankB x = true) : ovl false s (x :: l) = ovl false true l := by
  have : x ≠ 35 := by
    unfold blankB at h
    simp at h
    omega
  rw [ovl, if_neg this, if_pos h]
theorem ovl_mark {s : Bool} {l : List Int} : ovl false s ((35 : Int) :: l) = ovl true true (35 :: l) := by
  simp [ovl]
theorem ovl_stop {s : Bool} {x : Int} {l : List Int} (h : blankB x = false) (h' : x ≠ 35) : ovl false s (x :: l) = (x :: l, s) := by
  rw [ovl, if_neg h', if_neg (by simp [h])]
theorem ovl_in {s : Bool} {x : Int} {l : List Int} (h : x ≠ 10) (h' : x ≠ 13) : ovl true s (x :: l) = ovl true true l := by
  rw [ovl]
  congr 1
  simp [h, h']
theorem ovl_out {s : Bool} {x : Int} {l : List Int} (h : x = 10 ∨ x = 13) : ovl true s (x :: l) = ovl false true l := by
  rw [ovl]
  congr 1
  rcases h with rfl | rfl <;> rfl
theorem resN_bad {s : Bool} {x : Int} {l : List Int} (h : s = false ∨ digitB x = false) : resN (x :: l, s) = (2, 0, []) := by
  unfold resN
  simp only
  rw [if_neg]
  rintro ⟨h1, h2⟩
  rcases h with h | h
  · rw [h] at h1; cases h1
  · rw [h] at h2; cases h2
theorem resN_ok {x : Int} {l : List Int} (h : digitB x = true) : resN (x :: l, true) = (0, dgl 0 (x :: l)) := by
  simp [resN, h]
theorem dgl_digit {m x : Int} {l : List Int} (h : digitB x = true) : dgl m (x :: l) = dgl (if 1000000000 < 10 * m + (x - 48) then 1000000000 else 10 * m + (x - 48)) l := by
  rw [dgl, if_pos h]
theorem dgl_stop {m x : Int} {l : List Int} (h : digitB x = false) : dgl m (x :: l) = (m, x :: l) := by
  rw [dgl, if_neg (by simp [h])]

/-- how many channels; 0: no head -/
def magicL (l : List Int) : Int :=
  match l with
  | a :: b :: _ => if a ≠ 80 then 0 else if b = 53 then 1 else if b = 54 then 3 else 0
  | _ => 0

def judgeL (c x y m : Int) : Int := if x = 0 ∨ y = 0 ∨ m = 0 ∨ 65535 < m then 2 else if fitsB x y c = true then 0 else 5
/-- a head: channels, width, height, most, size -/
structure Hd where
  c : Int
  x : Int
  y : Int
  m : Int
  s : Int
def Hd.none : Hd := ⟨0, 0, 0, 0, 0⟩
/-- behind the three numbers -/
def tailP (c : Int) (N : Nat) (x y m : Int) : List Int → Int × Hd
  | [] => (3, Hd.none)
  | b :: l => if blankB b = false then (2, Hd.none) else if judgeL c x y m ≠ 0 then (judgeL c x y m, Hd.none) else (0, ⟨c, x, y, m, (N : Int) - ((b :: l).length : Int) + 1⟩)
/-- what comes out if r numbers are to come -/
def contP (c : Int) (N : Nat) : Nat → Int → Int → Int → List Int → Int × Hd
  | 0, x, y, m, l => tailP c N x y m l
  | r + 1, x, y, m, l => if (numL l).1 ≠ 0 then ((numL l).1, Hd.none) else contP c N r (if r = 2 then (numL l).2.1 else x) (if r = 1 then (numL l).2.1 else y) (if r = 0 then (numL l).2.1 else m) (numL l).2.2
/-- the code, and the head -/
def parseL (l : List Int) : Int × Hd := if magicL l = 0 then (1, Hd.none) else contP (magicL l) l.length 3 0 0 0 (l.drop 2)
end Go.Proofs.YtnpkkcbgfnnfmaaDoor
