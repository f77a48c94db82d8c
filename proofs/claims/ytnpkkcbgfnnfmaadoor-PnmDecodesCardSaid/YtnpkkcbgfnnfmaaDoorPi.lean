import Derived.Test.YtnpkkcbgfnnfmaaDoorPg
import Derived.Test.YtnpkkcbgfnnfmaaDoorPh
/- There and back: an image's bytes, whatever follows, are decoded to it. -/
namespace Go.Proofs.YtnpkkcbgfnnfmaaDoor
open Go.RowKit Go.Sort
set_option linter.unusedVariables false
set_option linter.unusedSimpArgs false
set_option maxRecDepth 100000

theorem up2_px {T : Int} (hT : ¬ T < 256) : ∀ {xs : List Int}, upL2 (pxL T xs) = xs
  | [] => rfl
  | v :: r => by
    have e : 256 * (v / 256) + v % 256 = v := by omega
    simp only [pxL, hT, if_false, List.cons_append, List.nil_append, upL2, e]
    rw [up2_px hT]
theorem upL_px {T : Int} {xs : List Int} (h : ∀ q ∈ xs, 0 ≤ q ∧ q ≤ T) : upL T (pxL T xs) = xs := by
  unfold upL
  split
  · rename_i hT; exact pxL_small hT h
  · rename_i hT; exact up2_px hT

theorem OwnM.empty (w : World) (e : TypeId) (k : IntKind) (base : Nat) (hb : base ≤ w.heap.size) : OwnM (w.alloc (.cells #[] e)) base k (.slice (some ⟨w.heap.size, 0, none⟩) 0 0) [] :=
  ⟨w.heap.size, 0, rfl, hb, by simp, Nat.le_refl _, by unfold maxLen; omega, fun j u hu => by simp at hu, fun j hj => absurd hj (Nat.not_lt_zero _)⟩

theorem decode_back {X Y K T : Int} {xs more : List Int} (hs : Small X Y K T xs) (hm : Byt more) (hml : more.length ≤ 100) (v : Value) (w : World) (h : Rd w .u8 v (encL X Y K T xs ++ more)) :
    Calls Tryd.prog 18 #[v] w fun e w' => ∃ g r : Nat, e = .returned (.tuple #[.pointer (some ⟨g, 0, none⟩), .int .i64 0]) ∧ w.heap.size ≤ g ∧ w.heap.size ≤ r ∧ ImgR w' g r X Y K T xs ∧ Below w.heap.size w w' := by
  obtain ⟨l1, l2, l3⟩ := enc_len hs
  obtain ⟨i1, i2, i3⟩ := hs.i64
  have l4 := tL_len K X Y T i1 i2 i3
  have hbd := hs.bd
  have he : encL X Y K T xs ++ more = tL K X Y T ++ (pxL T xs ++ more) := by unfold encL; rw [List.append_assoc]
  rw [he] at h
  have hb : Byt (tL K X Y T ++ (pxL T xs ++ more)) := by
    intro z hz
    rw [← he, List.mem_append] at hz
    rcases hz with hz | hz
    · exact enc_b hs z hz
    · exact hm z hz
  have hlen : (tL K X Y T ++ (pxL T xs ++ more)).length ≤ 4503599627370496 := by rw [List.length_append, List.length_append]; omega
  have hlong : ¬ (((tL K X Y T ++ (pxL T xs ++ more)).drop ((tL K X Y T).length : Int).toNat).length : Int) < szL K X Y T := by
    rw [Int.toNat_natCast, List.drop_left, List.length_append, ← l1]
    omega
  have hu : upL T (((tL K X Y T ++ (pxL T xs ++ more)).drop ((tL K X Y T).length : Int).toNat).take (szL K X Y T).toNat) = xs := by
    rw [Int.toNat_natCast, List.drop_left, ← l1, Int.toNat_natCast, List.take_left]
    exact upL_px hs.all
  have hd : Calls Tryd.prog 18 #[v] w fun e w' => DP w xs K X Y T e w' := by
    by_cases hT : T < 256
    · have hd := decode_one v _ w h hlen hb K X Y T _ (head_any K X Y T hs.code _) hT hlong
      rw [hu] at hd
      exact hd
    · have hd := decode_two v _ w h hlen hb K X Y T _ (head_any K X Y T hs.code _) hT hlong
      rw [hu] at hd
      exact hd
  refine hd.mono ?_
  rintro e w' ⟨hB, ⟨hlt, -⟩ | ⟨-, g, r, rfl, hg, hr, hi⟩⟩
  · exfalso
    have hmx : maxl xs ≤ T := (maxl_le (by intro h0; rw [h0] at hbd; simp at hbd) T).2 (fun z hz => (hs.all z hz).2)
    omega
  · exact ⟨g, r, rfl, hg, hr, hi, hB⟩

theorem refText11_any {w : World} {X Y K T : Int} {xs : List Int} {x0 : Option Addr} {n0 c0 : Nat} (hs : Small X Y K T xs) (h : Rd w .u16 (.slice x0 n0 c0) xs) (ht : Tab w) :
    Calls Tryd.prog 26 #[imgV X Y K T (.slice x0 n0 c0)] w fun e w' => e = .returned (.string (strOfNums (encL X Y K T xs))) ∧ Below w.heap.size w w' := by
  have hbd := hs.bd
  obtain ⟨i1, i2, i3⟩ := hs.i64
  by_cases hT : T < 256
  · exact refText11_one h hs.u16r (by omega) i1 i2 i3 ht hT
  · exact refText11_two h hs.u16r (by omega) i1 i2 i3 ht hT
end Go.Proofs.YtnpkkcbgfnnfmaaDoor
