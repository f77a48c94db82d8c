import Derived.Test.YtnpkkcbgfnnfmaaDoorPf
/- A byte of an image's bytes set. -/
namespace Go.Proofs.YtnpkkcbgfnnfmaaDoor
open Go.RowKit Go.Sort
set_option linter.unusedVariables false
set_option linter.unusedSimpArgs false
set_option maxRecDepth 100000

theorem OwnM.set {w : World} {base b n c : Nat} {k : IntKind} {xs : List Int} (h : OwnM w base k (.slice (some ⟨b, 0, none⟩) n c) xs) (p : Nat) (v : Int) (hp : p < n) :
    OwnM (w.setCell ⟨b, p, none⟩ (.int k v)) base k (.slice (some ⟨b, 0, none⟩) n c) (xs.set p v) := by
  obtain ⟨b2, c2, he, h1, h2, h3, h4, h5, h6⟩ := h
  injection he with e1 e2 e3
  injection e1 with e1
  injection e1 with e1
  subst e1 e2 e3
  have hsame : (w.setCell ⟨b, p, none⟩ (.int k v)).cell? ⟨b, p, none⟩ = some (.int k v) := by
    have := World.cell?_setCells_in b [.int k v] p w (fun j hj => by
      have : j = 0 := by simpa using hj
      subst this
      exact (h6 p (by omega)).1) 0 (by simp)
    simpa [World.setCells] using this
  have hother : ∀ j, j ≠ p → (w.setCell ⟨b, p, none⟩ (.int k v)).cell? ⟨b, j, none⟩ = w.cell? ⟨b, j, none⟩ := fun j hj => by
    have := World.cell?_setCells_out b [.int k v] p w ⟨b, j, none⟩ (fun _ _ => by simp; omega)
    simpa [World.setCells] using this
  have hfr : ∀ j, (w.setCell ⟨b, p, none⟩ (.int k v)).frozen? ⟨b, j, none⟩ = w.frozen? ⟨b, j, none⟩ := fun j => by
    have := World.frozen?_setCells b [.int k v] p w ⟨b, j, none⟩
    simp
  refine ⟨b, c, by rw [List.length_set], h1, by simpa [World.setCell] using h2, by rw [List.length_set]; exact h3, h4, fun j u hu => ?_, fun j hj => ⟨?_, by rw [hfr]; exact (h6 j hj).2⟩⟩
  · rw [List.getElem?_map] at hu
    obtain ⟨y, hy, rfl⟩ := Option.map_eq_some_iff.1 hu
    by_cases hj : j = p
    · subst hj
      rw [List.getElem?_set_self hp] at hy
      injection hy with hy
      rw [hsame, hy]
    · rw [List.getElem?_set_ne (by omega)] at hy
      rw [hother j hj]
      exact h5 j _ (by rw [List.getElem?_map, hy]; rfl)
  · by_cases hjp : j = p
    · subst hjp; rw [hsame]; rfl
    · rw [hother j hjp]; exact (h6 j hj).1


theorem OwnM.at_ {w : World} {base b n c : Nat} {k : IntKind} {xs : List Int} (h : OwnM w base k (.slice (some ⟨b, 0, none⟩) n c) xs) (p : Nat) (hp : p < n) : ∃ u, w.cell? ⟨b, p, none⟩ = some u ∧ w.frozen? ⟨b, p, none⟩ = false := by
  obtain ⟨b2, c2, he, h1, h2, h3, h4, h5, h6⟩ := h
  injection he with e1 e2 e3
  injection e1 with e1
  injection e1 with e1
  subst e1 e2 e3
  obtain ⟨k1, k2⟩ := h6 p (by omega)
  obtain ⟨u, hu⟩ := Option.isSome_iff_exists.1 k1
  exact ⟨u, hu, k2⟩

theorem pxL_small {T : Int} (hT : T < 256) : ∀ {xs : List Int}, (∀ q ∈ xs, 0 ≤ q ∧ q ≤ T) → pxL T xs = xs
  | [], _ => rfl
  | v :: r, h => by
    have hv := h v (by simp)
    have e : v % 256 = v := by omega
    simp only [pxL, hT, if_true, e]
    rw [pxL_small hT (fun q hq => h q (List.mem_cons_of_mem _ hq))]
    rfl

theorem le_maxl {l : List Int} {x : Int} (h : x ∈ l) : x ≤ maxl l := (maxl_le (by intro he; subst he; cases h) (maxl l)).1 (Int.le_refl _) x h

/-- one byte a sample: the bytes behind the head are the samples -/
theorem decode_set {X Y K : Int} {xs : List Int} (hs : Small X Y K 100 xs) (p : Nat) (hp : p < xs.length) (q : Int) (hq : 0 ≤ q ∧ q ≤ 255) (v : Value) (w : World) (h : Rd w .u8 v ((encL X Y K 100 xs).set ((tL K X Y 100).length + p) q)) :
    Calls Tryd.prog 18 #[v] w fun e w' => DP w (xs.set p q) K X Y 100 e w' := by
  obtain ⟨i1, i2, i3⟩ := hs.i64
  obtain ⟨l1, l2, l3⟩ := enc_len hs
  have l4 := tL_len K X Y 100 i1 i2 i3
  have hpx := pxL_small (T := 100) (by decide) hs.all
  rw [hpx] at l1 l2 l3
  have he : (encL X Y K 100 xs).set ((tL K X Y 100).length + p) q = tL K X Y 100 ++ xs.set p q := by
    unfold encL
    rw [hpx, List.set_append_right _ _ (by omega), Nat.add_sub_cancel_left]
  rw [he] at h
  have hb : Byt (tL K X Y 100 ++ xs.set p q) := by
    intro z hz
    rw [List.mem_append] at hz
    rcases hz with hz | hz
    · exact tL_b _ _ _ _ z hz
    · rcases List.mem_or_eq_of_mem_set hz with hz | rfl
      · have := hs.all z hz; omega
      · exact hq
  have hd := decode_one v _ w h (by rw [List.length_append, List.length_set]; omega) hb K X Y 100 _ (head_any K X Y 100 hs.code _) (by decide) (by rw [Int.toNat_natCast, List.drop_left, List.length_set, ← l1]; omega)
  have hu : upL 100 (((tL K X Y 100 ++ xs.set p q).drop ((tL K X Y 100).length : Int).toNat).take (szL K X Y 100).toNat) = xs.set p q := by
    rw [Int.toNat_natCast, List.drop_left, ← l1, Int.toNat_natCast, List.take_of_length_le (by rw [List.length_set]; omega)]
    unfold upL
    rw [if_pos (by decide)]
  rw [hu] at hd
  exact hd
end Go.Proofs.YtnpkkcbgfnnfmaaDoor
