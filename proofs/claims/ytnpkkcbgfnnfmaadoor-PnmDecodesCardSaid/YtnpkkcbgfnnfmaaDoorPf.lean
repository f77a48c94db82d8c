import Derived.Test.YtnpkkcbgfnnfmaaDoorPe
import Derived.Test.YtnpkkcbgfnnfmaaDoorRh
/- A small image's bytes: their length; cut off; whole. -/
namespace Go.Proofs.YtnpkkcbgfnnfmaaDoor
open Go.RowKit Go.Sort
set_option linter.unusedVariables false
set_option linter.unusedSimpArgs false
set_option maxRecDepth 100000

theorem head_any (c W H M : Int) (hM : codeR W H c M = 0) (r : List Int) : parseL (tL c W H M ++ r) = (0, ⟨c, W, H, M, ((tL c W H M).length : Int)⟩) := by
  obtain ⟨m1, m2, hc, w1, w2, h1, h2, -, -, p1, p2⟩ := codeR_zero hM
  obtain ⟨a, rfl⟩ : ∃ a : Nat, W = a := ⟨W.toNat, by omega⟩
  obtain ⟨b, rfl⟩ : ∃ b : Nat, H = b := ⟨H.toNat, by omega⟩
  obtain ⟨d, rfl⟩ : ∃ d : Nat, M = d := ⟨M.toNat, by omega⟩
  rw [tL_nat]
  exact tx_parse c hc a b d (by unfold fitsB; rw [decide_eq_true_eq]; exact ⟨w1, w2, h1, h2, hc, p2⟩) (by omega) (by omega) r
theorem head_cut (c W H M : Int) (hM : codeR W H c M = 0) (k : Nat) (hk : k < (tL c W H M).length) : parseL ((tL c W H M).take k) = (if k < 2 then 1 else 3, Hd.none) := by
  obtain ⟨m1, m2, hc, w1, w2, h1, h2, -, -, p1, p2⟩ := codeR_zero hM
  obtain ⟨a, rfl⟩ : ∃ a : Nat, W = a := ⟨W.toNat, by omega⟩
  obtain ⟨b, rfl⟩ : ∃ b : Nat, H = b := ⟨H.toNat, by omega⟩
  obtain ⟨d, rfl⟩ : ∃ d : Nat, M = d := ⟨M.toNat, by omega⟩
  rw [tL_nat] at hk ⊢
  exact tx_cut c hc a b d (by omega) (by omega) (by omega) k hk
theorem tL_two (c W H M : Int) : 3 ≤ (tL c W H M).length := by unfold tL; simp
theorem enc_len {X Y K T : Int} {xs : List Int} (hs : Small X Y K T xs) : ((pxL T xs).length : Int) = szL K X Y T ∧ (pxL T xs).length ≤ 2400 ∧ (encL X Y K T xs).length = (tL K X Y T).length + (pxL T xs).length := by
  have h1 := pxL_len T xs
  rw [hs.len] at h1
  rw [szL_of hs.code]
  have hb := hs.bd
  refine ⟨h1, ?_, by unfold encL; rw [List.length_append]⟩
  rcases wdL_vals T with h | h <;> rw [h] at h1 <;> omega
theorem Small.i64 {X Y K T : Int} {xs : List Int} (hs : Small X Y K T xs) : I64 X ∧ I64 Y ∧ I64 T := by
  have hb := hs.bd
  have := hs.lx
  have := hs.ly
  unfold I64
  omega
theorem Small.u16r {X Y K T : Int} {xs : List Int} (hs : Small X Y K T xs) : ∀ q ∈ xs, 0 ≤ q ∧ q ≤ 65535 := fun q hq => by
  have hb := hs.bd
  have := hs.all q hq
  omega
theorem enc_b {X Y K T : Int} {xs : List Int} (hs : Small X Y K T xs) : Byt (encL X Y K T xs) := fun z hz => by
  unfold encL at hz
  rw [List.mem_append] at hz
  rcases hz with hz | hz
  · exact tL_b _ _ _ _ z hz
  · exact pxL_b T xs hs.u16r z hz

/-- an image's bytes that are cut off -/
theorem decode_cut {X Y K T : Int} {xs : List Int} (hs : Small X Y K T xs) (v : Value) (k : Nat) (w : World) (h : Rd w .u8 v ((encL X Y K T xs).take k)) (hk : k < (encL X Y K T xs).length) :
    Calls Tryd.prog 18 #[v] w fun e w' => e = .returned (.tuple #[.pointer none, .int .i64 (if k < 2 then 1 else 3)]) ∧ Below w.heap.size w w' := by
  obtain ⟨l1, l2, l3⟩ := enc_len hs
  obtain ⟨i1, i2, i3⟩ := hs.i64
  have l4 := tL_len K X Y T i1 i2 i3
  by_cases hkt : k < (tL K X Y T).length
  · have ht : (encL X Y K T xs).take k = (tL K X Y T).take k := by
      unfold encL
      rw [List.take_append_of_le_length (by omega)]
    rw [ht] at h
    exact decode_bad1 v _ w h (by rw [List.length_take]; omega) (if k < 2 then 1 else 3) 0 0 0 0 0 (head_cut K X Y T hs.code k hkt) (by split <;> decide)
  · have h3 := tL_two K X Y T
    rw [if_neg (by omega)]
    have ht : (encL X Y K T xs).take k = tL K X Y T ++ (pxL T xs).take (k - (tL K X Y T).length) := by
      unfold encL
      rw [List.take_append, List.take_of_length_le (by omega)]
    rw [ht] at h
    have hb : Byt (tL K X Y T ++ (pxL T xs).take (k - (tL K X Y T).length)) := by rw [← ht]; exact fun z hz => enc_b hs z (List.mem_of_mem_take hz)
    refine decode_short v _ w h (by rw [List.length_append, List.length_take]; omega) hb K X Y T _ (head_any K X Y T hs.code _) (k - (tL K X Y T).length) (by omega) ?_
    rw [Int.toNat_natCast, List.drop_left, List.length_take]
    omega
end Go.Proofs.YtnpkkcbgfnnfmaaDoor
