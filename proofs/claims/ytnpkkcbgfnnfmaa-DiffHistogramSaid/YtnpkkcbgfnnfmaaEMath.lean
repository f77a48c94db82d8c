import Derived.Test.YtnpkkcbgfnnfmaaDMath
/- Plain: the samples of a channel; how many lie in each bin. -/
namespace Go.Proofs.Ytnpkkcbgfnnfmaa

/-- of the first k samples those of channel c -/
def chTo (C c : Int) (xs : List Int) : Nat → List Int
  | 0 => []
  | k + 1 => chTo C c xs k ++ (if (k : Int) % C = c then [xs.getD k 0] else [])

theorem chTo_mem {C c : Int} {xs : List Int} {P : Int → Prop} (h : ∀ k, P (xs.getD k 0)) : ∀ k, ∀ v ∈ chTo C c xs k, P v
  | 0, v, hv => by simp [chTo] at hv
  | k + 1, v, hv => by
    unfold chTo at hv
    rw [List.mem_append] at hv
    rcases hv with hv | hv
    · exact chTo_mem h k v hv
    · split at hv
      · rw [List.mem_singleton] at hv; rw [hv]; exact h k
      · cases hv
theorem chTo_len (C c : Int) (xs : List Int) : ∀ k, (chTo C c xs k).length ≤ k
  | 0 => by simp [chTo]
  | k + 1 => by
    have := chTo_len C c xs k
    unfold chTo
    rw [List.length_append]
    split <;> simp <;> omega
/-- a whole channel -/
theorem chTo_all {C c : Int} (hC : 1 ≤ C) (c0 : 0 ≤ c) (c1 : c < C) (xs : List Int) : ∀ (n r : Nat), (r : Int) ≤ C → ((chTo C c xs (n * C.toNat + r)).length : Int) = n + if c < r then 1 else 0
  | 0, 0, _ => by simp [chTo]; omega
  | n + 1, 0, _ => by
    have h := chTo_all hC c0 c1 xs n C.toNat (by omega)
    rw [if_pos (by omega)] at h
    rw [show (n + 1) * C.toNat + 0 = n * C.toNat + C.toNat by rw [Nat.add_mul]; omega, h, if_neg (by omega)]
    push_cast
    omega
  | n, r + 1, hr => by
    have h := chTo_all hC c0 c1 xs n r (by omega)
    rw [← Nat.add_assoc]
    unfold chTo
    have hm : ((n * C.toNat + r : Nat) : Int) % C = r := by
      push_cast
      rw [Int.toNat_of_nonneg (by omega), Int.add_comm, Int.add_mul_emod_self_right]
      exact Int.emod_eq_of_lt (by omega) (by push_cast at hr; omega)
    rw [List.length_append, hm]
    push_cast
    rw [h]
    push_cast at hr
    by_cases e : (r : Int) = c
    · rw [if_pos e, List.length_singleton, if_neg (by omega), if_pos (by omega)]
      push_cast
      omega
    · rw [if_neg e, List.length_nil]
      by_cases h2 : c < r
      · rw [if_pos h2, if_pos (by omega)]; push_cast; omega
      · rw [if_neg h2, if_neg (by omega)]; push_cast; omega
  termination_by n r => n * (C.toNat + 1) + r
  decreasing_by
    all_goals simp_wf
    all_goals first
      | omega
      | (rw [Nat.add_mul]; omega)

/-- the bin of a sample -/
def binV (bins M v : Int) : Int := v * bins / (M + 1)
theorem binV_in {bins M v : Int} (hb : 1 ≤ bins) (hM : 1 ≤ M) (h0 : 0 ≤ v) (h1 : v ≤ M) : 0 ≤ binV bins M v ∧ binV bins M v < bins := by
  unfold binV
  constructor
  · exact Int.ediv_nonneg (Int.mul_nonneg h0 (by omega)) (by omega)
  · refine Int.ediv_lt_of_lt_mul (by omega) ?_
    have : v * bins ≤ M * bins := Int.mul_le_mul_of_nonneg_right h1 (by omega)
    rw [Int.mul_add, Int.mul_one, Int.mul_comm bins M]
    omega
def cntL (bins M : Int) (l : List Int) (k : Int) : Int := ((l.filter fun v => binV bins M v == k).length : Int)
theorem cntL_app (bins M : Int) (l : List Int) (v k : Int) : cntL bins M (l ++ [v]) k = cntL bins M l k + if binV bins M v = k then 1 else 0 := by
  unfold cntL
  rw [List.filter_append, List.length_append]
  by_cases h : binV bins M v = k
  · simp [h]
  · simp [h]
end Go.Proofs.Ytnpkkcbgfnnfmaa
