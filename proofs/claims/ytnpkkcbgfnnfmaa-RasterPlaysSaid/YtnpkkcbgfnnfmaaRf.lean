import Derived.Test.YtnpkkcbgfnnfmaaRe
import Derived.Laws.CopyOwn
/- raster.Of. -/
namespace Go.Proofs.Ytnpkkcbgfnnfmaa
open Go.RowKit
set_option linter.unusedVariables false
set_option linter.unusedSimpArgs false
set_option maxRecDepth 100000

/-- Of: what is told. -/
def ofR (w h c m : Int) (l : List Int) : Int :=
  if codeR w h c m ≠ 0 then codeR w h c m else if (l.length : Int) ≠ w * h * c then 2 else if m < maxl l then 4 else 0

theorem of_copy {w w1 : World} {g r n cap cc : Nat} {x : Addr} {W H C M : Int} {xs : List Int} {cur : Array Value} (hr : w.heap.size ≤ r) (hn : n = xs.length)
    (hR : Rd w1 .u16 (.slice (some x) n cc) xs) (hB : Below w.heap.size w w1)
    (k1 : w1.heap[g]? = some (.cells #[.int .i64 W, .int .i64 H, .int .i64 C, .int .i64 M, .slice (some ⟨r, 0, none⟩) n cap] 111 (0, 0)))
    (k2 : w1.heap[r]? = some (.cells cur 31 (0, 0))) (k3 : n ≤ cap) (k4 : cap ≤ maxLen) (k5 : cur.size = cap) :
    ∃ w2, Hid (ImgR w2 g r W H C M xs ∧ Below w.heap.size w w2) ∧ (Builtin.copy_ #[29, 29] 3 #[.slice (some ⟨r, 0, none⟩) n cap, .slice (some x) n cc]).run Try.prog w1 = .ok (goInt n) w2 := by
  subst hn
  have hsz : (Try.prog.info? 31).map (·.size) = some 1 := by kernel_rfl
  have hrun := run_copy_row (P := Try.prog) w1 29 29 3 31 r 0 xs.length cap x xs.length cc cur 31 (xs.map (Value.int .u16)) Try.underlying29 hsz k2 (by simp) (hR.src rfl) (by simp; omega) ints_one
  rw [List.length_map, List.append_assoc] at hrun
  refine ⟨_, Lib.hid ⟨?_, ?_⟩, hrun⟩
  · have := Img.laid (ti := 111) (te := 31) k1 k2 (by decide) k3 k4 k5
    rw [List.length_map] at this
    exact this
  · exact below_setRow hB hr _

theorem of_bad (W H C M : Int) (v : Value) (xs : List Int) (w : World) (hr : Rd w .u16 v xs) (hw : ∀ x ∈ xs, 0 ≤ x ∧ x ≤ 65535) (he : ofR W H C M xs ≠ 0) :
    Calls Try.prog 45 #[.int .i64 W, .int .i64 H, .int .i64 C, .int .i64 M, v] w fun e w' => e = .returned (.tuple #[.pointer none, .int .i64 (ofR W H C M xs)]) ∧ Below w.heap.size w w' := by
  obtain ⟨xo, cc, rfl, h1, h2, hx⟩ := hr.form
  by_cases hc0 : codeR W H C M = 0
  · have hcz := codeR_zero hc0
    obtain ⟨n, hn⟩ : ∃ n, n = xs.length := ⟨_, rfl⟩
    have hl := hr.cases.1
    unfold maxLen at hl
    by_cases hlen : (xs.length : Int) = W * H * C
    · have hR : ofR W H C M xs = 4 ∧ M < maxl xs := by
        unfold ofR at he ⊢
        rw [if_neg (by simpa using hc0), if_neg (by simpa using hlen)] at he ⊢
        by_cases h : M < maxl xs
        · rw [if_pos h]; exact ⟨rfl, h⟩
        · rw [if_neg h] at he; exact absurd rfl he
      have hne : xs ≠ [] := by rintro rfl; simp at hlen; omega
      have mx1 : maxl xs ≤ 65535 := (maxl_le hne _).2 fun x hx => (hw x hx).2
      have mx0 : 0 ≤ maxl xs := maxl_ge (fun x hx => (hw x hx).1) hne
      have hmx := hR.2
      rw [hR.1]
      have hrep : (W * H * C).toNat = n := by omega
      have HN0 := Lib.hid (new_ok W H C M w hc0)
      rw [hrep] at HN0
      have hl2 : n ≤ 268435456 := by omega
      have HR := Lib.hid hr
      clear hr he hc0 hlen hcz hrep hx hw hR
      rw [← hn] at h2 hl ⊢
      rw [← hn] at HR
      have HNE := Lib.hid hne
      clear hne hn
      go_enter Try.func45, Try.ntmps45
      go_wp2_with (first
        | (go_at_call 24; refine HN0.out.mono ?_; rintro e w1 ⟨g, r, rfl, hg, hr, hi, hB⟩; obtain ⟨cap, cur, k1, k2, k3, k4, k5, k6⟩ := hi; rw [List.length_replicate] at k1 k3; obtain ⟨c0, c1, c2, c3, c4⟩ := Img.cell k1; have HB := Lib.hid hB; clear k1 k2 k3 k4 k5 k6 hB)
        | (go_at_call 77; refine (max_any _ _ _ (HR.out.below HB.out) HNE.out).mono ?_; rintro e w2 ⟨rfl, rfl⟩))
      go_ret2
      exact ⟨rfl, HB.out⟩
    · have hR : ofR W H C M xs = 2 := by
        unfold ofR
        rw [if_neg (by simpa using hc0), if_pos hlen]
      rw [hR]
      obtain ⟨m, hm⟩ : ∃ m : Nat, (W * H * C).toNat = m := ⟨_, rfl⟩
      have HN0 := Lib.hid (new_ok W H C M w hc0)
      rw [hm] at HN0
      have hne : ((n : Int) != (m : Int)) = true := by rw [bne_iff_ne]; omega
      clear hr he hc0 hlen hcz hx hw hR hm
      rw [← hn] at h2 hl ⊢
      clear hn
      go_enter Try.func45, Try.ntmps45
      go_wp2_with (first
        | (go_at_call 24; refine HN0.out.mono ?_; rintro e w1 ⟨g, r, rfl, hg, hr, hi, hB⟩; obtain ⟨cap, cur, k1, k2, k3, k4, k5, k6⟩ := hi; rw [List.length_replicate] at k1 k3; obtain ⟨c0, c1, c2, c3, c4⟩ := Img.cell k1; have HB := Lib.hid hB; clear k1 k2 k3 k4 k5 k6 hB))
      go_ret2
      exact ⟨rfl, HB.out⟩
  · have hR : ofR W H C M xs = codeR W H C M := by
      unfold ofR
      rw [if_pos hc0]
    rw [hR]
    have hne : (codeR W H C M != 0) = true := by rw [bne_iff_ne]; exact hc0
    have HN0 := Lib.hid (new_bad W H C M w hc0)
    obtain ⟨q, hq⟩ : ∃ q, codeR W H C M = q := ⟨_, rfl⟩
    rw [hq] at hne HN0 ⊢
    clear hr he hc0 hx hw hR hq
    go_enter Try.func45, Try.ntmps45
    go_wp2_with (first
      | (go_at_call 24; refine HN0.out.mono ?_; rintro e w1 ⟨rfl, rfl⟩))
    go_ret2
    exact ⟨rfl, Below.refl _ _⟩

theorem of_ok (W H C M : Int) (v : Value) (xs : List Int) (w : World) (hr : Rd w .u16 v xs) (hw : ∀ x ∈ xs, 0 ≤ x ∧ x ≤ 65535) (he : ofR W H C M xs = 0) :
    Calls Try.prog 45 #[.int .i64 W, .int .i64 H, .int .i64 C, .int .i64 M, v] w fun e w' => ∃ g r : Nat, e = .returned (.tuple #[.pointer (some ⟨g, 0, none⟩), .int .i64 0]) ∧
      w.heap.size ≤ g ∧ w.heap.size ≤ r ∧ ImgR w' g r W H C M xs ∧ Below w.heap.size w w' := by
  obtain ⟨xo, cc, rfl, h1, h2, hx⟩ := hr.form
  have hc0 : codeR W H C M = 0 := by
    unfold ofR at he
    by_cases h : codeR W H C M = 0
    · exact h
    · rw [if_pos h] at he; exact absurd he h
  have hlen : (xs.length : Int) = W * H * C := by
    unfold ofR at he
    rw [if_neg (by simpa using hc0)] at he
    by_cases h : (xs.length : Int) = W * H * C
    · exact h
    · rw [if_pos h] at he; omega
  have hmx : maxl xs ≤ M := by
    unfold ofR at he
    rw [if_neg (by simpa using hc0), if_neg (by simpa using hlen)] at he
    by_cases h : M < maxl xs
    · rw [if_pos h] at he; omega
    · omega
  have hcz := codeR_zero hc0
  have hne : xs ≠ [] := by rintro rfl; simp at hlen; omega
  obtain ⟨x, rfl⟩ : ∃ x, xo = some x := by
    cases xo with
    | none => exact absurd (hx rfl).1 hne
    | some x => exact ⟨x, rfl⟩
  have hl2 : xs.length ≤ 268435456 := by omega
  obtain ⟨n, hn⟩ : ∃ n, n = xs.length := ⟨_, rfl⟩
  have hrep : (W * H * C).toNat = n := by omega
  have HN0 := Lib.hid (new_ok W H C M w hc0)
  rw [hrep] at HN0
  have HR := Lib.hid hr
  clear hr he hc0 hlen hcz hrep hx
  rw [← hn] at h2 hl2 ⊢
  rw [← hn] at HR
  have HL := Lib.hid hn
  have HNE := Lib.hid hne
  have mx0 : 0 ≤ maxl xs := maxl_ge (fun x hx => (hw x hx).1) hne
  have mx1 : maxl xs ≤ 65535 := (maxl_le hne _).2 fun x hx => (hw x hx).2
  clear hne hn hw
  have hsz : (Try.prog.info? 31).map (·.size) = some 1 := by kernel_rfl
  go_enter Try.func45, Try.ntmps45
  go_wp2_with (first
    | (go_at_call 24; refine HN0.out.mono ?_; rintro e w1 ⟨g, r, rfl, hg, hr, hi, hB⟩; obtain ⟨cap, cur, k1, k2, k3, k4, k5, k6⟩ := hi; rw [List.length_replicate] at k1 k3; obtain ⟨c0, c1, c2, c3, c4⟩ := Img.cell k1; obtain ⟨w2, hw2, hcopy⟩ : ∃ w2, Hid (ImgR w2 g r W H C M xs ∧ Below w.heap.size w w2) ∧ (Builtin.copy_ #[29, 29] 3 #[.slice (some ⟨r, 0, none⟩) n cap, .slice (some x) n cc]).run Try.prog w1 = .ok (goInt n) w2 := of_copy hr HL.out (HR.out.below hB) hB k1 k2 k3 k4 k5; have HB := Lib.hid hB; clear k1 k2 k3 k4 k5 k6 hB)
    | (go_at_call 77; refine (max_any _ _ _ (HR.out.below HB.out) HNE.out).mono ?_; rintro e w2 ⟨rfl, rfl⟩))
  go_ret2
  exact ⟨g, r, rfl, hg, hr, hw2.out.1, hw2.out.2⟩
end Go.Proofs.Ytnpkkcbgfnnfmaa
