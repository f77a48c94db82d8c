import Derived.Test.YtnpkkcbgfnnfmaaEMath
import Derived.Test.YtnpkkcbgfnnfmaaDb
import Derived.Test.YtnpkkcbgfnnfmaaBase2
/- diff.channel. -/
namespace Go.Proofs.Ytnpkkcbgfnnfmaa
open Go.RowKit
set_option linter.unusedVariables false
set_option linter.unusedSimpArgs false
set_option maxRecDepth 100000

theorem Own.blk {w : World} {base : Nat} {t : TypeId} {k : IntKind} {v : Value} {xs : List Int} (h : Own w base t k v xs) : ∀ q, v.ownBlock = some q → base ≤ q ∧ q < w.heap.size := by
  obtain ⟨_, h⟩ := h
  rcases h with ⟨rfl, _⟩ | ⟨g, cap, cur, rfl, h1, h2, _⟩
  · intro q hq; cases hq
  · intro q hq
    cases hq
    exact ⟨h1, (Array.getElem?_eq_some_iff.1 h2).1⟩

section
variable {w : World} {g b : Nat} {W H C M : Int} {xs : List Int}
theorem rd_newE (w : World) (t : TypeId) (k : IntKind) (xs : List Int) (cs : Array Value) (hc : cs.toList = xs.map (Value.int k)) (n : Nat) (hn : n = xs.length) (hl : n ≤ maxLen) (fr : Nat × Nat) :
    Rd (w.alloc (.cells cs t fr)) k (.slice (some ⟨w.heap.size, 0, none⟩) n n) xs := by
  subst hn
  refine ⟨by simpa using hl, .inr ⟨⟨w.heap.size, 0, none⟩, xs.length, by simp, by simp, hl, fun j u hu => ?_⟩⟩
  rw [Addr.add_lit, Nat.zero_add, cell_of_row _ _ _ _ _ _ (heap_alloc_new w _)]
  rw [← hc, Array.getElem?_toList] at hu
  exact hu

theorem channel_out (h : ImgR w g b W H C M xs) (c : Int) (hc : c < 0 ∨ C ≤ c) :
    Calls Try.prog 89 #[.pointer (some ⟨g, 0, none⟩), .int .i64 c] w fun e w' => e = .returned (.slice none 0 0) ∧ w = w' := by
  have HC := Lib.hid (channels_any h)
  by_cases c0 : c < 0
  · go_enter Try.func89, Try.ntmps89
    go_wp2_with fail
    go_ret
    exact ⟨rfl, rfl⟩
  · have c1 : C ≤ c := by omega
    clear hc
    go_enter Try.func89, Try.ntmps89
    go_wp2_with (go_at_call 28; refine HC.out.mono ?_; rintro e w2 ⟨rfl, rfl⟩)
    go_ret
    exact ⟨rfl, rfl⟩

set_option maxHeartbeats 2000000 in
theorem channel_in (h : ImgR w g b W H C M xs) (c : Int) (c0 : 0 ≤ c) (c1 : c < C) (hC : C = 1 ∨ C = 3) (hn : xs.length ≤ 268435456) :
    Calls Try.prog 89 #[.pointer (some ⟨g, 0, none⟩), .int .i64 c] w fun e w' => ∃ (x : Option Addr) (cap : Nat), e = .returned (.slice x (chTo C c xs xs.length).length cap) ∧
      Own w' w.heap.size 31 .u16 (.slice x (chTo C c xs xs.length).length cap) (chTo C c xs xs.length) ∧ Below w.heap.size w w' := by
  have HI := Lib.hid h
  obtain ⟨n, hnn⟩ : ∃ n, xs.length = n := ⟨_, rfl⟩
  rw [hnn] at hn ⊢
  have HN := Lib.hid hnn
  have hlg := h.lt_g
  have hlb := h.lt_b
  obtain ⟨i, hi, hz0, hz1, hz2⟩ := info_parts infoU16
  clear h hnn
  go_enter Try.func89, Try.ntmps89
  go_wp2_with (first
    | (go_at_call 28; refine (channels_any HI.out).mono ?_; rintro e w2 ⟨rfl, rfl⟩)
    | (go_at_call 25; refine (samples_any HI.out (by rw [HN.out]; omega)).mono ?_; rw [HN.out]; rintro e ws ⟨xa, ca, rfl, hos, hbs⟩))
  have HBS := Lib.hid hbs
  have HSM := Lib.hid hos.rd
  have HSB := Lib.hid (fun q hq => (hos.blk q hq).2 : ∀ q, (Value.slice xa n ca).ownBlock = some q → q < ws.heap.size)
  clear hbs hos
  go_loopw [5, 19] (fun o i wr => ∃ (k : Nat) (xo : Option Addr) (co len : Nat), k ≤ n ∧ i = .int .i64 k ∧ o = .slice xo len co ∧ len = (chTo C c xs k).length ∧ len ≤ k ∧ Own wr w.heap.size 31 .u16 (.slice xo len co) (chTo C c xs k) ∧ Below w.heap.size w wr ∧ Rd wr .u16 (.slice xa n ca) xs ∧
    (∀ q, (Value.slice xa n ca).ownBlock = some q → q < wr.heap.size ∧ (Value.slice xo len co).ownBlock ≠ some q)) (fun _ i _ => n - (intOf i).toNat)
  case atStart => exact ⟨0, none, 0, 0, by omega, rfl, rfl, rfl, by omega, World.ownsRow_nil _ _ _ _, HBS.out, HSM.out, fun q hq => ⟨HSB.out q hq, by simp [Value.ownBlock]⟩⟩
  case round =>
    obtain ⟨k, xo, co, len, hk, rfl, rfl, hlen, hlk, hown, hB, hrd, hblk⟩ := hrel
    have HOK := Lib.hid hown
    have HBK := Lib.hid hB
    have HRK := Lib.hid hrd
    have HQK := Lib.hid hblk
    have HLEN := Lib.hid hlen
    have HIK := Lib.hid (HI.out.below hB)
    clear hown hB hrd hblk hlen
    by_cases hlt : k < n
    · have hkx : k < xs.length := by have := HN.out; omega
      obtain ⟨x, rfl⟩ := HRK.out.some_ (by omega)
      obtain ⟨u, HU, cu⟩ := HRK.out.get rfl hkx
      by_cases hkc : (k : Int) % C = c
      · have HTK : Hid (chTo C c xs (k + 1) = chTo C c xs k ++ [u]) := Lib.hid (by rw [chTo, if_pos hkc, HU.out])
        have HAL : ∀ o, Hid (Below wr.heap.size wr (wr.alloc o)) := fun o => Lib.hid ((Below.refl wr.heap.size wr).alloc (Nat.le_refl _) o)
        have hwr : w.heap.size ≤ wr.heap.size := HBK.out.size
        obtain ⟨T, hT⟩ : ∃ T, chTo C c xs k = T := ⟨_, rfl⟩
        rw [hT] at HTK HOK HLEN
        clear hT
        go_wp2_with (first
          | (go_at_call 28; refine (channels_any HIK.out).mono ?_; rintro e w2 ⟨rfl, rfl⟩)
          | (at_builtin; refine wpList_append_rd_at _ rfl _ _ 29 rfl w.heap.size 31 i .u16 2 Try.underlying29 hi hz0 hz1 hz2 _ T rfl (HOK.out.below (HAL _).out) _ [u] rfl (rd_newE _ _ _ [u] _ rfl 1 rfl (by unfold maxLen; omega) _) (by rw [← HLEN.out]; unfold maxLen; simp only [List.length_cons, List.length_nil]; omega) (by rw [← HLEN.out]; simp only [List.length_cons, List.length_nil]; omega) (Nat.le_trans hwr (HAL _).out.size) ?_; intro v1 w1 ho1 hg1 hk1; obtain ⟨y1, c1', rfl, hy1⟩ := ho1.form; have hl1 : (T ++ [u]).length = len + 1 := (by rw [List.length_append, ← HLEN.out]; rfl); rw [hl1] at ho1 hk1 ⊢; have HL1 := Lib.hid hl1; have HO1 := Lib.hid ho1; have HG1 := Lib.hid hg1; have HK1 := Lib.hid hk1; clear ho1 hg1 hk1 hl1 hy1))
        have hsz := (HAL (.cells #[.int .u16 u] 31)).out.size
        have hs1 := HG1.out.size
        have hbb : Below w.heap.size w w1 := (HBK.out.alloc HBK.out.size _).grown HG1.out (by omega) (fun q hq => (HOK.out.blk q hq).1)
        have hr1 : Rd w1 .u16 (.slice (some x) n ca) xs := (HRK.out.below (HAL _).out).grown HG1.out (.inr (fun he => (HQK.out _ rfl).2 he.symm))
        refine ⟨⟨k + 1, y1, c1', len + 1, by omega, by go_num, rfl, by rw [HTK.out, HL1.out], by omega, by rw [HTK.out]; exact HO1.out, hbb, hr1, fun q hq => ⟨by have := (HQK.out q hq).1; omega, ?_⟩⟩, by simp [intOf]; omega⟩
        rcases HK1.out with hk1 | hk1
        · rw [hk1]; exact (HQK.out q hq).2
        · rw [hk1]; intro he; have he2 := Option.some.inj he; have := (HQK.out q hq).1; omega
      · have HTK : Hid (chTo C c xs (k + 1) = chTo C c xs k) := Lib.hid (by rw [chTo, if_neg hkc, List.append_nil])
        go_wp2_with (go_at_call 28; refine (channels_any HIK.out).mono ?_; rintro e w2 ⟨rfl, rfl⟩)
        exact ⟨⟨k + 1, xo, co, len, by omega, by go_num, rfl, by rw [HTK.out]; exact HLEN.out, by omega, by rw [HTK.out]; exact HOK.out, HBK.out, HRK.out, HQK.out⟩, by simp [intOf]; omega⟩
    · go_wp2_with fail
      go_ret
      have hkn : k = n := by omega
      subst hkn
      have hl := HLEN.out
      subst hl
      exact ⟨xo, co, rfl, HOK.out, HBK.out⟩
end
end Go.Proofs.Ytnpkkcbgfnnfmaa
