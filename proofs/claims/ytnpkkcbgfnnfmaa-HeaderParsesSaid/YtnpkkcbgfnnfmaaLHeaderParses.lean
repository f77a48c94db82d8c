import Derived.Test.YtnpkkcbgfnnfmaaHg
/- The law HeaderParses: its walk. -/
namespace Go.Proofs.Ytnpkkcbgfnnfmaa
open Go.RowKit
set_option linter.unusedVariables false
set_option linter.unusedSimpArgs false
set_option maxRecDepth 100000

theorem infoU8 : (Try.prog.info? 5).map (fun i => (i.zero, i.size, i.bytes)) = some (some (.int .u8 0), 1, 1) := by kernel_rfl

theorem conv_str {x : Option Addr} {n c : Nat} {xs : List Int} {w : World} (h : Rd w .u8 (.slice x n c) xs) : (convert 47 9 (.slice x n c)).run Try.prog w = .ok (.string (strOfNums xs)) w := by
  obtain ⟨hl, h'⟩ := h.cases
  rcases h' with ⟨he, rfl⟩ | ⟨a, c', he, h1, h2, hc⟩
  · injection he with e1 e2 e3
    subst e1 e2 e3
    exact run_convert_bytes_nil w _ _ Try.underlying47 Try.underlying5 0 0 _ Try.underlying9
  · injection he with e1 e2 e3
    subst e1 e2 e3
    have hld : (loadCells a xs.length).run Try.prog w = .ok (xs.map (Value.int .u8)).toArray w := by
      have := run_loadCells_list (P := Try.prog) w a (xs.map (Value.int .u8)) (fun j v hj => by
        rw [List.getElem?_map] at hj
        obtain ⟨y, hy, rfl⟩ := Option.map_eq_some_iff.1 hj
        obtain ⟨hlt, _⟩ := List.getElem?_eq_some_iff.1 hy
        rw [hc j hlt, List.getD_eq_getElem?_getD, hy]
        rfl)
      simpa using this
    rw [run_convert_bytes_string w _ _ _ _ _ _ Try.underlying47 Try.underlying5 Try.underlying9, run_bytesToString w _ _ _ xs hld, foldl_push_bytes]
    simp [strOfNums, ByteArray.empty, ByteArray.emptyWithCapacity]
    rfl

theorem box5o {w w' : World} {a b c d e : Value} {t : TypeId} (hB : Below (w.alloc (.cells #[a, b, c, d, e] t)).heap.size (w.alloc (.cells #[a, b, c, d, e] t)) w') :
    ∀ o, (w'.alloc o).cell? ⟨w.heap.size, 0, none⟩ = some a ∧ (w'.alloc o).cell? ⟨w.heap.size, 1, none⟩ = some b ∧ (w'.alloc o).cell? ⟨w.heap.size, 2, none⟩ = some c ∧ (w'.alloc o).cell? ⟨w.heap.size, 3, none⟩ = some d ∧ (w'.alloc o).cell? ⟨w.heap.size, 4, none⟩ = some e := by
  intro o
  have hlt : w.heap.size < w'.heap.size := by have := hB.size; simp at this; omega
  have hr : (w'.alloc o).heap[w.heap.size]? = some (.cells #[a, b, c, d, e] t (0, 0)) := ((heap_alloc_old w' o hlt).trans (hB.block _ (by simp))).trans (heap_alloc_new w _)
  exact ⟨cell_of_row _ _ 0 _ _ _ hr, cell_of_row _ _ 1 _ _ _ hr, cell_of_row _ _ 2 _ _ _ hr, cell_of_row _ _ 3 _ _ _ hr, cell_of_row _ _ 4 _ _ _ hr⟩

set_option maxHeartbeats 1000000 in
theorem headerParses_walk (v0 : Value) (xs0 : List Int) (w : World) (rd : Rd w .u8 v0 xs0) (wf : ∀ x ∈ xs0, (Lit.int .u8 x).wf = true) (sz : xs0.length * 1 ≤ 140737488351232) :
    Calls Try.prog 11 #[v0] w fun e w' => e = .returned (.bool true) ∧ Below w.heap.size w w' := by
  obtain ⟨i, hi, hz0, hz1, hz2⟩ := info_parts infoU8
  have HW : Hid (∀ x ∈ xs0, 0 ≤ x ∧ x ≤ 255) := Lib.hid fun x hx => of_wf_u8 (wf x hx)
  have HR := Lib.hid rd
  obtain ⟨xo, cc, rfl, h1, h2, hx⟩ := rd.form
  unfold maxLen at h1
  obtain ⟨n, hn⟩ : ∃ n, xs0.length = n := ⟨_, rfl⟩
  rw [hn] at h2 HR sz ⊢
  have HN := Lib.hid hn
  clear rd wf hn hx
  by_cases h5 : 400 < n
  · go_enter Try.func11, Try.ntmps11
    go_wp2_with (first
      | (go_at_call 51; refine (lives10_any _).mono ?_; rintro e wl ⟨rfl, hBl⟩; have HBl := Lib.hid hBl; clear hBl))
    go_ret
    rename_i wx hbx _
    exact ⟨rfl, hbx.out.trans (HBl.out.mono hbx.out.size)⟩
  · have h5' : n ≤ 400 := by omega
    clear h5
    obtain ⟨E, H, hP⟩ : ∃ E H, parseL xs0 = (E, H) := ⟨_, _, rfl⟩
    have HPA := Lib.hid fun v w' h => parse_any v xs0 w' h (by rw [HN.out]; omega)
    have HPB := Lib.hid fun w' => refParse_any xs0 HW.out (by rw [HN.out]; omega) w'
    rw [hP] at HPA HPB
    clear hP
    go_enter Try.func11, Try.ntmps11
    go_wp2_with (first
      | (go_at_call 51; refine (lives10_any _).mono ?_; rintro e wl ⟨rfl, hBl⟩; have HBl := Lib.hid hBl; clear hBl)
      | (at_builtin; refine wpList_append_rd _ rfl _ _ 47 rfl wl.heap.size 5 i .u8 1 Try.underlying47 hi hz0 hz1 hz2 _ [] rfl (Own.empty wl 5 .u8 _ (Nat.le_refl _)) _ xs0 rfl (HR.out.below (HBl.out.mono (Nat.le_refl _) |>.trans ((Below.refl _ _).alloc HBl.out.size _))) (by rw [HN.out]; unfold maxLen; simp; omega) (by rw [HN.out]; simp; omega) (by simp) ?_; intro v' wa hown hgrow; rw [List.nil_append] at hown; have HBA : Hid (Below w.heap.size w wa) := Lib.hid ((HBl.out.trans ((Below.refl _ _).alloc HBl.out.size _)).grown hgrow (by have := HBl.out.size; simp; omega) (by intro k hk; cases hk; exact HBl.out.size)); obtain ⟨xa, ca, rfl, hf⟩ := hown.form; rw [HN.out] at hown ⊢; have HO := Lib.hid hown; clear hown hgrow hf)
      | (go_at_call 52; refine (HPA.out _ _ HO.out.rd).mono ?_; rintro e wp ⟨rfl, hB⟩; have HBP := Lib.hid (HBA.out.trans (hB.mono HBA.out.size)); have HOP := Lib.hid (HO.out.below hB); have hc1 := fun o => conv_str ((HR.out.below HBP.out).below ((Below.refl wp.heap.size wp).alloc (Nat.le_refl _) o)); clear hB)
      | (go_at_call 53; refine (HPB.out _).mono ?_; rintro e wr ⟨rfl, hB⟩; have HBR := Lib.hid ((HBP.out.alloc HBP.out.size _).trans (hB.mono (Nat.le_trans HBP.out.size (by simp)))); have HOR := Lib.hid ((HOP.out.below ((Below.refl _ _).alloc (Nat.le_refl _) _)).below hB); have hc2 := fun o => conv_str ((HR.out.below HBR.out).below ((Below.refl wr.heap.size wr).alloc (Nat.le_refl _) o)); have k0 := fun o => (box5o hB o).1; have k1 := fun o => (box5o hB o).2.1; have k2 := fun o => (box5o hB o).2.2.1; have k3 := fun o => (box5o hB o).2.2.2.1; have k4 := fun o => (box5o hB o).2.2.2.2; have hc3 := fun o => conv_str (HOR.out.rd.below ((Below.refl wr.heap.size wr).alloc (Nat.le_refl _) o)); clear hB))
    go_ret
    exact ⟨ret_bool (by simp), HBR.out.alloc HBR.out.size _⟩
end Go.Proofs.Ytnpkkcbgfnnfmaa
