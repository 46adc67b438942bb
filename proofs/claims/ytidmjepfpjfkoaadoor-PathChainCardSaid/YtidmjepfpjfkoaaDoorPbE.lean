/-
  The reference's Same, at rows that are the same.
-/
import Derived.Test.YtidmjepfpjfkoaaDoorPaZ
import Derived.Test.YtidmjepfpjfkoaaDoorAb
namespace Go.Proofs.YtidmjepfpjfkoaaDoor
open Go Go.RowKit
set_option maxHeartbeats 2000000
set_option maxRecDepth 20000
set_option linter.unusedVariables false
set_option linter.unusedSimpArgs false

theorem same3 (A A' : Option Addr) (n c c' : Nat) (hn : n ≤ 1000000) (ps : List (List UInt8)) (w : World) (h1 : RdS (.slice A n c) n (pv ps) w.heap.size w) (h2 : RdS (.slice A' n c') n (pv ps) w.heap.size w) :
    Calls Tryd.prog 51 #[.slice A n c, .slice A' n c'] w fun e w' => e = .returned (.bool true) ∧ Below w.heap.size w w' := by
  have Hh1 := Lib.hid h1
  have Hh2 := Lib.hid h2
  clear h1 h2
  go_enter Tryd.func51, Tryd.ntmps51
  go_wp2_with fail
  go_loopw [5] (fun iv wr => ∃ i : Nat, i ≤ n ∧ iv = .int .i64 (i : Int) ∧ Hid (Kn w.heap.size w [] wr)) (fun iv _ => n - (intOf iv).toNat)
  case atStart => exact ⟨0, by omega, rfl, Kn.start w⟩
  case round =>
    obtain ⟨i, hi, rfl, K⟩ := hrel
    by_cases hin : i < n
    · obtain ⟨b, off, hA, hc, hb, hcell⟩ := Hh1.out.at_ hin
      obtain ⟨b', off', hA', hc', hb', hcell'⟩ := Hh2.out.at_ hin
      subst hA
      subst hA'
      have hil : i < (pv ps).length := by rw [Hh1.out.1]; exact hin
      obtain ⟨x, hx⟩ : ∃ x : ByteArray, (pv ps)[i]? = some (.string x) := by
        unfold pv at hil ⊢
        rw [List.getElem?_map, List.getElem?_eq_getElem (by simpa using hil)]
        exact ⟨_, rfl⟩
      have hx1 := hcell i _ hx
      have hx2 := hcell' i _ hx
      have hr1 : ∀ wS, Kn w.heap.size w [] wS → wS.cell? ⟨b, off + i, none⟩ = some (.string x) := fun wS hS => (Below.cell hS.below (p := ⟨b, off + i, none⟩) hb).trans hx1
      have hr2 : ∀ wS, Kn w.heap.size w [] wS → wS.cell? ⟨b', off' + i, none⟩ = some (.string x) := fun wS hS => (Below.cell hS.below (p := ⟨b', off' + i, none⟩) hb').trans hx2
      have hbi : (0 : Int) ≤ i := by omega
      have hbn : (i : Int) < n := by omega
      have Hhr1 := Lib.hid hr1
      have Hhr2 := Lib.hid hr2
      have Hhx := Lib.hid hx
      clear hr1 hr2 hx
      clear hx1 hx2 hcell hcell' hil
      go_wp2_with fail
      refine wp_region_abs w.heap.size w [] ((true, 0) :: (true, 1) :: (true, 2) :: (true, 3) :: (true, 4) :: (true, 5) :: (true, 6) :: (true, 7) :: (true, 8) :: []) (by kernel_rfl) (by kernel_rfl) K.out.drew ?_
      (apply ab_pure
       · (simp only [List.getElem?_toArray, List.getElem?_cons_succ, List.getElem?_cons_zero]; rfl)
       · rfl
       · (intro wS hS; go_simp; try exact rfl)
       simp only [Act.put, List.setIfInBounds_toArray, List.set_cons_zero, List.set_cons_succ])
      (apply ab_pure
       · (simp only [List.getElem?_toArray, List.getElem?_cons_succ, List.getElem?_cons_zero]; rfl)
       · rfl
       · (intro wS hS; go_simp; try exact rfl)
       simp only [Act.put, List.setIfInBounds_toArray, List.set_cons_zero, List.set_cons_succ])
      (apply ab_pure
       · (simp only [List.getElem?_toArray, List.getElem?_cons_succ, List.getElem?_cons_zero]; rfl)
       · rfl
       · (intro wS hS; go_simp; try exact rfl)
       simp only [Act.put, List.setIfInBounds_toArray, List.set_cons_zero, List.set_cons_succ])
      (apply ab_pure
       · (simp only [List.getElem?_toArray, List.getElem?_cons_succ, List.getElem?_cons_zero]; rfl)
       · rfl
       · (intro wS hS; have hc := Hhr1.out wS hS; go_simp; try exact rfl)
       simp only [Act.put, List.setIfInBounds_toArray, List.set_cons_zero, List.set_cons_succ])
      (apply ab_pure
       · (simp only [List.getElem?_toArray, List.getElem?_cons_succ, List.getElem?_cons_zero]; rfl)
       · rfl
       · (intro wS hS; go_simp; try exact rfl)
       simp only [Act.put, List.setIfInBounds_toArray, List.set_cons_zero, List.set_cons_succ])
      (apply ab_pure
       · (simp only [List.getElem?_toArray, List.getElem?_cons_succ, List.getElem?_cons_zero]; rfl)
       · rfl
       · (intro wS hS; go_simp; try exact rfl)
       simp only [Act.put, List.setIfInBounds_toArray, List.set_cons_zero, List.set_cons_succ])
      (apply ab_pure
       · (simp only [List.getElem?_toArray, List.getElem?_cons_succ, List.getElem?_cons_zero]; rfl)
       · rfl
       · (intro wS hS; go_simp; try exact rfl)
       simp only [Act.put, List.setIfInBounds_toArray, List.set_cons_zero, List.set_cons_succ])
      (apply ab_pure
       · (simp only [List.getElem?_toArray, List.getElem?_cons_succ, List.getElem?_cons_zero]; rfl)
       · rfl
       · (intro wS hS; have hc := Hhr2.out wS hS; go_simp; try exact rfl)
       simp only [Act.put, List.setIfInBounds_toArray, List.set_cons_zero, List.set_cons_succ])
      (apply ab_pure
       · (simp only [List.getElem?_toArray, List.getElem?_cons_succ, List.getElem?_cons_zero]; rfl)
       · rfl
       · (intro wS hS; go_simp; try exact rfl)
       simp only [Act.put, List.setIfInBounds_toArray, List.set_cons_zero, List.set_cons_succ])
      refine ab_end ?_
      intro wE hE
      have K2 := Lib.hid hE
      clear hE K
      go_wp2_with fail
      go_roundw
      case rel => exact ⟨i + 1, by omega, by go_num, K2⟩
      case measure => simp [intOf]; omega
    · obtain rfl : i = n := by omega
      have hbn : ¬ (i : Int) < i := by omega
      go_wp2_with fail
      go_ret
      exact ⟨rfl, K.out.below⟩
end Go.Proofs.YtidmjepfpjfkoaaDoor
