/-
  Walks: path.Parts.
-/
import Derived.Test.YtidmjepfpjfkoaaDoorPaU
namespace Go.Proofs.YtidmjepfpjfkoaaDoor
open Go Go.RowKit
set_option maxHeartbeats 2000000
set_option maxRecDepth 20000
set_option linter.unusedVariables false
set_option linter.unusedSimpArgs false

theorem pv_length (ps : List (List UInt8)) : (pv ps).length = ps.length := by simp [pv]
theorem pathParts (s : ByteArray) (hs : s.size ≤ 100000) (w : World) (hG : Gl w) :
    Calls Tryd.prog 52 #[.string s] w fun e w' => RetS (pv (Pm.parts s.data.toList)) w e w' := by
  have h1 := pathRight s hs w hG
  have h2 := fun w2 (h : Below w.heap.size w w2) => pathCut s (by omega) w2 (hG.below h hG.lt)
  obtain ⟨r, hr⟩ : ∃ r, r = Pm.right s.data.toList := ⟨_, rfl⟩
  have hp : Pm.parts s.data.toList = if r = 0 then Pm.cut s.data.toList else [] := by unfold Pm.parts; rw [← hr]
  obtain ⟨P, hP⟩ : ∃ P, P = Pm.parts s.data.toList := ⟨_, rfl⟩
  obtain ⟨C, hC⟩ : ∃ C, C = Pm.cut s.data.toList := ⟨_, rfl⟩
  rw [← hr] at h1
  rw [← hP, ← hC] at hp
  rw [← hC] at h2
  rw [← hP]
  clear hr hP hC hG
  have Hh1 := Lib.hid h1
  have Hh2 := Lib.hid h2
  have Hhp := Lib.hid hp
  clear h1 h2 hp
  go_enter Tryd.func52, Tryd.ntmps52
  go_wp2_with fail
  refine Hh1.out.mono ?_
  rintro e w2 ⟨rfl, hb⟩
  by_cases hr : r = 0
  · have hp2 : P = C := by rw [Hhp.out, if_pos hr]
    subst hp2
    subst hr
    have H2 := Lib.hid (Hh2.out w2 hb)
    go_wp2_with fail
    refine H2.out.mono ?_
    rintro e w3 ⟨rfl, rfl⟩
    go_wp2_with fail
    go_ret
    refine ⟨.slice (some ⟨w2.heap.size, 0, none⟩) P.length P.length, P.length, rfl, ?_, hb.alloc hb.size _⟩
    have := cells_rd (c := P.length) (heap_alloc_new w2 (.cells (pv P).toArray 9)) (by rw [pv_length]; exact Nat.le_refl _)
    rw [pv_length] at this
    exact this
  · have hp2 : P = [] := by rw [Hhp.out, if_neg hr]
    subst hp2
    have hne : (((r : Nat) : Int) == 0) = false := by rw [beq_eq_false_iff_ne]; omega
    clear Hh2
    go_wp2_with fail
    go_ret
    exact ⟨.slice none 0 0, 0, rfl, ⟨rfl, .inl ⟨rfl, rfl⟩⟩, hb⟩
end Go.Proofs.YtidmjepfpjfkoaaDoor
