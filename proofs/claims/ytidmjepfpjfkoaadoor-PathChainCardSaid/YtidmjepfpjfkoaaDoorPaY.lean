/-
  Walks: path.Within, Sort$1, cmp.Compare of texts.
-/
import Derived.Test.YtidmjepfpjfkoaaDoorPaX
import Derived.Sort.Walk0
namespace Go.Proofs.YtidmjepfpjfkoaaDoor
open Go Go.RowKit
set_option maxHeartbeats 2000000
set_option maxRecDepth 20000
set_option linter.unusedVariables false
set_option linter.unusedSimpArgs false

theorem pathWithin (p d : ByteArray) (hd : d.size ≤ 1000000) (w : World) :
    Calls Tryd.prog 41 #[.string p, .string d] w fun e w' => e = .returned (.bool (Pm.within p.data.toList d.data.toList)) ∧ w' = w := by
  have h := Tryd.strings_HasPrefix p (d ++ slashB) w
  have he : Lib.hasPrefix p.data.toList (d ++ slashB).data.toList = Pm.within p.data.toList d.data.toList := by
    unfold Pm.within Lib.hasPrefix
    rw [ByteArray.data_append, Array.toList_append]
    rfl
  rw [he] at h
  clear he
  have Hh := Lib.hid h
  clear h
  go_enter Tryd.func41, Tryd.ntmps41
  have hd2 : (d.size : Int) ≤ 1000000 := by omega
  go_wp2_with fail
  refine Hh.out.mono ?_
  rintro e w' ⟨rfl, rfl⟩
  go_wp2_with fail
  go_ret
  exact ⟨rfl, rfl⟩
theorem pathWrong (s : ByteArray) (hs : s.size ≤ 100000) (w : World) (hG : Gl w) :
    Calls Tryd.prog 89 #[.string s] w fun e w' => e = .returned (.bool (Pm.right s.data.toList != 0)) ∧ Below w.heap.size w w' := by
  have h := pathRight s hs w hG
  have hrr := right_three s.data.toList
  obtain ⟨r, hr⟩ : ∃ r, r = Pm.right s.data.toList := ⟨_, rfl⟩
  rw [← hr] at h hrr ⊢
  clear hr hG
  have Hh := Lib.hid h
  clear h
  go_enter Tryd.func89, Tryd.ntmps89
  go_wp2_with fail
  refine Hh.out.mono ?_
  rintro e w' ⟨rfl, hb⟩
  go_wp2_with fail
  go_ret
  refine ⟨?_, hb⟩
  rcases hrr with rfl | rfl | rfl <;> rfl
theorem isNaN (s : ByteArray) (w : World) :
    Calls Tryd.prog 136 #[.string s] w fun e w' => e = .returned (.bool false) ∧ w' = w := by
  go_enter Tryd.func136, Tryd.ntmps136
  go_wp2_with fail
  go_ret
  refine ⟨?_, rfl⟩
  simp
theorem cmpText (a b : List UInt8) (w : World) :
    Calls Tryd.prog 105 #[.string ⟨a.toArray⟩, .string ⟨b.toArray⟩] w fun e w' => e = .returned (.int .i64 (Pm.cmpB a b)) ∧ w' = w := by
  obtain ⟨x, hx⟩ : ∃ x : ByteArray, x = ⟨a.toArray⟩ := ⟨_, rfl⟩
  obtain ⟨y, hy⟩ : ∃ y : ByteArray, y = ⟨b.toArray⟩ := ⟨_, rfl⟩
  have h1 := isNaN x w
  have h2 := isNaN y w
  have hl : Op.bytesLess x.toList y.toList = decide (a < b) := by
    rw [hx, hy, ByteArray.toList_eq, ByteArray.toList_eq]; exact Go.Proofs.bytesLess_eq _ _
  have he : (x.toList == y.toList) = decide (a = b) := by
    rw [hx, hy, ByteArray.toList_eq, ByteArray.toList_eq]; exact Bool.eq_iff_iff.2 (by simp)
  obtain ⟨r, hr⟩ : ∃ r, r = Pm.cmpB a b := ⟨_, rfl⟩
  have hr2 := hr
  unfold Pm.cmpB at hr2
  rw [← hx, ← hy, ← hr]
  clear hr
  have Hh1 := Lib.hid h1
  have Hh2 := Lib.hid h2
  have Hhx := Lib.hid hx
  have Hhy := Lib.hid hy
  clear h1 h2 hx hy
  go_enter Tryd.func105, Tryd.ntmps105
  go_wp2_with fail
  refine Hh1.out.mono ?_
  rintro e w' ⟨rfl, rfl⟩
  go_wp2_with fail
  refine Hh2.out.mono ?_
  rintro e w' ⟨rfl, rfl⟩
  by_cases ha : a < b
  · have HR : Hid (r = -1) := by show r = -1; rw [hr2, if_pos ha]
    rw [decide_eq_true ha] at hl
    clear he hr2 ha
    go_wp2_with fail
    go_ret
    exact ⟨by rw [HR.out]; rfl, rfl⟩
  · rw [decide_eq_false ha] at hl
    by_cases hb : b < a
    · have HR : Hid (r = 1) := by show r = 1; rw [hr2, if_neg ha, if_pos hb]
      have hne : ¬ a = b := fun h => Pm.lt_irr a (by rw [← h] at hb; exact hb)
      rw [decide_eq_false hne] at he
      clear hr2 ha hb hne
      go_wp2_with fail
      go_ret
      exact ⟨by rw [HR.out]; rfl, rfl⟩
    · have HR : Hid (r = 0) := by show r = 0; rw [hr2, if_neg ha, if_neg hb]
      have heq : a = b := Pm.lt_tri ha hb
      rw [decide_eq_true heq] at he
      clear hr2 ha hb heq
      go_wp2_with fail
      go_ret
      exact ⟨by rw [HR.out]; rfl, rfl⟩
end Go.Proofs.YtidmjepfpjfkoaaDoor
