/-
  Walks: slices.Compare of rows of texts, path.Compare.
-/
import Derived.Test.YtidmjepfpjfkoaaDoorPaY
namespace Go.Proofs.YtidmjepfpjfkoaaDoor
open Go Go.RowKit
set_option maxHeartbeats 2000000
set_option maxRecDepth 20000
set_option linter.unusedVariables false
set_option linter.unusedSimpArgs false

theorem cmpL_step (xs ys : List (List UInt8)) (i : Nat) (hx : i < xs.length) (hy : i < ys.length) :
    Pm.cmpL (xs.drop i) (ys.drop i) = if Pm.cmpB xs[i] ys[i] = 0 then Pm.cmpL (xs.drop (i + 1)) (ys.drop (i + 1)) else Pm.cmpB xs[i] ys[i] := by
  rw [List.drop_eq_getElem_cons hx, List.drop_eq_getElem_cons hy, Pm.cmpL]
  unfold Pm.cmpB
  by_cases h1 : xs[i] < ys[i]
  · simp [h1]
  · by_cases h2 : ys[i] < xs[i]
    · simp [h1, h2]
    · simp [h1, h2]
theorem cmpB_three (a b : List UInt8) : Pm.cmpB a b = -1 ∨ Pm.cmpB a b = 0 ∨ Pm.cmpB a b = 1 := by
  unfold Pm.cmpB
  split
  · exact .inl rfl
  · split
    · exact .inr (.inr rfl)
    · exact .inr (.inl rfl)

theorem slicesCompare (xs ys : List (List UInt8)) (hxl : xs.length ≤ 1000000) (hyl : ys.length ≤ 1000000) (A A' : Option Addr) (c c' : Nat) (w : World)
    (hrx : RdS (.slice A xs.length c) xs.length (pv xs) w.heap.size w) (hry : RdS (.slice A' ys.length c') ys.length (pv ys) w.heap.size w) :
    Calls Tryd.prog 80 #[.slice A xs.length c, .slice A' ys.length c'] w fun e w' => e = .returned (.int .i64 (Pm.cmpL xs ys)) ∧ w' = w := by
  obtain ⟨r, hr⟩ : ∃ r, r = Pm.cmpL xs ys := ⟨_, rfl⟩
  rw [← hr]
  obtain ⟨n, hn⟩ : ∃ n, n = xs.length := ⟨_, rfl⟩
  obtain ⟨m, hm⟩ : ∃ m, m = ys.length := ⟨_, rfl⟩
  rw [← hn] at hrx hxl ⊢
  rw [← hm] at hry hyl ⊢
  have Hhrx := Lib.hid hrx
  have Hhry := Lib.hid hry
  have Hhn := Lib.hid hn
  have Hhm := Lib.hid hm
  have Hhr := Lib.hid hr
  clear hrx hry hn hm hr
  go_enter Tryd.func80, Tryd.ntmps80
  go_wp2_with fail
  go_loopw [11] (fun iv wr => ∃ i : Nat, i ≤ n ∧ i ≤ m ∧ iv = .int .i64 (i : Int) ∧ Hid (r = Pm.cmpL (xs.drop i) (ys.drop i)) ∧ wr = w) (fun iv _ => n - (intOf iv).toNat)
  case atStart => exact ⟨0, by omega, by omega, rfl, by show r = _; rw [Hhr.out]; rfl, rfl⟩
  case round =>
    obtain ⟨i, hi, him, rfl, HB, rfl⟩ := hrel
    have hbi : (0 : Int) ≤ i := by omega
    by_cases hin : i < n
    · obtain ⟨b, off, hA, hcn, hbb, hcell⟩ := Hhrx.out.at_ hin
      have hil : i < xs.length := by rw [← Hhn.out]; exact hin
      have hx := hcell i _ (pv_get xs i hil)
      have hbn : (i : Int) < n := by omega
      subst hA
      by_cases hjm : i < m
      · obtain ⟨b2, off2, hA2, hcn2, hbb2, hcell2⟩ := Hhry.out.at_ hjm
        have hjl : i < ys.length := by rw [← Hhm.out]; exact hjm
        have hy := hcell2 i _ (pv_get ys i hjl)
        have hbm : ¬ (i : Int) ≥ m := by omega
        have hbm2 : (i : Int) < m := by omega
        subst hA2
        have hs := cmpL_step xs ys i hil hjl
        have hc := cmpText xs[i] ys[i] wr
        have h3 := cmpB_three xs[i] ys[i]
        obtain ⟨q, hq⟩ : ∃ q, q = Pm.cmpB xs[i] ys[i] := ⟨_, rfl⟩
        rw [← hq] at hc hs h3
        generalize (⟨xs[i].toArray⟩ : ByteArray) = x at *
        generalize (⟨ys[i].toArray⟩ : ByteArray) = y at *
        have Hhs := Lib.hid hs
        have Hhc := Lib.hid hc
        clear hs hc
        clear hcell hcell2 hq hil hjl
        go_wp2_with fail
        refine Hhc.out.mono ?_
        rintro e w2 ⟨rfl, rfl⟩
        rcases h3 with h3 | h3 | h3
        · subst h3
          have HR : Hid (r = -1) := by show r = -1; rw [HB.out, Hhs.out]; rfl
          go_wp2_with fail
          go_ret
          exact ⟨by rw [HR.out]; rfl, rfl⟩
        · subst h3
          have HB2 : Hid (r = Pm.cmpL (xs.drop (i + 1)) (ys.drop (i + 1))) := by show r = _; rw [HB.out, Hhs.out]; rfl
          go_wp2_with fail
          go_roundw
          case rel => exact ⟨i + 1, by omega, by omega, by go_num, HB2, by simp⟩
          case measure => simp [intOf]; omega
        · subst h3
          have HR : Hid (r = 1) := by show r = 1; rw [HB.out, Hhs.out]; rfl
          go_wp2_with fail
          go_ret
          exact ⟨by rw [HR.out]; rfl, rfl⟩
      · have hbm : (i : Int) ≥ m := by omega
        have HR : Hid (r = 1) := by
          show r = 1
          rw [HB.out, List.drop_eq_getElem_cons hil, List.drop_of_length_le (show ys.length ≤ i by rw [← Hhm.out]; omega), Pm.cmpL]
        generalize (⟨xs[i].toArray⟩ : ByteArray) = x at hx
        clear hcell hil
        go_wp2_with fail
        go_ret
        exact ⟨by rw [HR.out]; rfl, rfl⟩
    · obtain rfl : i = n := by omega
      have hbn : ¬ (i : Int) < i := by omega
      have hd : xs.drop i = [] := List.drop_of_length_le (by rw [← Hhn.out]; omega)
      have hr2 := HB.out
      rw [hd] at hr2
      by_cases hlm : (i : Int) < m
      · have HR : Hid (r = -1) := by
          show r = -1
          rw [hr2, List.drop_eq_getElem_cons (show i < ys.length by rw [← Hhm.out]; omega), Pm.cmpL]
        clear hr2 hd
        go_wp2_with fail
        go_ret
        exact ⟨by rw [HR.out]; rfl, rfl⟩
      · have HR : Hid (r = 0) := by
          show r = 0
          rw [hr2, List.drop_of_length_le (show ys.length ≤ i by rw [← Hhm.out]; omega), Pm.cmpL]
        clear hr2 hd
        go_wp2_with fail
        go_ret
        exact ⟨by rw [HR.out]; rfl, rfl⟩

theorem pathCompareW (s t : ByteArray) (hs : s.size ≤ 100000) (ht : t.size ≤ 100000) (w : World) (hG : Gl w) :
    Calls Tryd.prog 40 #[.string s, .string t] w fun e w' => e = .returned (.int .i64 (Pm.compare s.data.toList t.data.toList)) ∧ w' = (w.alloc (.cells (pv (Pm.cut s.data.toList)).toArray 9)).alloc (.cells (pv (Pm.cut t.data.toList)).toArray 9) := by
  have h1 := pathCut s (by omega) w hG
  obtain ⟨X, hX⟩ : ∃ X, X = Pm.cut s.data.toList := ⟨_, rfl⟩
  obtain ⟨Y, hY⟩ : ∃ Y, Y = Pm.cut t.data.toList := ⟨_, rfl⟩
  have hXl : X.length ≤ 1000000 := by have := cut_le s.data.toList; rw [← hX] at this; have h : s.data.toList.length = s.size := rfl; omega
  have hYl : Y.length ≤ 1000000 := by have := cut_le t.data.toList; rw [← hY] at this; have h : t.data.toList.length = t.size := rfl; omega
  have hc : Pm.compare s.data.toList t.data.toList = Pm.cmpL X Y := by rw [hX, hY]; rfl
  rw [hc, ← hX, ← hY]
  rw [← hX] at h1
  have hb1 : Below w.heap.size w (w.alloc (.cells (pv X).toArray 9)) := (Below.refl _ w).alloc (Nat.le_refl _) _
  have hr1 := cells_rd (c := X.length) (heap_alloc_new w (.cells (pv X).toArray 9)) (by rw [pv_length]; exact Nat.le_refl _)
  rw [pv_length] at hr1
  generalize hw1 : w.alloc (.cells (pv X).toArray 9) = w1 at *
  have h2 := pathCut t (by omega) w1 (hG.below hb1 hG.lt)
  rw [← hY] at h2
  have hb2 : Below w1.heap.size w1 (w1.alloc (.cells (pv Y).toArray 9)) := (Below.refl _ w1).alloc (Nat.le_refl _) _
  have hr2 := cells_rd (c := Y.length) (heap_alloc_new w1 (.cells (pv Y).toArray 9)) (by rw [pv_length]; exact Nat.le_refl _)
  rw [pv_length] at hr2
  have hr3 := (hr1.below hb2).mono hb2.size
  have hb3 := hb1.trans (hb2.mono hb1.size)
  generalize hw2 : w1.alloc (.cells (pv Y).toArray 9) = w2 at *
  have h3 := slicesCompare X Y hXl hYl _ _ _ _ w2 hr3 hr2
  generalize X.length = n at *
  generalize Y.length = m at *
  generalize Pm.cmpL X Y = r at *
  generalize w.heap.size = p1 at *
  generalize w1.heap.size = p2 at *
  clear hX hY hw1 hw2 hr1 hr2 hr3 hb1 hb2 hXl hYl hc hG
  have Hh1 := Lib.hid h1
  have Hh2 := Lib.hid h2
  have Hh3 := Lib.hid h3
  clear h1 h2 h3
  go_enter Tryd.func40, Tryd.ntmps40
  go_wp2_with fail
  refine Hh1.out.mono ?_
  rintro e w' ⟨rfl, rfl⟩
  go_wp2_with fail
  refine Hh2.out.mono ?_
  rintro e w' ⟨rfl, rfl⟩
  go_wp2_with fail
  refine Hh3.out.mono ?_
  rintro e w' ⟨rfl, rfl⟩
  go_wp2_with fail
  go_ret
  exact ⟨rfl, rfl⟩
theorem pathCompare (s t : ByteArray) (hs : s.size ≤ 100000) (ht : t.size ≤ 100000) (w : World) (hG : Gl w) :
    Calls Tryd.prog 40 #[.string s, .string t] w fun e w' => e = .returned (.int .i64 (Pm.compare s.data.toList t.data.toList)) ∧ Below w.heap.size w w' :=
  (pathCompareW s t hs ht w hG).mono fun e w' ⟨h1, h2⟩ => ⟨h1, by rw [h2]; exact ((Below.refl _ w).alloc (Nat.le_refl _) _).alloc (by rw [size_alloc]; omega) _⟩
end Go.Proofs.YtidmjepfpjfkoaaDoor
