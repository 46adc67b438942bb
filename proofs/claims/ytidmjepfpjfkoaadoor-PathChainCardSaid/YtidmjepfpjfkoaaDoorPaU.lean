/-
  Walks: path.Right, Parts.
-/
import Derived.Test.YtidmjepfpjfkoaaDoorPaT
namespace Go.Proofs.YtidmjepfpjfkoaaDoor
open Go Go.RowKit
set_option maxHeartbeats 2000000
set_option maxRecDepth 20000
set_option linter.unusedVariables false
set_option linter.unusedSimpArgs false

theorem long_says (x : List UInt8) (w : World) : Calls Tryd.prog 79 #[.string ⟨x.toArray⟩] w fun e w' => e = .returned (.bool (decide (24 < x.length))) ∧ w' = w := by
  obtain ⟨s, hs⟩ : ∃ s : ByteArray, s = ⟨x.toArray⟩ := ⟨_, rfl⟩
  have hd : s.size = x.length := by rw [hs]; show x.toArray.size = _; simp
  rw [← hs, ← hd]
  have hq : decide ((24 : Int) < (s.size : Int)) = decide (24 < s.size) := by apply decide_eq_decide.2; omega
  rw [← hq]
  clear hs hd hq
  go_enter Tryd.func79, Tryd.ntmps79
  go_wp2_with fail
  go_ret
  exact ⟨rfl, rfl⟩
theorem pd_wrong : Pd 77 (fun x => !Pm.part x) :=
  ⟨enters_of Tryd.func77 (by kernel_rfl) rfl, fun x w _ _ => (wrong_says x w).mono fun e w' ⟨h1, h2⟩ => ⟨h1, by rw [h2]; exact Below.refl _ _⟩⟩
theorem pd_long : Pd 79 (fun x => decide (24 < x.length)) :=
  ⟨enters_of Tryd.func79 (by kernel_rfl) rfl, fun x w _ _ => (long_says x w).mono fun e w' ⟨h1, h2⟩ => ⟨h1, by rw [h2]; exact Below.refl _ _⟩⟩
theorem cut_le (l : List UInt8) : (Pm.cut l).length ≤ l.length + 1 := by rw [Pm.cut_length]; have := List.count_le_length (a := (47 : UInt8)) (l := l); omega
theorem part_le : ∀ (l : List UInt8), ∀ x ∈ Pm.cut l, x.length ≤ l.length
  | [], x, h => by simp [Pm.cut] at h; subst h; simp
  | c :: l, x, h => by
    by_cases hc : c = 47
    · subst hc
      rw [Pm.cut_slash] at h
      rcases List.mem_cons.1 h with rfl | h
      · simp
      · have := part_le l x h; simp; omega
    · obtain ⟨y, r, hy⟩ : ∃ y r, Pm.cut l = y :: r := by
        cases h' : Pm.cut l with
        | nil => exact absurd h' (Pm.cut_ne l)
        | cons x r => exact ⟨x, r, rfl⟩
      rw [Pm.cut_other hc l hy] at h
      rcases List.mem_cons.1 h with rfl | h
      · have := part_le l y (by rw [hy]; simp); simp; omega
      · have := part_le l x (by rw [hy]; simp [h]); simp; omega
theorem not_all (ps : List (List UInt8)) : ps.all Pm.part = !(ps.any fun x => !Pm.part x) := by
  rw [List.not_any_eq_all_not]; simp

theorem pathRight (s : ByteArray) (hs : s.size ≤ 100000) (w : World) (hG : Gl w) :
    Calls Tryd.prog 39 #[.string s] w fun e w' => e = .returned (.int .i64 (Pm.right s.data.toList : Nat)) ∧ Below w.heap.size w w' := by
  have hl : s.data.toList.length = s.size := rfl
  have hcut := pathCut s (by omega) w hG
  obtain ⟨ps, hps⟩ : ∃ ps, ps = Pm.cut s.data.toList := ⟨_, rfl⟩
  have hlen := cut_le s.data.toList
  have hpl : ∀ x ∈ ps, x.length ≤ 100000 := fun x hx => by have := part_le s.data.toList x (by rw [← hps]; exact hx); omega
  have hGl := hG.lt
  have hB : Below w.heap.size w (w.alloc (.cells (pv ps).toArray 9)) := (Below.refl _ w).alloc (Nat.le_refl _) _
  have hG2 := hG.below hB hGl
  have hpvl : (pv ps).length = ps.length := by simp [pv]
  have hrd := cells_rd (c := ps.length) (heap_alloc_new w (.cells (pv ps).toArray 9)) (by rw [hpvl]; exact Nat.le_refl _)
  rw [hpvl] at hrd
  rw [← hps] at hcut hlen
  have c1 := containsFunc _ _ pd_wrong ps hpl (by omega) _ _ _ hG2 hrd
  have hc1 := not_all ps
  obtain ⟨r, hr⟩ : ∃ r, r = Pm.right s.data.toList := ⟨_, rfl⟩
  have hr2 := hr
  unfold Pm.right at hr2
  rw [← hps, hl, hc1] at hr2
  rw [← hr]
  obtain ⟨b1, hb1⟩ : ∃ b, b = ps.any (fun x => !Pm.part x) := ⟨_, rfl⟩
  obtain ⟨b2, hb2⟩ : ∃ b, b = ps.any (fun x => decide (24 < x.length)) := ⟨_, rfl⟩
  rw [← hb1] at c1 hr2
  rw [← hb2] at hr2
  have c2 := fun w3 (h3 : Below (w.alloc (.cells (pv ps).toArray 9)).heap.size (w.alloc (.cells (pv ps).toArray 9)) w3) => containsFunc _ _ pd_long ps hpl (by omega) _ _ w3 (hG2.below h3 hG2.lt) ((hrd.below h3).mono h3.size)
  rw [← hb2] at c2
  obtain ⟨n, hn⟩ : ∃ n, n = ps.length := ⟨_, rfl⟩
  rw [← hn] at hcut c1 c2 hr2
  generalize w.alloc (.cells (pv ps).toArray 9) = w1 at *
  have hwb := hB.size
  have Hhcut := Lib.hid hcut
  have Hc1 := Lib.hid c1
  have Hc2 := Lib.hid c2
  have Hhr2 := Lib.hid hr2
  have Hhr := Lib.hid hr
  have Hhb1 := Lib.hid hb1
  have Hhb2 := Lib.hid hb2
  have Hhn := Lib.hid hn
  have Hhps := Lib.hid hps
  clear hcut c1 c2 hr2 hr hb1 hb2 hn hps
  clear hrd hpl hpvl hG hG2 hl hlen hc1
  go_enter Tryd.func39, Tryd.ntmps39
  go_wp2_with fail
  refine Hhcut.out.mono ?_
  rintro e w2 ⟨rfl, rfl⟩
  go_wp2_with fail
  refine Hc1.out.mono ?_
  rintro e w3 ⟨rfl, hb3⟩
  have c3 := Hc2.out w3 hb3
  have hB3 := hB.trans (hb3.mono hwb)
  cases b1 with
  | true =>
    have HR : Hid (r = 2) := by show r = 2; rw [Hhr2.out, if_neg (by simp)]
    clear c3
    go_wp2_with fail
    go_ret
    exact ⟨by rw [HR.out]; rfl, hB3⟩
  | false =>
    have hr3 : r = if 64 < s.size ∨ 6 < n ∨ b2 = true then 4 else 0 := by rw [Hhr2.out, if_pos (by simp)]
    by_cases h64 : (64 : Int) < (s.size : Int)
    · have HR : Hid (r = 4) := by show r = 4; rw [hr3, if_pos (.inl (by omega))]
      clear c3 hr3
      go_wp2_with fail
      go_ret
      exact ⟨by rw [HR.out]; rfl, hB3⟩
    · by_cases h6 : (6 : Int) < (n : Int)
      · have HR : Hid (r = 4) := by show r = 4; rw [hr3, if_pos (.inr (.inl (by omega)))]
        clear c3 hr3
        go_wp2_with fail
        go_ret
        exact ⟨by rw [HR.out]; rfl, hB3⟩
      · have hr4 : r = if b2 = true then 4 else 0 := by
          rw [hr3]
          cases b2
          · rw [if_neg (by rintro (h | h | h); omega; omega; cases h), if_neg (by simp)]
          · rw [if_pos (.inr (.inr rfl)), if_pos rfl]
        have HC3 := Lib.hid c3
        have Hhr4 := Lib.hid hr4
        clear hr4
        clear c3 hr3
        go_wp2_with fail
        refine HC3.out.mono ?_
        rintro e w4 ⟨rfl, hb4⟩
        have hB4 := hB3.trans (hb4.mono hB3.size)
        cases b2 with
        | true =>
          have HR : Hid (r = 4) := Hhr4.out
          go_wp2_with fail
          go_ret
          exact ⟨by rw [HR.out]; rfl, hB4⟩
        | false =>
          have HR : Hid (r = 0) := Hhr4.out
          go_wp2_with fail
          go_ret
          exact ⟨by rw [HR.out]; rfl, hB4⟩
end Go.Proofs.YtidmjepfpjfkoaaDoor
