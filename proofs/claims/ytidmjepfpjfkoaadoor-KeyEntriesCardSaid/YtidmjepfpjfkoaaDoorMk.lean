/-
  shoalsyncref04's digit, written, Escape, as the kit's print writes them.
  The reference's Escape: what is printed of it comes to the plain laws.
  Walk: shoalsyncref04.Unescape.
  Walks: key.made, key.Of, key.Marker, key.Parse; shoalsyncref04.Made, Parse.
  Walks: key.Parse.
  Walks: shoalsyncref04.Parse.
-/
import Derived.Test.YtidmjepfpjfkoaaDoorPPathTellsx3
import Derived.Test.YtidmjepfpjfkoaaDoorMj
import Derived.Test.YtidmjepfpjfkoaaDoorMc
import Derived.Deep.DeepCutAuto
import Derived.Deep.CutBlock
import Derived.Test.YtidmjepfpjfkoaaDoorMd
namespace Go.Proofs.YtidmjepfpjfkoaaDoor.Ke4
open Go.RowKit Go.Proofs.YtidmjepfpjfkoaaDoorW.PrintWords Go.Proofs.YtidmjepfpjfkoaaDoorW.PrintLast Go.Proofs.YtidmjepfpjfkoaaDoorW.PrintMore
attribute [local go_sem] max2_int min2_int max_two min_two max_three min_three max_four min_four   -- for this text's walks alone
set_option linter.unusedVariables false
set_option linter.unusedSimpArgs false


/-! ### shoalsyncref04_digit: function 101 -/
def shoalsyncref04_digit.f (a0 : Int) : Option (Int) := if a0 < 10 then (some ((48 + a0) % 256)) else (some ((55 + a0) % 256))
set_option maxHeartbeats 8000000 in
set_option maxRecDepth 100000 in
theorem shoalsyncref04_digit.calls (a0 : Int) (r : Int) (w : World) (h : shoalsyncref04_digit.f a0 = some r) :
    Calls Tryd.prog 101 #[.int .u8 a0] w fun e w' => e = .returned (.int .u8 r) ∧ Drawn0 w w' := by
  have H : (if a0 < 10 then (some ((48 + a0) % 256)) else (some ((55 + a0) % 256))) = some r := h
  clear h
  by_cases c2 : a0 < 10
  · rw [if_pos c2] at H
    have c2b0 : decide (a0 < 10) = true := decide_eq_true c2
    clear c2
    obtain rfl := Option.some.inj H
    go_enter Tryd.func101, Tryd.ntmps101
    go_wp2
    go_ret
    exact ⟨by first | rfl | (simp; done) | (simp [*]; done), by repeat (first | exact Drawn0.refl _ | apply Drawn0.step)⟩
  · rw [if_neg c2] at H
    have c2b0 : decide (a0 < 10) = false := decide_eq_false c2
    clear c2
    obtain rfl := Option.some.inj H
    go_enter Tryd.func101, Tryd.ntmps101
    go_wp2
    go_ret
    exact ⟨by first | rfl | (simp; done) | (simp [*]; done), by repeat (first | exact Drawn0.refl _ | apply Drawn0.step)⟩

/-! ### shoalsyncref04_written: function 70 -/
def shoalsyncref04_written.j0 : Nat → Int → Bool → Option (ByteArray)
  | 0, _, _ => none
  | k + 1, x0, x3 => if x3 = true then (some (strOfNums (([x0] : List Int)))) else ((shoalsyncref04_digit.f ((Int.tdiv x0 16) % 256)).bind fun t135 => ((shoalsyncref04_digit.f (Int.tmod x0 16)).bind fun t136 => (some (strOfNums (([37, t135, t136] : List Int))))))
def shoalsyncref04_written.f (k : Nat) (a0 : Int) : Option (ByteArray) := if a0 ≥ 65 then (if a0 ≤ 90 then (shoalsyncref04_written.j0 k a0 true) else (if a0 ≥ 97 then (if a0 ≤ 122 then (shoalsyncref04_written.j0 k a0 true) else (if a0 ≥ 48 then (if a0 ≤ 57 then (shoalsyncref04_written.j0 k a0 true) else (if a0 = 45 then (shoalsyncref04_written.j0 k a0 true) else (if a0 = 95 then (shoalsyncref04_written.j0 k a0 true) else (if a0 = 46 then (shoalsyncref04_written.j0 k a0 true) else (if a0 = 126 then (shoalsyncref04_written.j0 k a0 true) else (shoalsyncref04_written.j0 k a0 (a0 == 47))))))) else (if a0 = 45 then (shoalsyncref04_written.j0 k a0 true) else (if a0 = 95 then (shoalsyncref04_written.j0 k a0 true) else (if a0 = 46 then (shoalsyncref04_written.j0 k a0 true) else (if a0 = 126 then (shoalsyncref04_written.j0 k a0 true) else (shoalsyncref04_written.j0 k a0 (a0 == 47)))))))) else (if a0 ≥ 48 then (if a0 ≤ 57 then (shoalsyncref04_written.j0 k a0 true) else (if a0 = 45 then (shoalsyncref04_written.j0 k a0 true) else (if a0 = 95 then (shoalsyncref04_written.j0 k a0 true) else (if a0 = 46 then (shoalsyncref04_written.j0 k a0 true) else (if a0 = 126 then (shoalsyncref04_written.j0 k a0 true) else (shoalsyncref04_written.j0 k a0 (a0 == 47))))))) else (if a0 = 45 then (shoalsyncref04_written.j0 k a0 true) else (if a0 = 95 then (shoalsyncref04_written.j0 k a0 true) else (if a0 = 46 then (shoalsyncref04_written.j0 k a0 true) else (if a0 = 126 then (shoalsyncref04_written.j0 k a0 true) else (shoalsyncref04_written.j0 k a0 (a0 == 47))))))))) else (if a0 ≥ 97 then (if a0 ≤ 122 then (shoalsyncref04_written.j0 k a0 true) else (if a0 ≥ 48 then (if a0 ≤ 57 then (shoalsyncref04_written.j0 k a0 true) else (if a0 = 45 then (shoalsyncref04_written.j0 k a0 true) else (if a0 = 95 then (shoalsyncref04_written.j0 k a0 true) else (if a0 = 46 then (shoalsyncref04_written.j0 k a0 true) else (if a0 = 126 then (shoalsyncref04_written.j0 k a0 true) else (shoalsyncref04_written.j0 k a0 (a0 == 47))))))) else (if a0 = 45 then (shoalsyncref04_written.j0 k a0 true) else (if a0 = 95 then (shoalsyncref04_written.j0 k a0 true) else (if a0 = 46 then (shoalsyncref04_written.j0 k a0 true) else (if a0 = 126 then (shoalsyncref04_written.j0 k a0 true) else (shoalsyncref04_written.j0 k a0 (a0 == 47)))))))) else (if a0 ≥ 48 then (if a0 ≤ 57 then (shoalsyncref04_written.j0 k a0 true) else (if a0 = 45 then (shoalsyncref04_written.j0 k a0 true) else (if a0 = 95 then (shoalsyncref04_written.j0 k a0 true) else (if a0 = 46 then (shoalsyncref04_written.j0 k a0 true) else (if a0 = 126 then (shoalsyncref04_written.j0 k a0 true) else (shoalsyncref04_written.j0 k a0 (a0 == 47))))))) else (if a0 = 45 then (shoalsyncref04_written.j0 k a0 true) else (if a0 = 95 then (shoalsyncref04_written.j0 k a0 true) else (if a0 = 46 then (shoalsyncref04_written.j0 k a0 true) else (if a0 = 126 then (shoalsyncref04_written.j0 k a0 true) else (shoalsyncref04_written.j0 k a0 (a0 == 47))))))))
theorem shoalsyncref04_written.mono_l : ∀ k, (∀ y0 y1, LeO (shoalsyncref04_written.j0 k y0 y1) (shoalsyncref04_written.j0 (k + 1) y0 y1))
  | 0 => fun _ _ r h => by simp [shoalsyncref04_written.j0] at h
  | k + 1 => by
    have ih0 := shoalsyncref04_written.mono_l k
    · intro y0 y1
      unfold shoalsyncref04_written.j0
      repeat' first
      | (with_reducible exact ih0 _ _)
      | (with_reducible exact LeO.refl _)
      | (with_reducible exact LeO.none _)
      | (with_reducible refine LeO.ite ?_ ?_)
      | (with_reducible refine LeO.bind ?_ (fun _ => ?_))
      | exact ih0 _ _
      | exact LeO.none _
      | refine LeO.ite ?_ ?_
      | refine LeO.bind ?_ (fun _ => ?_)
theorem shoalsyncref04_written.mono : ∀ a0 k, LeO (shoalsyncref04_written.f k a0) (shoalsyncref04_written.f (k + 1) a0) := by
  intro a0 k
  have ih0 := shoalsyncref04_written.mono_l k
  unfold shoalsyncref04_written.f
  repeat' first
      | (with_reducible exact ih0 _ _)
      | (with_reducible exact LeO.refl _)
      | (with_reducible exact LeO.none _)
      | (with_reducible refine LeO.ite ?_ ?_)
      | (with_reducible refine LeO.bind ?_ (fun _ => ?_))
      | exact ih0 _ _
      | exact LeO.none _
      | refine LeO.ite ?_ ?_
      | refine LeO.bind ?_ (fun _ => ?_)
set_option maxHeartbeats 8000000 in
set_option maxRecDepth 100000 in
theorem shoalsyncref04_written.calls (k : Nat) (a0 : Int) (r : ByteArray) (w : World) (h : shoalsyncref04_written.f k a0 = some r) :
    Calls Tryd.prog 70 #[.int .u8 a0] w fun e w' => e = .returned (.string r) ∧ Below w.heap.size w w' := by
  have HB := Aside0.mk (Below.refl w.heap.size w)
  have H : (if a0 ≥ 65 then (if a0 ≤ 90 then (shoalsyncref04_written.j0 k a0 true) else (if a0 ≥ 97 then (if a0 ≤ 122 then (shoalsyncref04_written.j0 k a0 true) else (if a0 ≥ 48 then (if a0 ≤ 57 then (shoalsyncref04_written.j0 k a0 true) else (if a0 = 45 then (shoalsyncref04_written.j0 k a0 true) else (if a0 = 95 then (shoalsyncref04_written.j0 k a0 true) else (if a0 = 46 then (shoalsyncref04_written.j0 k a0 true) else (if a0 = 126 then (shoalsyncref04_written.j0 k a0 true) else (shoalsyncref04_written.j0 k a0 (a0 == 47))))))) else (if a0 = 45 then (shoalsyncref04_written.j0 k a0 true) else (if a0 = 95 then (shoalsyncref04_written.j0 k a0 true) else (if a0 = 46 then (shoalsyncref04_written.j0 k a0 true) else (if a0 = 126 then (shoalsyncref04_written.j0 k a0 true) else (shoalsyncref04_written.j0 k a0 (a0 == 47)))))))) else (if a0 ≥ 48 then (if a0 ≤ 57 then (shoalsyncref04_written.j0 k a0 true) else (if a0 = 45 then (shoalsyncref04_written.j0 k a0 true) else (if a0 = 95 then (shoalsyncref04_written.j0 k a0 true) else (if a0 = 46 then (shoalsyncref04_written.j0 k a0 true) else (if a0 = 126 then (shoalsyncref04_written.j0 k a0 true) else (shoalsyncref04_written.j0 k a0 (a0 == 47))))))) else (if a0 = 45 then (shoalsyncref04_written.j0 k a0 true) else (if a0 = 95 then (shoalsyncref04_written.j0 k a0 true) else (if a0 = 46 then (shoalsyncref04_written.j0 k a0 true) else (if a0 = 126 then (shoalsyncref04_written.j0 k a0 true) else (shoalsyncref04_written.j0 k a0 (a0 == 47))))))))) else (if a0 ≥ 97 then (if a0 ≤ 122 then (shoalsyncref04_written.j0 k a0 true) else (if a0 ≥ 48 then (if a0 ≤ 57 then (shoalsyncref04_written.j0 k a0 true) else (if a0 = 45 then (shoalsyncref04_written.j0 k a0 true) else (if a0 = 95 then (shoalsyncref04_written.j0 k a0 true) else (if a0 = 46 then (shoalsyncref04_written.j0 k a0 true) else (if a0 = 126 then (shoalsyncref04_written.j0 k a0 true) else (shoalsyncref04_written.j0 k a0 (a0 == 47))))))) else (if a0 = 45 then (shoalsyncref04_written.j0 k a0 true) else (if a0 = 95 then (shoalsyncref04_written.j0 k a0 true) else (if a0 = 46 then (shoalsyncref04_written.j0 k a0 true) else (if a0 = 126 then (shoalsyncref04_written.j0 k a0 true) else (shoalsyncref04_written.j0 k a0 (a0 == 47)))))))) else (if a0 ≥ 48 then (if a0 ≤ 57 then (shoalsyncref04_written.j0 k a0 true) else (if a0 = 45 then (shoalsyncref04_written.j0 k a0 true) else (if a0 = 95 then (shoalsyncref04_written.j0 k a0 true) else (if a0 = 46 then (shoalsyncref04_written.j0 k a0 true) else (if a0 = 126 then (shoalsyncref04_written.j0 k a0 true) else (shoalsyncref04_written.j0 k a0 (a0 == 47))))))) else (if a0 = 45 then (shoalsyncref04_written.j0 k a0 true) else (if a0 = 95 then (shoalsyncref04_written.j0 k a0 true) else (if a0 = 46 then (shoalsyncref04_written.j0 k a0 true) else (if a0 = 126 then (shoalsyncref04_written.j0 k a0 true) else (shoalsyncref04_written.j0 k a0 (a0 == 47))))))))) = some r := h
  clear h
  have HC2 := Aside0.mk H
  clear H
  go_enter Tryd.func70, Tryd.ntmps70
  go_upto_region 1 with (fail)
  go_cut [3] (fun v3 wc => ∃ (kq : Nat) (x3_1 : Bool), v3 = .bool x3_1 ∧ Aside0 (shoalsyncref04_written.j0 kq a0 x3_1 = some r) ∧ Aside0 (kq ≤ k) ∧ Aside0 (Below w.heap.size w wc))
  case first =>
    have H := HC2.out
    clear HC2
    by_cases c3 : a0 ≥ 65
    · rw [if_pos c3] at H
      have c3b0 : decide (65 ≤ a0) = true := decide_eq_true c3
      clear c3
      (first | rw [c3b0] | (simp only [i64_w, i32_w]; rw [c3b0]) | skip)
      by_cases c4 : a0 ≤ 90
      · rw [if_pos c4] at H
        have c4b0 : decide (a0 ≤ 90) = true := decide_eq_true c4
        clear c4
        have H' := Aside0.mk H
        clear H
        go_wp2
        go_meet
        case rel => exact ⟨_, (true), (by first | rfl | (simp; done) | (simp [*]; done)), H', ⟨by first | omega | exact Nat.le_refl _⟩, ⟨by repeat (first | (with_reducible first | exact HB.out | apply below_alloc | apply pw_below_drewN | apply below_drew1) | exact HB.out)⟩⟩
      · rw [if_neg c4] at H
        have c4b0 : decide (a0 ≤ 90) = false := decide_eq_false c4
        clear c4
        by_cases c5 : a0 ≥ 97
        · rw [if_pos c5] at H
          have c5b0 : decide (97 ≤ a0) = true := decide_eq_true c5
          clear c5
          by_cases c6 : a0 ≤ 122
          · rw [if_pos c6] at H
            have c6b0 : decide (a0 ≤ 122) = true := decide_eq_true c6
            clear c6
            have H' := Aside0.mk H
            clear H
            go_wp2
            go_meet
            case rel => exact ⟨_, (true), (by first | rfl | (simp; done) | (simp [*]; done)), H', ⟨by first | omega | exact Nat.le_refl _⟩, ⟨by repeat (first | (with_reducible first | exact HB.out | apply below_alloc | apply pw_below_drewN | apply below_drew1) | exact HB.out)⟩⟩
          · rw [if_neg c6] at H
            have c6b0 : decide (a0 ≤ 122) = false := decide_eq_false c6
            clear c6
            by_cases c7 : a0 ≥ 48
            · rw [if_pos c7] at H
              have c7b0 : decide (48 ≤ a0) = true := decide_eq_true c7
              clear c7
              by_cases c8 : a0 ≤ 57
              · rw [if_pos c8] at H
                have c8b0 : decide (a0 ≤ 57) = true := decide_eq_true c8
                clear c8
                have H' := Aside0.mk H
                clear H
                go_wp2
                go_meet
                case rel => exact ⟨_, (true), (by first | rfl | (simp; done) | (simp [*]; done)), H', ⟨by first | omega | exact Nat.le_refl _⟩, ⟨by repeat (first | (with_reducible first | exact HB.out | apply below_alloc | apply pw_below_drewN | apply below_drew1) | exact HB.out)⟩⟩
              · rw [if_neg c8] at H
                have c8b0 : decide (a0 ≤ 57) = false := decide_eq_false c8
                clear c8
                by_cases c9 : a0 = 45
                · rw [if_pos c9] at H
                  have c9b0 : (a0 == 45) = true := beq_iff_eq.mpr c9
                  have c9b1 : (a0 != 45) = false := bne_eq_false_iff_eq.mpr c9
                  clear c9
                  have H' := Aside0.mk H
                  clear H
                  go_wp2
                  go_meet
                  case rel => exact ⟨_, (true), (by first | rfl | (simp; done) | (simp [*]; done)), H', ⟨by first | omega | exact Nat.le_refl _⟩, ⟨by repeat (first | (with_reducible first | exact HB.out | apply below_alloc | apply pw_below_drewN | apply below_drew1) | exact HB.out)⟩⟩
                · rw [if_neg c9] at H
                  have c9b0 : (a0 == 45) = false := beq_eq_false_iff_ne.mpr c9
                  have c9b1 : (a0 != 45) = true := bne_iff_ne.mpr c9
                  by_cases c10 : a0 = 95
                  · rw [if_pos c10] at H
                    have c10b0 : (a0 == 95) = true := beq_iff_eq.mpr c10
                    have c10b1 : (a0 != 95) = false := bne_eq_false_iff_eq.mpr c10
                    clear c10
                    have H' := Aside0.mk H
                    clear H
                    go_wp2
                    go_meet
                    case rel => exact ⟨_, (true), (by first | rfl | (simp; done) | (simp [*]; done)), H', ⟨by first | omega | exact Nat.le_refl _⟩, ⟨by repeat (first | (with_reducible first | exact HB.out | apply below_alloc | apply pw_below_drewN | apply below_drew1) | exact HB.out)⟩⟩
                  · rw [if_neg c10] at H
                    have c10b0 : (a0 == 95) = false := beq_eq_false_iff_ne.mpr c10
                    have c10b1 : (a0 != 95) = true := bne_iff_ne.mpr c10
                    by_cases c11 : a0 = 46
                    · rw [if_pos c11] at H
                      have c11b0 : (a0 == 46) = true := beq_iff_eq.mpr c11
                      have c11b1 : (a0 != 46) = false := bne_eq_false_iff_eq.mpr c11
                      clear c11
                      have H' := Aside0.mk H
                      clear H
                      go_wp2
                      go_meet
                      case rel => exact ⟨_, (true), (by first | rfl | (simp; done) | (simp [*]; done)), H', ⟨by first | omega | exact Nat.le_refl _⟩, ⟨by repeat (first | (with_reducible first | exact HB.out | apply below_alloc | apply pw_below_drewN | apply below_drew1) | exact HB.out)⟩⟩
                    · rw [if_neg c11] at H
                      have c11b0 : (a0 == 46) = false := beq_eq_false_iff_ne.mpr c11
                      have c11b1 : (a0 != 46) = true := bne_iff_ne.mpr c11
                      by_cases c12 : a0 = 126
                      · rw [if_pos c12] at H
                        have c12b0 : (a0 == 126) = true := beq_iff_eq.mpr c12
                        have c12b1 : (a0 != 126) = false := bne_eq_false_iff_eq.mpr c12
                        clear c12
                        have H' := Aside0.mk H
                        clear H
                        go_wp2
                        go_meet
                        case rel => exact ⟨_, (true), (by first | rfl | (simp; done) | (simp [*]; done)), H', ⟨by first | omega | exact Nat.le_refl _⟩, ⟨by repeat (first | (with_reducible first | exact HB.out | apply below_alloc | apply pw_below_drewN | apply below_drew1) | exact HB.out)⟩⟩
                      · rw [if_neg c12] at H
                        have c12b0 : (a0 == 126) = false := beq_eq_false_iff_ne.mpr c12
                        have c12b1 : (a0 != 126) = true := bne_iff_ne.mpr c12
                        have H' := Aside0.mk H
                        clear H
                        go_wp2
                        go_meet
                        case rel => exact ⟨_, ((a0 == 47)), (by first | rfl | (simp; done) | (simp [*]; done)), H', ⟨by first | omega | exact Nat.le_refl _⟩, ⟨by repeat (first | (with_reducible first | exact HB.out | apply below_alloc | apply pw_below_drewN | apply below_drew1) | exact HB.out)⟩⟩
            · rw [if_neg c7] at H
              have c7b0 : decide (48 ≤ a0) = false := decide_eq_false c7
              clear c7
              by_cases c13 : a0 = 45
              · rw [if_pos c13] at H
                have c13b0 : (a0 == 45) = true := beq_iff_eq.mpr c13
                have c13b1 : (a0 != 45) = false := bne_eq_false_iff_eq.mpr c13
                clear c13
                have H' := Aside0.mk H
                clear H
                go_wp2
                go_meet
                case rel => exact ⟨_, (true), (by first | rfl | (simp; done) | (simp [*]; done)), H', ⟨by first | omega | exact Nat.le_refl _⟩, ⟨by repeat (first | (with_reducible first | exact HB.out | apply below_alloc | apply pw_below_drewN | apply below_drew1) | exact HB.out)⟩⟩
              · rw [if_neg c13] at H
                have c13b0 : (a0 == 45) = false := beq_eq_false_iff_ne.mpr c13
                have c13b1 : (a0 != 45) = true := bne_iff_ne.mpr c13
                by_cases c14 : a0 = 95
                · rw [if_pos c14] at H
                  have c14b0 : (a0 == 95) = true := beq_iff_eq.mpr c14
                  have c14b1 : (a0 != 95) = false := bne_eq_false_iff_eq.mpr c14
                  clear c14
                  have H' := Aside0.mk H
                  clear H
                  go_wp2
                  go_meet
                  case rel => exact ⟨_, (true), (by first | rfl | (simp; done) | (simp [*]; done)), H', ⟨by first | omega | exact Nat.le_refl _⟩, ⟨by repeat (first | (with_reducible first | exact HB.out | apply below_alloc | apply pw_below_drewN | apply below_drew1) | exact HB.out)⟩⟩
                · rw [if_neg c14] at H
                  have c14b0 : (a0 == 95) = false := beq_eq_false_iff_ne.mpr c14
                  have c14b1 : (a0 != 95) = true := bne_iff_ne.mpr c14
                  by_cases c15 : a0 = 46
                  · rw [if_pos c15] at H
                    have c15b0 : (a0 == 46) = true := beq_iff_eq.mpr c15
                    have c15b1 : (a0 != 46) = false := bne_eq_false_iff_eq.mpr c15
                    clear c15
                    have H' := Aside0.mk H
                    clear H
                    go_wp2
                    go_meet
                    case rel => exact ⟨_, (true), (by first | rfl | (simp; done) | (simp [*]; done)), H', ⟨by first | omega | exact Nat.le_refl _⟩, ⟨by repeat (first | (with_reducible first | exact HB.out | apply below_alloc | apply pw_below_drewN | apply below_drew1) | exact HB.out)⟩⟩
                  · rw [if_neg c15] at H
                    have c15b0 : (a0 == 46) = false := beq_eq_false_iff_ne.mpr c15
                    have c15b1 : (a0 != 46) = true := bne_iff_ne.mpr c15
                    by_cases c16 : a0 = 126
                    · rw [if_pos c16] at H
                      have c16b0 : (a0 == 126) = true := beq_iff_eq.mpr c16
                      have c16b1 : (a0 != 126) = false := bne_eq_false_iff_eq.mpr c16
                      clear c16
                      have H' := Aside0.mk H
                      clear H
                      go_wp2
                      go_meet
                      case rel => exact ⟨_, (true), (by first | rfl | (simp; done) | (simp [*]; done)), H', ⟨by first | omega | exact Nat.le_refl _⟩, ⟨by repeat (first | (with_reducible first | exact HB.out | apply below_alloc | apply pw_below_drewN | apply below_drew1) | exact HB.out)⟩⟩
                    · rw [if_neg c16] at H
                      have c16b0 : (a0 == 126) = false := beq_eq_false_iff_ne.mpr c16
                      have c16b1 : (a0 != 126) = true := bne_iff_ne.mpr c16
                      have H' := Aside0.mk H
                      clear H
                      go_wp2
                      go_meet
                      case rel => exact ⟨_, ((a0 == 47)), (by first | rfl | (simp; done) | (simp [*]; done)), H', ⟨by first | omega | exact Nat.le_refl _⟩, ⟨by repeat (first | (with_reducible first | exact HB.out | apply below_alloc | apply pw_below_drewN | apply below_drew1) | exact HB.out)⟩⟩
        · rw [if_neg c5] at H
          have c5b0 : decide (97 ≤ a0) = false := decide_eq_false c5
          clear c5
          by_cases c17 : a0 ≥ 48
          · rw [if_pos c17] at H
            have c17b0 : decide (48 ≤ a0) = true := decide_eq_true c17
            clear c17
            by_cases c18 : a0 ≤ 57
            · rw [if_pos c18] at H
              have c18b0 : decide (a0 ≤ 57) = true := decide_eq_true c18
              clear c18
              have H' := Aside0.mk H
              clear H
              go_wp2
              go_meet
              case rel => exact ⟨_, (true), (by first | rfl | (simp; done) | (simp [*]; done)), H', ⟨by first | omega | exact Nat.le_refl _⟩, ⟨by repeat (first | (with_reducible first | exact HB.out | apply below_alloc | apply pw_below_drewN | apply below_drew1) | exact HB.out)⟩⟩
            · rw [if_neg c18] at H
              have c18b0 : decide (a0 ≤ 57) = false := decide_eq_false c18
              clear c18
              by_cases c19 : a0 = 45
              · rw [if_pos c19] at H
                have c19b0 : (a0 == 45) = true := beq_iff_eq.mpr c19
                have c19b1 : (a0 != 45) = false := bne_eq_false_iff_eq.mpr c19
                clear c19
                have H' := Aside0.mk H
                clear H
                go_wp2
                go_meet
                case rel => exact ⟨_, (true), (by first | rfl | (simp; done) | (simp [*]; done)), H', ⟨by first | omega | exact Nat.le_refl _⟩, ⟨by repeat (first | (with_reducible first | exact HB.out | apply below_alloc | apply pw_below_drewN | apply below_drew1) | exact HB.out)⟩⟩
              · rw [if_neg c19] at H
                have c19b0 : (a0 == 45) = false := beq_eq_false_iff_ne.mpr c19
                have c19b1 : (a0 != 45) = true := bne_iff_ne.mpr c19
                by_cases c20 : a0 = 95
                · rw [if_pos c20] at H
                  have c20b0 : (a0 == 95) = true := beq_iff_eq.mpr c20
                  have c20b1 : (a0 != 95) = false := bne_eq_false_iff_eq.mpr c20
                  clear c20
                  have H' := Aside0.mk H
                  clear H
                  go_wp2
                  go_meet
                  case rel => exact ⟨_, (true), (by first | rfl | (simp; done) | (simp [*]; done)), H', ⟨by first | omega | exact Nat.le_refl _⟩, ⟨by repeat (first | (with_reducible first | exact HB.out | apply below_alloc | apply pw_below_drewN | apply below_drew1) | exact HB.out)⟩⟩
                · rw [if_neg c20] at H
                  have c20b0 : (a0 == 95) = false := beq_eq_false_iff_ne.mpr c20
                  have c20b1 : (a0 != 95) = true := bne_iff_ne.mpr c20
                  by_cases c21 : a0 = 46
                  · rw [if_pos c21] at H
                    have c21b0 : (a0 == 46) = true := beq_iff_eq.mpr c21
                    have c21b1 : (a0 != 46) = false := bne_eq_false_iff_eq.mpr c21
                    clear c21
                    have H' := Aside0.mk H
                    clear H
                    go_wp2
                    go_meet
                    case rel => exact ⟨_, (true), (by first | rfl | (simp; done) | (simp [*]; done)), H', ⟨by first | omega | exact Nat.le_refl _⟩, ⟨by repeat (first | (with_reducible first | exact HB.out | apply below_alloc | apply pw_below_drewN | apply below_drew1) | exact HB.out)⟩⟩
                  · rw [if_neg c21] at H
                    have c21b0 : (a0 == 46) = false := beq_eq_false_iff_ne.mpr c21
                    have c21b1 : (a0 != 46) = true := bne_iff_ne.mpr c21
                    by_cases c22 : a0 = 126
                    · rw [if_pos c22] at H
                      have c22b0 : (a0 == 126) = true := beq_iff_eq.mpr c22
                      have c22b1 : (a0 != 126) = false := bne_eq_false_iff_eq.mpr c22
                      clear c22
                      have H' := Aside0.mk H
                      clear H
                      go_wp2
                      go_meet
                      case rel => exact ⟨_, (true), (by first | rfl | (simp; done) | (simp [*]; done)), H', ⟨by first | omega | exact Nat.le_refl _⟩, ⟨by repeat (first | (with_reducible first | exact HB.out | apply below_alloc | apply pw_below_drewN | apply below_drew1) | exact HB.out)⟩⟩
                    · rw [if_neg c22] at H
                      have c22b0 : (a0 == 126) = false := beq_eq_false_iff_ne.mpr c22
                      have c22b1 : (a0 != 126) = true := bne_iff_ne.mpr c22
                      have H' := Aside0.mk H
                      clear H
                      go_wp2
                      go_meet
                      case rel => exact ⟨_, ((a0 == 47)), (by first | rfl | (simp; done) | (simp [*]; done)), H', ⟨by first | omega | exact Nat.le_refl _⟩, ⟨by repeat (first | (with_reducible first | exact HB.out | apply below_alloc | apply pw_below_drewN | apply below_drew1) | exact HB.out)⟩⟩
          · rw [if_neg c17] at H
            have c17b0 : decide (48 ≤ a0) = false := decide_eq_false c17
            clear c17
            by_cases c23 : a0 = 45
            · rw [if_pos c23] at H
              have c23b0 : (a0 == 45) = true := beq_iff_eq.mpr c23
              have c23b1 : (a0 != 45) = false := bne_eq_false_iff_eq.mpr c23
              clear c23
              have H' := Aside0.mk H
              clear H
              go_wp2
              go_meet
              case rel => exact ⟨_, (true), (by first | rfl | (simp; done) | (simp [*]; done)), H', ⟨by first | omega | exact Nat.le_refl _⟩, ⟨by repeat (first | (with_reducible first | exact HB.out | apply below_alloc | apply pw_below_drewN | apply below_drew1) | exact HB.out)⟩⟩
            · rw [if_neg c23] at H
              have c23b0 : (a0 == 45) = false := beq_eq_false_iff_ne.mpr c23
              have c23b1 : (a0 != 45) = true := bne_iff_ne.mpr c23
              by_cases c24 : a0 = 95
              · rw [if_pos c24] at H
                have c24b0 : (a0 == 95) = true := beq_iff_eq.mpr c24
                have c24b1 : (a0 != 95) = false := bne_eq_false_iff_eq.mpr c24
                clear c24
                have H' := Aside0.mk H
                clear H
                go_wp2
                go_meet
                case rel => exact ⟨_, (true), (by first | rfl | (simp; done) | (simp [*]; done)), H', ⟨by first | omega | exact Nat.le_refl _⟩, ⟨by repeat (first | (with_reducible first | exact HB.out | apply below_alloc | apply pw_below_drewN | apply below_drew1) | exact HB.out)⟩⟩
              · rw [if_neg c24] at H
                have c24b0 : (a0 == 95) = false := beq_eq_false_iff_ne.mpr c24
                have c24b1 : (a0 != 95) = true := bne_iff_ne.mpr c24
                by_cases c25 : a0 = 46
                · rw [if_pos c25] at H
                  have c25b0 : (a0 == 46) = true := beq_iff_eq.mpr c25
                  have c25b1 : (a0 != 46) = false := bne_eq_false_iff_eq.mpr c25
                  clear c25
                  have H' := Aside0.mk H
                  clear H
                  go_wp2
                  go_meet
                  case rel => exact ⟨_, (true), (by first | rfl | (simp; done) | (simp [*]; done)), H', ⟨by first | omega | exact Nat.le_refl _⟩, ⟨by repeat (first | (with_reducible first | exact HB.out | apply below_alloc | apply pw_below_drewN | apply below_drew1) | exact HB.out)⟩⟩
                · rw [if_neg c25] at H
                  have c25b0 : (a0 == 46) = false := beq_eq_false_iff_ne.mpr c25
                  have c25b1 : (a0 != 46) = true := bne_iff_ne.mpr c25
                  by_cases c26 : a0 = 126
                  · rw [if_pos c26] at H
                    have c26b0 : (a0 == 126) = true := beq_iff_eq.mpr c26
                    have c26b1 : (a0 != 126) = false := bne_eq_false_iff_eq.mpr c26
                    clear c26
                    have H' := Aside0.mk H
                    clear H
                    go_wp2
                    go_meet
                    case rel => exact ⟨_, (true), (by first | rfl | (simp; done) | (simp [*]; done)), H', ⟨by first | omega | exact Nat.le_refl _⟩, ⟨by repeat (first | (with_reducible first | exact HB.out | apply below_alloc | apply pw_below_drewN | apply below_drew1) | exact HB.out)⟩⟩
                  · rw [if_neg c26] at H
                    have c26b0 : (a0 == 126) = false := beq_eq_false_iff_ne.mpr c26
                    have c26b1 : (a0 != 126) = true := bne_iff_ne.mpr c26
                    have H' := Aside0.mk H
                    clear H
                    go_wp2
                    go_meet
                    case rel => exact ⟨_, ((a0 == 47)), (by first | rfl | (simp; done) | (simp [*]; done)), H', ⟨by first | omega | exact Nat.le_refl _⟩, ⟨by repeat (first | (with_reducible first | exact HB.out | apply below_alloc | apply pw_below_drewN | apply below_drew1) | exact HB.out)⟩⟩
    · rw [if_neg c3] at H
      have c3b0 : decide (65 ≤ a0) = false := decide_eq_false c3
      clear c3
      (first | rw [c3b0] | (simp only [i64_w, i32_w]; rw [c3b0]) | skip)
      by_cases c27 : a0 ≥ 97
      · rw [if_pos c27] at H
        have c27b0 : decide (97 ≤ a0) = true := decide_eq_true c27
        clear c27
        by_cases c28 : a0 ≤ 122
        · rw [if_pos c28] at H
          have c28b0 : decide (a0 ≤ 122) = true := decide_eq_true c28
          clear c28
          have H' := Aside0.mk H
          clear H
          go_wp2
          go_meet
          case rel => exact ⟨_, (true), (by first | rfl | (simp; done) | (simp [*]; done)), H', ⟨by first | omega | exact Nat.le_refl _⟩, ⟨by repeat (first | (with_reducible first | exact HB.out | apply below_alloc | apply pw_below_drewN | apply below_drew1) | exact HB.out)⟩⟩
        · rw [if_neg c28] at H
          have c28b0 : decide (a0 ≤ 122) = false := decide_eq_false c28
          clear c28
          by_cases c29 : a0 ≥ 48
          · rw [if_pos c29] at H
            have c29b0 : decide (48 ≤ a0) = true := decide_eq_true c29
            clear c29
            by_cases c30 : a0 ≤ 57
            · rw [if_pos c30] at H
              have c30b0 : decide (a0 ≤ 57) = true := decide_eq_true c30
              clear c30
              have H' := Aside0.mk H
              clear H
              go_wp2
              go_meet
              case rel => exact ⟨_, (true), (by first | rfl | (simp; done) | (simp [*]; done)), H', ⟨by first | omega | exact Nat.le_refl _⟩, ⟨by repeat (first | (with_reducible first | exact HB.out | apply below_alloc | apply pw_below_drewN | apply below_drew1) | exact HB.out)⟩⟩
            · rw [if_neg c30] at H
              have c30b0 : decide (a0 ≤ 57) = false := decide_eq_false c30
              clear c30
              by_cases c31 : a0 = 45
              · rw [if_pos c31] at H
                have c31b0 : (a0 == 45) = true := beq_iff_eq.mpr c31
                have c31b1 : (a0 != 45) = false := bne_eq_false_iff_eq.mpr c31
                clear c31
                have H' := Aside0.mk H
                clear H
                go_wp2
                go_meet
                case rel => exact ⟨_, (true), (by first | rfl | (simp; done) | (simp [*]; done)), H', ⟨by first | omega | exact Nat.le_refl _⟩, ⟨by repeat (first | (with_reducible first | exact HB.out | apply below_alloc | apply pw_below_drewN | apply below_drew1) | exact HB.out)⟩⟩
              · rw [if_neg c31] at H
                have c31b0 : (a0 == 45) = false := beq_eq_false_iff_ne.mpr c31
                have c31b1 : (a0 != 45) = true := bne_iff_ne.mpr c31
                by_cases c32 : a0 = 95
                · rw [if_pos c32] at H
                  have c32b0 : (a0 == 95) = true := beq_iff_eq.mpr c32
                  have c32b1 : (a0 != 95) = false := bne_eq_false_iff_eq.mpr c32
                  clear c32
                  have H' := Aside0.mk H
                  clear H
                  go_wp2
                  go_meet
                  case rel => exact ⟨_, (true), (by first | rfl | (simp; done) | (simp [*]; done)), H', ⟨by first | omega | exact Nat.le_refl _⟩, ⟨by repeat (first | (with_reducible first | exact HB.out | apply below_alloc | apply pw_below_drewN | apply below_drew1) | exact HB.out)⟩⟩
                · rw [if_neg c32] at H
                  have c32b0 : (a0 == 95) = false := beq_eq_false_iff_ne.mpr c32
                  have c32b1 : (a0 != 95) = true := bne_iff_ne.mpr c32
                  by_cases c33 : a0 = 46
                  · rw [if_pos c33] at H
                    have c33b0 : (a0 == 46) = true := beq_iff_eq.mpr c33
                    have c33b1 : (a0 != 46) = false := bne_eq_false_iff_eq.mpr c33
                    clear c33
                    have H' := Aside0.mk H
                    clear H
                    go_wp2
                    go_meet
                    case rel => exact ⟨_, (true), (by first | rfl | (simp; done) | (simp [*]; done)), H', ⟨by first | omega | exact Nat.le_refl _⟩, ⟨by repeat (first | (with_reducible first | exact HB.out | apply below_alloc | apply pw_below_drewN | apply below_drew1) | exact HB.out)⟩⟩
                  · rw [if_neg c33] at H
                    have c33b0 : (a0 == 46) = false := beq_eq_false_iff_ne.mpr c33
                    have c33b1 : (a0 != 46) = true := bne_iff_ne.mpr c33
                    by_cases c34 : a0 = 126
                    · rw [if_pos c34] at H
                      have c34b0 : (a0 == 126) = true := beq_iff_eq.mpr c34
                      have c34b1 : (a0 != 126) = false := bne_eq_false_iff_eq.mpr c34
                      clear c34
                      have H' := Aside0.mk H
                      clear H
                      go_wp2
                      go_meet
                      case rel => exact ⟨_, (true), (by first | rfl | (simp; done) | (simp [*]; done)), H', ⟨by first | omega | exact Nat.le_refl _⟩, ⟨by repeat (first | (with_reducible first | exact HB.out | apply below_alloc | apply pw_below_drewN | apply below_drew1) | exact HB.out)⟩⟩
                    · rw [if_neg c34] at H
                      have c34b0 : (a0 == 126) = false := beq_eq_false_iff_ne.mpr c34
                      have c34b1 : (a0 != 126) = true := bne_iff_ne.mpr c34
                      have H' := Aside0.mk H
                      clear H
                      go_wp2
                      go_meet
                      case rel => exact ⟨_, ((a0 == 47)), (by first | rfl | (simp; done) | (simp [*]; done)), H', ⟨by first | omega | exact Nat.le_refl _⟩, ⟨by repeat (first | (with_reducible first | exact HB.out | apply below_alloc | apply pw_below_drewN | apply below_drew1) | exact HB.out)⟩⟩
          · rw [if_neg c29] at H
            have c29b0 : decide (48 ≤ a0) = false := decide_eq_false c29
            clear c29
            by_cases c35 : a0 = 45
            · rw [if_pos c35] at H
              have c35b0 : (a0 == 45) = true := beq_iff_eq.mpr c35
              have c35b1 : (a0 != 45) = false := bne_eq_false_iff_eq.mpr c35
              clear c35
              have H' := Aside0.mk H
              clear H
              go_wp2
              go_meet
              case rel => exact ⟨_, (true), (by first | rfl | (simp; done) | (simp [*]; done)), H', ⟨by first | omega | exact Nat.le_refl _⟩, ⟨by repeat (first | (with_reducible first | exact HB.out | apply below_alloc | apply pw_below_drewN | apply below_drew1) | exact HB.out)⟩⟩
            · rw [if_neg c35] at H
              have c35b0 : (a0 == 45) = false := beq_eq_false_iff_ne.mpr c35
              have c35b1 : (a0 != 45) = true := bne_iff_ne.mpr c35
              by_cases c36 : a0 = 95
              · rw [if_pos c36] at H
                have c36b0 : (a0 == 95) = true := beq_iff_eq.mpr c36
                have c36b1 : (a0 != 95) = false := bne_eq_false_iff_eq.mpr c36
                clear c36
                have H' := Aside0.mk H
                clear H
                go_wp2
                go_meet
                case rel => exact ⟨_, (true), (by first | rfl | (simp; done) | (simp [*]; done)), H', ⟨by first | omega | exact Nat.le_refl _⟩, ⟨by repeat (first | (with_reducible first | exact HB.out | apply below_alloc | apply pw_below_drewN | apply below_drew1) | exact HB.out)⟩⟩
              · rw [if_neg c36] at H
                have c36b0 : (a0 == 95) = false := beq_eq_false_iff_ne.mpr c36
                have c36b1 : (a0 != 95) = true := bne_iff_ne.mpr c36
                by_cases c37 : a0 = 46
                · rw [if_pos c37] at H
                  have c37b0 : (a0 == 46) = true := beq_iff_eq.mpr c37
                  have c37b1 : (a0 != 46) = false := bne_eq_false_iff_eq.mpr c37
                  clear c37
                  have H' := Aside0.mk H
                  clear H
                  go_wp2
                  go_meet
                  case rel => exact ⟨_, (true), (by first | rfl | (simp; done) | (simp [*]; done)), H', ⟨by first | omega | exact Nat.le_refl _⟩, ⟨by repeat (first | (with_reducible first | exact HB.out | apply below_alloc | apply pw_below_drewN | apply below_drew1) | exact HB.out)⟩⟩
                · rw [if_neg c37] at H
                  have c37b0 : (a0 == 46) = false := beq_eq_false_iff_ne.mpr c37
                  have c37b1 : (a0 != 46) = true := bne_iff_ne.mpr c37
                  by_cases c38 : a0 = 126
                  · rw [if_pos c38] at H
                    have c38b0 : (a0 == 126) = true := beq_iff_eq.mpr c38
                    have c38b1 : (a0 != 126) = false := bne_eq_false_iff_eq.mpr c38
                    clear c38
                    have H' := Aside0.mk H
                    clear H
                    go_wp2
                    go_meet
                    case rel => exact ⟨_, (true), (by first | rfl | (simp; done) | (simp [*]; done)), H', ⟨by first | omega | exact Nat.le_refl _⟩, ⟨by repeat (first | (with_reducible first | exact HB.out | apply below_alloc | apply pw_below_drewN | apply below_drew1) | exact HB.out)⟩⟩
                  · rw [if_neg c38] at H
                    have c38b0 : (a0 == 126) = false := beq_eq_false_iff_ne.mpr c38
                    have c38b1 : (a0 != 126) = true := bne_iff_ne.mpr c38
                    have H' := Aside0.mk H
                    clear H
                    go_wp2
                    go_meet
                    case rel => exact ⟨_, ((a0 == 47)), (by first | rfl | (simp; done) | (simp [*]; done)), H', ⟨by first | omega | exact Nat.le_refl _⟩, ⟨by repeat (first | (with_reducible first | exact HB.out | apply below_alloc | apply pw_below_drewN | apply below_drew1) | exact HB.out)⟩⟩
      · rw [if_neg c27] at H
        have c27b0 : decide (97 ≤ a0) = false := decide_eq_false c27
        clear c27
        by_cases c39 : a0 ≥ 48
        · rw [if_pos c39] at H
          have c39b0 : decide (48 ≤ a0) = true := decide_eq_true c39
          clear c39
          by_cases c40 : a0 ≤ 57
          · rw [if_pos c40] at H
            have c40b0 : decide (a0 ≤ 57) = true := decide_eq_true c40
            clear c40
            have H' := Aside0.mk H
            clear H
            go_wp2
            go_meet
            case rel => exact ⟨_, (true), (by first | rfl | (simp; done) | (simp [*]; done)), H', ⟨by first | omega | exact Nat.le_refl _⟩, ⟨by repeat (first | (with_reducible first | exact HB.out | apply below_alloc | apply pw_below_drewN | apply below_drew1) | exact HB.out)⟩⟩
          · rw [if_neg c40] at H
            have c40b0 : decide (a0 ≤ 57) = false := decide_eq_false c40
            clear c40
            by_cases c41 : a0 = 45
            · rw [if_pos c41] at H
              have c41b0 : (a0 == 45) = true := beq_iff_eq.mpr c41
              have c41b1 : (a0 != 45) = false := bne_eq_false_iff_eq.mpr c41
              clear c41
              have H' := Aside0.mk H
              clear H
              go_wp2
              go_meet
              case rel => exact ⟨_, (true), (by first | rfl | (simp; done) | (simp [*]; done)), H', ⟨by first | omega | exact Nat.le_refl _⟩, ⟨by repeat (first | (with_reducible first | exact HB.out | apply below_alloc | apply pw_below_drewN | apply below_drew1) | exact HB.out)⟩⟩
            · rw [if_neg c41] at H
              have c41b0 : (a0 == 45) = false := beq_eq_false_iff_ne.mpr c41
              have c41b1 : (a0 != 45) = true := bne_iff_ne.mpr c41
              by_cases c42 : a0 = 95
              · rw [if_pos c42] at H
                have c42b0 : (a0 == 95) = true := beq_iff_eq.mpr c42
                have c42b1 : (a0 != 95) = false := bne_eq_false_iff_eq.mpr c42
                clear c42
                have H' := Aside0.mk H
                clear H
                go_wp2
                go_meet
                case rel => exact ⟨_, (true), (by first | rfl | (simp; done) | (simp [*]; done)), H', ⟨by first | omega | exact Nat.le_refl _⟩, ⟨by repeat (first | (with_reducible first | exact HB.out | apply below_alloc | apply pw_below_drewN | apply below_drew1) | exact HB.out)⟩⟩
              · rw [if_neg c42] at H
                have c42b0 : (a0 == 95) = false := beq_eq_false_iff_ne.mpr c42
                have c42b1 : (a0 != 95) = true := bne_iff_ne.mpr c42
                by_cases c43 : a0 = 46
                · rw [if_pos c43] at H
                  have c43b0 : (a0 == 46) = true := beq_iff_eq.mpr c43
                  have c43b1 : (a0 != 46) = false := bne_eq_false_iff_eq.mpr c43
                  clear c43
                  have H' := Aside0.mk H
                  clear H
                  go_wp2
                  go_meet
                  case rel => exact ⟨_, (true), (by first | rfl | (simp; done) | (simp [*]; done)), H', ⟨by first | omega | exact Nat.le_refl _⟩, ⟨by repeat (first | (with_reducible first | exact HB.out | apply below_alloc | apply pw_below_drewN | apply below_drew1) | exact HB.out)⟩⟩
                · rw [if_neg c43] at H
                  have c43b0 : (a0 == 46) = false := beq_eq_false_iff_ne.mpr c43
                  have c43b1 : (a0 != 46) = true := bne_iff_ne.mpr c43
                  by_cases c44 : a0 = 126
                  · rw [if_pos c44] at H
                    have c44b0 : (a0 == 126) = true := beq_iff_eq.mpr c44
                    have c44b1 : (a0 != 126) = false := bne_eq_false_iff_eq.mpr c44
                    clear c44
                    have H' := Aside0.mk H
                    clear H
                    go_wp2
                    go_meet
                    case rel => exact ⟨_, (true), (by first | rfl | (simp; done) | (simp [*]; done)), H', ⟨by first | omega | exact Nat.le_refl _⟩, ⟨by repeat (first | (with_reducible first | exact HB.out | apply below_alloc | apply pw_below_drewN | apply below_drew1) | exact HB.out)⟩⟩
                  · rw [if_neg c44] at H
                    have c44b0 : (a0 == 126) = false := beq_eq_false_iff_ne.mpr c44
                    have c44b1 : (a0 != 126) = true := bne_iff_ne.mpr c44
                    have H' := Aside0.mk H
                    clear H
                    go_wp2
                    go_meet
                    case rel => exact ⟨_, ((a0 == 47)), (by first | rfl | (simp; done) | (simp [*]; done)), H', ⟨by first | omega | exact Nat.le_refl _⟩, ⟨by repeat (first | (with_reducible first | exact HB.out | apply below_alloc | apply pw_below_drewN | apply below_drew1) | exact HB.out)⟩⟩
        · rw [if_neg c39] at H
          have c39b0 : decide (48 ≤ a0) = false := decide_eq_false c39
          clear c39
          by_cases c45 : a0 = 45
          · rw [if_pos c45] at H
            have c45b0 : (a0 == 45) = true := beq_iff_eq.mpr c45
            have c45b1 : (a0 != 45) = false := bne_eq_false_iff_eq.mpr c45
            clear c45
            have H' := Aside0.mk H
            clear H
            go_wp2
            go_meet
            case rel => exact ⟨_, (true), (by first | rfl | (simp; done) | (simp [*]; done)), H', ⟨by first | omega | exact Nat.le_refl _⟩, ⟨by repeat (first | (with_reducible first | exact HB.out | apply below_alloc | apply pw_below_drewN | apply below_drew1) | exact HB.out)⟩⟩
          · rw [if_neg c45] at H
            have c45b0 : (a0 == 45) = false := beq_eq_false_iff_ne.mpr c45
            have c45b1 : (a0 != 45) = true := bne_iff_ne.mpr c45
            by_cases c46 : a0 = 95
            · rw [if_pos c46] at H
              have c46b0 : (a0 == 95) = true := beq_iff_eq.mpr c46
              have c46b1 : (a0 != 95) = false := bne_eq_false_iff_eq.mpr c46
              clear c46
              have H' := Aside0.mk H
              clear H
              go_wp2
              go_meet
              case rel => exact ⟨_, (true), (by first | rfl | (simp; done) | (simp [*]; done)), H', ⟨by first | omega | exact Nat.le_refl _⟩, ⟨by repeat (first | (with_reducible first | exact HB.out | apply below_alloc | apply pw_below_drewN | apply below_drew1) | exact HB.out)⟩⟩
            · rw [if_neg c46] at H
              have c46b0 : (a0 == 95) = false := beq_eq_false_iff_ne.mpr c46
              have c46b1 : (a0 != 95) = true := bne_iff_ne.mpr c46
              by_cases c47 : a0 = 46
              · rw [if_pos c47] at H
                have c47b0 : (a0 == 46) = true := beq_iff_eq.mpr c47
                have c47b1 : (a0 != 46) = false := bne_eq_false_iff_eq.mpr c47
                clear c47
                have H' := Aside0.mk H
                clear H
                go_wp2
                go_meet
                case rel => exact ⟨_, (true), (by first | rfl | (simp; done) | (simp [*]; done)), H', ⟨by first | omega | exact Nat.le_refl _⟩, ⟨by repeat (first | (with_reducible first | exact HB.out | apply below_alloc | apply pw_below_drewN | apply below_drew1) | exact HB.out)⟩⟩
              · rw [if_neg c47] at H
                have c47b0 : (a0 == 46) = false := beq_eq_false_iff_ne.mpr c47
                have c47b1 : (a0 != 46) = true := bne_iff_ne.mpr c47
                by_cases c48 : a0 = 126
                · rw [if_pos c48] at H
                  have c48b0 : (a0 == 126) = true := beq_iff_eq.mpr c48
                  have c48b1 : (a0 != 126) = false := bne_eq_false_iff_eq.mpr c48
                  clear c48
                  have H' := Aside0.mk H
                  clear H
                  go_wp2
                  go_meet
                  case rel => exact ⟨_, (true), (by first | rfl | (simp; done) | (simp [*]; done)), H', ⟨by first | omega | exact Nat.le_refl _⟩, ⟨by repeat (first | (with_reducible first | exact HB.out | apply below_alloc | apply pw_below_drewN | apply below_drew1) | exact HB.out)⟩⟩
                · rw [if_neg c48] at H
                  have c48b0 : (a0 == 126) = false := beq_eq_false_iff_ne.mpr c48
                  have c48b1 : (a0 != 126) = true := bne_iff_ne.mpr c48
                  have H' := Aside0.mk H
                  clear H
                  go_wp2
                  go_meet
                  case rel => exact ⟨_, ((a0 == 47)), (by first | rfl | (simp; done) | (simp [*]; done)), H', ⟨by first | omega | exact Nat.le_refl _⟩, ⟨by repeat (first | (with_reducible first | exact HB.out | apply below_alloc | apply pw_below_drewN | apply below_drew1) | exact HB.out)⟩⟩
  case rest =>
    clear HC2
    try clear c1
    try clear c2
    try clear p2
    try clear c3
    try clear c3b0
    try clear c4
    try clear c4b0
    try clear c5
    try clear c5b0
    try clear c6
    try clear c6b0
    try clear c7
    try clear c7b0
    try clear c8
    try clear c8b0
    try clear c9
    try clear c9b0
    try clear c9b1
    try clear c10
    try clear c10b0
    try clear c10b1
    try clear c11
    try clear c11b0
    try clear c11b1
    try clear c12
    try clear c12b0
    try clear c12b1
    try clear c13
    try clear c13b0
    try clear c13b1
    try clear c14
    try clear c14b0
    try clear c14b1
    try clear c15
    try clear c15b0
    try clear c15b1
    try clear c16
    try clear c16b0
    try clear c16b1
    try clear c17
    try clear c17b0
    try clear c18
    try clear c18b0
    try clear c19
    try clear c19b0
    try clear c19b1
    try clear c20
    try clear c20b0
    try clear c20b1
    try clear c21
    try clear c21b0
    try clear c21b1
    try clear c22
    try clear c22b0
    try clear c22b1
    try clear c23
    try clear c23b0
    try clear c23b1
    try clear c24
    try clear c24b0
    try clear c24b1
    try clear c25
    try clear c25b0
    try clear c25b1
    try clear c26
    try clear c26b0
    try clear c26b1
    try clear c27
    try clear c27b0
    try clear c28
    try clear c28b0
    try clear c29
    try clear c29b0
    try clear c30
    try clear c30b0
    try clear c31
    try clear c31b0
    try clear c31b1
    try clear c32
    try clear c32b0
    try clear c32b1
    try clear c33
    try clear c33b0
    try clear c33b1
    try clear c34
    try clear c34b0
    try clear c34b1
    try clear c35
    try clear c35b0
    try clear c35b1
    try clear c36
    try clear c36b0
    try clear c36b1
    try clear c37
    try clear c37b0
    try clear c37b1
    try clear c38
    try clear c38b0
    try clear c38b1
    try clear c39
    try clear c39b0
    try clear c40
    try clear c40b0
    try clear c41
    try clear c41b0
    try clear c41b1
    try clear c42
    try clear c42b0
    try clear c42b1
    try clear c43
    try clear c43b0
    try clear c43b1
    try clear c44
    try clear c44b0
    try clear c44b1
    try clear c45
    try clear c45b0
    try clear c45b1
    try clear c46
    try clear c46b0
    try clear c46b1
    try clear c47
    try clear c47b0
    try clear c47b1
    try clear c48
    try clear c48b0
    try clear c48b1
    obtain ⟨kq, x3_1, rfl, HA, HJ1, HB⟩ := hcut
    cases kq with
    | zero => exact absurd HA.out (by simp [shoalsyncref04_written.j0])
    | succ kj1 =>
      have H := HA.out
      clear HA
      simp only [shoalsyncref04_written.j0] at H
      by_cases c49 : x3_1 = true
      · subst c49
        have H1 : (some (strOfNums (([a0] : List Int)))) = some r := by rw [if_pos rfl] at H; exact H
        clear H
        have H := H1
        clear H1
        obtain ⟨y132, hy132⟩ : ∃ y_ : List Int, y_ = (([a0] : List Int)) := ⟨_, rfl⟩
        replace H : (some (strOfNums y132)) = some r := by first | (rw [hy132]; with_reducible exact H) | (have H2_ := (Option.bind_some _ _).symm.trans H; rw [hy132]; with_reducible exact H2_) | (have H2_ := (Option.bind_some _ _).symm.trans H; with_reducible exact H2_) | with_reducible exact H | (rw [hy132]; exact H) | exact H
        have Ny132 := Aside0.mk hy132
        clear hy132
        obtain rfl := Option.some.inj H
        go_wp2_with (first | ((with_reducible refine gate_dst (N := 48) rfl ?_); refine Kd.R_lit (Kd.int .u8) _ 5 ?hg (N := 48) ?hd (xs := ([a0] : List Int)) (inner := [.int .u8 a0]) (ok := fun _ => True) (okp := fun _ => True) ?hr ?hp (fun _ hk => hk) trivial (Below.refl _ _) (Nat.le_refl _) (by simp) ?_; (case hd => rfl); (case hg => rfl); (case hr => first | (go_simp; done) | (go_simp; rfl)); (case hp => exact (Reps.one (show Kd.M (Kd.int .u8) _ _ _ a0 [.int .u8 a0] from rfl) (Reps.none _ _))); intro v133 w50 ho51 hb hg_ hnew_; clear hg_ hnew_; (first | rw [← Ny132.out] at ho51 | (simp only [Int.reduceToNat] at ho51; rw [← Ny132.out] at ho51)); have n0_ := Aside0.mk (Kd.R_lower ho51 (below_size (by repeat (first | (with_reducible first | exact HB.out | apply below_alloc | apply pw_below_drewN | apply below_drew1) | exact HB.out)))); have n1_ := Aside0.mk (below_step (by repeat (first | (with_reducible first | exact HB.out | apply below_alloc | apply pw_below_drewN | apply below_drew1) | exact HB.out)) hb); clear HB; have HO134 := n0_; have HB := n1_; clear n0_ n1_; clear hb ho51; have hcv52 := own_string (P := Tryd.prog) Tryd.underlying107 Tryd.underlying5 Tryd.underlying9 (Kd.own_of_R HO134.out)))
        go_ret
        exact ⟨by first | rfl | (simp [errW_none, errW_some] <;> rfl) | (simp [*, errW_none, errW_some] <;> rfl), by repeat (first | (with_reducible first | exact HB.out | apply below_alloc | apply pw_below_drewN | apply below_drew1) | exact HB.out)⟩
      · replace c49 := Bool.eq_false_iff.mpr c49
        subst c49
        have H1 : ((shoalsyncref04_digit.f ((Int.tdiv a0 16) % 256)).bind fun t135 => ((shoalsyncref04_digit.f (Int.tmod a0 16)).bind fun t136 => (some (strOfNums (([37, t135, t136] : List Int)))))) = some r := by rw [if_neg (show ¬ (false = true) by decide)] at H; exact H
        clear H
        have H := H1
        clear H1
        replace H := Option.bind_eq_some_iff.mp H
        obtain ⟨t135, A530, H⟩ := H
        replace H : ((shoalsyncref04_digit.f (Int.tmod a0 16)).bind fun t136 => (some (strOfNums (([37, t135, t136] : List Int))))) = some r := H
        have A53 := Aside0.mk A530
        clear A530
        replace H := Option.bind_eq_some_iff.mp H
        obtain ⟨t136, A540, H⟩ := H
        replace H : (some (strOfNums (([37, t135, t136] : List Int)))) = some r := H
        have A54 := Aside0.mk A540
        clear A540
        obtain ⟨y137, hy137⟩ : ∃ y_ : List Int, y_ = (([37, t135, t136] : List Int)) := ⟨_, rfl⟩
        replace H : (some (strOfNums y137)) = some r := by first | (rw [hy137]; with_reducible exact H) | (have H2_ := (Option.bind_some _ _).symm.trans H; rw [hy137]; with_reducible exact H2_) | (have H2_ := (Option.bind_some _ _).symm.trans H; with_reducible exact H2_) | with_reducible exact H | (rw [hy137]; exact H) | exact H
        have Ny137 := Aside0.mk hy137
        clear hy137
        obtain rfl := Option.some.inj H
        go_wp2_with (first | ((with_reducible refine gate_callee (f := 101) rfl ?_); refine goesL_ (some 52) rfl rfl Tryd.func101 (by kernel_rfl) rfl #[.int .u8 ((Int.tdiv a0 16) % 256)] rfl (by (try simp only [List.map_toArray, List.map_cons, List.map_nil]); first | done | rfl | (simp only [List.length_drop, List.length_take]; rfl)) ?_; (with_reducible refine (shoalsyncref04_digit.calls ((Int.tdiv a0 16) % 256) t135 _ A53.out).mono ?_); rintro e w' ⟨rfl, ⟨nd, rfl⟩⟩; refine ⟨_, rfl, ?_⟩) | ((with_reducible refine gate_callee (f := 101) rfl ?_); refine goesL_ (some 55) rfl rfl Tryd.func101 (by kernel_rfl) rfl #[.int .u8 (Int.tmod a0 16)] rfl (by (try simp only [List.map_toArray, List.map_cons, List.map_nil]); first | done | rfl | (simp only [List.length_drop, List.length_take]; rfl)) ?_; (with_reducible refine (shoalsyncref04_digit.calls (Int.tmod a0 16) t136 _ A54.out).mono ?_); rintro e w' ⟨rfl, ⟨nd, rfl⟩⟩; refine ⟨_, rfl, ?_⟩) | ((with_reducible refine gate_dst (N := 56) rfl ?_); refine Kd.R_lit (Kd.int .u8) _ 5 ?hg (N := 56) ?hd (xs := ([37, t135, t136] : List Int)) (inner := [.int .u8 37, .int .u8 t135, .int .u8 t136]) (ok := fun _ => True) (okp := fun _ => True) ?hr ?hp (fun _ hk => hk) trivial (Below.refl _ _) (Nat.le_refl _) (by simp) ?_; (case hd => rfl); (case hg => rfl); (case hr => first | (go_simp; done) | (go_simp; rfl)); (case hp => exact (Reps.one (show Kd.M (Kd.int .u8) _ _ _ 37 [.int .u8 37] from rfl) (Reps.one (show Kd.M (Kd.int .u8) _ _ _ t135 [.int .u8 t135] from rfl) (Reps.one (show Kd.M (Kd.int .u8) _ _ _ t136 [.int .u8 t136] from rfl) (Reps.none _ _))))); intro v138 w55 ho56 hb hg_ hnew_; clear hg_ hnew_; (first | rw [← Ny137.out] at ho56 | (simp only [Int.reduceToNat] at ho56; rw [← Ny137.out] at ho56)); have n0_ := Aside0.mk (Kd.R_lower ho56 (below_size (by repeat (first | (with_reducible first | exact HB.out | apply below_alloc | apply pw_below_drewN | apply below_drew1) | exact HB.out)))); have n1_ := Aside0.mk (below_step (by repeat (first | (with_reducible first | exact HB.out | apply below_alloc | apply pw_below_drewN | apply below_drew1) | exact HB.out)) hb); clear HB; have HO139 := n0_; have HB := n1_; clear n0_ n1_; clear hb ho56; have hcv57 := own_string (P := Tryd.prog) Tryd.underlying107 Tryd.underlying5 Tryd.underlying9 (Kd.own_of_R HO139.out)))
        go_ret
        exact ⟨by first | rfl | (simp [errW_none, errW_some] <;> rfl) | (simp [*, errW_none, errW_some] <;> rfl), by repeat (first | (with_reducible first | exact HB.out | apply below_alloc | apply pw_below_drewN | apply below_drew1) | exact HB.out)⟩

/-! ### shoalsyncref04_Escape: function 35 -/
def shoalsyncref04_Escape.l0 : Nat → ByteArray → ByteArray → Int → Option (ByteArray)
  | 0, _, _, _ => none
  | k + 1, x0, x3, x4 => if x4 < (x0.size : Int) then (if 0 ≤ x4 then ((shoalsyncref04_written.f k (bt x0 x4)).bind fun t144 => (if x3.size + t144.size ≤ 9223372036854775807 then (shoalsyncref04_Escape.l0 k x0 (x3 ++ t144) (wrap64 (x4 + 1))) else (none))) else (none)) else (some x3)
def shoalsyncref04_Escape.f (k : Nat) (a0 : ByteArray) : Option (ByteArray) := shoalsyncref04_Escape.l0 k a0 (⟨#[]⟩ : ByteArray) 0
theorem shoalsyncref04_Escape.mono_l : ∀ k, (∀ y0 y1 y2, LeO (shoalsyncref04_Escape.l0 k y0 y1 y2) (shoalsyncref04_Escape.l0 (k + 1) y0 y1 y2))
  | 0 => fun _ _ _ r h => by simp [shoalsyncref04_Escape.l0] at h
  | k + 1 => by
    have ih0 := shoalsyncref04_Escape.mono_l k
    · intro y0 y1 y2
      unfold shoalsyncref04_Escape.l0
      repeat' first
      | (with_reducible exact ih0 _ _ _)
      | (with_reducible exact shoalsyncref04_written.mono _ _)
      | (with_reducible exact LeO.refl _)
      | (with_reducible exact LeO.none _)
      | (with_reducible refine LeO.ite ?_ ?_)
      | (with_reducible refine LeO.bind ?_ (fun _ => ?_))
      | exact ih0 _ _ _
      | exact shoalsyncref04_written.mono _ _
      | exact LeO.none _
      | refine LeO.ite ?_ ?_
      | refine LeO.bind ?_ (fun _ => ?_)
theorem shoalsyncref04_Escape.mono : ∀ a0 k, LeO (shoalsyncref04_Escape.f k a0) (shoalsyncref04_Escape.f (k + 1) a0) := by
  intro a0 k
  have ih0 := shoalsyncref04_Escape.mono_l k
  unfold shoalsyncref04_Escape.f
  repeat' first
      | (with_reducible exact ih0 _ _ _)
      | (with_reducible exact shoalsyncref04_written.mono _ _)
      | (with_reducible exact LeO.refl _)
      | (with_reducible exact LeO.none _)
      | (with_reducible refine LeO.ite ?_ ?_)
      | (with_reducible refine LeO.bind ?_ (fun _ => ?_))
      | exact ih0 _ _ _
      | exact shoalsyncref04_written.mono _ _
      | exact LeO.none _
      | refine LeO.ite ?_ ?_
      | refine LeO.bind ?_ (fun _ => ?_)
set_option maxHeartbeats 8000000 in
set_option maxRecDepth 100000 in
theorem shoalsyncref04_Escape.calls (k : Nat) (a0 : ByteArray) (r : ByteArray) (w : World) (h : shoalsyncref04_Escape.f k a0 = some r) :
    Calls Tryd.prog 35 #[.string a0] w fun e w' => e = .returned (.string r) ∧ Below w.heap.size w w' := by
  have HB := Aside0.mk (Below.refl w.heap.size w)
  have H : (shoalsyncref04_Escape.l0 k a0 (⟨#[]⟩ : ByteArray) 0) = some r := h
  clear h
  have H' := Aside0.mk H
  clear H
  go_enter Tryd.func35, Tryd.ntmps35
  go_wp2
  go_loopg [3, 4] k (fun kq v3 v4 w' => ∃ (x3_1 : ByteArray) (x4_1 : Int), v3 = .string x3_1 ∧ v4 = .int .i64 x4_1 ∧ Aside0 (shoalsyncref04_Escape.l0 kq a0 x3_1 x4_1 = some r) ∧ Aside0 (kq ≤ k) ∧ Aside0 (Below w.heap.size w w'))
  case atStart => exact ⟨((⟨#[]⟩ : ByteArray)), (0), (by first | rfl | (simp; done) | (simp [*]; done)), (by first | rfl | (simp; done) | (simp [*]; done)), H', ⟨Nat.le_refl _⟩, ⟨by repeat (first | (with_reducible first | exact HB.out | apply below_alloc | apply pw_below_drewN | apply below_drew1) | exact HB.out)⟩⟩
  case round =>
    clear H'
    obtain ⟨x3_1, x4_1, rfl, rfl, HA, HK1, HB⟩ := hrel
    cases gk with
    | zero => exact absurd HA.out (by simp [shoalsyncref04_Escape.l0])
    | succ k1 =>
      have H := HA.out
      clear HA
      simp only [shoalsyncref04_Escape.l0] at H
      by_cases c2 : x4_1 < (a0.size : Int)
      · rw [if_pos c2] at H
        have c2b0 : decide (x4_1 < (a0.size : Int)) = true := decide_eq_true c2
        clear c2
        by_cases c3 : 0 ≤ x4_1
        · rw [if_pos c3] at H
          have c3b0 : decide (0 ≤ x4_1) = true := decide_eq_true c3
          clear c3
          replace H := Option.bind_eq_some_iff.mp H
          obtain ⟨t144, A50, H⟩ := H
          replace H : (if x3_1.size + t144.size ≤ 9223372036854775807 then (shoalsyncref04_Escape.l0 k1 a0 (x3_1 ++ t144) (wrap64 (x4_1 + 1))) else (none)) = some r := H
          have A5 := Aside0.mk A50
          clear A50
          by_cases c6 : x3_1.size + t144.size ≤ 9223372036854775807
          · rw [if_pos c6] at H
            have c6b0 := eq_true c6
            have c6b1 : decide (x3_1.size + t144.size ≤ 9223372036854775807) = true := decide_eq_true c6
            try have c6b2 : (9223372036854775807 < x3_1.size + t144.size) = False := eq_false (Nat.not_lt.2 c6)
            have H' := Aside0.mk H
            clear H
            have p4 : 0 ≤ (x4_1 : Int) := of_decide_eq_true (by first | (with_reducible assumption) | assumption)
            have q4 : x4_1 < (a0.size : Int) := of_decide_eq_true (by first | (with_reducible assumption) | assumption)
            have hx4 := bt_at a0 x4_1
            replace p4 := eq_true p4
            replace q4 := eq_true q4
            go_wp2_with (first | ((with_reducible refine gate_callee (f := 70) rfl ?_); refine goesL_ (some 15) rfl rfl Tryd.func70 (by kernel_rfl) rfl #[.int .u8 (bt a0 x4_1)] rfl (by (try simp only [List.map_toArray, List.map_cons, List.map_nil]); first | done | rfl | (simp only [List.length_drop, List.length_take]; rfl)) ?_; (with_reducible refine (shoalsyncref04_written.calls k1 (bt a0 x4_1) t144 _ A5.out).mono ?_); rintro e w7 ⟨rfl, hb⟩; refine ⟨_, rfl, ?_⟩; have n0_ := Aside0.mk (below_step (by repeat (first | (with_reducible first | exact HB.out | apply below_alloc | apply pw_below_drewN | apply below_drew1) | exact HB.out)) hb); clear HB; have HB := n0_; clear n0_; (try clear hb); (try clear hb2); (try clear hk); (try clear hi)))
            go_roundg k1
            case measure => have := HK1.out; omega
            case rel => exact ⟨(x3_1 ++ t144), (wrap64 (x4_1 + 1)), (by first | rfl | (simp; done) | (simp [*]; done)), (by first | rfl | (simp; done) | (simp [*]; done)), H', ⟨by have := HK1.out; omega⟩, ⟨by repeat (first | (with_reducible first | exact HB.out | apply below_alloc | apply pw_below_drewN | apply below_drew1) | exact HB.out)⟩⟩
          · rw [if_neg c6] at H
            exact absurd H (by simp)
        · rw [if_neg c3] at H
          exact absurd H (by simp)
      · rw [if_neg c2] at H
        have c2b0 : decide (x4_1 < (a0.size : Int)) = false := decide_eq_false c2
        clear c2
        obtain rfl := Option.some.inj H
        go_wp2
        go_ret
        exact ⟨by first | rfl | (simp [errW_none, errW_some] <;> rfl) | (simp [*, errW_none, errW_some] <;> rfl), by repeat (first | (with_reducible first | exact HB.out | apply below_alloc | apply pw_below_drewN | apply below_drew1) | exact HB.out)⟩


end Go.Proofs.YtidmjepfpjfkoaaDoor.Ke4

namespace Go.Proofs.YtidmjepfpjfkoaaDoor
open Go Go.RowKit
open Go.Proofs.YtidmjepfpjfkoaaDoorW.PrintWords Go.Proofs.YtidmjepfpjfkoaaDoorW.PrintLast Go.Proofs.YtidmjepfpjfkoaaDoorW.PrintMore
set_option maxHeartbeats 2000000
set_option maxRecDepth 20000
set_option linter.unusedVariables false
set_option linter.unusedSimpArgs false

/-- a text of bytes -/
def tk (l : List UInt8) : ByteArray := ⟨l.toArray⟩
theorem tk_size (l : List UInt8) : (tk l).size = l.length := by show l.toArray.size = _; simp
theorem tk_data (l : List UInt8) : (tk l).data.toList = l := rfl
theorem tk_list (l : List UInt8) : (tk l).toList = l := by rw [ByteArray.toList_eq, tk_data]
theorem tk_self (s : ByteArray) : tk s.data.toList = s := by unfold tk; simp
theorem tk_app (a b : List UInt8) : tk a ++ tk b = tk (a ++ b) := by
  apply ByteArray.ext
  simp [tk]
theorem tk_cut (l : List UInt8) (n : Nat) : (tk l).extract 0 n = tk (l.take n) := by
  apply ByteArray.ext
  simp [tk, ByteArray.data_extract]
theorem tk_drop (l : List UInt8) (n : Nat) : (tk l).extract n (tk l).size = tk (l.drop n) := by
  apply ByteArray.ext
  rw [ByteArray.data_extract, tk_size]
  simp [tk]
  rw [List.take_of_length_le (by simp)]
theorem written_f (c : UInt8) (k : Nat) : Ke4.shoalsyncref04_written.f (k + 1) (c.toNat : Int) = some (tk (Km.wr c)) := by
  have h : Ke4.shoalsyncref04_written.f (k + 1) (c.toNat : Int) = Ke4.shoalsyncref04_written.f 1 (c.toNat : Int) := by
    unfold Ke4.shoalsyncref04_written.f
    simp only [Ke4.shoalsyncref04_written.j0]
  rw [h]
  exact Km.all_bytes (p := fun c => Ke4.shoalsyncref04_written.f 1 (c.toNat : Int) = some (tk (Km.wr c))) (by decide +kernel) c
theorem wrap_next {i : Nat} (h : i ≤ 1000000) : wrap64 ((i : Int) + 1) = ((i + 1 : Nat) : Int) := by unfold wrap64; omega
theorem tk_bt (l : List UInt8) (i : Nat) (h : i < l.length) : bt (tk l) (i : Int) = (l[i].toNat : Int) := by
  unfold bt
  have h2 : (i : Int).toNat < (tk l).size := by rw [tk_size]; simpa using h
  rw [dif_pos h2]
  simp [tk]
  rfl
theorem escape_l0 (l : List UInt8) (hl : l.length ≤ 100000) : ∀ (d k i : Nat), i + d = l.length → d + 1 < k → Ke4.shoalsyncref04_Escape.l0 k (tk l) (tk (Km.esc (l.take i))) (i : Int) = some (tk (Km.esc l)) := by
  intro d
  induction d with
  | zero =>
    intro k i hi hk
    obtain ⟨k, rfl⟩ : ∃ j, k = j + 1 := ⟨k - 1, by omega⟩
    unfold Ke4.shoalsyncref04_Escape.l0
    rw [if_neg (by rw [tk_size]; omega), List.take_of_length_le (by omega)]
  | succ d ih =>
    intro k i hi hk
    obtain ⟨k, rfl⟩ : ∃ j, k = j + 1 := ⟨k - 1, by omega⟩
    obtain ⟨j, rfl⟩ : ∃ j, k = j + 1 := ⟨k - 1, by omega⟩
    have hil : i < l.length := by omega
    have hn : Km.esc (l.take (i + 1)) = Km.esc (l.take i) ++ Km.wr l[i] := by
      unfold Km.esc
      rw [List.take_succ_eq_append_getElem hil, List.flatMap_append]
      simp
    have h1 := Km.esc_le (l.take i)
    have h2 := (Km.wr_pos l[i]).2
    have h3 : (l.take i).length ≤ 100000 := by simp; omega
    unfold Ke4.shoalsyncref04_Escape.l0
    rw [if_pos (by rw [tk_size]; omega), if_pos (by omega), tk_bt l i hil, written_f]
    simp only [Option.bind_some]
    rw [if_pos (by rw [tk_size, tk_size]; omega), tk_app, ← hn, wrap_next (by omega)]
    exact ih (j + 1) (i + 1) (by omega) (by omega)
theorem refEscape (s : ByteArray) (hs : s.size ≤ 100000) (w : World) :
    Calls Tryd.prog 35 #[.string s] w fun e w' => e = .returned (.string ⟨(Km.esc s.data.toList).toArray⟩) ∧ Below w.heap.size w w' := by
  have h := escape_l0 s.data.toList hs s.size (s.size + 2) 0 (by show 0 + s.size = s.size; omega) (by omega)
  rw [tk_self] at h
  exact Ke4.shoalsyncref04_Escape.calls (s.size + 2) s _ w h

end Go.Proofs.YtidmjepfpjfkoaaDoor

namespace Go.Proofs.YtidmjepfpjfkoaaDoor
open Go Go.RowKit
set_option maxHeartbeats 4000000
set_option maxRecDepth 20000
set_option linter.unusedVariables false
set_option linter.unusedSimpArgs false

theorem refWritten (c : Nat) (hc : c < 256) (w : World) :
    Calls Tryd.prog 70 #[.int .u8 (c : Int)] w fun e w' => e = .returned (.string (tk (Km.wr (UInt8.ofNat c)))) ∧ Below w.heap.size w w' := by
  have h := written_f (UInt8.ofNat c) 0
  rw [show (UInt8.ofNat c).toNat = c by rw [UInt8.toNat_ofNat']; omega] at h
  exact Ke4.shoalsyncref04_written.calls 1 c _ w h
theorem wr_prefix {l : List UInt8} {c : UInt8} (h : l.take (Km.wr c).length = Km.wr c) : ∃ n, Km.hd l = some (c, n) := by
  have e : l = Km.wr c ++ l.drop (Km.wr c).length := by
    conv => lhs; rw [← List.take_append_drop (Km.wr c).length l]
    rw [h]
  rw [e]
  exact ⟨_, Km.hd_wr c _⟩

theorem refUnescape (s : ByteArray) (hs : s.size ≤ 100000) (w : World) :
    Calls Tryd.prog 28 #[.string s] w fun e w' => e = .returned (.tuple #[.string ⟨(Km.unS s.data.toList).toArray⟩, .int .i64 (Km.unE s.data.toList : Nat)]) ∧ Below w.heap.size w w' := by
  obtain ⟨l, hl⟩ : ∃ l, l = s.data.toList := ⟨_, rfl⟩
  have hll : l.length = s.size := by rw [hl]; rfl
  have hsl : s = tk l := by rw [hl, tk_self]
  have hbad : Km.un l = none → Km.unS l = [] ∧ Km.unE l = 2 := fun h => ⟨by unfold Km.unS; rw [h]; rfl, by unfold Km.unE; rw [if_pos h]⟩
  have hgood : ∀ m, Km.un l = some m → Km.unS l = m ∧ Km.unE l = 0 := fun m h => ⟨by unfold Km.unS; rw [h]; rfl, by unfold Km.unE; rw [if_neg (by rw [h]; simp)]⟩
  rw [← hl, hsl]
  obtain ⟨S, hS⟩ : ∃ S : ByteArray, S = ⟨(Km.unS l).toArray⟩ := ⟨_, rfl⟩
  obtain ⟨E, hE⟩ : ∃ E, E = Km.unE l := ⟨_, rfl⟩
  rw [← hS, ← hE]
  rw [← hll] at hs
  clear hsl hl hll
  obtain ⟨s0, hs0⟩ : ∃ s0, s0 = tk l := ⟨_, rfl⟩
  rw [← hs0]
  have Hhbad := Lib.hid hbad
  have Hhgood := Lib.hid hgood
  have HhS := Lib.hid hS
  have HhE := Lib.hid hE
  have Hhs0 := Lib.hid hs0
  clear hbad hgood hS hE hs0
  go_enter Tryd.func28, Tryd.ntmps28
  go_wp2_with fail
  go_loopw [0, 4] (fun u v wr => ∃ (r m : List UInt8) (x y : ByteArray), u = .string x ∧ v = .string y ∧ Hid (x = tk r) ∧ Hid (y = tk m) ∧ Hid (Km.un l = (Km.un r).map (m ++ ·)) ∧ Hid (m.length + r.length ≤ 100000) ∧ Hid (Below w.heap.size w wr)) (fun u _ _ => match u with | .string x => x.size | _ => 0)
  case atStart =>
    refine ⟨l, [], s0, ⟨#[]⟩, rfl, rfl, Hhs0.out, rfl, ?_, ?_, Below.refl _ _⟩
    · show Km.un l = (Km.un l).map ([] ++ ·)
      cases Km.un l <;> rfl
    · show _ ≤ _; simp; omega
  case round =>
    obtain ⟨r, m, x, y, rfl, rfl, HX, HY, HU, HL, HW⟩ := hrel
    have hxs : x.size = r.length := by rw [HX.out, tk_size]
    by_cases hr : r = []
    · have h0 : ¬ ((0 : Int) < (x.size : Int)) := by rw [hxs, hr]; simp
      have h1 : Km.un l = some m := by rw [HU.out, hr, Km.un_nil]; simp
      obtain ⟨h2, h3⟩ := Hhgood.out m h1
      have hSm : S = y := by rw [HhS.out, h2, HY.out]; rfl
      have hE0 : E = 0 := by rw [HhE.out, h3]
      have HhSm := Lib.hid hSm
      have HhE0 := Lib.hid hE0
      clear hSm hE0
      clear hr h1 h2 h3 hxs
      go_wp2_with fail
      refine bodyPost_ret (results_tmp2 rfl _ _ _) rfl ?_
      exact ⟨by rw [HhSm.out, HhE0.out]; rfl, HW.out⟩
    · have h0 : (0 : Int) < (x.size : Int) := by have := List.length_pos_iff.2 hr; omega
      have h0n : 0 < x.size := by omega
      have hbadN : Km.hd r = none → S = ⟨#[]⟩ ∧ E = 2 := fun h => by
        have h1 : Km.un l = none := by
          rw [HU.out]
          match r, hr, h with
          | c :: q, _, h => rw [Km.un_none h]; rfl
        obtain ⟨h2, h3⟩ := Hhbad.out h1
        exact ⟨by rw [HhS.out, h2], by rw [HhE.out, h3]⟩
      have hws := HW.out.size
      have HhbadN := Lib.hid hbadN
      have Hhxs := Lib.hid hxs
      clear hbadN hxs
      go_upto_block 2 with fail
      go_cut [0, 4, 5] (fun u v f wx => ∃ (x2 y2 : ByteArray) (b : Bool), u = .string x2 ∧ v = .string y2 ∧ f = .bool b ∧ Hid (if b then ∃ c k, Km.hd r = some (c, k) ∧ x2 = tk (r.drop k) ∧ y2 = tk (m ++ [c]) else Km.hd r = none) ∧ Hid (Below w.heap.size w wx))
      case first =>
        go_wp2_with fail
        go_loopw [0, 4, 5, 6] (fun u v f iv wx => ∃ (x2 y2 : ByteArray) (b : Bool) (c : Nat), u = .string x2 ∧ v = .string y2 ∧ f = .bool b ∧ iv = .int .i64 (c : Int) ∧ c ≤ 256 ∧ Hid (if b then ∃ c k, Km.hd r = some (c, k) ∧ x2 = tk (r.drop k) ∧ y2 = tk (m ++ [c]) else x = x2 ∧ y = y2 ∧ ∀ a n, a < c → Km.hd r ≠ some (UInt8.ofNat a, n)) ∧ Hid (Below w.heap.size w wx)) (fun _ _ _ iv _ => 256 - (intOf iv).toNat)
        case atStart => exact ⟨x, y, false, 0, rfl, rfl, rfl, rfl, by omega, ⟨rfl, rfl, fun a n h => absurd h (by omega)⟩, HW⟩
        case round =>
          obtain ⟨x2, y2, b, c, rfl, rfl, rfl, rfl, hc, HB, HW2⟩ := hrel
          have hc0 : (0 : Int) ≤ c := by omega
          cases b with
          | true =>
            have hB2 : ∃ c k, Km.hd r = some (c, k) ∧ x2 = tk (r.drop k) ∧ y2 = tk (m ++ [c]) := by have := HB.out; simpa using this
            have HB2 := Lib.hid hB2
            clear hB2
            have HB3 : Hid (if true then ∃ c k, Km.hd r = some (c, k) ∧ x2 = tk (r.drop k) ∧ y2 = tk (m ++ [c]) else Km.hd r = none) := by show ite _ _ _; rw [if_pos rfl]; exact HB2.out
            by_cases hc6 : (c : Int) < 256
            · go_wp2_with fail
              go_meet
              case rel => exact ⟨x2, y2, true, rfl, rfl, rfl, HB3, HW2⟩
            · go_wp2_with fail
              go_meet
              case rel => exact ⟨x2, y2, true, rfl, rfl, rfl, HB3, HW2⟩
          | false =>
            have hB2 : x = x2 ∧ y = y2 ∧ ∀ a n, a < c → Km.hd r ≠ some (UInt8.ofNat a, n) := by have := HB.out; simpa using this
            obtain ⟨rfl, rfl, hno⟩ := hB2
            clear HB
            by_cases hc6 : (c : Int) < 256
            · have hw := refWritten c (by omega) wr
              have hmod : (c : Int) % 256 = (c : Int) := by omega
              obtain ⟨W, hW⟩ : ∃ W, W = Km.wr (UInt8.ofNat c) := ⟨_, rfl⟩
              rw [← hW] at hw
              have hpre : r.take W.length = W → Km.hd r = some (UInt8.ofNat c, W.length) := fun h => by
                rw [hW] at h ⊢
                have e : r = Km.wr (UInt8.ofNat c) ++ r.drop (Km.wr (UInt8.ofNat c)).length := by
                  conv => lhs; rw [← List.take_append_drop (Km.wr (UInt8.ofNat c)).length r]
                  rw [h]
                rw [e]
                exact Km.hd_wr _ _
              have hnot : r.take W.length ≠ W → ∀ a n, a < c + 1 → Km.hd r ≠ some (UInt8.ofNat a, n) := fun h a n ha hh => by
                rcases Nat.lt_or_ge a c with h3 | h3
                · exact hno a n h3 hh
                · obtain rfl : a = c := by omega
                  obtain ⟨q, e, hk⟩ := Km.hd_is hh
                  apply h
                  rw [hW, e]
                  simp
              obtain ⟨t, ht⟩ : ∃ t, t = tk W := ⟨_, rfl⟩
              rw [← ht] at hw
              have hts : t.size = W.length := by rw [ht, tk_size]
              have hcut : (x.extract 0 t.size).toList = r.take W.length := by rw [hts, HX.out, tk_cut, tk_list]
              have htl : t.toList = W := by rw [ht, tk_list]
              have hWl : W.length ≤ 3 := by rw [hW]; exact (Km.wr_pos _).2
              have Hhw := Lib.hid hw
              have Hhpre := Lib.hid hpre
              have Hhnot := Lib.hid hnot
              have HhW := Lib.hid hW
              have Hht := Lib.hid ht
              have Hhcut := Lib.hid hcut
              have Hhtl := Lib.hid htl
              have Hhts := Lib.hid hts
              have Hhno := Lib.hid hno
              have HhWl := Lib.hid hWl
              clear hw hpre hnot hW ht hcut htl hts hno hWl
              go_wp2_with fail
              refine Hhw.out.mono ?_
              rintro e w2 ⟨rfl, hb2⟩
              have HW3 : Hid (Below w.heap.size w w2) := HW2.out.trans (hb2.mono HW2.out.size)
              clear hb2
              by_cases hle : (t.size : Int) ≤ x.size
              · by_cases heq : r.take W.length = W
                · have hq : ((x.extract 0 t.size).toList == t.toList) = true := by rw [Hhcut.out, Hhtl.out, heq, beq_self_eq_true]
                  have hhit := Hhpre.out heq
                  have HBt : Hid (∃ d k, Km.hd r = some (d, k) ∧ x.extract t.size x.size = tk (r.drop k) ∧ y ++ tk [UInt8.ofNat c] = tk (m ++ [d])) := by
                    refine ⟨_, _, hhit, ?_, ?_⟩
                    · rw [HX.out, Hhts.out, tk_drop]
                    · rw [HY.out, tk_app]
                  have hys0 : y.size = m.length := by rw [HY.out, tk_size]
                  have hys : (y.size : Int) ≤ 100000 := by have h1 := HL.out; omega
                  clear heq hhit hys0
                  go_wp2_with (refine kl_string rfl 107 9 5 _ rfl rfl rfl rfl w2.heap.size 0 1 1 rfl [UInt8.ofNat c] rfl (by
                      rintro (_ | j) u hu
                      · cases hu
                        have e : ((UInt8.ofNat c).toNat : Int) = c := by rw [UInt8.toNat_ofNat']; omega
                        rw [e]
                        go_simp
                      · cases hu) ?_)
                  exact ⟨⟨x.extract t.size x.size, y ++ tk [UInt8.ofNat c], true, c + 1, rfl, rfl, rfl, by go_num, by omega, by show ite _ _ _; rw [if_pos rfl]; exact HBt.out, Lib.hid (HW3.out.alloc HW3.out.size _)⟩, by simp [intOf]; omega⟩
                · have hq : ((x.extract 0 t.size).toList == t.toList) = false := by rw [Hhcut.out, Hhtl.out]; exact beq_eq_false_iff_ne.2 heq
                  have HBf : Hid (∀ a n, a < c + 1 → Km.hd r ≠ some (UInt8.ofNat a, n)) := Hhnot.out heq
                  clear heq
                  go_wp2_with fail
                  go_roundw
                  case rel => exact ⟨x, y, false, c + 1, rfl, rfl, rfl, by go_num, by omega, by show ite _ _ _; rw [if_neg (by simp)]; exact ⟨rfl, rfl, HBf.out⟩, HW3⟩
                  case measure => simp [intOf]; omega
              · have heq : r.take W.length ≠ W := fun h => by
                  have := congrArg List.length h
                  rw [List.length_take] at this
                  have h1 := Hhts.out
                  have h2 := Hhxs.out
                  omega
                have HBf : Hid (∀ a n, a < c + 1 → Km.hd r ≠ some (UInt8.ofNat a, n)) := Hhnot.out heq
                clear heq
                go_wp2_with fail
                go_roundw
                case rel => exact ⟨x, y, false, c + 1, rfl, rfl, rfl, by go_num, by omega, by show ite _ _ _; rw [if_neg (by simp)]; exact ⟨rfl, rfl, HBf.out⟩, HW3⟩
                case measure => simp [intOf]; omega
            · obtain rfl : c = 256 := by omega
              have HN : Hid (Km.hd r = none) := by
                show _ = _
                cases hh : Km.hd r with
                | none => rfl
                | some p =>
                  obtain ⟨z, k⟩ := p
                  exact absurd (by rw [hh]; simp) (hno z.toNat k z.toNat_lt)
              have HB3 : Hid (if false then ∃ c k, Km.hd r = some (c, k) ∧ x = tk (r.drop k) ∧ y = tk (m ++ [c]) else Km.hd r = none) := by show ite _ _ _; rw [if_neg (by simp)]; exact HN.out
              clear hno
              go_wp2_with fail
              go_meet
              case rel => exact ⟨x, y, false, rfl, rfl, rfl, HB3, HW2⟩
      case rest =>
        obtain ⟨x2, y2, b, rfl, rfl, rfl, HB, HW2⟩ := hcut
        cases b with
        | false =>
          have hB2 : Km.hd r = none := by have := HB.out; simpa using this
          obtain ⟨hS0, hE2⟩ := HhbadN.out hB2
          have HhS0 := Lib.hid hS0
          have HhE2 := Lib.hid hE2
          clear hS0 hE2
          clear HB hB2
          go_wp2_with fail
          refine bodyPost_ret (results_tmp2 rfl _ _ _) rfl ?_
          exact ⟨by rw [HhS0.out, HhE2.out]; rfl, HW2.out⟩
        | true =>
          have hB2 : ∃ c k, Km.hd r = some (c, k) ∧ x2 = tk (r.drop k) ∧ y2 = tk (m ++ [c]) := by have := HB.out; simpa using this
          obtain ⟨d, k, hd, hx2, hy2⟩ := hB2
          clear HB
          have hk : 0 < k ∧ k ≤ r.length := by
            obtain ⟨q, e, hk⟩ := Km.hd_is hd
            have h1 := (Km.wr_pos d).1
            have h2 := congrArg List.length e
            rw [List.length_append] at h2
            omega
          have hlt : x2.size < x.size := by rw [hx2, tk_size, Hhxs.out, List.length_drop]; omega
          have hL2 : (m ++ [d]).length + (r.drop k).length ≤ 100000 := by have := HL.out; rw [List.length_append, List.length_drop]; simp; omega
          have hU2 : Km.un l = (Km.un (r.drop k)).map ((m ++ [d]) ++ ·) := by
            rw [HU.out, Km.un_some hd]
            cases Km.un (r.drop k) <;> simp
          have Hhx2 := Lib.hid hx2
          have Hhy2 := Lib.hid hy2
          have HhL2 := Lib.hid hL2
          have HhU2 := Lib.hid hU2
          clear hx2 hy2 hL2 hU2
          clear hd hk
          go_wp2_with fail
          go_roundw
          case rel => exact ⟨r.drop k, m ++ [d], x2, y2, rfl, rfl, Hhx2, Hhy2, HhU2, HhL2, HW2⟩
          case measure => exact hlt
end Go.Proofs.YtidmjepfpjfkoaaDoor

namespace Go.Proofs.YtidmjepfpjfkoaaDoor
open Go Go.RowKit
set_option maxHeartbeats 4000000
set_option maxRecDepth 20000
set_option linter.unusedVariables false
set_option linter.unusedSimpArgs false

theorem keyMade (s b : ByteArray) (hs : s.size ≤ 30000) (hb : b.size ≤ 1) (w : World) (hG : Gl w) :
    Calls Tryd.prog 71 #[.string s, .string b] w fun e w' => e = .returned (.tuple #[.string (tk (Km.madeS s.data.toList b.data.toList)), .int .i64 (Km.madeE s.data.toList b.data.toList : Nat)]) ∧ Below w.heap.size w w' := by
  have hR := pathRight s (by omega) w hG
  have hE := keyEscape s (by omega)
  obtain ⟨r, hr⟩ : ∃ r, r = Pm.right s.data.toList := ⟨_, rfl⟩
  obtain ⟨t, ht⟩ : ∃ t, t = tk (Km.esc s.data.toList) := ⟨_, rfl⟩
  obtain ⟨S, hS⟩ : ∃ S, S = tk (Km.madeS s.data.toList b.data.toList) := ⟨_, rfl⟩
  obtain ⟨E, hEE⟩ : ∃ E, E = Km.madeE s.data.toList b.data.toList := ⟨_, rfl⟩
  have hts : t.size ≤ 90000 := by
    rw [ht, tk_size]
    have := Km.esc_len s.data.toList
    have h2 : s.data.toList.length = s.size := rfl
    omega
  have htb : tk (Km.esc s.data.toList ++ b.data.toList) = t ++ b := by rw [ht, ← tk_app, tk_self]
  have hln : (Km.esc s.data.toList ++ b.data.toList).length = (t ++ b).size := by rw [← htb, tk_size]
  have h1 : r ≠ 0 → S = tk [] ∧ E = r := fun h => by
    have e : Km.madeE s.data.toList b.data.toList = r := by unfold Km.madeE; rw [← hr, if_pos h]
    exact ⟨by rw [hS]; unfold Km.madeS; rw [e, if_neg h], by rw [hEE, e]⟩
  have h2 : r = 0 → 128 < (t ++ b).size → S = tk [] ∧ E = 4 := fun h h5 => by
    have e : Km.madeE s.data.toList b.data.toList = 4 := by unfold Km.madeE; rw [← hr, if_neg (by omega), if_pos (by omega)]
    exact ⟨by rw [hS]; unfold Km.madeS; rw [e, if_neg (by omega)], by rw [hEE, e]⟩
  have h3 : r = 0 → ¬ 128 < (t ++ b).size → S = t ++ b ∧ E = 0 := fun h h5 => by
    have e : Km.madeE s.data.toList b.data.toList = 0 := by unfold Km.madeE; rw [← hr, if_neg (by omega), if_neg (by omega)]
    exact ⟨by rw [hS]; unfold Km.madeS; rw [e, if_pos rfl, htb], by rw [hEE, e]⟩
  rw [← hS, ← hEE]
  rw [show (⟨(Km.esc s.data.toList).toArray⟩ : ByteArray) = t from ht.symm] at hE
  rw [← hr] at hR
  have htI : (t.size : Int) ≤ 90000 := by omega
  have hbI : (b.size : Int) ≤ 1 := by omega
  clear ht hS hEE hr htb hln hs hb hts
  have HhR := Lib.hid hR
  have HhE := Lib.hid hE
  have Hh1 := Lib.hid h1
  have Hh2 := Lib.hid h2
  have Hh3 := Lib.hid h3
  clear hR hE h1 h2 h3
  go_enter Tryd.func71, Tryd.ntmps71
  go_wp2_with fail
  refine HhR.out.mono ?_
  rintro e w2 ⟨rfl, hb2⟩
  by_cases hr : r = 0
  · have hr0 : ((r : Int) == 0) = true := by rw [hr]; rfl
    have H2 := Lib.hid (Hh2.out hr)
    have H3 := Lib.hid (Hh3.out hr)
    clear hr
    go_wp2_with fail
    refine (HhE.out w2).mono ?_
    rintro e w3 ⟨rfl, hb3⟩
    have hB := hb2.trans (hb3.mono hb2.size)
    by_cases h : 128 < (t ++ b).size
    · obtain ⟨e1, e2⟩ := H2.out h
      have hI : (128 : Int) < (t.size : Int) + b.size := by rw [ByteArray.size_append] at h; omega
      have He1 := Lib.hid e1
      have He2 := Lib.hid e2
      clear e1 e2
      clear h
      go_wp2_with fail
      refine bodyPost_ret (results_tmp2 rfl _ _ _) rfl ?_
      exact ⟨by rw [He1.out, He2.out]; rfl, hB⟩
    · obtain ⟨e1, e2⟩ := H3.out h
      have hI : ¬ (128 : Int) < (t.size : Int) + b.size := by rw [ByteArray.size_append] at h; omega
      have He1 := Lib.hid e1
      have He2 := Lib.hid e2
      clear e1 e2
      clear h
      go_wp2_with fail
      refine bodyPost_ret (results_tmp2 rfl _ _ _) rfl ?_
      exact ⟨by rw [He1.out, He2.out]; rfl, hB⟩
  · have hr0 : ((r : Int) == 0) = false := by rw [beq_eq_false_iff_ne]; omega
    obtain ⟨e1, e2⟩ := Hh1.out hr
    clear hr
    have He1 := Lib.hid e1
    have He2 := Lib.hid e2
    clear e1 e2
    go_wp2_with fail
    refine bodyPost_ret (results_tmp2 rfl _ _ _) rfl ?_
    exact ⟨by rw [He1.out, He2.out]; rfl, hb2⟩
theorem keyOf (s : ByteArray) (hs : s.size ≤ 30000) (w : World) (hG : Gl w) :
    Calls Tryd.prog 29 #[.string s] w fun e w' => e = .returned (.tuple #[.string (tk (Km.madeS s.data.toList [])), .int .i64 (Km.madeE s.data.toList [] : Nat)]) ∧ Below w.heap.size w w' := by
  have h := keyMade s ⟨#[]⟩ hs (by decide) w hG
  have Hh := Lib.hid h
  clear h
  go_enter Tryd.func29, Tryd.ntmps29
  go_wp2_with fail
  refine Hh.out.mono ?_
  rintro e w2 ⟨rfl, hb2⟩
  go_wp2_with fail
  refine bodyPost_ret (results_tmp2 rfl _ _ _) rfl ?_
  exact ⟨rfl, hb2⟩
theorem keyMarker (s : ByteArray) (hs : s.size ≤ 30000) (w : World) (hG : Gl w) :
    Calls Tryd.prog 31 #[.string s] w fun e w' => e = .returned (.tuple #[.string (tk (Km.madeS s.data.toList [47])), .int .i64 (Km.madeE s.data.toList [47] : Nat)]) ∧ Below w.heap.size w w' := by
  have h := keyMade s ⟨#[47]⟩ hs (by decide) w hG
  have Hh := Lib.hid h
  clear h
  go_enter Tryd.func31, Tryd.ntmps31
  go_wp2_with fail
  refine Hh.out.mono ?_
  rintro e w2 ⟨rfl, hb2⟩
  go_wp2_with fail
  refine bodyPost_ret (results_tmp2 rfl _ _ _) rfl ?_
  exact ⟨rfl, hb2⟩
theorem refMade (s : ByteArray) (dir : Bool) (hs : s.size ≤ 20000) (w : World) :
    Calls Tryd.prog 30 #[.string s, .bool dir] w fun e w' => e = .returned (.tuple #[.string (tk (Km.madeS s.data.toList (if dir then [47] else []))), .int .i64 (Km.madeE s.data.toList (if dir then [47] else []) : Nat)]) ∧ Below w.heap.size w w' := by
  obtain ⟨b, hbd⟩ : ∃ b : ByteArray, b = tk (if dir then [47] else []) := ⟨_, rfl⟩
  have hbl : b.data.toList = if dir then [47] else [] := by rw [hbd]; rfl
  rw [← hbl]
  have hR := refRight s (by omega) w
  have hE := refEscape s (by omega)
  obtain ⟨r, hr⟩ : ∃ r, r = Pm.right s.data.toList := ⟨_, rfl⟩
  obtain ⟨t, ht⟩ : ∃ t, t = tk (Km.esc s.data.toList) := ⟨_, rfl⟩
  obtain ⟨S, hS⟩ : ∃ S, S = tk (Km.madeS s.data.toList b.data.toList) := ⟨_, rfl⟩
  obtain ⟨E, hEE⟩ : ∃ E, E = Km.madeE s.data.toList b.data.toList := ⟨_, rfl⟩
  have hts : t.size ≤ 90000 := by
    rw [ht, tk_size]
    have := Km.esc_len s.data.toList
    have h2 : s.data.toList.length = s.size := rfl
    omega
  have htb : tk (Km.esc s.data.toList ++ b.data.toList) = t ++ b := by rw [ht, ← tk_app, tk_self]
  have hln : (Km.esc s.data.toList ++ b.data.toList).length = (t ++ b).size := by rw [← htb, tk_size]
  have h1 : r ≠ 0 → S = tk [] ∧ E = r := fun h => by
    have e : Km.madeE s.data.toList b.data.toList = r := by unfold Km.madeE; rw [← hr, if_pos h]
    exact ⟨by rw [hS]; unfold Km.madeS; rw [e, if_neg h], by rw [hEE, e]⟩
  have h2 : r = 0 → 128 < (t ++ b).size → S = tk [] ∧ E = 4 := fun h h5 => by
    have e : Km.madeE s.data.toList b.data.toList = 4 := by unfold Km.madeE; rw [← hr, if_neg (by omega), if_pos (by omega)]
    exact ⟨by rw [hS]; unfold Km.madeS; rw [e, if_neg (by omega)], by rw [hEE, e]⟩
  have h3 : r = 0 → ¬ 128 < (t ++ b).size → S = t ++ b ∧ E = 0 := fun h h5 => by
    have e : Km.madeE s.data.toList b.data.toList = 0 := by unfold Km.madeE; rw [← hr, if_neg (by omega), if_neg (by omega)]
    exact ⟨by rw [hS]; unfold Km.madeS; rw [e, if_pos rfl, htb], by rw [hEE, e]⟩
  rw [← hS, ← hEE]
  rw [show (⟨(Km.esc s.data.toList).toArray⟩ : ByteArray) = t from ht.symm] at hE
  rw [← hr] at hR
  have htI : (t.size : Int) ≤ 90000 := by omega
  clear ht hS hEE hr htb hln hs hbl hts
  have HhR := Lib.hid hR
  have HhE := Lib.hid hE
  have Hh1 := Lib.hid h1
  have Hh2 := Lib.hid h2
  have Hh3 := Lib.hid h3
  clear hR hE h1 h2 h3
  cases dir with
  | true =>
    obtain rfl : b = ⟨#[47]⟩ := hbd
    go_enter Tryd.func30, Tryd.ntmps30
    go_wp2_with fail
    refine HhR.out.mono ?_
    rintro e w2 ⟨rfl, hb2⟩
    by_cases hr : r = 0
    · have hr0 : ((r : Int) == 0) = true := by rw [hr]; rfl
      have H2 := Lib.hid (Hh2.out hr)
      have H3 := Lib.hid (Hh3.out hr)
      clear hr
      go_wp2_with fail
      refine (HhE.out w2).mono ?_
      rintro e w3 ⟨rfl, hb3⟩
      have hB := hb2.trans (hb3.mono hb2.size)
      by_cases h : 128 < (t ++ ⟨#[47]⟩ : ByteArray).size
      · obtain ⟨e1, e2⟩ := H2.out h
        have hI : (128 : Int) < (t.size : Int) + 1 := by rw [ByteArray.size_append] at h; change 128 < t.size + 1 at h; omega
        have He1 := Lib.hid e1
        have He2 := Lib.hid e2
        clear e1 e2
        clear h
        go_wp2_with fail
        refine bodyPost_ret (results_tmp2 rfl _ _ _) rfl ?_
        exact ⟨by rw [He1.out, He2.out]; rfl, hB⟩
      · obtain ⟨e1, e2⟩ := H3.out h
        have hI : ¬ (128 : Int) < (t.size : Int) + 1 := by rw [ByteArray.size_append] at h; change ¬ 128 < t.size + 1 at h; omega
        have He1 := Lib.hid e1
        have He2 := Lib.hid e2
        clear e1 e2
        clear h
        go_wp2_with fail
        refine bodyPost_ret (results_tmp2 rfl _ _ _) rfl ?_
        exact ⟨by rw [He1.out, He2.out]; rfl, hB⟩
    · have hr0 : ((r : Int) == 0) = false := by rw [beq_eq_false_iff_ne]; omega
      obtain ⟨e1, e2⟩ := Hh1.out hr
      clear hr
      have He1 := Lib.hid e1
      have He2 := Lib.hid e2
      clear e1 e2
      go_wp2_with fail
      refine bodyPost_ret (results_tmp2 rfl _ _ _) rfl ?_
      exact ⟨by rw [He1.out, He2.out]; rfl, hb2⟩
  | false =>
    obtain rfl : b = ⟨#[]⟩ := hbd
    have hte : t ++ ⟨#[]⟩ = t := by show t ++ ByteArray.empty = t; simp
    rw [hte] at Hh2 Hh3
    clear hte
    go_enter Tryd.func30, Tryd.ntmps30
    go_wp2_with fail
    refine HhR.out.mono ?_
    rintro e w2 ⟨rfl, hb2⟩
    by_cases hr : r = 0
    · have hr0 : ((r : Int) == 0) = true := by rw [hr]; rfl
      have H2 := Lib.hid (Hh2.out hr)
      have H3 := Lib.hid (Hh3.out hr)
      clear hr
      go_wp2_with fail
      refine (HhE.out w2).mono ?_
      rintro e w3 ⟨rfl, hb3⟩
      have hB := hb2.trans (hb3.mono hb2.size)
      by_cases h : 128 < t.size
      · obtain ⟨e1, e2⟩ := H2.out h
        have hI : (128 : Int) < (t.size : Int) := by omega
        have He1 := Lib.hid e1
        have He2 := Lib.hid e2
        clear e1 e2
        clear h
        go_wp2_with fail
        refine bodyPost_ret (results_tmp2 rfl _ _ _) rfl ?_
        exact ⟨by rw [He1.out, He2.out]; rfl, hB⟩
      · obtain ⟨e1, e2⟩ := H3.out h
        have hI : ¬ (128 : Int) < (t.size : Int) := by omega
        have He1 := Lib.hid e1
        have He2 := Lib.hid e2
        clear e1 e2
        clear h
        go_wp2_with fail
        refine bodyPost_ret (results_tmp2 rfl _ _ _) rfl ?_
        exact ⟨by rw [He1.out, He2.out]; rfl, hB⟩
    · have hr0 : ((r : Int) == 0) = false := by rw [beq_eq_false_iff_ne]; omega
      obtain ⟨e1, e2⟩ := Hh1.out hr
      clear hr
      have He1 := Lib.hid e1
      have He2 := Lib.hid e2
      clear e1 e2
      go_wp2_with fail
      refine bodyPost_ret (results_tmp2 rfl _ _ _) rfl ?_
      exact ⟨by rw [He1.out, He2.out]; rfl, hb2⟩
end Go.Proofs.YtidmjepfpjfkoaaDoor

namespace Go.Proofs.YtidmjepfpjfkoaaDoor
open Go Go.RowKit
set_option maxHeartbeats 4000000
set_option maxRecDepth 20000
set_option linter.unusedVariables false
set_option linter.unusedSimpArgs false

theorem results_row_tmpK {P : Program} {fn : Func} {p u : Tmp} {ty : TypeId} (h : fn.results = #[.cell p ty, .tmp u]) (tmps : Array Value) (w : World) (g : Nat) (t : TypeId) (cs : Array Value) (fr : Nat × Nat) (d : TypeDesc)
    (hp : tmps.getD p undef = .pointer (some ⟨g, 0, none⟩)) (hg : w.heap[g]? = some (.cells cs t fr))
    (hu : P.underlying ty = some d) (hd : (match d with | .struct _ | .array _ _ => true | _ => false) = true) (hi : (P.info? ty).map (·.size) = some cs.size) :
    (results fn tmps).run P w = .ok (.tuple #[.agg cs, tmps.getD u undef]) w := by
  have hp' : tmps[p]?.getD undef = .pointer (some ⟨g, 0, none⟩) := by simpa using hp
  simp [results, h, hp', asAddr, run_loadVar_row w g t ty cs fr d hg hu hd hi]

theorem n65s : (Tryd.prog.info? 65).map (·.size) = some 2 := by kernel_rfl
theorem keyParse (s : ByteArray) (hs : s.size ≤ 100000) (w : World) (hG : Gl w) :
    Calls Tryd.prog 32 #[.string s] w fun e w' => e = .returned (.tuple #[.agg #[.string (tk (Km.parS s.data.toList)), .bool (Km.parD s.data.toList)], .int .i64 (Km.parE s.data.toList : Nat)]) ∧ Below w.heap.size w w' := by
  obtain ⟨l, hl⟩ : ∃ l, l = s.data.toList := ⟨_, rfl⟩
  have hll : l.length = s.size := by rw [hl]; rfl
  have hcs := Tryd.strings_CutSuffix s ⟨#[47]⟩
  rw [← hl] at hcs ⊢
  obtain ⟨R, hR⟩ : ∃ R, R = tk (Km.rst l) := ⟨_, rfl⟩
  obtain ⟨D, hD⟩ : ∃ D, D = Km.sfx l := ⟨_, rfl⟩
  replace hcs : ∀ w, Calls Tryd.prog 72 #[.string s, .string ⟨#[47]⟩] w fun e w' => e = .returned (.tuple #[.string R, .bool D]) ∧ w' = w := fun w => by rw [hR, hD]; exact hcs w (by omega)
  have hRs : R.size ≤ 100000 := by have := Km.rst_le l; rw [hR, tk_size]; omega
  have hU := keyUnescape R hRs
  rw [show R.data.toList = Km.rst l by rw [hR]; rfl] at hU
  obtain ⟨x, hx⟩ : ∃ x, x = tk (Km.unS (Km.rst l)) := ⟨_, rfl⟩
  obtain ⟨k, hk⟩ : ∃ k, k = Km.unE (Km.rst l) := ⟨_, rfl⟩
  have hxs : x.size ≤ 100000 := by
    have := Km.unS_le (Km.rst l)
    have := Km.rst_le l
    rw [hx, tk_size]; omega
  have hP := fun w2 (h : Below w.heap.size w w2) => pathRight x hxs w2 (hG.below h hG.lt)
  rw [show x.data.toList = Km.unS (Km.rst l) by rw [hx]; rfl] at hP
  obtain ⟨r, hr⟩ : ∃ r, r = Pm.right (Km.unS (Km.rst l)) := ⟨_, rfl⟩
  rw [show (⟨(Km.unS (Km.rst l)).toArray⟩ : ByteArray) = x from hx.symm, ← hk] at hU
  rw [← hr] at hP
  obtain ⟨S, hS⟩ : ∃ S, S = tk (Km.parS l) := ⟨_, rfl⟩
  obtain ⟨F, hF⟩ : ∃ F, F = Km.parD l := ⟨_, rfl⟩
  obtain ⟨E, hE⟩ : ∃ E, E = Km.parE l := ⟨_, rfl⟩
  have hno : Km.parE l ≠ 0 → S = ⟨#[]⟩ ∧ F = false := fun h => ⟨by rw [hS]; unfold Km.parS; rw [if_neg h]; rfl, by rw [hF]; unfold Km.parD; rw [if_neg h]⟩
  have h1 : 128 < s.size → (S = ⟨#[]⟩ ∧ F = false) ∧ E = 4 := fun h => by
    have e : Km.parE l = 4 := by unfold Km.parE; rw [if_pos (by omega)]
    exact ⟨hno (by omega), by rw [hE, e]⟩
  have h2 : ¬ 128 < s.size → k ≠ 0 → (S = ⟨#[]⟩ ∧ F = false) ∧ E = 2 := fun h h' => by
    have e : Km.parE l = 2 := by unfold Km.parE; rw [if_neg (by omega), if_pos (by rw [← hk]; exact h')]
    exact ⟨hno (by omega), by rw [hE, e]⟩
  have h3 : ¬ 128 < s.size → k = 0 → r ≠ 0 → (S = ⟨#[]⟩ ∧ F = false) ∧ E = 2 := fun h h' h'' => by
    have e : Km.parE l = 2 := by unfold Km.parE; rw [if_neg (by omega), if_neg (by rw [← hk]; omega), if_pos (by rw [← hr]; exact h'')]
    exact ⟨hno (by omega), by rw [hE, e]⟩
  have h4 : ¬ 128 < s.size → k = 0 → r = 0 → (S = x ∧ F = D) ∧ E = 0 := fun h h' h'' => by
    have e : Km.parE l = 0 := by unfold Km.parE; rw [if_neg (by omega), if_neg (by rw [← hk]; omega), if_neg (by rw [← hr]; omega)]
    exact ⟨⟨by rw [hS]; unfold Km.parS; rw [if_pos e, hx], by rw [hF]; unfold Km.parD; rw [if_pos e, hD]⟩, by rw [hE, e]⟩
  rw [← hS, ← hF, ← hE]
  have hgl := hG.lt
  clear hS hF hE hno hr hk hx hR hD hl hll hRs hxs hG
  have Hhcs := Lib.hid hcs
  have HhU := Lib.hid hU
  have HhP := Lib.hid hP
  have Hh1 := Lib.hid h1
  have Hh2 := Lib.hid h2
  have Hh3 := Lib.hid h3
  have Hh4 := Lib.hid h4
  clear hcs hU hP h1 h2 h3 h4
  go_enter Tryd.func32, Tryd.ntmps32
  by_cases h128 : 128 < s.size
  · obtain ⟨⟨e1, e2⟩, e3⟩ := Hh1.out h128
    have hI : (128 : Int) < (s.size : Int) := by omega
    have He1 := Lib.hid e1
    have He2 := Lib.hid e2
    have He3 := Lib.hid e3
    clear e1 e2 e3
    clear h128
    go_wp2_with fail
    refine bodyPost_ret (results_row_tmpK rfl _ _ w.heap.size 65 #[.string ⟨#[]⟩, .bool false] (0, 0) _ rfl (heap_alloc_new _ _) Tryd.underlying65 rfl rfl) rfl ?_
    exact ⟨by rw [He1.out, He2.out, He3.out]; rfl, (Below.refl _ _).alloc (Nat.le_refl _) _⟩
  · have H2 := Lib.hid (Hh2.out h128)
    have H3 := Lib.hid (Hh3.out h128)
    have H4 := Lib.hid (Hh4.out h128)
    have hI : ¬ (128 : Int) < (s.size : Int) := by omega
    clear h128 Hh1 Hh2 Hh3 Hh4
    go_wp2_with fail
    refine (Hhcs.out _).mono ?_
    rintro e w2 ⟨rfl, rfl⟩
    have k1 := (Kn.start w).alloc (.cells #[.string ⟨#[]⟩, .bool false] 65)
    generalize w.alloc (.cells #[.string ⟨#[]⟩, .bool false] 65) = wA at *
    go_wp2_with fail
    refine (HhU.out _).mono ?_
    rintro e w2 ⟨rfl, hb2⟩
    have k2 := k1.call hb2
    by_cases hk : k = 0
    · have hk0 : ((k : Int) == 0) = true := by rw [hk]; rfl
      have hk1 : ((k : Int) != 0) = false := by rw [hk]; rfl
      have H3' := Lib.hid (H3.out hk)
      have H4' := Lib.hid (H4.out hk)
      have hP := HhP.out w2 k2.below
      have HhP := Lib.hid hP
      clear hP
      clear hk H2 H3 H4
      go_wp2_with fail
      refine HhP.out.mono ?_
      rintro e w3 ⟨rfl, hb3⟩
      have k3 := k2.call hb3
      have kg := Lib.hid (k3.get 0 rfl)
      clear hb3 hb2
      by_cases hr : r = 0
      · have hr0 : ((r : Int) == 0) = true := by rw [hr]; rfl
        have hr1 : ((r : Int) != 0) = false := by rw [hr]; rfl
        obtain ⟨⟨e1, e2⟩, e3⟩ := H4'.out hr
        have HRES := Lib.hid (setRow_heap w3 w.heap.size _ #[.string x, .bool D] _ _ (k3.get 0 rfl))
        have HBR := Lib.hid (below_setRow (g := w.heap.size) k3.below (by omega) #[.string x, .bool D])
        have He1 := Lib.hid e1
        have He2 := Lib.hid e2
        have He3 := Lib.hid e3
        clear e1 e2 e3
        clear hr
        clear k1 k2 k3
        go_wp2_with (refine wpList_store_row rfl 65 _ _ rfl w.heap.size #[.string x, .bool D] rfl rfl _ _ kg.out n65s rfl (one2 rfl rfl) ?_)
        refine bodyPost_ret (results_row_tmpK rfl _ _ w.heap.size 65 #[.string x, .bool D] (0, 0) _ rfl HRES.out Tryd.underlying65 rfl rfl) rfl ?_
        exact ⟨by rw [He1.out, He2.out, He3.out]; rfl, HBR.out⟩
      · have hr0 : ((r : Int) == 0) = false := by rw [beq_eq_false_iff_ne]; omega
        have hr1 : ((r : Int) != 0) = true := by rw [bne_iff_ne]; omega
        obtain ⟨⟨e1, e2⟩, e3⟩ := H3'.out hr
        have HRES := Lib.hid (setRow_heap w3 w.heap.size _ #[.string ⟨#[]⟩, .bool false] _ _ (k3.get 0 rfl))
        have HBR := Lib.hid (below_setRow (g := w.heap.size) k3.below (by omega) #[.string ⟨#[]⟩, .bool false])
        have He1 := Lib.hid e1
        have He2 := Lib.hid e2
        have He3 := Lib.hid e3
        clear e1 e2 e3
        clear hr
        clear k1 k2 k3
        go_wp2_with (refine wpList_store_row rfl 65 _ _ rfl w.heap.size #[.string ⟨#[]⟩, .bool false] rfl rfl _ _ kg.out n65s rfl (one2 rfl rfl) ?_)
        refine bodyPost_ret (results_row_tmpK rfl _ _ w.heap.size 65 #[.string ⟨#[]⟩, .bool false] (0, 0) _ rfl HRES.out Tryd.underlying65 rfl rfl) rfl ?_
        exact ⟨by rw [He1.out, He2.out, He3.out]; rfl, HBR.out⟩
    · have hk0 : ((k : Int) == 0) = false := by rw [beq_eq_false_iff_ne]; omega
      have hk1 : ((k : Int) != 0) = true := by rw [bne_iff_ne]; omega
      obtain ⟨⟨e1, e2⟩, e3⟩ := H2.out hk
      have kg := Lib.hid (k2.get 0 rfl)
      have HRES := Lib.hid (setRow_heap w2 w.heap.size _ #[.string ⟨#[]⟩, .bool false] _ _ (k2.get 0 rfl))
      have HBR := Lib.hid (below_setRow (g := w.heap.size) k2.below (by omega) #[.string ⟨#[]⟩, .bool false])
      have He1 := Lib.hid e1
      have He2 := Lib.hid e2
      have He3 := Lib.hid e3
      clear e1 e2 e3
      clear hk
      clear k1 k2
      go_wp2_with (refine wpList_store_row rfl 65 _ _ rfl w.heap.size #[.string ⟨#[]⟩, .bool false] rfl rfl _ _ kg.out n65s rfl (one2 rfl rfl) ?_)
      refine bodyPost_ret (results_row_tmpK rfl _ _ w.heap.size 65 #[.string ⟨#[]⟩, .bool false] (0, 0) _ rfl HRES.out Tryd.underlying65 rfl rfl) rfl ?_
      exact ⟨by rw [He1.out, He2.out, He3.out]; rfl, HBR.out⟩
end Go.Proofs.YtidmjepfpjfkoaaDoor

namespace Go.Proofs.YtidmjepfpjfkoaaDoor
open Go Go.RowKit
set_option maxHeartbeats 4000000
set_option maxRecDepth 20000
set_option linter.unusedVariables false
set_option linter.unusedSimpArgs false

theorem n68s : (Tryd.prog.info? 68).map (·.size) = some 2 := by kernel_rfl
theorem refParse (s : ByteArray) (hs : s.size ≤ 20000) (w : World) :
    Calls Tryd.prog 33 #[.string s] w fun e w' => e = .returned (.tuple #[.agg #[.string (tk (Km.parS s.data.toList)), .bool (Km.parD s.data.toList)], .int .i64 (Km.parE s.data.toList : Nat)]) ∧ Below w.heap.size w w' := by
  obtain ⟨l, hl⟩ : ∃ l, l = s.data.toList := ⟨_, rfl⟩
  have hll : l.length = s.size := by rw [hl]; rfl
  have hidx := fun (i : Nat) (c : UInt8) (h : l[i]? = some c) (w : World) => run_index_str s i c (by rw [← hl]; exact h) w
  rw [← hl]
  obtain ⟨R, hR⟩ : ∃ R, R = tk (Km.rst l) := ⟨_, rfl⟩
  obtain ⟨D, hD⟩ : ∃ D, D = Km.sfx l := ⟨_, rfl⟩
  have hRs : R.size ≤ 20000 := by have := Km.rst_le l; rw [hR, tk_size]; omega
  have hU := refUnescape R (by omega)
  rw [show R.data.toList = Km.rst l by rw [hR]; rfl] at hU
  obtain ⟨x, hx⟩ : ∃ x, x = tk (Km.unS (Km.rst l)) := ⟨_, rfl⟩
  obtain ⟨k, hk⟩ : ∃ k, k = Km.unE (Km.rst l) := ⟨_, rfl⟩
  have hxs : x.size ≤ 20000 := by
    have := Km.unS_le (Km.rst l)
    have := Km.rst_le l
    rw [hx, tk_size]; omega
  have hP := fun w2 => refRight x hxs w2
  rw [show x.data.toList = Km.unS (Km.rst l) by rw [hx]; rfl] at hP
  obtain ⟨r, hr⟩ : ∃ r, r = Pm.right (Km.unS (Km.rst l)) := ⟨_, rfl⟩
  rw [show (⟨(Km.unS (Km.rst l)).toArray⟩ : ByteArray) = x from hx.symm, ← hk] at hU
  rw [← hr] at hP
  obtain ⟨S, hS⟩ : ∃ S, S = tk (Km.parS l) := ⟨_, rfl⟩
  obtain ⟨F, hF⟩ : ∃ F, F = Km.parD l := ⟨_, rfl⟩
  obtain ⟨E, hE⟩ : ∃ E, E = Km.parE l := ⟨_, rfl⟩
  have hno : Km.parE l ≠ 0 → S = ⟨#[]⟩ ∧ F = false := fun h => ⟨by rw [hS]; unfold Km.parS; rw [if_neg h]; rfl, by rw [hF]; unfold Km.parD; rw [if_neg h]⟩
  have h1 : 128 < s.size → (S = ⟨#[]⟩ ∧ F = false) ∧ E = 4 := fun h => by
    have e : Km.parE l = 4 := by unfold Km.parE; rw [if_pos (by omega)]
    exact ⟨hno (by omega), by rw [hE, e]⟩
  have h2 : ¬ 128 < s.size → k ≠ 0 → (S = ⟨#[]⟩ ∧ F = false) ∧ E = 2 := fun h h' => by
    have e : Km.parE l = 2 := by unfold Km.parE; rw [if_neg (by omega), if_pos (by rw [← hk]; exact h')]
    exact ⟨hno (by omega), by rw [hE, e]⟩
  have h3 : ¬ 128 < s.size → k = 0 → r ≠ 0 → (S = ⟨#[]⟩ ∧ F = false) ∧ E = 2 := fun h h' h'' => by
    have e : Km.parE l = 2 := by unfold Km.parE; rw [if_neg (by omega), if_neg (by rw [← hk]; omega), if_pos (by rw [← hr]; exact h'')]
    exact ⟨hno (by omega), by rw [hE, e]⟩
  have h4 : ¬ 128 < s.size → k = 0 → r = 0 → (S = x ∧ F = D) ∧ E = 0 := fun h h' h'' => by
    have e : Km.parE l = 0 := by unfold Km.parE; rw [if_neg (by omega), if_neg (by rw [← hk]; omega), if_neg (by rw [← hr]; omega)]
    exact ⟨⟨by rw [hS]; unfold Km.parS; rw [if_pos e, hx], by rw [hF]; unfold Km.parD; rw [if_pos e, hD]⟩, by rw [hE, e]⟩
  have hsf := Km.sfx_get l
  rw [← hD] at hsf
  have hR1 : D = false → R = s := fun h => by
    rw [hR]; unfold Km.rst Lib.trimSuffix
    rw [if_neg (by rw [show Lib.hasSuffix l [47] = Km.sfx l from rfl, ← hD, h]; simp), hl, tk_self]
  have hR2 : D = true → R = s.extract 0 (s.size - 1) := fun h => by
    rw [hR]; unfold Km.rst Lib.trimSuffix
    rw [if_pos (by rw [show Lib.hasSuffix l [47] = Km.sfx l from rfl, ← hD, h]), ← tk_cut, hll, hl, tk_self]
    rfl
  rw [← hS, ← hF, ← hE]
  clear hS hF hE hno hr hk hx hR hD hl hRs hxs
  have hsI : (s.size : Int) ≤ 20000 := by omega
  have HhU := Lib.hid hU
  have HhP := Lib.hid hP
  have Hh1 := Lib.hid h1
  have Hh2 := Lib.hid h2
  have Hh3 := Lib.hid h3
  have Hh4 := Lib.hid h4
  have HhR1 := Lib.hid hR1
  have HhR2 := Lib.hid hR2
  have Hhidx := Lib.hid hidx
  have Hhsf := Lib.hid hsf
  have Hhll := Lib.hid hll
  clear hU hP h1 h2 h3 h4 hR1 hR2 hidx hsf hll
  clear hs
  go_enter Tryd.func33, Tryd.ntmps33
  by_cases h128 : 128 < s.size
  · obtain ⟨⟨e1, e2⟩, e3⟩ := Hh1.out h128
    have hI : (128 : Int) < (s.size : Int) := by omega
    have He1 := Lib.hid e1
    have He2 := Lib.hid e2
    have He3 := Lib.hid e3
    clear e1 e2 e3
    clear h128
    go_wp2_with fail
    refine bodyPost_ret (results_row_tmpK rfl _ _ w.heap.size 68 #[.string ⟨#[]⟩, .bool false] (0, 0) _ rfl (heap_alloc_new _ _) Tryd.underlying68 rfl rfl) rfl ?_
    exact ⟨by rw [He1.out, He2.out, He3.out]; rfl, (Below.refl _ _).alloc (Nat.le_refl _) _⟩
  · have H2 := Lib.hid (Hh2.out h128)
    have H3 := Lib.hid (Hh3.out h128)
    have H4 := Lib.hid (Hh4.out h128)
    have hI : ¬ (128 : Int) < (s.size : Int) := by omega
    clear h128 Hh1 Hh2 Hh3 Hh4
    have kk := ((Kn.start w).alloc (.cells #[.string ⟨#[]⟩, .bool false] 68)).alloc (.cells #[.string ⟨#[]⟩, .bool false] 68)
    rw [size_alloc] at kk
    go_upto_region 4 with fail
    generalize (w.alloc (.cells #[.string ⟨#[]⟩, .bool false] 68)).alloc (.cells #[.string ⟨#[]⟩, .bool false] 68) = wA at *
    have HK := Lib.hid kk
    clear kk
    go_cut [22] (fun v wx => v = .bool D ∧ wx = wA)
    case first =>
      by_cases h0 : 0 < s.size
      · have h0I : (0 : Int) < (s.size : Int) := by omega
        have hlt : s.size - 1 < l.length := by have := Hhll.out; omega
        have hx := Hhidx.out (s.size - 1) _ (List.getElem?_eq_getElem hlt)
        have e : ((s.size - 1 : Nat) : Int) = (s.size : Int) - 1 := by omega
        rw [e] at hx
        have hDb : (((l[s.size - 1]).toNat : Int) == 47) = D := by
          have h5 := Hhsf.out
          have hl1 := Hhll.out
          cases hd : D with
          | true =>
            obtain ⟨_, h6⟩ := h5.1 hd
            rw [hl1, List.getElem?_eq_getElem hlt] at h6
            rw [Option.some.inj h6]; rfl
          | false =>
            rw [beq_eq_false_iff_ne]
            intro h6
            have h7 : l[s.size - 1] = 47 := by
              apply UInt8.toNat_inj.1
              show _ = 47
              omega
            have := h5.2 ⟨by omega, by rw [hl1, List.getElem?_eq_getElem hlt, h7]⟩
            rw [hd] at this; cases this
        generalize ((l[s.size - 1]).toNat : Int) = cc at *
        clear hlt e h0
        go_wp2_with fail
        go_meet
        case rel => exact ⟨rfl, rfl⟩
      · have hD : D = false := by
          cases hd : D with
          | false => rfl
          | true =>
            obtain ⟨h6, _⟩ := Hhsf.out.1 hd
            have := Hhll.out
            omega
        have h0I : ¬ (0 : Int) < (s.size : Int) := by omega
        subst hD
        clear h0
        go_wp2_with fail
        go_meet
        case rel => exact ⟨rfl, rfl⟩
    case rest =>
      obtain ⟨rfl, rfl⟩ := hcut
      go_upto_if 22 with fail
      go_cut [0] (fun v wx => v = .string R ∧ Hid (Kn w.heap.size w [(w.heap.size + 1, .cells #[.string ⟨#[]⟩, .bool D] 68), (w.heap.size, .cells #[.string ⟨#[]⟩, .bool false] 68)] wx))
      case first =>
        cases hD : D with
        | true =>
          have e := HhR2.out hD
          have h0 := (Hhsf.out.1 hD).1
          have h0I : (1 : Int) ≤ (s.size : Int) := by have := Hhll.out; omega
          have hto : ((s.size : Int) - 1).toNat = s.size - 1 := by omega
          subst hD
          have kg := Lib.hid (HK.out.get 0 rfl)
          have kr := Lib.hid (HK.out.row (by omega) (by simp) #[.string ⟨#[]⟩, .bool true])
          have He := Lib.hid e
          clear e
          clear h0
          go_wp2_with (refine kl_set rfl 4 _ _ rfl (w.heap.size + 1) 1 rfl (.bool true) rfl _ _ kg.out szB (Nat.lt_succ_self _) rfl ?_)
          go_meet
          case rel => exact ⟨by rw [He.out], kr⟩
        | false =>
          have e := HhR1.out hD
          subst hD
          have He := Lib.hid e
          clear e
          go_wp2_with fail
          go_meet
          case rel => exact ⟨by rw [He.out], HK⟩
      case rest =>
        obtain ⟨rfl, HK2⟩ := hcut
        clear HK
        go_wp2_with fail
        refine (HhU.out _).mono ?_
        rintro e w2 ⟨rfl, hb2⟩
        have k2 := HK2.out.call hb2
        by_cases hk : k = 0
        · have hk0 : ((k : Int) == 0) = true := by rw [hk]; rfl
          have hk1 : ((k : Int) != 0) = false := by rw [hk]; rfl
          have H3' := Lib.hid (H3.out hk)
          have H4' := Lib.hid (H4.out hk)
          clear hk H2 H3 H4
          go_wp2_with fail
          refine (HhP.out _).mono ?_
          rintro e w3 ⟨rfl, hb3⟩
          have k3 := k2.call hb3
          have kg := Lib.hid (k3.get 1 rfl)
          clear hb3 hb2
          by_cases hr : r = 0
          · have hr0 : ((r : Int) == 0) = true := by rw [hr]; rfl
            have hr1 : ((r : Int) != 0) = false := by rw [hr]; rfl
            obtain ⟨⟨e1, e2⟩, e3⟩ := H4'.out hr
            have kh := Lib.hid (k3.get 0 rfl)
            have k4 := k3.row (by omega) (by simp) (Array.setIfInBounds #[.string ⟨#[]⟩, .bool D] 0 (.string x))
            have K4 := Lib.hid k4
            have He1 := Lib.hid e1
            have He2 := Lib.hid e2
            have He3 := Lib.hid e3
            clear e1 e2 e3
            clear hr
            clear k2 k3 k4
            go_wp2_with (first | refine kl_set rfl 9 _ _ rfl (w.heap.size + 1) 0 rfl (.string x) rfl _ _ kh.out szS (by show 0 < 2; omega) rfl ?_ | refine wpList_load_row rfl 68 _ rfl (w.heap.size + 1) rfl _ _ _ _ (K4.out.get 0 rfl) Tryd.underlying68 rfl n68s ?_ | refine wpList_store_row rfl 68 _ _ rfl w.heap.size #[.string x, .bool D] rfl rfl _ _ (K4.out.get 1 rfl) n68s rfl (one2 rfl rfl) ?_)
            have HRES := setRow_heap _ w.heap.size _ #[.string x, .bool D] _ _ (K4.out.get 1 rfl)
            have HBR := below_setRow (g := w.heap.size) K4.out.below (by omega) #[.string x, .bool D]
            refine bodyPost_ret (results_row_tmpK rfl _ _ w.heap.size 68 #[.string x, .bool D] (0, 0) _ rfl HRES Tryd.underlying68 rfl rfl) rfl ?_
            exact ⟨by rw [He1.out, He2.out, He3.out]; rfl, HBR⟩
          · have hr0 : ((r : Int) == 0) = false := by rw [beq_eq_false_iff_ne]; omega
            have hr1 : ((r : Int) != 0) = true := by rw [bne_iff_ne]; omega
            obtain ⟨⟨e1, e2⟩, e3⟩ := H3'.out hr
            have HRES := Lib.hid (setRow_heap w3 w.heap.size _ #[.string ⟨#[]⟩, .bool false] _ _ kg.out)
            have HBR := Lib.hid (below_setRow (g := w.heap.size) k3.below (by omega) #[.string ⟨#[]⟩, .bool false])
            have He1 := Lib.hid e1
            have He2 := Lib.hid e2
            have He3 := Lib.hid e3
            clear e1 e2 e3
            clear hr
            clear k2 k3
            go_wp2_with (refine wpList_store_row rfl 68 _ _ rfl w.heap.size #[.string ⟨#[]⟩, .bool false] rfl rfl _ _ kg.out n68s rfl (one2 rfl rfl) ?_)
            refine bodyPost_ret (results_row_tmpK rfl _ _ w.heap.size 68 #[.string ⟨#[]⟩, .bool false] (0, 0) _ rfl HRES.out Tryd.underlying68 rfl rfl) rfl ?_
            exact ⟨by rw [He1.out, He2.out, He3.out]; rfl, HBR.out⟩
        · have hk0 : ((k : Int) == 0) = false := by rw [beq_eq_false_iff_ne]; omega
          have hk1 : ((k : Int) != 0) = true := by rw [bne_iff_ne]; omega
          obtain ⟨⟨e1, e2⟩, e3⟩ := H2.out hk
          have kg := Lib.hid (k2.get 1 rfl)
          have HRES := Lib.hid (setRow_heap w2 w.heap.size _ #[.string ⟨#[]⟩, .bool false] _ _ (k2.get 1 rfl))
          have HBR := Lib.hid (below_setRow (g := w.heap.size) k2.below (by omega) #[.string ⟨#[]⟩, .bool false])
          have He1 := Lib.hid e1
          have He2 := Lib.hid e2
          have He3 := Lib.hid e3
          clear e1 e2 e3
          clear hk
          clear k2
          go_wp2_with (refine wpList_store_row rfl 68 _ _ rfl w.heap.size #[.string ⟨#[]⟩, .bool false] rfl rfl _ _ kg.out n68s rfl (one2 rfl rfl) ?_)
          refine bodyPost_ret (results_row_tmpK rfl _ _ w.heap.size 68 #[.string ⟨#[]⟩, .bool false] (0, 0) _ rfl HRES.out Tryd.underlying68 rfl rfl) rfl ?_
          exact ⟨by rw [He1.out, He2.out, He3.out]; rfl, HBR.out⟩
end Go.Proofs.YtidmjepfpjfkoaaDoor
