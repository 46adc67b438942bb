import Derived.Test.YtgdjfijkbemkeaaBitsL
namespace Go.Proofs.Ytgdjfijkbemkeaa
open Go.RowKit
set_option maxHeartbeats 400000
set_option maxRecDepth 20000
set_option linter.unusedVariables false

theorem bitsPuts (V : Nat) (n : Int) (s : ByteArray) (hV : V < 18446744073709551616) (hs : s.size ≤ maxLen) (w : World) :
    Calls Try.prog 4 #[.int .u64 V, .int .i64 n, .string s] w fun e w' => e = .returned (.bool true) ∧ Below w.heap.size w w' := by
  have c1 := fun w => put V n hV w
  have c2 := fun w => refPut V n hV w
  have c3 := fun w => get s hs w
  have c4 := fun w => refGet s hs w
  have hl : putE V n = 0 ∨ putE V n = 1 := by unfold putE; split <;> simp
  have hl2 : (putS V n).length ≤ 8 := by
    unfold putS
    split
    · rename_i h
      rw [beput_length]
      have := of_decide_eq_true h
      omega
    · simp
  obtain ⟨sb, hsb⟩ : ∃ sb : ByteArray, sb = ⟨(putS V n).toArray⟩ := ⟨_, rfl⟩
  rw [← hsb] at c1 c2
  have hw1 : (putE V n : Int) ≤ 1 := by omega
  have hg : getE s.data.toList ≤ 4 := by unfold getE; split; omega; split <;> omega
  clear hl hl2 hsb
  generalize putE V n = pe at *
  generalize getN s.data.toList = gn at *
  generalize getE s.data.toList = ge at *
  unfold maxLen at hs
  go_enter Try.func4, Try.ntmps4
  go_wp2_with fail
  refine (awake01 _).mono ?_
  rintro e w1 ⟨rfl, hb1⟩
  by_cases h100 : 100 < s.size
  · go_wp2
    go_ret
    exact ⟨rfl, hb1⟩
  go_wp2_with fail
  refine (c1 _).mono ?_; rintro e w2 ⟨rfl, hb2⟩
  go_wp2_with fail
  refine (c2 _).mono ?_; rintro e w3 ⟨rfl, hb3⟩
  go_wp2_with fail
  refine (c3 _).mono ?_; rintro e w4 ⟨rfl, hb4⟩
  go_wp2_with fail
  refine (c4 _).mono ?_; rintro e w' ⟨rfl, rfl⟩
  have g2 := hb1.trans (hb2.mono hb1.size)
  have g3 := g2.trans (hb3.mono g2.size)
  have g4 := g3.trans (hb4.mono g3.size)
  go_wp2
  go_ret
  exact ⟨rfl, g4⟩
