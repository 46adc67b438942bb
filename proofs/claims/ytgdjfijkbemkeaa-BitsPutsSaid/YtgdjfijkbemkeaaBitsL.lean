import Derived.Test.YtgdjfijkbemkeaaBitsZ
namespace Go.Proofs.Ytgdjfijkbemkeaa
open Go.RowKit
set_option maxHeartbeats 400000
set_option maxRecDepth 20000
set_option linter.unusedVariables false

theorem awake01 (w : World) :
    Calls Try.prog 10 #[] w fun e w' => e = .returned (.bool true) ∧ Below w.heap.size w w' := by
  go_enter Try.func10, Try.ntmps10
  go_wp2_with fail
  refine (put 258 2 (by decide) _).mono ?_
  rintro e w1 ⟨rfl, hb1⟩
  rw [show putS 258 2 = [1, 2] by decide +kernel, show putE 258 2 = 0 by decide +kernel]
  go_wp2_with fail
  refine (put 256 1 (by decide) _).mono ?_
  rintro e w2 ⟨rfl, hb2⟩
  rw [show putS 256 1 = [] by decide +kernel, show putE 256 1 = 1 by decide +kernel]
  go_wp2_with fail
  refine (get ⟨#[1, 2]⟩ (by decide +kernel) _).mono ?_
  rintro e w3 ⟨rfl, hb3⟩
  rw [show getN (⟨#[1, 2]⟩ : ByteArray).data.toList = 258 by decide +kernel, show getE (⟨#[1, 2]⟩ : ByteArray).data.toList = 0 by decide +kernel]
  go_wp2_with fail
  refine (get ⟨#[]⟩ (by decide +kernel) _).mono ?_
  rintro e w4 ⟨rfl, hb4⟩
  rw [show getN (⟨#[]⟩ : ByteArray).data.toList = 0 by decide +kernel, show getE (⟨#[]⟩ : ByteArray).data.toList = 3 by decide +kernel]
  go_wp2_with fail
  refine (rotate 2147483649 1 (by decide) _).mono ?_
  rintro e w' ⟨rfl, rfl⟩
  rw [show Bm.rotl 2147483649 ((1 : Int) % 32).toNat = 3 by decide +kernel]
  go_wp2_with fail
  refine (low 511 8 (by decide) _).mono ?_
  rintro e w' ⟨rfl, rfl⟩
  rw [show 511 % 2 ^ Bm.clamp 8 = 255 by decide +kernel]
  go_wp2_with fail
  refine (signed 255 8 (by decide) _).mono ?_
  rintro e w' ⟨rfl, rfl⟩
  rw [show Bm.sgn 255 (Bm.clamp 8) = -1 by decide +kernel]
  go_wp2_with fail
  refine (fits (-128) 8 (by decide) (by decide) _).mono ?_
  rintro e w' ⟨rfl, rfl⟩
  rw [show fitsB (-128) 8 = true by decide +kernel]
  go_wp2_with fail
  refine (fits 128 8 (by decide) (by decide) _).mono ?_
  rintro e w' ⟨rfl, rfl⟩
  rw [show fitsB 128 8 = false by decide +kernel]
  go_wp2_with fail
  refine (count 7 (by decide) _).mono ?_
  rintro e w' ⟨rfl, rfl⟩
  rw [show Bm.pop 7 64 = 3 by decide +kernel]
  go_wp2_with fail
  refine (turn 6 3 (by decide) _).mono ?_
  rintro e w5 ⟨rfl, hb5⟩
  rw [show Bm.rev 6 (Bm.clamp 3) = 3 by decide +kernel]
  go_wp2
  go_ret
  have hb12 := hb1.trans (hb2.mono hb1.size)
  have hb13 := hb12.trans (hb3.mono hb12.size)
  have hb14 := hb13.trans (hb4.mono hb13.size)
  exact ⟨rfl, hb14.trans (hb5.mono hb14.size)⟩

theorem bitsTells (X V : Nat) (n : Int) (hX : X < 4294967296) (hV : V < 18446744073709551616) (w : World) :
    Calls Try.prog 3 #[.int .u32 X, .int .u64 V, .int .i64 n] w fun e w' => e = .returned (.bool true) ∧ Below w.heap.size w w' := by
  go_enter Try.func3, Try.ntmps3
  go_wp2_with fail
  refine (awake01 _).mono ?_
  rintro e w1 ⟨rfl, hb1⟩
  have c1 := fun w => rotate X n hX w
  have c2 := fun w => refRotate X n hX w
  have c3 := fun w => low V n hV w
  have c4 := fun w => refLow V n hV w
  have c5 := fun w => signed V n hV w
  have c6 := fun w => refSigned V n hV w
  have c7 := fun v h1 h2 w => fits v n h1 h2 w
  have c8 := fun v h1 h2 w => refFits v n h1 h2 w
  have c9 := fun w => count V hV w
  have c10 := fun w => refCount V hV w
  have c11 := fun w => turn V n hV w
  have c12 := fun w => refTurn V n hV w
  generalize Bm.rotl X (n % 32).toNat = r1 at *
  generalize V % 2 ^ Bm.clamp n = r2 at *
  generalize Bm.sgn V (Bm.clamp n) = r3 at *
  generalize Bm.pop V 64 = r4 at *
  generalize Bm.rev V (Bm.clamp n) = r5 at *
  go_wp2_with fail
  refine (c1 _).mono ?_; rintro e w' ⟨rfl, rfl⟩
  go_wp2_with fail
  refine (c2 _).mono ?_; rintro e w' ⟨rfl, rfl⟩
  go_wp2_with fail
  refine (c3 _).mono ?_; rintro e w' ⟨rfl, rfl⟩
  go_wp2_with fail
  refine (c4 _).mono ?_; rintro e w2 ⟨rfl, hb2⟩
  go_wp2_with fail
  refine (c5 _).mono ?_; rintro e w' ⟨rfl, rfl⟩
  go_wp2_with fail
  refine (c6 _).mono ?_; rintro e w3 ⟨rfl, hb3⟩
  have ht1 : -9223372036854775808 ≤ wrap64 (V : Int) := by unfold wrap64; omega
  have ht2 : wrap64 (V : Int) ≤ 9223372036854775807 := by unfold wrap64; omega
  have c7' := c7 _ ht1 ht2
  have c8' := c8 _ ht1 ht2
  clear c7 c8 ht1 ht2
  generalize fitsB (wrap64 (V : Int)) n = r6 at *
  go_wp2_with fail
  refine (c7' _).mono ?_; rintro e w' ⟨rfl, rfl⟩
  go_wp2_with fail
  refine (c8' _).mono ?_; rintro e w' ⟨rfl, rfl⟩
  go_wp2_with fail
  refine (c9 _).mono ?_; rintro e w' ⟨rfl, rfl⟩
  go_wp2_with fail
  refine (c10 _).mono ?_; rintro e w4 ⟨rfl, hb4⟩
  go_wp2_with fail
  refine (c11 _).mono ?_; rintro e w5 ⟨rfl, hb5⟩
  go_wp2_with fail
  refine (c12 _).mono ?_; rintro e w6 ⟨rfl, hb6⟩
  go_wp2
  go_ret
  have g2 := hb1.trans (hb2.mono hb1.size)
  have g3 := g2.trans (hb3.mono g2.size)
  have g4 := g3.trans (hb4.mono g3.size)
  have g5 := g4.trans (hb5.mono g4.size)
  exact ⟨rfl, g5.trans (hb6.mono g5.size)⟩
