/-
  Walks: the digest's tables (square, cube, fraction, made, New).
-/
import Derived.Test.YtgdjfijkbemkeaaRows
import Derived.Test.YtgdjfijkbemkeaaK
import Derived.Test.YtgdjfijkbemkeaaShaM
import Derived.Test.YtgdjfijkbemkeaaShelf
import Derived.StillTailTactics
namespace Go.Proofs.Ytgdjfijkbemkeaa
open Go.RowKit
set_option maxHeartbeats 400000
set_option maxRecDepth 20000
set_option linter.unusedVariables false

theorem mul64 (x y : Nat) (hx : x < 18446744073709551616) (hy : y < 18446744073709551616) (w : World) :
    Calls Try.prog 92 #[.int .u64 x, .int .u64 y] w fun e w' => e = .returned (.tuple #[.int .u64 ((x * y / 18446744073709551616 : Nat) : Int), .int .u64 ((x * y % 18446744073709551616 : Nat) : Int)]) ∧ w' = w := by
  exact Try.bits_Mul64 x y hx hy w

theorem square (p r : Nat) (hp : p < 4294967296) (hr : r < 137438953472) (w : World) :
    Calls Try.prog 77 #[.int .u64 p, .int .u64 r] w fun e w' => e = .returned (.bool (Sm.sqB p r)) ∧ w = w' := by
  have c := mul64 r r (by omega) (by omega) w
  have hb : Sm.sqB p r = decide (((r * r / 18446744073709551616 : Nat) : Int) < (p : Int)) := by unfold Sm.sqB; rw [decide_eq_decide]; omega
  rw [hb]
  generalize r * r / 18446744073709551616 = h at *
  generalize r * r % 18446744073709551616 = l at *
  clear hb
  go_enter Try.func77, Try.ntmps77
  go_wp2_with (go_at_call 92; refine c.mono ?_; rintro e w' ⟨rfl, rfl⟩)
  go_ret
  exact ⟨by simp, rfl⟩

theorem cube (p r : Nat) (hp : p < 4294967296) (hr : r < 137438953472) (w : World) :
    Calls Try.prog 79 #[.int .u64 p, .int .u64 r] w fun e w' => e = .returned (.bool (Sm.cuB p r)) ∧ w = w' := by
  have hrr : r * r < 137438953472 * 137438953472 := Nat.mul_lt_mul'' hr hr
  have hh : r * r / 18446744073709551616 < 1024 := by omega
  have hl : r * r % 18446744073709551616 < 18446744073709551616 := Nat.mod_lt _ (by decide)
  have hhr : r * r / 18446744073709551616 * r < 1024 * 137438953472 := Nat.mul_lt_mul'' hh hr
  have hlr : r * r % 18446744073709551616 * r < 18446744073709551616 * 137438953472 := Nat.mul_lt_mul'' hl hr
  have c := mul64 r r (by omega) (by omega) w
  have c2 := mul64 (r * r % 18446744073709551616) r hl (by omega) w
  unfold Sm.cuB
  generalize r * r / 18446744073709551616 = h at *
  generalize r * r % 18446744073709551616 = l at *
  have hm : l * r / 18446744073709551616 < 137438953472 := by omega
  generalize l * r / 18446744073709551616 = m at *
  generalize l * r % 18446744073709551616 = l2 at *
  have hq : (h : Int) * (r : Int) = ((h * r : Nat) : Int) := (Int.natCast_mul h r).symm
  have hhr2 : (h : Int) * (r : Int) < 140737488355328 := by rw [hq]; omega
  have hhr3 : 0 ≤ (h : Int) * (r : Int) := by rw [hq]; omega
  have hfin : decide (h * r + m < p * 4294967296) = decide ((h : Int) * r + m < (p : Int) * 4294967296) := by
    rw [decide_eq_decide, hq]; omega
  rw [hfin]
  clear hfin hrr hhr hlr hq
  go_enter Try.func79, Try.ntmps79
  go_wp2_with fail
  refine c.mono ?_; rintro e w' ⟨rfl, rfl⟩
  go_wp2_with fail
  refine c2.mono ?_; rintro e w' ⟨rfl, rfl⟩
  go_wp2
  go_ret
  exact ⟨rfl, rfl⟩

/-- what a function value answers: one that only asks -/
def Asks (g : Nat) (cap : Array Value) (f : Nat → Bool) (w : World) : Prop :=
  ∀ r : Nat, r < 137438953472 → Calls Try.prog g (#[.int .u64 (r : Int)] ++ cap) w fun e w' => e = .returned (.bool (f r)) ∧ w = w'

theorem asks1 (p : Nat) (hp : p < 4294967296) (b : Nat) (w : World) (h : w.cell? ⟨b, 0, none⟩ = some (.int .u64 (p : Int))) : Asks 76 #[.pointer (some ⟨b, 0, none⟩)] (Sm.sqB p) w := by
  intro r hr
  have c := square p r hp hr w
  generalize Sm.sqB p r = x at *
  show Calls _ _ #[_, _] _ _
  go_enter Try.func76, Try.ntmps76
  go_wp2_with fail
  refine c.mono ?_; rintro e w' ⟨rfl, rfl⟩
  go_wp2
  go_ret
  exact ⟨rfl, rfl⟩

theorem asks2 (p : Nat) (hp : p < 4294967296) (b : Nat) (w : World) (h : w.cell? ⟨b, 0, none⟩ = some (.int .u64 (p : Int))) : Asks 78 #[.pointer (some ⟨b, 0, none⟩)] (Sm.cuB p) w := by
  intro r hr
  have c := cube p r hp hr w
  generalize Sm.cuB p r = x at *
  show Calls _ _ #[_, _] _ _
  go_enter Try.func78, Try.ntmps78
  go_wp2_with fail
  refine c.mono ?_; rintro e w' ⟨rfl, rfl⟩
  go_wp2
  go_ret
  exact ⟨rfl, rfl⟩

theorem fraction (g : Nat) (cap : Array Value) (f : Nat → Bool) (w : World) (hg : g = 76 ∨ g = 78) (h : Asks g cap f w) :
    Calls Try.prog 75 #[.func (.func g) #[] cap] w fun e w' => e = .returned (.int .u32 (Sm.frac f : Nat)) ∧ w = w' := by
  go_enter Try.func75, Try.ntmps75
  have H := Lib.hid h
  clear h
  go_wp2
  go_loop [3, 4] (fun r i => ∃ (k q : Nat), k ≤ 37 ∧ i = .int .i64 ((k : Int) - 1) ∧ r = .int .u64 (q : Int) ∧ q % 2 ^ k = 0 ∧ q < 137438953472 ∧ Hid (Sm.fr f k q = Sm.fr f 37 0)) (fun _ i => (intOf i + 1).toNat)
  case atStart => exact ⟨37, 0, by omega, rfl, rfl, rfl, by decide, rfl⟩
  case round =>
    obtain ⟨k, q, hk, rfl, rfl, hq, hq2, HQ⟩ := hrel
    by_cases hk0 : k = 0
    · subst hk0
      have hfin : Sm.frac f = q % 4294967296 := by unfold Sm.frac; rw [← HQ.out]; rfl
      have HF := Lib.hid hfin
      clear hfin hq
      go_wp2
      go_ret
      rw [HF.out]
      exact ⟨by simp, rfl⟩
    · obtain ⟨m, rfl⟩ : ∃ m, k = m + 1 := ⟨k - 1, by omega⟩
      have hps : 2 ^ (m + 1) = 2 * 2 ^ m := by rw [Nat.pow_succ, Nat.mul_comm]
      have hp36 : 2 ^ m ≤ 2 ^ 36 := Nat.pow_le_pow_right (by decide) (by omega)
      have h37 : 137438953472 = 2 ^ (36 - m) * 2 ^ (m + 1) := by rw [← Nat.pow_add, show 36 - m + (m + 1) = 37 by omega]
      have hdv := Nat.div_add_mod q (2 ^ (m + 1))
      rw [hq, Nat.add_zero] at hdv
      have hqd : q / 2 ^ (m + 1) < 2 ^ (36 - m) := by
        rw [Nat.div_lt_iff_lt_mul (Nat.two_pow_pos _), ← h37]; exact hq2
      have hlt : q + 2 ^ m < 137438953472 := by
        have h1 : 2 ^ (m + 1) * (q / 2 ^ (m + 1) + 1) ≤ 2 ^ (m + 1) * 2 ^ (36 - m) := Nat.mul_le_mul_left _ hqd
        rw [Nat.mul_add, hdv, Nat.mul_one, Nat.mul_comm _ (2 ^ (36 - m)), ← h37] at h1
        have := Nat.two_pow_pos m
        omega
      have hmod : (q + 2 ^ m) % 2 ^ m = 0 := by
        rw [Nat.add_mod_right, ← hdv, hps, Nat.mul_assoc, Nat.mul_left_comm, Nat.mul_mod_right]
      have hmod2 : q % 2 ^ m = 0 := by
        rw [← hdv, hps, Nat.mul_assoc, Nat.mul_left_comm, Nat.mul_mod_right]
      have hor : bits .or .u64 (q : Int) ((2 ^ m : Nat) : Int) = ((q + 2 ^ m : Nat) : Int) :=
        Sm.or_bit q m hq (by omega) (by omega)
      have hstep : Sm.fr f (m + 1) q = Sm.fr f m (if f (q + 2 ^ m) = true then q + 2 ^ m else q) := rfl
      have hcall := H.out (q + 2 ^ m) hlt
      rw [show (2 : Nat) ^ m = 2 ^ m from rfl] at hor
      have hsh : ((2 : Int) ^ m) = ((2 ^ m : Nat) : Int) := Bm.int_pow m
      generalize hfb : f (q + 2 ^ m) = fb at *
      obtain ⟨pm, hpm⟩ : ∃ pm, pm = 2 ^ m := ⟨_, rfl⟩
      have HM1 := Lib.hid hmod
      have HM2 := Lib.hid hmod2
      rw [← hpm] at hp36 hlt hor hstep hcall hsh
      have HPM := Lib.hid hpm
      rw [Int.natCast_add] at hcall
      have hi : ((m + 1 : Nat) : Int) - 1 = (m : Int) := by omega
      rw [hi]
      have hm36 : (m : Int) ≤ 36 := by omega
      have HST := Lib.hid hstep
      have HSH := Lib.hid hsh
      clear hstep hdv hqd h37 hps hi hfb hpm hmod hmod2 hq
      rcases hg with rfl | rfl
      all_goals
        cases fb
        all_goals
          go_wp2_with (refine hcall.mono ?_; rintro e w' ⟨rfl, rfl⟩)
          go_round
          case rel =>
            first
              | exact ⟨m, q, by omega, rfl, rfl, HM2.out, hq2, by show Sm.fr f m q = _; rw [← HQ.out, HST.out]; rfl⟩
              | exact ⟨m, q + pm, by omega, rfl, by go_num, by rw [HPM.out]; exact HM1.out, hlt, by show Sm.fr f m (q + pm) = _; rw [← HQ.out, HST.out]; rfl⟩
          case measure => first | (simp [intOf]; done) | (simp [intOf]; omega)

/-- the tables: the cells so far -/
def tabArr (n : Nat) : Array Value := Array.ofFn (n := 72) fun i => .int .u32 ((if i.val < 8 then (if i.val < n then Sm.firstT.getD i.val 0 else 0) else (if i.val - 8 < n then Sm.kT.getD (i.val - 8) 0 else 0) : Nat) : Int)
