/-
  Plain laws of the digest: a text that comes in parts.
-/
import Derived.Test.YtgdjfijkbemkeaaShaN
import Derived.Test.YtgdjfijkbemkeaaShaM
namespace Go.Proofs.Ytgdjfijkbemkeaa.Sm

def comp (s : St) (b : List UInt8) : St := s.add (rnds s kT (sched b 64) 64)
theorem comp_ok (s : St) (b : List UInt8) : (comp s b).ok := add_ok _ _

/-- whole blocks are taken; what is left -/
def feed : Nat → St → List UInt8 → St × List UInt8
  | 0, s, l => (s, l)
  | k + 1, s, l => if l.length < 64 then (s, l) else feed k (comp s (l.take 64)) (l.drop 64)

/-- all whole blocks -/
def feedAll (s : St) (l : List UInt8) : St × List UInt8 := feed (l.length / 64) s l

theorem feedAll_short (s : St) (l : List UInt8) (h : l.length < 64) : feedAll s l = (s, l) := by
  unfold feedAll; rw [Nat.div_eq_of_lt h]; rfl
theorem feedAll_long (s : St) (l : List UInt8) (h : 64 ≤ l.length) : feedAll s l = feedAll (comp s (l.take 64)) (l.drop 64) := by
  unfold feedAll
  rw [List.length_drop, show l.length / 64 = (l.length - 64) / 64 + 1 by omega, feed, if_neg (by omega)]

theorem feedAll_append : ∀ (n : Nat) (s : St) (a t : List UInt8), a.length < n → feedAll s (a ++ t) = feedAll (feedAll s a).1 ((feedAll s a).2 ++ t)
  | 0, _, _, _, h => by omega
  | n + 1, s, a, t, h => by
    by_cases ha : a.length < 64
    · rw [feedAll_short s a ha]
    · rw [feedAll_long s a (by omega), feedAll_long s (a ++ t) (by rw [List.length_append]; omega),
        List.take_append_of_le_length (by omega), List.drop_append_of_le_length (by omega)]
      exact feedAll_append n _ _ _ (by rw [List.length_drop]; omega)

theorem feedAll_rest : ∀ (n : Nat) (s : St) (l : List UInt8), l.length < n → (feedAll s l).2.length = l.length % 64
  | 0, _, _, h => by omega
  | n + 1, s, l, h => by
    by_cases hl : l.length < 64
    · rw [feedAll_short s l hl, Nat.mod_eq_of_lt hl]
    · rw [feedAll_long s l (by omega), feedAll_rest n _ _ (by rw [List.length_drop]; omega), List.length_drop]; omega
theorem feedAll_ok : ∀ (n : Nat) (s : St) (l : List UInt8), l.length < n → s.ok → (feedAll s l).1.ok
  | 0, _, _, h, _ => by omega
  | n + 1, s, l, h, hs => by
    by_cases hl : l.length < 64
    · rw [feedAll_short s l hl]; exact hs
    · rw [feedAll_long s l (by omega)]
      exact feedAll_ok n _ _ (by rw [List.length_drop]; omega) (comp_ok _ _)

/-- the first state -/
def st0 : St := ⟨0x6a09e667, 0xbb67ae85, 0x3c6ef372, 0xa54ff53a, 0x510e527f, 0x9b05688c, 0x1f83d9ab, 0x5be0cd19⟩
theorem st0_ok : st0.ok := by unfold St.ok st0; decide
/-- behind a text: the state, and what waits -/
def stOf (l : List UInt8) : St := (feedAll st0 l).1
def restOf (l : List UInt8) : List UInt8 := (feedAll st0 l).2
theorem stOf_ok (l : List UInt8) : (stOf l).ok := feedAll_ok (l.length + 1) _ _ (by omega) st0_ok
theorem restOf_length (l : List UInt8) : (restOf l).length = l.length % 64 := feedAll_rest (l.length + 1) _ _ (by omega)
theorem of_append (l t : List UInt8) : feedAll (stOf l) (restOf l ++ t) = (stOf (l ++ t), restOf (l ++ t)) := by
  unfold stOf restOf
  rw [feedAll_append (l.length + 1) st0 l t (by omega)]
theorem stOf_nil : stOf [] = st0 := rfl
theorem restOf_nil : restOf [] = [] := rfl
end Go.Proofs.Ytgdjfijkbemkeaa.Sm
