/-
  Plain laws of the digest's tables: roots by bits.
-/
import Derived.Test.YtgdjfijkbemkeaaBitsM
namespace Go.Proofs.Ytgdjfijkbemkeaa.Sm
open Go.RowKit

def sqB (p r : Nat) : Bool := decide (r * r / 18446744073709551616 < p)
def cuB (p r : Nat) : Bool := decide (r * r / 18446744073709551616 * r + r * r % 18446744073709551616 * r / 18446744073709551616 < p * 4294967296)

/-- a root by bits, the highest first -/
def fr (f : Nat → Bool) : Nat → Nat → Nat
  | 0, r => r
  | b + 1, r => fr f b (if f (r + 2 ^ b) = true then r + 2 ^ b else r)
def frac (f : Nat → Bool) : Nat := fr f 37 0 % 4294967296

theorem or_bit (q m : Nat) (hq : q % 2 ^ (m + 1) = 0) (hq2 : q < 18446744073709551616) (hm : 2 ^ m < 18446744073709551616) : bits .or .u64 (q : Int) ((2 ^ m : Nat) : Int) = ((q + 2 ^ m : Nat) : Int) := by
  have e : ((2 : Int) ^ (m + 1)) = ((2 ^ (m + 1) : Nat) : Int) := Bm.int_pow _
  have hp := Nat.two_pow_pos m
  have hps : 2 ^ (m + 1) = 2 * 2 ^ m := by rw [Nat.pow_succ, Nat.mul_comm]
  have h1 := bits_join .u64 64 (by decide) (fun n h0 h1 => by rw [IntKind.wrap_u64]; omega) (m + 1) (q : Int) ((2 ^ m : Nat) : Int) (by omega) (by rw [e]; omega) (by omega) (by omega) (by rw [e]; omega) (by omega)
  rw [h1]; omega

/-- is no d from 2 on, with d * d not above p, a divisor? -/
def primeFrom (p : Nat) : Nat → Nat → Bool
  | 0, _ => true
  | k + 1, d => if d * d ≤ p then (decide (p % d ≠ 0) && primeFrom p k (d + 1)) else true
def prime (p : Nat) : Bool := primeFrom p 40 2

def primesFrom : Nat → Nat → List Nat
  | 0, _ => []
  | k + 1, p => if prime p = true then p :: primesFrom k (p + 1) else primesFrom k (p + 1)
/-- the first 64 primes -/
def primes : List Nat := primesFrom 310 2

def firstT : List Nat := (primes.take 8).map fun p => frac (sqB p)
def kT : List Nat := primes.map fun p => frac (cuB p)

theorem primes_length : primes.length = 64 := by decide +kernel
theorem firstT_eq : firstT = [0x6a09e667, 0xbb67ae85, 0x3c6ef372, 0xa54ff53a, 0x510e527f, 0x9b05688c, 0x1f83d9ab, 0x5be0cd19] := by decide +kernel
theorem kT_eq : kT = [
    0x428a2f98, 0x71374491, 0xb5c0fbcf, 0xe9b5dba5, 0x3956c25b, 0x59f111f1, 0x923f82a4, 0xab1c5ed5,
    0xd807aa98, 0x12835b01, 0x243185be, 0x550c7dc3, 0x72be5d74, 0x80deb1fe, 0x9bdc06a7, 0xc19bf174,
    0xe49b69c1, 0xefbe4786, 0x0fc19dc6, 0x240ca1cc, 0x2de92c6f, 0x4a7484aa, 0x5cb0a9dc, 0x76f988da,
    0x983e5152, 0xa831c66d, 0xb00327c8, 0xbf597fc7, 0xc6e00bf3, 0xd5a79147, 0x06ca6351, 0x14292967,
    0x27b70a85, 0x2e1b2138, 0x4d2c6dfc, 0x53380d13, 0x650a7354, 0x766a0abb, 0x81c2c92e, 0x92722c85,
    0xa2bfe8a1, 0xa81a664b, 0xc24b8b70, 0xc76c51a3, 0xd192e819, 0xd6990624, 0xf40e3585, 0x106aa070,
    0x19a4c116, 0x1e376c08, 0x2748774c, 0x34b0bcb5, 0x391c0cb3, 0x4ed8aa4a, 0x5b9cca4f, 0x682e6ff3,
    0x748f82ee, 0x78a5636f, 0x84c87814, 0x8cc70208, 0x90befffa, 0xa4506ceb, 0xbef9a3f7, 0xc67178f2] := by decide +kernel
attribute [irreducible] frac primes firstT kT
end Go.Proofs.Ytgdjfijkbemkeaa.Sm
