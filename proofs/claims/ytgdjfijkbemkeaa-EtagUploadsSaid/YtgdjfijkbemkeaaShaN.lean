/-
  Plain laws of the digest: its words, its rounds.
-/
import Derived.Test.YtgdjfijkbemkeaaBitsM
namespace Go.Proofs.Ytgdjfijkbemkeaa.Sm
open Go.RowKit
set_option linter.unusedVariables false

theorem band32 (a b : Nat) (ha : a < 4294967296) (hb : b < 4294967296) : bits .and .u32 (a : Int) (b : Int) = ((a &&& b : Nat) : Int) :=
  (bits_nat .u32 32 (by decide) (fun n h0 h1 => by rw [IntKind.wrap_u32]; omega) a b (by omega) (by omega)).1
theorem bor32 (a b : Nat) (ha : a < 4294967296) (hb : b < 4294967296) : bits .or .u32 (a : Int) (b : Int) = ((a ||| b : Nat) : Int) :=
  (bits_nat .u32 32 (by decide) (fun n h0 h1 => by rw [IntKind.wrap_u32]; omega) a b (by omega) (by omega)).2
theorem bxor32 (a b : Nat) (ha : a < 4294967296) (hb : b < 4294967296) : bits .xor .u32 (a : Int) (b : Int) = ((a ^^^ b : Nat) : Int) := by
  have hx : a ^^^ b < 2 ^ 32 := Nat.xor_lt_two_pow (by omega) (by omega)
  have h1 : (BitVec.ofInt 32 (a : Int)).toNat = a := by
    rw [BitVec.ofInt_natCast, BitVec.toNat_ofNat]; exact Nat.mod_eq_of_lt (by omega)
  have h2 : (BitVec.ofInt 32 (b : Int)).toNat = b := by
    rw [BitVec.ofInt_natCast, BitVec.toNat_ofNat]; exact Nat.mod_eq_of_lt (by omega)
  show IntKind.u32.wrap ((BitVec.ofInt 32 (a : Int) ^^^ BitVec.ofInt 32 (b : Int)).toNat : Int) = _
  rw [BitVec.toNat_xor, h1, h2, IntKind.wrap_u32]
  omega
theorem and_lt32 (a b : Nat) (ha : a < 4294967296) : a &&& b < 4294967296 := Nat.lt_of_le_of_lt Nat.and_le_left ha
theorem or_lt32 (a b : Nat) (ha : a < 4294967296) (hb : b < 4294967296) : a ||| b < 4294967296 := by
  have := Nat.or_lt_two_pow (n := 32) (show a < 2 ^ 32 by omega) (show b < 2 ^ 32 by omega); omega
theorem xor_lt32 (a b : Nat) (ha : a < 4294967296) (hb : b < 4294967296) : a ^^^ b < 4294967296 := by
  have := Nat.xor_lt_two_pow (n := 32) (show a < 2 ^ 32 by omega) (show b < 2 ^ 32 by omega); omega

/-- turned to the right -/
def rr (x n : Nat) : Nat := Bm.rotl x (32 - n)
theorem rr_lt (x n : Nat) (hx : x < 4294967296) (h0 : 0 < n) : rr x n < 4294967296 := by
  have := Bm.rotl_lt x (32 - n) (show x < 2 ^ 32 by omega) (by omega); unfold rr; omega
theorem rr_neg (x : Nat) (n : Int) (h0 : 0 < n) (h1 : n < 32) : Bm.rotl x ((-n) % 32).toNat = rr x n.toNat := by
  unfold rr; congr 1; omega
theorem rr_ref (x n : Nat) (hx : x < 4294967296) (h0 : 0 < n) (h1 : n < 32) : (x / 2 ^ n + x * 2 ^ (32 - n) % 4294967296) % 4294967296 = rr x n := by
  have h := Bm.shl_mod 32 x (32 - n) (by omega)
  rw [show 32 - (32 - n) = n by omega, show (2 : Nat) ^ 32 = 4294967296 from rfl] at h
  have hl := rr_lt x n hx h0
  have e : x / 2 ^ n + x * 2 ^ (32 - n) % 4294967296 = rr x n := by
    unfold rr Bm.rotl; rw [h, show 32 - (32 - n) = n by omega]; omega
  rw [e]; exact Nat.mod_eq_of_lt hl

def sig (x a b c : Nat) (moves : Bool) : Nat := (rr x a ^^^ rr x b) ^^^ (if moves = true then x / 2 ^ c else rr x c)
theorem sig_lt (x a b c : Nat) (m : Bool) (hx : x < 4294967296) (ha : 0 < a) (hb : 0 < b) (hc : 0 < c) : sig x a b c m < 4294967296 := by
  unfold sig
  refine xor_lt32 _ _ (xor_lt32 _ _ (rr_lt x a hx ha) (rr_lt x b hx hb)) ?_
  split
  · exact Nat.lt_of_le_of_lt (Nat.div_le_self _ _) hx
  · exact rr_lt x c hx hc

def ch (e f g : Nat) : Nat := (e &&& f) ||| ((4294967295 - e) &&& g)
def maj (a b c : Nat) : Nat := (a &&& b) ||| (c &&& (a ||| b))

theorem not_bit (e i : Nat) (he : e < 4294967296) : (4294967295 - e).testBit i = (decide (i < 32) && !e.testBit i) := by
  have h := Nat.testBit_two_pow_sub_succ (n := 32) (x := e) (by omega) i
  rw [show 2 ^ 32 - (e + 1) = 4294967295 - e by omega] at h
  exact h
theorem ch_xor (e f g : Nat) (he : e < 4294967296) (hf : f < 4294967296) (hg : g < 4294967296) : (e &&& f) ^^^ ((4294967295 - e) &&& g) = ch e f g := by
  unfold ch
  apply Nat.eq_of_testBit_eq
  intro i
  simp only [Nat.testBit_xor, Nat.testBit_and, Nat.testBit_or, not_bit e i he]
  cases e.testBit i <;> cases f.testBit i <;> cases g.testBit i <;> cases decide (i < 32) <;> rfl
theorem maj_xor (a b c : Nat) : (a &&& b) ^^^ (a &&& c) ^^^ (b &&& c) = maj a b c := by
  unfold maj
  apply Nat.eq_of_testBit_eq
  intro i
  simp only [Nat.testBit_xor, Nat.testBit_and, Nat.testBit_or]
  cases a.testBit i <;> cases b.testBit i <;> cases c.testBit i <;> rfl
theorem ch_lt (e f g : Nat) (he : e < 4294967296) : ch e f g < 4294967296 :=
  or_lt32 _ _ (and_lt32 _ _ he) (and_lt32 _ _ (by omega))
theorem maj_lt (a b c : Nat) (ha : a < 4294967296) (hc : c < 4294967296) : maj a b c < 4294967296 :=
  or_lt32 _ _ (and_lt32 _ _ ha) (and_lt32 _ _ hc)

/-- the word of a block -/
def word (b : List UInt8) (i : Nat) : Nat := ((b.drop (4 * i)).take 4).foldl (fun v c => v * 256 + c.toNat) 0
/-- the row of words, so many of them -/
def sched (b : List UInt8) : Nat → List Nat
  | 0 => []
  | i + 1 => sched b i ++ [if i < 16 then word b i else
      (((sched b i).getD (i - 16) 0 + sig ((sched b i).getD (i - 15) 0) 7 18 3 true) % 4294967296 + (sched b i).getD (i - 7) 0 + sig ((sched b i).getD (i - 2) 0) 17 19 10 true) % 4294967296]
theorem sched_length (b : List UInt8) (i : Nat) : (sched b i).length = i := by
  induction i with
  | zero => rfl
  | succ i ih => simp [sched, ih]

theorem sched_zero (b : List UInt8) : sched b 0 = [] := rfl
theorem sched_succ (b : List UInt8) (i : Nat) : sched b (i + 1) = sched b i ++ [if i < 16 then word b i else
      (((sched b i).getD (i - 16) 0 + sig ((sched b i).getD (i - 15) 0) 7 18 3 true) % 4294967296 + (sched b i).getD (i - 7) 0 + sig ((sched b i).getD (i - 2) 0) 17 19 10 true) % 4294967296] := rfl

structure St where
  (a b c d e f g h : Nat)

def St.ok (s : St) : Prop := s.a < 4294967296 ∧ s.b < 4294967296 ∧ s.c < 4294967296 ∧ s.d < 4294967296 ∧ s.e < 4294967296 ∧ s.f < 4294967296 ∧ s.g < 4294967296 ∧ s.h < 4294967296

def rnd (s : St) (k w : Nat) : St :=
  let x := (w + (s.h + sig s.e 6 11 25 false + ch s.e s.f s.g + k)) % 4294967296
  let y := (sig s.a 2 13 22 false + maj s.a s.b s.c) % 4294967296
  ⟨(x + y) % 4294967296, s.a, s.b, s.c, (s.d + x) % 4294967296, s.e, s.f, s.g⟩
def rnds (s : St) (ks ws : List Nat) : Nat → St
  | 0 => s
  | i + 1 => rnd (rnds s ks ws i) (ks.getD i 0) (ws.getD i 0)
def St.add (s t : St) : St :=
  ⟨(s.a + t.a) % 4294967296, (s.b + t.b) % 4294967296, (s.c + t.c) % 4294967296, (s.d + t.d) % 4294967296, (s.e + t.e) % 4294967296, (s.f + t.f) % 4294967296, (s.g + t.g) % 4294967296, (s.h + t.h) % 4294967296⟩

theorem rnds_zero (s : St) (ks ws : List Nat) : rnds s ks ws 0 = s := rfl
theorem rnds_succ (s : St) (ks ws : List Nat) (i : Nat) : rnds s ks ws (i + 1) = rnd (rnds s ks ws i) (ks.getD i 0) (ws.getD i 0) := rfl

theorem rnd_ok (s : St) (k w : Nat) (h : s.ok) : (rnd s k w).ok := by
  obtain ⟨h1, h2, h3, h4, h5, h6, h7, h8⟩ := h
  exact ⟨Nat.mod_lt _ (by decide), h1, h2, h3, Nat.mod_lt _ (by decide), h5, h6, h7⟩
theorem rnds_ok (s : St) (ks ws : List Nat) (h : s.ok) : ∀ i, (rnds s ks ws i).ok
  | 0 => h
  | i + 1 => rnd_ok _ _ _ (rnds_ok s ks ws h i)
theorem add_ok (s t : St) : (s.add t).ok :=
  ⟨Nat.mod_lt _ (by decide), Nat.mod_lt _ (by decide), Nat.mod_lt _ (by decide), Nat.mod_lt _ (by decide), Nat.mod_lt _ (by decide), Nat.mod_lt _ (by decide), Nat.mod_lt _ (by decide), Nat.mod_lt _ (by decide)⟩

def St.get (s : St) : Nat → Nat
  | 0 => s.a | 1 => s.b | 2 => s.c | 3 => s.d | 4 => s.e | 5 => s.f | 6 => s.g | _ => s.h
def ofGet (f : Nat → Nat) : St := ⟨f 0, f 1, f 2, f 3, f 4, f 5, f 6, f 7⟩
theorem get_ofGet (f : Nat → Nat) (i : Nat) (hi : i < 8) : (ofGet f).get i = f i := by
  match i, hi with
  | 0, _ => rfl
  | 1, _ => rfl
  | 2, _ => rfl
  | 3, _ => rfl
  | 4, _ => rfl
  | 5, _ => rfl
  | 6, _ => rfl
  | 7, _ => rfl
theorem ofGet_get (s : St) : ofGet s.get = s := rfl
theorem ofGet_congr (f g : Nat → Nat) (h : ∀ i, i < 8 → f i = g i) : ofGet f = ofGet g := by
  simp only [ofGet, h 0 (by decide), h 1 (by decide), h 2 (by decide), h 3 (by decide), h 4 (by decide), h 5 (by decide), h 6 (by decide), h 7 (by decide)]
/-- the first k places added -/
def mixF (s t : St) (k : Nat) (i : Nat) : Nat := if i < k then (s.get i + t.get i) % 4294967296 else s.get i
def mix (s t : St) (k : Nat) : St := ofGet (mixF s t k)
theorem mix_zero (s t : St) : mix s t 0 = s := rfl
theorem mix_full (s t : St) : mix s t 8 = s.add t := rfl
theorem get_lt (s : St) (h : s.ok) (i : Nat) : s.get i < 4294967296 := by
  obtain ⟨h1, h2, h3, h4, h5, h6, h7, h8⟩ := h
  unfold St.get
  split <;> assumption
attribute [irreducible] sched rnds
end Go.Proofs.Ytgdjfijkbemkeaa.Sm
