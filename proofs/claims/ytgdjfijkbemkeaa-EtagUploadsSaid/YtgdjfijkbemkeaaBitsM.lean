/-
  Plain laws on bits: rotation, lowest bits, sign, count, turning, bytes. No program in sight.
-/
import Derived.WalkKit
namespace Go.Proofs.Ytgdjfijkbemkeaa.Bm
open Go.RowKit

def rotl (x k : Nat) : Nat := x % 2 ^ (32 - k) * 2 ^ k + x / 2 ^ (32 - k)

theorem pow_split {a b : Nat} (h : b ≤ a) : 2 ^ a = 2 ^ (a - b) * 2 ^ b := by
  rw [← Nat.pow_add]; congr 1; omega

theorem shl_mod (B x k : Nat) (hk : k ≤ B) : x * 2 ^ k % 2 ^ B = x % 2 ^ (B - k) * 2 ^ k := by
  rw [pow_split hk, Nat.mul_mod_mul_right]

theorem int_pow (k : Nat) : ((2 : Int) ^ k) = ((2 ^ k : Nat) : Int) := by push_cast; rfl

theorem rotl_lt (x k : Nat) (hx : x < 2 ^ 32) (hk : k < 32) : rotl x k < 2 ^ 32 := by
  unfold rotl
  have h1 : x % 2 ^ (32 - k) < 2 ^ (32 - k) := Nat.mod_lt _ (Nat.two_pow_pos _)
  have h2 : x / 2 ^ (32 - k) < 2 ^ k := by
    rw [Nat.div_lt_iff_lt_mul (Nat.two_pow_pos _), ← Nat.pow_add]
    have : k + (32 - k) = 32 := by omega
    rw [this]; exact hx
  have h3 : (x % 2 ^ (32 - k) + 1) * 2 ^ k ≤ 2 ^ (32 - k) * 2 ^ k := Nat.mul_le_mul_right _ h1
  rw [← pow_split (by omega : k ≤ 32), Nat.add_mul] at h3
  omega

theorem rot_or (x k : Nat) (hx : x < 4294967296) (hk : k < 32) :
    bits .or .u32 ((x : Int) * 2 ^ k % 4294967296) ((x : Int) / 2 ^ (32 - k)) = (rotl x k : Int) := by
  have hx' : x < 2 ^ 32 := by omega
  have e1 : ((x : Int) * 2 ^ k % 4294967296) = ((x % 2 ^ (32 - k) * 2 ^ k : Nat) : Int) := by
    rw [← shl_mod 32 x k (by omega), show (2 : Nat) ^ 32 = 4294967296 from rfl, Int.natCast_emod, Int.natCast_mul, Int.natCast_pow]; rfl
  have e2 : ((x : Int) / 2 ^ (32 - k)) = ((x / 2 ^ (32 - k) : Nat) : Int) := by rw [Int.natCast_ediv, Int.natCast_pow]; rfl
  have h2 : x / 2 ^ (32 - k) < 2 ^ k := by
    rw [Nat.div_lt_iff_lt_mul (Nat.two_pow_pos _), ← Nat.pow_add]
    have : k + (32 - k) = 32 := by omega
    rw [this]; exact hx'
  have h3 := rotl_lt x k hx' hk
  have hp : 2 ^ k ≤ 2 ^ 32 := Nat.pow_le_pow_right (by decide) (by omega)
  rw [e1, e2, bits_join .u32 32 (by decide) (fun n h0 h1 => by rw [IntKind.wrap_u32]; omega) k _ _ (Int.natCast_nonneg _) ?_ ?_ (Int.natCast_nonneg _) ?_ ?_]
  · unfold rotl; push_cast; rfl
  · have : (x % 2 ^ (32 - k) * 2 ^ k) % 2 ^ k = 0 := Nat.mul_mod_left _ _
    exact_mod_cast this
  · unfold rotl at h3; have : x % 2 ^ (32 - k) * 2 ^ k < 2 ^ 32 := by omega
    exact_mod_cast this
  · exact_mod_cast h2
  · have : x / 2 ^ (32 - k) < 2 ^ 32 := by omega
    exact_mod_cast this

/-- one place to the left -/
theorem rotl_one (x : Nat) : rotl x 1 = x % 2147483648 * 2 + x / 2147483648 := by
  simp [rotl]

theorem rotl_zero (x : Nat) (hx : x < 4294967296) : rotl x 0 = x := by
  simp [rotl]; omega

theorem rotl_succ (x k : Nat) (hx : x < 4294967296) (hk : k + 1 < 32) : rotl (rotl x k) 1 = rotl x (k + 1) := by
  have e : 2 ^ (32 - k) = 2 * 2 ^ (31 - k) := by rw [← Nat.pow_succ']; congr 1; omega
  have e1 : 32 - (k + 1) = 31 - k := by omega
  have e2 : 2147483648 = 2 ^ (31 - k) * 2 ^ k := by rw [← Nat.pow_add, show 31 - k + k = 31 by omega]
  rw [rotl_one]
  unfold rotl
  rw [e1, e, Nat.pow_succ 2 k]
  generalize hP : 2 ^ (31 - k) = P at *
  generalize hQ : 2 ^ k = Q at *
  have hPp : 0 < P := by rw [← hP]; exact Nat.two_pow_pos _
  have hQp : 0 < Q := by rw [← hQ]; exact Nat.two_pow_pos _
  -- x = a * (2P) + b, b = c * P + d
  have hb : x % (2 * P) < 2 * P := Nat.mod_lt _ (by omega)
  have hxa := Nat.div_add_mod x (2 * P)
  generalize ha : x / (2 * P) = a at *
  generalize hbb : x % (2 * P) = b at *
  have ha2 : a < Q := by
    rw [← ha, Nat.div_lt_iff_lt_mul (by omega), Nat.mul_comm Q, Nat.mul_assoc, ← e2]; omega
  have hc : b / P < 2 := by rw [Nat.div_lt_iff_lt_mul hPp]; omega
  have hbd := Nat.div_add_mod b P
  have hd : b % P < P := Nat.mod_lt _ hPp
  have hx1 : x % P = b % P := by
    rw [← hxa, Nat.mul_comm 2 P, Nat.mul_assoc, Nat.mul_add_mod]
  have hx2 : x / P = 2 * a + b / P := by
    rw [← hxa, Nat.mul_comm 2 P, Nat.mul_assoc, Nat.mul_add_div hPp]
  have hy : (b * Q + a) = (b / P) * (P * Q) + (b % P * Q + a) := by
    conv => lhs; rw [← hbd]
    rw [Nat.add_mul, Nat.mul_comm P (b / P), Nat.mul_assoc]; omega
  have hlt : b % P * Q + a < P * Q := by
    have h3 : (b % P + 1) * Q ≤ P * Q := Nat.mul_le_mul_right _ hd
    rw [Nat.add_mul] at h3; omega
  have hm : (b * Q + a) % (P * Q) = b % P * Q + a := by
    rw [hy, Nat.mul_comm (b / P), Nat.mul_add_mod, Nat.mod_eq_of_lt hlt]
  have hdv : (b * Q + a) / (P * Q) = b / P := by
    rw [hy, Nat.mul_comm (b / P), Nat.mul_add_div (Nat.mul_pos hPp hQp), Nat.div_eq_of_lt hlt]; omega
  have eq2 : (2147483648 : Nat) = P * Q := e2
  rw [eq2, hm, hdv, hx1, hx2, Nat.add_mul, Nat.mul_assoc]
  omega

/-! lowest bits -/
def low (v k : Nat) : Nat := v % 2 ^ k
def clamp (n : Int) : Nat := min n.toNat 64

theorem low_shift (v k : Nat) (hk : k ≤ 64) : v * 2 ^ (64 - k) % 18446744073709551616 / 2 ^ (64 - k) = v % 2 ^ k := by
  have := shl_mod 64 v (64 - k) (by omega)
  rw [show (18446744073709551616 : Nat) = 2 ^ 64 from rfl, this, Nat.mul_div_cancel _ (Nat.two_pow_pos _)]
  rw [show 64 - (64 - k) = k by omega]

theorem low_full (v : Nat) (hv : v < 18446744073709551616) : v % 2 ^ 64 = v := Nat.mod_eq_of_lt hv

/-- with a sign -/
def sgn (v k : Nat) : Int := if k = 0 then 0 else if v % 2 ^ k < 2 ^ (k - 1) then ((v % 2 ^ k : Nat) : Int) else ((v % 2 ^ k : Nat) : Int) - ((2 ^ k : Nat) : Int)

theorem sgn_shift (v k : Nat) (hk : k ≤ 64) (h1 : 1 ≤ k) :
    wrap64 ((v * 2 ^ (64 - k) % 18446744073709551616 : Nat) : Int) / 2 ^ (64 - k) = sgn v k := by
  have e := shl_mod 64 v (64 - k) (by omega)
  rw [show 64 - (64 - k) = k by omega] at e
  rw [show (18446744073709551616 : Nat) = 2 ^ 64 from rfl, e]
  have hm : v % 2 ^ k < 2 ^ k := Nat.mod_lt _ (Nat.two_pow_pos _)
  have hs : 2 ^ k = 2 * 2 ^ (k - 1) := by rw [← Nat.pow_succ']; congr 1; omega
  have h64 : 18446744073709551616 = 2 ^ k * 2 ^ (64 - k) := by
    rw [← Nat.pow_add, show k + (64 - k) = 64 by omega]
  unfold sgn
  rw [if_neg (by omega), int_pow]
  generalize v % 2 ^ k = m at *
  have hq : 0 < 2 ^ (64 - k) := Nat.two_pow_pos _
  generalize 2 ^ (64 - k) = q at *
  generalize 2 ^ (k - 1) = h at *
  rw [hs] at h64
  have h63 : h * q = 9223372036854775808 := by rw [Nat.mul_assoc] at h64; omega
  by_cases hlt : m < h
  · rw [if_pos hlt]
    have hmq : m * q < h * q := Nat.mul_lt_mul_of_pos_right hlt hq
    have : wrap64 ((m * q : Nat) : Int) = ((m * q : Nat) : Int) := by unfold wrap64; omega
    rw [this]
    exact_mod_cast Nat.mul_div_cancel m hq
  · rw [if_neg hlt]
    have hmq : h * q ≤ m * q := Nat.mul_le_mul_right q (by omega)
    have hmq2 : m * q < 2 * h * q := Nat.mul_lt_mul_of_pos_right (by omega) hq
    have h2 : 2 * h * q = 18446744073709551616 := by omega
    have : wrap64 ((m * q : Nat) : Int) = ((m * q : Nat) : Int) - ((2 * h * q : Nat) : Int) := by unfold wrap64; omega
    rw [this, hs]
    rw [show ((m * q : Nat) : Int) - ((2 * h * q : Nat) : Int) = ((m : Int) - ((2 * h : Nat) : Int)) * (q : Int) by push_cast; rw [Int.sub_mul]]
    rw [Int.mul_ediv_cancel _ (by omega)]

/-! the number of a row of bits, the lowest first -/
def wh : List Nat → Nat
  | [] => 0
  | x :: r => x + 2 * wh r

theorem wh_lt : ∀ (xs : List Nat), (∀ x ∈ xs, x ≤ 1) → wh xs < 2 ^ xs.length
  | [], _ => by simp [wh]
  | x :: r, h => by
    have h1 := h x (by simp)
    have h2 := wh_lt r (fun y hy => h y (by simp [hy]))
    simp only [wh, List.length_cons, Nat.pow_succ]; omega

theorem wh_drop (xs : List Nat) (i : Nat) (x : Nat) (h : xs[i]? = some x) : wh (xs.drop i) = x + 2 * wh (xs.drop (i + 1)) := by
  obtain ⟨hi, hx⟩ := List.getElem?_eq_some_iff.1 h
  rw [List.drop_eq_getElem_cons hi, hx]; rfl

/-- the first k bits of a number -/
def bitsOf (v k : Nat) : List Nat := (List.range k).map fun i => v / 2 ^ i % 2

theorem bitsOf_length (v k : Nat) : (bitsOf v k).length = k := by simp [bitsOf]
theorem bitsOf_le (v k : Nat) : ∀ x ∈ bitsOf v k, x ≤ 1 := by
  intro x hx; simp [bitsOf] at hx; obtain ⟨i, _, rfl⟩ := hx; omega
theorem bitsOf_get (v k i : Nat) (h : i < k) : (bitsOf v k)[i]? = some (v / 2 ^ i % 2) := by simp [bitsOf, h]
theorem bitsOf_cons (v k : Nat) : bitsOf v (k + 1) = v % 2 :: bitsOf (v / 2) k := by
  simp only [bitsOf, List.range_succ_eq_map, List.map_cons, List.map_map, Nat.pow_zero, Nat.div_one, List.cons.injEq, true_and]
  apply List.map_congr_left
  intro i _
  simp only [Function.comp]
  rw [Nat.div_div_eq_div_mul, Nat.succ_eq_add_one, Nat.pow_succ, Nat.mul_comm]

theorem wh_bitsOf : ∀ (k v : Nat), wh (bitsOf v k) = v % 2 ^ k
  | 0, v => by simp [bitsOf, wh]; omega
  | k + 1, v => by
    rw [bitsOf_cons, wh, wh_bitsOf k (v / 2), Nat.pow_succ, Nat.mul_comm (2 ^ k) 2, Nat.mod_mul]

/-- the bits turned round, as a number -/
def rev (v : Nat) : Nat → Nat
  | 0 => 0
  | k + 1 => 2 * rev v k + v / 2 ^ k % 2

theorem rev_lt (v k : Nat) : rev v k < 2 ^ k := by
  induction k with
  | zero => simp [rev]
  | succ k ih => simp only [rev, Nat.pow_succ]; omega

theorem wh_reverse (v k : Nat) : wh (bitsOf v k).reverse = rev v k := by
  induction k with
  | zero => simp [bitsOf, wh, rev]
  | succ k ih =>
    have : bitsOf v (k + 1) = bitsOf v k ++ [v / 2 ^ k % 2] := by simp [bitsOf, List.range_succ]
    rw [this, List.reverse_append, List.reverse_singleton, List.singleton_append, wh, ih, rev]; omega

/-- how many bits are 1 -/
def pop (v : Nat) : Nat → Nat
  | 0 => 0
  | k + 1 => pop v k + v / 2 ^ k % 2

theorem pop_le (v k : Nat) : pop v k ≤ k := by
  induction k with
  | zero => simp [pop]
  | succ k ih => simp only [pop]; omega

theorem pop_succ (v : Nat) : ∀ k, pop v (k + 1) = v % 2 + pop (v / 2) k
  | 0 => by simp [pop]
  | k + 1 => by
    rw [pop, pop_succ v k, pop, Nat.div_div_eq_div_mul, ← Nat.pow_succ', Nat.succ_eq_add_one]; omega

theorem and_half (a b : Nat) : (a &&& b) / 2 = a / 2 &&& b / 2 := by
  have := Nat.and_div_two_pow (a := a) (b := b) (n := 1); simpa using this
theorem and_low (a b : Nat) : (a &&& b) % 2 = (a % 2) * (b % 2) := by
  have h := Nat.and_mod_two_pow (a := a) (b := b) (n := 1)
  simp only [Nat.pow_one] at h
  rw [h]
  rcases Nat.mod_two_eq_zero_or_one a with h1 | h1 <;> rcases Nat.mod_two_eq_zero_or_one b with h2 | h2 <;> rw [h1, h2] <;> rfl

theorem pop_strip : ∀ (k v : Nat), v ≠ 0 → v < 2 ^ k → pop (v &&& (v - 1)) k + 1 = pop v k
  | 0, v, h0, h => by simp at h; omega
  | k + 1, v, h0, h => by
    rw [pop_succ, pop_succ, and_half, and_low]
    by_cases hodd : v % 2 = 1
    · have e : (v - 1) / 2 = v / 2 := by omega
      rw [e, Nat.and_self, hodd, show (v - 1) % 2 = 0 by omega]; omega
    · have e : (v - 1) / 2 = v / 2 - 1 := by omega
      rw [e, show v % 2 = 0 by omega]
      have := pop_strip k (v / 2) (by omega) (by rw [Nat.pow_succ] at h; omega)
      omega

theorem and_pred_lt (v : Nat) (h : v ≠ 0) : v &&& (v - 1) < v := by
  have := Nat.and_le_right (n := v) (m := v - 1); omega

theorem pop_zero (k : Nat) : pop 0 k = 0 := by
  induction k with
  | zero => rfl
  | succ k ih => simp [pop, ih]

theorem wh_flip : ∀ (xs : List Nat), (∀ x ∈ xs, x ≤ 1) → wh (xs.map (1 - ·)) + wh xs = 2 ^ xs.length - 1
  | [], _ => by simp [wh]
  | x :: r, h => by
    have h1 := h x (by simp)
    have h2 := wh_flip r (fun y hy => h y (by simp [hy]))
    have h3 : 0 < 2 ^ r.length := Nat.two_pow_pos _
    simp only [wh, List.map_cons, List.length_cons, Nat.pow_succ]; omega

theorem bit_top (v k : Nat) : v % 2 ^ (k + 1) = v % 2 ^ k + 2 ^ k * (v / 2 ^ k % 2) := by
  rw [Nat.pow_succ, Nat.mod_mul]

theorem sgn_low (v k : Nat) (h : v / 2 ^ k % 2 = 0) : sgn v (k + 1) = ((v % 2 ^ (k + 1) : Nat) : Int) := by
  have h1 := bit_top v k
  have h2 : v % 2 ^ k < 2 ^ k := Nat.mod_lt _ (Nat.two_pow_pos _)
  unfold sgn
  rw [if_neg (by omega), if_pos (by rw [h1, h]; simpa using h2)]

theorem sgn_high (v k : Nat) (h : ¬ v / 2 ^ k % 2 = 0) : sgn v (k + 1) = ((v % 2 ^ (k + 1) : Nat) : Int) - ((2 ^ (k + 1) : Nat) : Int) ∧ 2 ^ k ≤ v % 2 ^ (k + 1) := by
  have h1 := bit_top v k
  have h3 : v / 2 ^ k % 2 = 1 := by omega
  rw [h3, Nat.mul_one] at h1
  refine ⟨?_, by omega⟩
  unfold sgn
  rw [if_neg (by omega), if_neg (by rw [h1, Nat.add_sub_cancel]; omega)]

theorem sgn_bounds (v k : Nat) (hk : k ≤ 64) : -9223372036854775808 ≤ sgn v k ∧ sgn v k ≤ 9223372036854775807 := by
  unfold sgn
  by_cases h0 : k = 0
  · rw [if_pos h0]; omega
  · rw [if_neg h0]
    have hp : 2 ^ (k - 1) ≤ 2 ^ 63 := Nat.pow_le_pow_right (by decide) (by omega)
    have hs : 2 ^ k = 2 * 2 ^ (k - 1) := by rw [← Nat.pow_succ']; congr 1; omega
    have hm : v % 2 ^ k < 2 ^ k := Nat.mod_lt _ (Nat.two_pow_pos _)
    split <;> omega

/-- what fits: the number of so many bits that it is itself -/
theorem sgn_fits (v : Int) (hv : -9223372036854775808 ≤ v) (hv2 : v ≤ 9223372036854775807) (k : Nat) (h1 : 1 ≤ k) (hk : k ≤ 63) :
    sgn (v % 18446744073709551616).toNat k = v ↔ -((2 ^ (k - 1) : Nat) : Int) ≤ v ∧ v < ((2 ^ (k - 1) : Nat) : Int) := by
  obtain ⟨u, hu⟩ : ∃ u, u = (v % 18446744073709551616).toNat := ⟨_, rfl⟩
  rw [← hu]
  have hs : 2 ^ k = 2 * 2 ^ (k - 1) := by rw [← Nat.pow_succ']; congr 1; omega
  have hm : u % 2 ^ k < 2 ^ k := Nat.mod_lt _ (Nat.two_pow_pos _)
  have hq : (18446744073709551616 : Nat) = 2 ^ (64 - k) * 2 ^ k := by rw [← Nat.pow_add, show 64 - k + k = 64 by omega]
  have hd := Nat.div_add_mod u (2 ^ k)
  have hhp : 0 < 2 ^ (k - 1) := Nat.two_pow_pos _
  have hbig : 2 ^ k ≤ 2 ^ 63 := Nat.pow_le_pow_right (by decide) hk
  have key : ((u % 2 ^ k : Nat) : Int) = v % ((2 ^ k : Nat) : Int) := by
    have e1 : (u : Int) = v % 18446744073709551616 := by rw [hu]; omega
    rw [Int.natCast_emod, e1]
    have : (18446744073709551616 : Int) = ((2 ^ k : Nat) : Int) * ((2 ^ (64 - k) : Nat) : Int) := by
      rw [← Int.natCast_mul, Nat.mul_comm, ← hq]; rfl
    rw [this, Int.emod_emod_of_dvd _ ⟨_, rfl⟩]
  unfold sgn
  rw [if_neg (by omega)]
  generalize 2 ^ (k - 1) = h at *
  generalize 2 ^ k = p at *
  subst hs
  have hpos : (0 : Int) < ((2 * h : Nat) : Int) := by omega
  have hr0 := Int.emod_nonneg v (Int.ne_of_gt hpos)
  have hr1 := Int.emod_lt_of_pos v hpos
  have hdv := Int.mul_ediv_add_emod v ((2 * h : Nat) : Int)
  rw [← key] at hr0 hr1 hdv
  generalize u % (2 * h) = m at *
  constructor
  · intro he
    split at he <;> omega
  · rintro ⟨ha, hb⟩
    by_cases hv0 : 0 ≤ v
    · have e : v % ((2 * h : Nat) : Int) = v := Int.emod_eq_of_lt hv0 (by omega)
      rw [e] at key
      rw [if_pos (by omega)]; omega
    · have e : v % ((2 * h : Nat) : Int) = v + ((2 * h : Nat) : Int) := by
        rw [← Int.add_emod_right, Int.emod_eq_of_lt (by omega) (by omega)]
      rw [e] at key
      rw [if_neg (by omega)]; omega

theorem sgn_full (v : Int) (hv : -9223372036854775808 ≤ v) (hv2 : v ≤ 9223372036854775807) : sgn (v % 18446744073709551616).toNat 64 = v := by
  unfold sgn
  rw [if_neg (by omega), show (2 : Nat) ^ (64 - 1) = 9223372036854775808 from rfl, show (2 : Nat) ^ 64 = 18446744073709551616 from rfl]
  split <;> omega

end Go.Proofs.Ytgdjfijkbemkeaa.Bm
