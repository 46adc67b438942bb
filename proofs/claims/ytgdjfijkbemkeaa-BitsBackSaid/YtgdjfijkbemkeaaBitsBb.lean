import Derived.Test.YtgdjfijkbemkeaaBitsL
namespace Go.Proofs.Ytgdjfijkbemkeaa.Bm
open Go.RowKit

theorem rotl_back (x a : Nat) (hx : x < 4294967296) (h0 : 0 < a) (ha : a < 32) : rotl (rotl x a) (32 - a) = x := by
  have e1 : 32 - (32 - a) = a := by omega
  have hpq : 2 ^ (32 - a) * 2 ^ a = 4294967296 := by rw [← Nat.pow_add, show 32 - a + a = 32 by omega]
  unfold rotl
  rw [e1]
  have hP : 0 < 2 ^ (32 - a) := Nat.two_pow_pos _
  have hQ : 0 < 2 ^ a := Nat.two_pow_pos _
  generalize 2 ^ (32 - a) = P at *
  generalize 2 ^ a = Q at *
  have hlt : x / P < Q := by rw [Nat.div_lt_iff_lt_mul hP, Nat.mul_comm, hpq]; exact hx
  have hm : (x % P * Q + x / P) % Q = x / P := by
    rw [Nat.mul_comm, Nat.mul_add_mod, Nat.mod_eq_of_lt hlt]
  have hd : (x % P * Q + x / P) / Q = x % P := by
    rw [Nat.mul_comm, Nat.mul_add_div hQ, Nat.div_eq_of_lt hlt]; omega
  rw [hm, hd]
  have := Nat.div_add_mod x P
  rw [Nat.mul_comm] at this
  exact this

theorem rotl_turn (x : Nat) (n : Int) (hx : x < 4294967296) : rotl (rotl x (n % 32).toNat) ((-n) % 32).toNat = x := by
  by_cases h : n % 32 = 0
  · have h2 : (-n) % 32 = 0 := by omega
    rw [h, h2]
    show rotl (rotl x 0) 0 = x
    rw [rotl_zero x hx, rotl_zero x hx]
  · have h2 : ((-n) % 32).toNat = 32 - (n % 32).toNat := by omega
    rw [h2]
    exact rotl_back x _ hx (by omega) (by omega)

theorem bitsOf_wh : ∀ (xs : List Nat), (∀ x ∈ xs, x ≤ 1) → bitsOf (wh xs) xs.length = xs
  | [], _ => rfl
  | x :: r, h => by
    have h1 := h x (by simp)
    rw [List.length_cons, bitsOf_cons, wh, show (x + 2 * wh r) % 2 = x by omega, show (x + 2 * wh r) / 2 = wh r by omega, bitsOf_wh r (fun y hy => h y (by simp [hy]))]

theorem bitsOf_rev (v k : Nat) : bitsOf (rev v k) k = (bitsOf v k).reverse := by
  have h := bitsOf_wh (bitsOf v k).reverse (fun x hx => bitsOf_le v k x (List.mem_reverse.1 hx))
  rw [List.length_reverse, bitsOf_length, wh_reverse] at h
  exact h

theorem rev_rev (v k : Nat) : rev (rev v k) k = v % 2 ^ k := by
  rw [← wh_reverse, bitsOf_rev, List.reverse_reverse, wh_bitsOf]

theorem pop_sum (v : Nat) : ∀ k, pop v k = (bitsOf v k).sum
  | 0 => rfl
  | k + 1 => by
    have : bitsOf v (k + 1) = bitsOf v k ++ [v / 2 ^ k % 2] := by simp [bitsOf, List.range_succ]
    rw [this, List.sum_append, pop, pop_sum v k]; simp

theorem pop_high (v k : Nat) (hv : v < 2 ^ k) : ∀ j, pop v (k + j) = pop v k
  | 0 => rfl
  | j + 1 => by
    have : v / 2 ^ (k + j) = 0 := Nat.div_eq_of_lt (Nat.lt_of_lt_of_le hv (Nat.pow_le_pow_right (by decide) (by omega)))
    rw [← Nat.add_assoc, pop, this, pop_high v k hv j]; rfl

theorem bitsOf_mod (v k : Nat) : bitsOf (v % 2 ^ k) k = bitsOf v k := by
  have h := bitsOf_wh (bitsOf v k) (bitsOf_le v k)
  rw [bitsOf_length, wh_bitsOf] at h
  exact h

theorem pop_rev (v k : Nat) (hk : k ≤ 64) : pop (rev v k) 64 = pop (v % 2 ^ k) 64 := by
  have e : 64 = k + (64 - k) := by omega
  rw [e, pop_high _ k (rev_lt v k), pop_high _ k (Nat.mod_lt _ (Nat.two_pow_pos _)), pop_sum, pop_sum, bitsOf_rev, bitsOf_mod, List.sum_reverse]

theorem low_sgn (v k : Nat) (hk : k ≤ 64) (h1 : 1 ≤ k) : (sgn v k % 18446744073709551616).toNat % 2 ^ k = v % 2 ^ k := by
  have hm : v % 2 ^ k < 2 ^ k := Nat.mod_lt _ (Nat.two_pow_pos _)
  have h64 : (18446744073709551616 : Nat) = 2 ^ k * 2 ^ (64 - k) := by rw [← Nat.pow_add, show k + (64 - k) = 64 by omega]
  have hp : 2 ^ k ≤ 2 ^ 64 := Nat.pow_le_pow_right (by decide) hk
  have hq : 0 < 2 ^ (64 - k) := Nat.two_pow_pos _
  unfold sgn
  rw [if_neg (by omega)]
  generalize v % 2 ^ k = m at *
  generalize 2 ^ (k - 1) = g at *
  generalize 2 ^ (64 - k) = q at *
  generalize 2 ^ k = p at *
  split
  · rw [show (((m : Nat) : Int) % 18446744073709551616).toNat = m by omega]
    exact Nat.mod_eq_of_lt hm
  · obtain ⟨r, rfl⟩ : ∃ r, q = r + 1 := ⟨q - 1, by omega⟩
    have e : (((m : Int) - (p : Int)) % 18446744073709551616).toNat = m + p * r := by
      rw [Nat.mul_add, Nat.mul_one] at h64
      omega
    rw [e, Nat.add_mul_mod_self_left]
    exact Nat.mod_eq_of_lt hm

theorem sgn_mod (u v k : Nat) (h : u % 2 ^ k = v % 2 ^ k) : sgn u k = sgn v k := by
  unfold sgn; rw [h]
end Go.Proofs.Ytgdjfijkbemkeaa.Bm
namespace Go.Proofs.Ytgdjfijkbemkeaa
open Go.RowKit
set_option maxHeartbeats 400000
set_option maxRecDepth 20000
set_option linter.unusedVariables false

theorem fits_signed (V : Nat) (n : Int) : fitsB (Bm.sgn V (Bm.clamp n)) n = decide (1 ≤ n) := by
  unfold fitsB
  rw [decide_eq_decide]
  constructor
  · exact fun h => h.1
  · intro h
    have hk : 1 ≤ Bm.clamp n := by unfold Bm.clamp; omega
    have hk2 : Bm.clamp n ≤ 64 := by unfold Bm.clamp; omega
    exact ⟨h, Bm.sgn_mod _ _ _ (Bm.low_sgn V _ hk2 hk)⟩

theorem put_cases (V : Nat) (m : Int) :
    (∃ k : Nat, m = (k : Int) ∧ 1 ≤ k ∧ k ≤ 8 ∧ putS V m = beput V k ∧ putE V m = 0 ∧ ∃ sb : ByteArray, sb = ⟨(beput V k).toArray⟩ ∧ sb.size = k ∧ getN sb.data.toList = V ∧ getE sb.data.toList = 0) ∨
    (putS V m = [] ∧ putE V m = 1 ∧ (1 ≤ m → m ≤ 8 → V % 2 ^ Bm.clamp (8 * m) ≠ V)) := by
  by_cases h : putOk V m = true
  · refine Or.inl ?_
    obtain ⟨h1, h8, hlt⟩ := of_decide_eq_true h
    have hl := beput_length V m.toNat
    have hs : (⟨(beput V m.toNat).toArray⟩ : ByteArray).data.toList = beput V m.toNat := rfl
    have hne : beput V m.toNat ≠ [] := fun e => by rw [e] at hl; simp at hl; omega
    refine ⟨m.toNat, by omega, by omega, by omega, by unfold putS; rw [if_pos h], by unfold putE; rw [if_pos h], _, rfl, ?_, ?_, ?_⟩
    · show (beput V m.toNat).toArray.size = _
      rw [List.size_toArray, hl]
    · rw [hs]; unfold getN
      rw [if_neg (by rintro (h2 | h2); exact hne h2; omega), beval_beput, Nat.mod_eq_of_lt hlt]
    · rw [hs]; unfold getE
      rw [if_neg hne, if_neg (by omega)]
  · refine Or.inr ⟨by unfold putS; rw [if_neg h], by unfold putE; rw [if_neg h], fun h1 h8 he => h ?_⟩
    unfold putOk
    refine decide_eq_true ⟨h1, h8, ?_⟩
    have hcl : Bm.clamp (8 * m) = 8 * m.toNat := by unfold Bm.clamp; omega
    rw [hcl, Nat.pow_mul] at he
    rw [← he]
    exact Nat.mod_lt _ (Nat.pow_pos (by decide))

theorem bitsBack (X V : Nat) (n m : Int) (hX : X < 4294967296) (hV : V < 18446744073709551616) (hn1 : -9223372036854775808 ≤ n) (hn2 : n ≤ 9223372036854775807) (w : World) :
    Calls Try.prog 5 #[.int .u32 X, .int .u64 V, .int .i64 n, .int .i64 m] w fun e w' => e = .returned (.bool true) ∧ Below w.heap.size w w' := by
  have hput := put_cases V m
  have hcl : Bm.clamp n ≤ 64 := by unfold Bm.clamp; omega
  have hpow : 2 ^ Bm.clamp n ≤ 2 ^ 64 := Nat.pow_le_pow_right (by decide) hcl
  have hrev := Bm.rev_lt V (Bm.clamp n)
  have hlowlt : V % 2 ^ Bm.clamp n < 2 ^ Bm.clamp n := Nat.mod_lt _ (Nat.two_pow_pos _)
  have hsb := Bm.sgn_bounds V (Bm.clamp n) hcl
  have c1 := fun w => rotate X n hX w
  have c2 := fun w => rotate (Bm.rotl X (n % 32).toNat) (-n) (Bm.rotl_lt X _ hX (by omega)) w
  have c3 := fun w => turn V n hV w
  have c4 := fun w => turn (Bm.rev V (Bm.clamp n)) n (by omega) w
  have c5 := fun w => low V n hV w
  have c6 := fun w => count (Bm.rev V (Bm.clamp n)) (by omega) w
  have c7 := fun w => count (V % 2 ^ Bm.clamp n) (by omega) w
  have c8 := fun w => signed V n hV w
  have c9 := fun w => fits (Bm.sgn V (Bm.clamp n)) n hsb.1 hsb.2 w
  have c10 := fun w => low (Bm.sgn V (Bm.clamp n) % 18446744073709551616).toNat n (by omega) w
  rw [Bm.rotl_turn X n hX] at c2
  rw [Bm.rev_rev] at c4
  rw [Bm.pop_rev _ _ hcl] at c6
  rw [fits_signed] at c9
  have h10 : 1 ≤ n → (Bm.sgn V (Bm.clamp n) % 18446744073709551616).toNat % 2 ^ Bm.clamp n = V % 2 ^ Bm.clamp n := fun h =>
    Bm.low_sgn V _ hcl (by unfold Bm.clamp; omega)
  have hconv : IntKind.u64.wrap (Bm.sgn V (Bm.clamp n)) = (((Bm.sgn V (Bm.clamp n) % 18446744073709551616).toNat : Nat) : Int) := by rw [IntKind.wrap_u64]; omega
  have H10 := Lib.hid h10
  have HC := Lib.hid hconv
  clear h10 hconv hpow hrev hlowlt hsb
  obtain ⟨s1, hs1⟩ : ∃ s, s = (Bm.sgn V (Bm.clamp n) % 18446744073709551616).toNat := ⟨_, rfl⟩
  rw [← hs1] at c10 H10 HC
  clear hs1
  obtain ⟨s2, hs2⟩ : ∃ s, s = s1 % 2 ^ Bm.clamp n := ⟨_, rfl⟩
  rw [← hs2] at c10 H10
  clear hs2
  generalize Bm.sgn V (Bm.clamp n) = s0 at *
  generalize Bm.rotl X (n % 32).toNat = r1 at *
  generalize Bm.rev V (Bm.clamp n) = r2 at *
  generalize V % 2 ^ Bm.clamp n = r3 at *
  generalize Bm.pop r3 64 = r4 at *
  go_enter Try.func5, Try.ntmps5
  go_wp2_with fail
  refine (awake01 _).mono ?_
  rintro e w1 ⟨rfl, hb1⟩
  by_cases ha : n < -100
  · go_wp2
    go_ret
    exact ⟨rfl, hb1⟩
  by_cases hb : 100 < n
  · go_wp2
    go_ret
    exact ⟨rfl, hb1⟩
  go_wp2_with fail
  refine (c1 _).mono ?_; rintro e w' ⟨rfl, rfl⟩
  go_wp2_with fail
  refine (c2 _).mono ?_; rintro e w' ⟨rfl, rfl⟩
  go_wp2_with fail
  refine (c3 _).mono ?_; rintro e w2 ⟨rfl, hb2⟩
  go_wp2_with fail
  refine (c4 _).mono ?_; rintro e w3 ⟨rfl, hb3⟩
  go_wp2_with fail
  refine (c5 _).mono ?_; rintro e w' ⟨rfl, rfl⟩
  go_wp2_with fail
  refine (c3 _).mono ?_; rintro e w4 ⟨rfl, hb4⟩
  go_wp2_with fail
  refine (c6 _).mono ?_; rintro e w' ⟨rfl, rfl⟩
  go_wp2_with fail
  refine (c5 _).mono ?_; rintro e w' ⟨rfl, rfl⟩
  go_wp2_with fail
  refine (c7 _).mono ?_; rintro e w' ⟨rfl, rfl⟩
  go_wp2_with fail
  refine (c8 _).mono ?_; rintro e w' ⟨rfl, rfl⟩
  go_wp2_with fail
  refine (c9 _).mono ?_; rintro e w' ⟨rfl, rfl⟩
  have g2 := hb1.trans (hb2.mono hb1.size)
  have g3 := g2.trans (hb3.mono g2.size)
  have g4 := g3.trans (hb4.mono g3.size)
  clear hb1 hb2 hb3 hb4 c1 c2 c3 c4 c6 c7 c9
  rcases Classical.em (1 ≤ n) with hn | hn
  all_goals
    go_wp2_with fail
    first
      | (refine (c8 _).mono ?_; rintro e w' ⟨rfl, rfl⟩
         go_wp2_with fail
         rw [HC.out]
         refine (c10 _).mono ?_; rintro e w' ⟨rfl, rfl⟩
         rw [H10.out hn]
         go_wp2_with fail
         refine (c5 _).mono ?_; rintro e w' ⟨rfl, rfl⟩
         go_wp2_with fail)
      | skip
    clear c5 c8 c10 H10 HC
    refine (put V m hV _).mono ?_; rintro e w5 ⟨rfl, hb5⟩
    have g5 := g4.trans (hb5.mono g4.size)
    clear hb5 g2 g3 g4
    rcases hput with ⟨k, hm, hk1, hk8, hS, hE, sb, hsb, hsz, hgN, hgE⟩ | ⟨hS, hE, hlow⟩
    · subst hm
      rw [hS, hE, ← hsb]
      have c11 := fun w => get sb (by rw [hsz]; unfold maxLen; omega) w
      rw [hgN, hgE] at c11
      have hsz2 : ((sb.size : Nat) : Int) = (k : Int) := by rw [hsz]
      clear hS hE hsb hgN hgE hsz
      go_wp2_with fail
      refine (c11 _).mono ?_; rintro e w6 ⟨rfl, hb6⟩
      go_wp2
      go_ret
      exact ⟨rfl, g5.trans (hb6.mono g5.size)⟩
    · rw [hS, hE]
      clear hS hE
      by_cases h1 : m < 1
      · clear hlow
        go_wp2
        go_ret
        exact ⟨rfl, g5⟩
      by_cases h8 : 8 < m
      · clear hlow
        go_wp2
        go_ret
        exact ⟨rfl, g5⟩
      have hne := hlow (by omega) (by omega)
      have c12 := fun w => low V (8 * m) hV w
      generalize V % 2 ^ Bm.clamp (8 * m) = r9 at *
      have hne2 : ((r9 : Int) != (V : Int)) = true := by rw [bne_iff_ne]; omega
      clear hlow hne
      go_wp2_with fail
      refine (c12 _).mono ?_; rintro e w' ⟨rfl, rfl⟩
      go_wp2
      go_ret
      exact ⟨rfl, g5⟩
