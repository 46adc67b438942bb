/-
  Walk: the reference's Of.
-/
import Derived.Test.YtgdjfijkbemkeaaShaH
namespace Go.Proofs.Ytgdjfijkbemkeaa
open Go.RowKit
set_option maxHeartbeats 40000000
set_option maxRecDepth 20000
set_option linter.unusedVariables false

theorem info_s8z : (Try.prog.info? 44).map (fun i => (i.zero, i.size)) = some (some (.agg (stA ⟨0, 0, 0, 0, 0, 0, 0, 0⟩)), 8) := by kernel_rfl
theorem s8z : ∃ i, Try.prog.info? 44 = some i ∧ i.zero = some (.agg (stA ⟨0, 0, 0, 0, 0, 0, 0, 0⟩)) ∧ i.size = 8 := by
  have h := info_s8z
  cases hi : Try.prog.info? 44 with
  | none => rw [hi] at h; cases h
  | some i =>
    rw [hi] at h
    simp only [Option.map_some, Option.some.injEq, Prod.mk.injEq] at h
    exact ⟨i, rfl, h.1, h.2⟩
theorem s8s : (Try.prog.info? 44).map (·.size) = some 8 := by kernel_rfl

theorem info_u32 : (Try.prog.info? 22).map (fun i => (i.zero, i.size, i.bytes)) = some (some (.int .u32 0), 1, 4) := by kernel_rfl
/-- words as cells -/
def u32s (l : List Nat) : List Value := l.map fun (x : Nat) => Value.int .u32 (x : Int)
theorem word_eq (b : List UInt8) (k : Nat) (h : 4 * k + 4 ≤ b.length) : Sm.word b k = (b.getD (4 * k) 0).toNat * 16777216 + (b.getD (4 * k + 1) 0).toNat * 65536 + (b.getD (4 * k + 2) 0).toNat * 256 + (b.getD (4 * k + 3) 0).toNat := by
  unfold Sm.word
  have e : (b.drop (4 * k)).take 4 = [b.getD (4 * k) 0, b.getD (4 * k + 1) 0, b.getD (4 * k + 2) 0, b.getD (4 * k + 3) 0] := by
    apply List.ext_getElem?
    intro i
    by_cases hi : i < 4
    · rw [List.getElem?_take_of_lt hi, List.getElem?_drop]
      match i, hi with
      | 0, _ => rw [List.getElem?_cons_zero, List.getD_eq_getElem?_getD, Nat.add_zero, List.getElem?_eq_getElem (by omega)]; rfl
      | 1, _ => rw [List.getElem?_cons_succ, List.getElem?_cons_zero, List.getD_eq_getElem?_getD, List.getElem?_eq_getElem (by omega)]; rfl
      | 2, _ => rw [List.getElem?_cons_succ, List.getElem?_cons_succ, List.getElem?_cons_zero, List.getD_eq_getElem?_getD, List.getElem?_eq_getElem (by omega)]; rfl
      | 3, _ => rw [List.getElem?_cons_succ, List.getElem?_cons_succ, List.getElem?_cons_succ, List.getElem?_cons_zero, List.getD_eq_getElem?_getD, List.getElem?_eq_getElem (by omega)]; rfl
    · rw [List.getElem?_eq_none (by rw [List.length_take]; omega), List.getElem?_eq_none (by show 4 ≤ i; omega)]
  rw [e]
  simp only [List.foldl_cons, List.foldl_nil]
  omega

theorem Sm.digTo_get (S : Sm.St) : ∀ (k i : Nat), i < 4 * k → (Sm.digTo S k)[i]? = some (UInt8.ofNat (S.get (i / 4) / 256 ^ (3 - i % 4) % 256)) := by
  intro k
  induction k with
  | zero => intro i hi; omega
  | succ k ih =>
    intro i hi
    rw [Sm.digTo_succ]
    by_cases h : i < 4 * k
    · rw [List.getElem?_append_left (by rw [Sm.digTo_length]; exact h), ih i h]
    · rw [List.getElem?_append_right (by rw [Sm.digTo_length]; omega), Sm.digTo_length]
      have h2 := beput_get 4 (S.get k) (3 - (i - 4 * k)) (by omega)
      rw [show 4 - 1 - (3 - (i - 4 * k)) = i - 4 * k by omega] at h2
      rw [h2, show i / 4 = k by omega, show i % 4 = i - 4 * k by omega]

theorem stA_set (f : Nat → Nat) (k y : Nat) (hk : k < 8) : (stA (Sm.ofGet f)).setIfInBounds k (.int .u32 (y : Int)) = stA (Sm.ofGet fun i => if i = k then y else f i) := by
  match k, hk with
  | 0, _ => rfl
  | 1, _ => rfl
  | 2, _ => rfl
  | 3, _ => rfl
  | 4, _ => rfl
  | 5, _ => rfl
  | 6, _ => rfl
  | 7, _ => rfl
theorem stA_put (S R : Sm.St) (k : Nat) (hk : k < 8) : (stA (Sm.mix S R k)).setIfInBounds k (.int .u32 (((S.get k + R.get k) % 4294967296 : Nat) : Int)) = stA (Sm.mix S R (k + 1)) := by
  rw [Sm.mix, stA_set _ _ _ hk]
  congr 1
  apply Sm.ofGet_congr
  intro i _
  unfold Sm.mixF
  by_cases h : i = k
  · subst h; rw [if_pos rfl, if_pos (by omega)]
  · rw [if_neg h]
    by_cases h2 : i < k
    · rw [if_pos h2, if_pos (by omega)]
    · rw [if_neg h2, if_neg (by omega)]

/-- a code's loops, the outer ones first -/
def loopsOf : Code → List Code
  | .loop c => c :: loopsOf c
  | .seq a b => loopsOf a ++ loopsOf b
  | .block _ c => loopsOf c
  | .scope c => loopsOf c
  | .cond _ a b => loopsOf a ++ loopsOf b
  | _ => []
noncomputable def lpOf (n : Nat) : Code := (((Try.f30.body.map loopsOf).getD [])[n]?).getD .skip
end Go.Proofs.Ytgdjfijkbemkeaa
