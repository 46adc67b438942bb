/-
  Walks: Hex, Unhex.
-/
import Derived.Test.YtgdjfijkbemkeaaShaD
import Derived.Test.YtgdjfijkbemkeaaBld
namespace Go.Proofs.Ytgdjfijkbemkeaa
open Go.RowKit
set_option maxHeartbeats 1000000
set_option maxRecDepth 20000
set_option linter.unusedVariables false

namespace Sm
def dig (n : Nat) : UInt8 := UInt8.ofNat (if n < 10 then 48 + n else 87 + n)
def hexTo (D : List UInt8) (k : Nat) : List UInt8 := (List.range k).flatMap fun i => [dig ((D.getD i 0).toNat / 16), dig ((D.getD i 0).toNat % 16)]
def hex (D : List UInt8) : List UInt8 := hexTo D 32
theorem hex_eq (D : List UInt8) : hex D = hexTo D 32 := by unfold hex; rfl
theorem hexTo_succ (D : List UInt8) (k : Nat) : hexTo D (k + 1) = hexTo D k ++ [dig ((D.getD k 0).toNat / 16), dig ((D.getD k 0).toNat % 16)] := by
  unfold hexTo; rw [List.range_succ, List.flatMap_append]; simp
theorem hexTo_length (D : List UInt8) (k : Nat) : (hexTo D k).length = 2 * k := by
  induction k with
  | zero => rfl
  | succ k ih => rw [hexTo_succ, List.length_append, ih]; simp; omega
def digits : ByteArray := ⟨#[48, 49, 50, 51, 52, 53, 54, 55, 56, 57, 97, 98, 99, 100, 101, 102]⟩
theorem digits_get (n : Nat) (hn : n < 16) : digits[n]'(by show n < 16; exact hn) = dig n := by
  have : ∀ m : Fin 16, digits[m.val]'(by show m.val < 16; exact m.isLt) = dig m.val := by decide
  exact this ⟨n, hn⟩
theorem hexTo_zero (D : List UInt8) : hexTo D 0 = [] := rfl
attribute [irreducible] hex hexTo
end Sm

theorem run_index_d (D : List UInt8) (k : Nat) (hk : k < 32) (w : World) : (Instr.index 50 (.agg (dArr D)) (.int .i64 (k : Int))).run Try.prog w = .ok (.int .u8 ((D.getD k 0).toNat : Int)) w := by
  have h3 : (Try.prog.info? 5).map (·.size) = some 1 := by kernel_rfl
  have hu := Try.underlying5
  cases hi : Try.prog.info? 5 with
  | none => rw [hi] at h3; cases h3
  | some i =>
    rw [hi] at h3
    simp only [Option.map_some, Option.some.injEq] at h3
    have hg := dArr_get D k hk
    simp only [Instr.index, asIntOf, Sem.run_bind, Sem.run_pure, Result.andThen_ok, run_underlying Try.underlying50, sizeOf, typeInfo]
    rw [if_pos ⟨by omega, by omega⟩]
    simp [part, isAgg, run_underlying hu, h3, typeInfo, hi, sizeOf, hg]

theorem run_index_dig (n : Nat) (hn : n < 16) (w : World) : (Instr.index 9 (.string ⟨#[48, 49, 50, 51, 52, 53, 54, 55, 56, 57, 97, 98, 99, 100, 101, 102]⟩) (.int .u8 (n : Int))).run Try.prog w = .ok (.int .u8 ((Sm.dig n).toNat : Int)) w := by
  have hg := Sm.digits_get n hn
  have hu := run_underlying Try.underlying9
  change (Instr.index 9 (.string Sm.digits) (.int .u8 (n : Int))).run Try.prog w = _
  have hs : Sm.digits.size = 16 := rfl
  have hget : Sm.digits[n]? = some (Sm.dig n) := by
    rw [← hg]; exact getElem?_pos Sm.digits n (by rw [hs]; exact hn)
  simp [Instr.index, asIntOf, hu, hget]

theorem and15 (c : Nat) (hc : c < 256) : bits .and .u8 (c : Int) 15 = ((c % 16 : Nat) : Int) := by
  have h := (bits_nat .u8 8 (by decide) (fun n h0 h1 => by rw [IntKind.wrap_u8]; omega) c 15 (by omega) (by omega)).1
  have h2 : c &&& 15 = c % 16 := Nat.and_two_pow_sub_one_eq_mod c 4
  rw [h2] at h
  exact h

theorem hex1 (D : List UInt8) (w : World) :
    Calls Try.prog 36 #[.agg (dArr D)] w fun e w' => e = .returned (.string ⟨(Sm.hex D).toArray⟩) ∧ Below w.heap.size w w' := by
  rw [Sm.hex_eq]
  have hD1 := heap_alloc_new w (.cells (dArr D) 50)
  have hbf := Lib.fresh_isBuilder 106 5 (w.alloc (.cells (dArr D) 50))
  rw [size_alloc] at hbf
  have hb0 : Below w.heap.size w ((w.alloc (.cells (dArr D) 50)).alloc (.cells #[.pointer none, .slice none 0 0] 106)) := ((Below.refl _ _).alloc (Nat.le_refl _) _).alloc (by rw [size_alloc]; omega) _
  have hsz : w.heap.size + 1 ≤ ((w.alloc (.cells (dArr D) 50)).alloc (.cells #[.pointer none, .slice none 0 0] 106)).heap.size := by rw [size_alloc, size_alloc]; omega
  have hD2 := blk_old _ (.cells #[.pointer none, .slice none 0 0] 106) hD1
  have HD2 := Lib.hid hD2
  have HBF := Lib.hid hbf
  clear hD1 hD2 hbf
  obtain ⟨R, hR⟩ : ∃ R, R = Sm.hexTo D 32 := ⟨_, rfl⟩
  rw [← hR]
  have HRR := Lib.hid hR
  clear hR
  go_enter Try.func36, Try.ntmps36
  go_wp2_with (refine wpList_load_row rfl 50 _ rfl w.heap.size rfl _ _ _ _ HD2.out Try.underlying50 rfl (by rw [d32s, dArr_size]) ?_)
  generalize (w.alloc (.cells (dArr D) 50)).alloc (.cells #[.pointer none, .slice none 0 0] 106) = w1 at *
  go_loopw [7] (fun c wr => ∃ k : Nat, k ≤ 32 ∧ c = .int .i64 (k : Int) ∧ Hid (Lib.IsBuilder 106 5 (w.heap.size + 1) (w.heap.size + 1) (Lib.byteCells (Sm.hexTo D k)) wr) ∧ w.heap.size + 1 ≤ wr.heap.size ∧ Below w.heap.size w wr) (fun c _ => 32 - (intOf c).toNat)
  case atStart => exact ⟨0, by omega, rfl, by rw [Sm.hexTo_zero]; exact HBF.out, hsz, hb0⟩
  case round =>
    obtain ⟨k, hk, rfl, HB, hs, hb⟩ := hrel
    by_cases hlt : k < 32
    · have hidx := run_index_d D k hlt
      have hlen := Sm.hexTo_length D k
      have hsuc := Sm.hexTo_succ D k
      have hc := (D.getD k 0).toNat_lt
      generalize (D.getD k 0).toNat = c at *
      have i1 := run_index_dig (c / 16) (by omega)
      have i2 := run_index_dig (c % 16) (by omega)
      generalize Sm.dig (c / 16) = x1 at *
      generalize Sm.dig (c % 16) = x2 at *
      have hshr : ((c : Int) / 16) = ((c / 16 : Nat) : Int) := by omega
      have hand : bits .and .u8 (c : Int) 15 = ((c % 16 : Nat) : Int) := and15 c (by omega)
      have HLEN := Lib.hid hlen
      have HSUC := Lib.hid hsuc
      have I1 := Lib.hid i1
      have I2 := Lib.hid i2
      obtain ⟨y1, hy1⟩ : ∃ y, y = c / 16 := ⟨_, rfl⟩
      obtain ⟨y2, hy2⟩ : ∃ y, y = c % 16 := ⟨_, rfl⟩
      rw [← hy1] at hshr i1
      rw [← hy2] at hand i2
      have hl1 : y1 < 16 := by omega
      have hl2 : y2 < 16 := by omega
      clear hlen hsuc hy1 hy2 I1 I2
      have hcl : (Lib.byteCells (Sm.hexTo D k)).length = 2 * k := by rw [Lib.byteCells_length, HLEN.out]
      go_wp2_with fail
      refine (bbyte _ _ _ _ _ HB.out (by omega) hs).mono ?_
      rintro e w2 ⟨rfl, kb, kw⟩
      have hs2 : w.heap.size + 1 ≤ w2.heap.size := by have := kw.size; omega
      go_wp2_with fail
      refine (bbyte _ _ _ _ _ (.inr kb) (by rw [List.length_append, hcl]; simp; omega) hs2).mono ?_
      rintro e w3 ⟨rfl, kb3, kw3⟩
      have hs3 : w.heap.size + 1 ≤ w3.heap.size := by have := kw3.size; omega
      have hfin : Hid (Lib.IsBuilder 106 5 (w.heap.size + 1) (w.heap.size + 1) (Lib.byteCells (Sm.hexTo D (k + 1))) w3) := by
        rw [HSUC.out, Lib.byteCells_append]
        have : Lib.byteCells [x1, x2] = [.int .u8 (x1.toNat : Int)] ++ [.int .u8 (x2.toNat : Int)] := rfl
        rw [this, ← List.append_assoc]
        exact .inr kb3
      have hbw3 := (hb.trans (kw.mono (by omega))).trans (kw3.mono (by omega))
      clear kb kb3 kw kw3
      go_wp2_with fail
      go_roundw
      case rel => exact ⟨k + 1, by omega, by go_num, hfin, hs3, hbw3⟩
      case measure => simp [intOf]; omega
    · obtain rfl : k = 32 := by omega
      have hst := Try.Builder_String_any (w.heap.size + 1) (w.heap.size + 1) (Sm.hexTo D 32) wr HB.out hs
      rw [← HRR.out] at hst
      go_wp2_with fail
      refine hst.mono ?_
      rintro e w4 ⟨rfl, kb⟩
      go_wp2_with fail
      go_ret
      exact ⟨rfl, hb.trans (kb.mono (by omega))⟩
end Go.Proofs.Ytgdjfijkbemkeaa
