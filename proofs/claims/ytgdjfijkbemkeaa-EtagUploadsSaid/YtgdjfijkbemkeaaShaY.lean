/-
  Walks: New, turned, block.
-/
import Derived.Test.YtgdjfijkbemkeaaShaX
import Derived.Test.YtgdjfijkbemkeaaShaN
import Derived.Test.YtgdjfijkbemkeaaBitsZ
import Derived.Deep.QuietTactic
import Derived.BigQuiet
namespace Go.Proofs.Ytgdjfijkbemkeaa
open Go.RowKit
set_option maxHeartbeats 1000000
set_option maxRecDepth 20000
set_option linter.unusedVariables false

theorem turned (x : Nat) (a b c : Int) (m : Bool) (hx : x < 4294967296) (ha : 0 < a) (ha2 : a < 32) (hb : 0 < b) (hb2 : b < 32) (hc : 0 < c) (hc2 : c < 32) (w : World) :
    Calls Try.prog 80 #[.int .u32 x, .int .i64 a, .int .i64 b, .int .i64 c, .bool m] w fun e w' => e = .returned (.int .u32 (Sm.sig x a.toNat b.toNat c.toNat m : Nat)) ∧ w = w' := by
  have c1 := rotate x (-a) hx w
  have c2 := rotate x (-b) hx w
  have c3 := rotate x (-c) hx w
  rw [Sm.rr_neg x a ha ha2] at c1
  rw [Sm.rr_neg x b hb hb2] at c2
  rw [Sm.rr_neg x c hc hc2] at c3
  have l1 := Sm.rr_lt x a.toNat hx (by omega)
  have l2 := Sm.rr_lt x b.toNat hx (by omega)
  have l3 := Sm.rr_lt x c.toNat hx (by omega)
  have l4 : x / 2 ^ c.toNat < 4294967296 := Nat.lt_of_le_of_lt (Nat.div_le_self _ _) hx
  have e4 : (x : Int) / 2 ^ c.toNat = ((x / 2 ^ c.toNat : Nat) : Int) := by rw [Int.natCast_ediv, Int.natCast_pow]; rfl
  unfold Sm.sig
  generalize Sm.rr x a.toNat = r1 at *
  generalize Sm.rr x b.toNat = r2 at *
  generalize Sm.rr x c.toNat = r3 at *
  obtain ⟨r4, h4⟩ : ∃ r, r = x / 2 ^ c.toNat := ⟨_, rfl⟩
  rw [← h4] at l4 e4 ⊢
  clear h4
  have e1 := Sm.bxor32 r1 r2 l1 l2
  have l5 := Sm.xor_lt32 r1 r2 l1 l2
  generalize r1 ^^^ r2 = r5 at *
  have e2 := Sm.bxor32 r5 r3 l5 l3
  have e3 := Sm.bxor32 r5 r4 l5 l4
  obtain ⟨r8, h8⟩ : ∃ r, r = r5 ^^^ (if m = true then r4 else r3) := ⟨_, rfl⟩
  rw [← h8]
  have H8 := Lib.hid h8
  clear h8
  cases m
  all_goals
    go_enter Try.func80, Try.ntmps80
    go_wp2_with fail
    refine c3.mono ?_; rintro e w' ⟨rfl, rfl⟩
    go_wp2_with fail
    refine c1.mono ?_; rintro e w' ⟨rfl, rfl⟩
    go_wp2_with fail
    refine c2.mono ?_; rintro e w' ⟨rfl, rfl⟩
    go_wp2
    go_ret
    rw [H8.out]
    exact ⟨rfl, rfl⟩

/-- the cells of a state -/
def stA (s : Sm.St) : Array Value := #[.int .u32 s.a, .int .u32 s.b, .int .u32 s.c, .int .u32 s.d, .int .u32 s.e, .int .u32 s.f, .int .u32 s.g, .int .u32 s.h]
/-- the cells of a tally -/
def talA (T : Nat) (s : Sm.St) (rest : ByteArray) (n : Int) : Array Value :=
  #[.pointer (some ⟨T, 0, none⟩), .int .u32 s.a, .int .u32 s.b, .int .u32 s.c, .int .u32 s.d, .int .u32 s.e, .int .u32 s.f, .int .u32 s.g, .int .u32 s.h, .string rest, .int .i64 n]
/-- the first state -/
def st0 : Sm.St := ⟨0x6a09e667, 0xbb67ae85, 0x3c6ef372, 0xa54ff53a, 0x510e527f, 0x9b05688c, 0x1f83d9ab, 0x5be0cd19⟩

theorem talA_one (T : Nat) (s : Sm.St) (r : ByteArray) (n : Int) : (talA T s r n).all (·.oneCell') = true := by simp [talA, Value.oneCell']
theorem info_tally : (Try.prog.info? 46).map (·.size) = some 11 := by kernel_rfl

theorem newTally (w : World) :
    Calls Try.prog 28 #[] w fun e w' => ∃ T, e = .returned (.agg (talA T st0 ⟨#[]⟩ 0)) ∧ w.heap.size ≤ T ∧ w'.heap[T]? = some (.cells (tabArr 64) 95 (0, 0)) ∧ Below w.heap.size w w' := by
  go_enter Try.func28, Try.ntmps28
  go_wp2_with fail
  refine (made _).mono ?_
  rintro e w1 ⟨T, rfl, hT, hTb, hb⟩
  have hcells : ∀ i, i < 8 → w1.cell? ⟨T, i, none⟩ = (stA st0)[i]? := fun i hi => by
    rw [cell_of_row _ _ _ _ _ _ hTb, tabArr_first _ _ hi, if_pos (by omega), Sm.firstT_eq]
    match i, hi with
    | 0, _ => rfl
    | 1, _ => rfl
    | 2, _ => rfl
    | 3, _ => rfl
    | 4, _ => rfl
    | 5, _ => rfl
    | 6, _ => rfl
    | 7, _ => rfl
  have c0 := hcells 0 (by decide)
  have c1 := hcells 1 (by decide)
  have c2 := hcells 2 (by decide)
  have c3 := hcells 3 (by decide)
  have c4 := hcells 4 (by decide)
  have c5 := hcells 5 (by decide)
  have c6 := hcells 6 (by decide)
  have c7 := hcells 7 (by decide)
  simp only [stA, st0, List.getElem?_toArray, List.getElem?_cons_zero, List.getElem?_cons_succ] at c0 c1 c2 c3 c4 c5 c6 c7
  have hsz0 := size_alloc w (Obj.cells #[.pointer none, .int .u32 0, .int .u32 0, .int .u32 0, .int .u32 0, .int .u32 0, .int .u32 0, .int .u32 0, .int .u32 0, .string ⟨#[]⟩, .int .i64 0] 46)
  have hbB : Below w.heap.size w w1 := ((Below.refl _ _).alloc (Nat.le_refl _) _).trans (hb.mono (by omega))
  have hr := Below.keep hb (heap_alloc_new w _) (by omega)
  rw [hsz0] at hT hb
  have hTs : w.heap.size ≤ T := by omega
  have hTne : T ≠ w.heap.size := by omega
  have HT := Lib.hid hTb
  have HR := Lib.hid hr
  clear hcells hTb hb hsz0 hr hT
  have HRES := setRow_heap w1 w.heap.size _ (talA T st0 ⟨#[]⟩ 0) _ _ HR.out
  have HTR := (setRow_other w1 w.heap.size T (talA T st0 ⟨#[]⟩ 0) hTne).trans HT.out
  have HBR := below_setRow hbB (Nat.le_refl _) (talA T st0 ⟨#[]⟩ 0)
  have HRES' := Lib.hid HRES
  have HTR' := Lib.hid HTR
  clear HRES HTR
  go_wp2_with (refine wpList_store_row rfl 46 _ _ rfl w.heap.size (talA T st0 ⟨#[]⟩ 0) rfl rfl _ _ HR.out (by rw [info_tally]; rfl) rfl (talA_one _ _ _ _) ?_)
  refine bodyPost_ret (results_cell_row rfl _ _ _ _ _ _ _ rfl HRES'.out Try.underlying46 rfl (by rw [info_tally]; rfl)) rfl ⟨T, rfl, hTs, HTR'.out, HBR⟩
