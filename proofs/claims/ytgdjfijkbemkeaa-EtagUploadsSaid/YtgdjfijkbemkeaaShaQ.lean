/-
  A tally under a name, digests compared, what a start of the program tells of itself.
-/
import Derived.Test.YtgdjfijkbemkeaaShaE
import Derived.Test.YtgdjfijkbemkeaaShaK
import Derived.Test.YtgdjfijkbemkeaaMx
import Derived.ChangeKeysEq
namespace Go.Proofs.Ytgdjfijkbemkeaa
open Go.RowKit
set_option maxHeartbeats 1000000
set_option maxRecDepth 20000
set_option linter.unusedVariables false

/-- a tally's cells, of a text -/
def tal (T : Nat) (l : List UInt8) : Array Value := talA T (Sm.stOf l) ⟨(Sm.restOf l).toArray⟩ (l.length : Nat)
theorem tal_size (T : Nat) (l : List UInt8) : (tal T l).size = 11 := rfl
theorem tal_one (T : Nat) (l : List UInt8) : (tal T l).all (·.oneCell') = true := talA_one _ _ _ _
theorem t46s : (Try.prog.info? 46).map (·.size) = some 11 := by kernel_rfl
def tabB (T : Nat) (w : World) : Prop := w.heap[T]? = some (.cells (tabArr 64) 95 (0, 0))

theorem newT (w : World) :
    Calls Try.prog 28 #[] w fun e w' => ∃ T, e = .returned (.agg (tal T [])) ∧ w.heap.size ≤ T ∧ tabB T w' ∧ Below w.heap.size w w' :=
  (newTally w).mono fun e w' ⟨T, he, h1, h2, h3⟩ => ⟨T, he, h1, h2, h3⟩
theorem addT (T : Nat) (l : List UInt8) (s : ByteArray) (w : World) (hl : l.length + s.size ≤ 1099511627776) (h2 : tabB T w) :
    Calls Try.prog 29 #[.agg (tal T l), .string s] w fun e w' => e = .returned (.agg (tal T (l ++ s.data.toList))) ∧ Below w.heap.size w w' :=
  (add1 T l s w hl h2).mono fun e w' ⟨he, hb⟩ => ⟨by
    rw [he]; unfold tal
    rw [show (l ++ s.data.toList).length = l.length + s.size by rw [List.length_append]; rfl], hb⟩
theorem sumT (T : Nat) (l : List UInt8) (w : World) (hl : l.length ≤ 1099511627000) (h2 : tabB T w) :
    Calls Try.prog 34 #[.agg (tal T l)] w fun e w' => e = .returned (.agg (dArr (Sm.digest l))) ∧ Below w.heap.size w w' :=
  tally_sum T l w hl h2
theorem lenT (T : Nat) (l : List UInt8) (w : World) :
    Calls Try.prog 35 #[.agg (tal T l)] w fun e w' => e = .returned (.int .i64 (l.length : Nat)) ∧ Below w.heap.size w w' :=
  talLen T _ _ _ w
theorem tabB.out {T : Nat} {w : World} (h : tabB T w) : w.heap[T]? = some (.cells (tabArr 64) 95 (0, 0)) := h
theorem tabB.mk {T : Nat} {w : World} (h : w.heap[T]? = some (.cells (tabArr 64) 95 (0, 0))) : tabB T w := h
attribute [irreducible] tal tabB

theorem digest_length (l : List UInt8) : (Sm.digest l).length = 32 := by
  unfold Sm.digest; rw [Sm.digTo_length]

/-- are two digests, as they are told? -/
def deq (A B : List UInt8) : Bool := (List.range 32).all fun i => A.getD i 0 == B.getD i 0
theorem deq_self (A : List UInt8) : deq A A = true := by
  unfold deq; rw [List.all_eq_true]; intro i _; exact beq_self_eq_true _
theorem deq_iff {A B : List UInt8} (ha : A.length = 32) (hb : B.length = 32) : deq A B = true ↔ A = B := by
  constructor
  · intro h
    unfold deq at h
    rw [List.all_eq_true] at h
    apply List.ext_getElem (by rw [ha, hb])
    intro i h1 h2
    have := h i (List.mem_range.2 (by omega))
    rw [List.getD_eq_getElem?_getD, List.getD_eq_getElem?_getD, List.getElem?_eq_getElem h1, List.getElem?_eq_getElem h2] at this
    simpa using this
  · rintro rfl; exact deq_self A

theorem eqItems_d (d : Nat) (A B : List UInt8) (w : World) : ∀ (is : List Nat), (∀ i ∈ is, i < 32) →
    (Op.eqItems (d + 1) 5 (Try.prog.cellsOf 5) (dArr A) (dArr B) is).run Try.prog w = .ok (is.all fun i => A.getD i 0 == B.getD i 0) w := by
  have h3 : (Try.prog.info? 5).map (·.size) = some 1 := by kernel_rfl
  have hc : Try.prog.cellsOf 5 = 1 := by kernel_rfl
  have hu := Try.underlying5
  intro is
  induction is with
  | nil => intro _; simp [Op.eqItems]
  | cons i is ih =>
    intro h
    have hi : i < 32 := h i (by simp)
    have ih := ih (fun j hj => h j (by simp [hj]))
    have g1 := dArr_get A i hi
    have g2 := dArr_get B i hi
    cases hq : Try.prog.info? 5 with
    | none => rw [hq] at h3; cases h3
    | some ii =>
      rw [hq] at h3
      simp only [Option.map_some, Option.some.injEq] at h3
      have p1 : (part 5 (dArr A) (i * Try.prog.cellsOf 5)).run Try.prog w = .ok (.int .u8 ((A.getD i 0).toNat : Int)) w := by
        rw [hc, Nat.mul_one]; simp [part, isAgg, run_underlying hu, h3, typeInfo, hq, sizeOf, g1]
      have p2 : (part 5 (dArr B) (i * Try.prog.cellsOf 5)).run Try.prog w = .ok (.int .u8 ((B.getD i 0).toNat : Int)) w := by
        rw [hc, Nat.mul_one]; simp [part, isAgg, run_underlying hu, h3, typeInfo, hq, sizeOf, g2]
      have p3 := run_equalIn_int (P := Try.prog) w d 5 .u8 .u8 ((A.getD i 0).toNat : Int) ((B.getD i 0).toNat : Int) hu
      simp only [Op.eqItems, Sem.run_bind, p1, p2, p3, Result.andThen_ok, List.all_cons]
      have e : (((A.getD i 0).toNat : Int) == ((B.getD i 0).toNat : Int)) = (A.getD i 0 == B.getD i 0) := by
        rw [Bool.eq_iff_iff]; simp only [beq_iff_eq]
        constructor
        · intro h; apply UInt8.toNat_inj.1; omega
        · intro h; rw [h]
      rw [e]
      cases (A.getD i 0 == B.getD i 0)
      · simp
      · simp only [Bool.not_true, Bool.false_eq_true, if_false, Bool.true_and]; exact ih

theorem run_equalIn_d (A B : List UInt8) (w : World) : (Op.equalIn 10000 50 (.agg (dArr A)) (.agg (dArr B))).run Try.prog w = .ok (deq A B) w := by
  have h3 : (Try.prog.info? 5).map (·.size) = some 1 := by kernel_rfl
  cases hq : Try.prog.info? 5 with
  | none => rw [hq] at h3; cases h3
  | some ii =>
    rw [show (10000 : Nat) = 9999 + 1 from rfl, run_equalIn_array w 9999 (dArr A) (dArr B) Try.underlying50 hq]
    exact eqItems_d 9998 A B w (List.range 32) (fun i hi => List.mem_range.1 hi)
theorem eqGuard_d : Try.prog.eqGuardType Try.prog.depth 50 = false := by kernel_rfl

/-- the operation '==' of two digests, where the answer is known -/
theorem eql_d_run (A B : List UInt8) (r : Bool) (h : deq A B = r) : ∀ w, (Op.equalIn 10000 50 (.agg (dArr A)) (.agg (dArr B))).run Try.prog w = .ok r w := fun w => by rw [run_equalIn_d, h]
end Go.Proofs.Ytgdjfijkbemkeaa
