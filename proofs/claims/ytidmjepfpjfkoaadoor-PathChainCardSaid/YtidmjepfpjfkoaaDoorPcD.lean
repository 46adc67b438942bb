/-
  A range over a function whose iterator keeps its own state in boxes that lie below the loop: the loop's law at an invariant of the caller's; strings.SplitSeq's iterator at one byte.
-/
import Derived.Test.YtidmjepfpjfkoaaDoorPcC
import Derived.RangeFuncBox
import Derived.RangeFuncLeaves
import Derived.RangeFuncBound
import Derived.RangeFuncWrites
import Derived.Shelf.Abstract
import Derived.WalkKit
import Derived.OwnWalkIn
import Derived.TacticsInMore
import Derived.LoopNIn
import Derived.LoopIn
import Derived.Maps.AppendAt
import Derived.Sort.QuietIn
namespace Go.Proofs.YtidmjepfpjfkoaaDoor
open Go Go.RowKit
set_option maxHeartbeats 2000000
set_option maxRecDepth 20000
set_option linter.unusedVariables false
set_option linter.unusedSimpArgs false

/-- how the body of a round may be left: it goes on, or it returns -/
def leftBy (B : Nat) (I Ix : List (List UInt8) → World → Prop) (Kp : World → World → Prop) (xs : List (List UInt8)) (W : World) : Exit → Act → World → Prop
  | .normal, _, W' => KeepsFrom B W W' ∧ Kp W W' ∧ I xs W'
  | .ret, _, W' => KeepsFrom B W W' ∧ Ix xs W'
  | _, _, _ => False

theorem range_own {F : Fence} {n : Nat} {P : Program} {g : Operand} {p : Tmp} {assign body : Code} {Q : Exit → Act → World → Prop} {a : Act} {w : World}
    (hro : F.round = none) (h1 : 1 ≤ n) {gf : Nat} {lb : Array Value} (hg : a.eval g = .func (.func gf) #[] lb) (hFg : F.fn gf) (eg : ∀ args w, (callFunc gf args).run P w = .ok (.enter gf args) w)
    (parts : List (List UInt8)) (I Ix : List (List UInt8) → World → Prop) (Kp : World → World → Prop)
    (hKt : ∀ {A B C : World}, Kp A B → Kp B C → Kp A C) (hKb : ∀ (W : World) (l : Nat) (o o' : Obj), w.heap.size ≤ l → W.heap[l]? = some o → o.isCells = false → Kp W (W.putObj l o'))
    (hI : OwnFrom w.heap.size I) (hIx : OwnFrom w.heap.size Ix) (h0 : I [] w)
    (hseq : ∀ (l : Nat) (Bk Bx : World → Prop) (W : World), Below w.heap.size w W →
      (∀ X Y row, Bk X → X.grownBy Y row → (∀ r, row = some r → r < w.heap.size) → Bk Y) →
      (∀ pre x W1, I pre W1 → Bk W1 → (∃ r, pre ++ x :: r = parts) → YieldAt F (n - 1 - 1) P l #[.string ⟨x.toArray⟩] W1 fun e W' =>
        (e = .returned (.bool true) ∧ (I (pre ++ [x]) W' ∧ Bk W') ∧ Kp W1 W') ∨ (e = .returned (.bool false) ∧ Ix (pre ++ [x]) W' ∧ Bx W')) →
      I [] W → Bk W → CallsIn F (n - 1) P gf (#[.func (.yield l) #[] #[]] ++ lb) W fun e W' => (∃ v, e = .returned v) ∧ ((I parts W' ∧ Bk W') ∨ ∃ pre, Ix pre W' ∧ Bx W'))
    (a₁ : List UInt8 → Act)
    (hassign : ∀ (l : Nat) (x : List UInt8) (W : World) (K : Act → World → Prop), K (a₁ x) W →
      assign.wpIn (F.inRound l) (n - 1 - 1) P (Exit.then K (fun _ _ _ => False)) { tmps := a.tmps.setIfInBounds p (.string ⟨x.toArray⟩), defers := [] } W)
    (hbody : ∀ (l : Nat) (pre : List (List UInt8)) (x : List UInt8) (W : World), I pre W → (∃ r, pre ++ x :: r = parts) → body.wpIn (F.inRound l) (n - 1 - 1) P (leftBy w.heap.size I Ix Kp (pre ++ [x]) W) (a₁ x) W)
    (hdone : ∀ (D : Nat) (W : World), w.heap.size ≤ D → I parts W → W.heap[D]? = some (.deferred (some [])) → Q .normal { a with defers := { target := .collected D, args := #[] } :: a.defers } W)
    (hstop : ∀ (D : Nat) (pre : List (List UInt8)) (W : World), w.heap.size ≤ D → Ix pre W → W.heap[D]? = some (.deferred (some [])) → Code.ret.wpIn F n P Q { a with defers := { target := .collected D, args := #[] } :: a.defers } W) :
    (Code.rangeFunc g #[p] assign body).wpIn F n P Q a w := by
  refine wpIn_rangeFunc fun fn hfn => ?_
  rw [hro]
  -- the loop's record, at a state
  let R : LoopState → Option Code → Obj := fun st pe => .loop { state := st, pending := pe, fn := fn, tmps := a.tmps, params := #[p], assign := assign, body := body, defers := w.heap.size }
  let L := w.heap.size + 1
  let wD := w.alloc (.deferred (some []))
  let wL := wD.alloc (R .ready none)
  have sD : wD.heap.size = L := World.size_alloc _ _
  have sL : wL.heap.size = L + 1 := by show (wD.alloc _).heap.size = _; rw [World.size_alloc, sD]
  have hL : wL.heap[L]? = some (R .ready none) := by have := World.alloc_heap_new wD (R .ready none); rwa [sD] at this
  have hD : wL.heap[w.heap.size]? = some (.deferred (some [])) := (Below.heap_alloc wD _ _ (by rw [sD]; show _ < w.heap.size + 1; omega)).trans (World.alloc_heap_new w _)
  have hB : Below w.heap.size w wL := ((Below.refl _ w).alloc (Nat.le_refl _) _).alloc (by rw [sD]; show _ ≤ w.heap.size + 1; omega) _
  have hIL : I [] wL := hI.alloc _ (hI.alloc _ h0)
  refine ⟨L, _, wL, { target := .fn (.func gf) lb, args := #[.func (.yield L) #[] #[]] }, wL, gf, #[.func (.yield L) #[] #[]] ++ lb, wL, run_enterLoop_outer _ _ _ _ _, ?_, ?_, ?_, fun _ => h1, ?_⟩
  · simp only [resolve, hg]
    simp [go_sem]
  · intro f' hf'
    simp [Target.leads] at hf'
    subst hf'
    exact hFg
  · simp [invoke, go_sem, eg]
  -- what the two blocks of the loop's own hold
  have keep : ∀ (o o2 : Obj) (X Y : World) (row : Option Nat), (X.heap[L]? = some o ∧ X.heap[w.heap.size]? = some o2) → X.grownBy Y row → (∀ r, row = some r → r < w.heap.size) → (Y.heap[L]? = some o ∧ Y.heap[w.heap.size]? = some o2) := by
    rintro o o2 X Y row ⟨e1, e2⟩ hg2 hr
    refine ⟨(hg2.block L (Array.getElem?_eq_some_iff.1 e1).1 fun e => ?_).trans e1, (hg2.block _ (Array.getElem?_eq_some_iff.1 e2).1 fun e => ?_).trans e2⟩
    · have := hr _ e.symm; omega
    · have := hr _ e.symm; omega
  refine (hseq L (fun W => W.heap[L]? = some (R .ready none) ∧ W.heap[w.heap.size]? = some (.deferred (some []))) (fun W => W.heap[L]? = some (R .done (some .ret)) ∧ W.heap[w.heap.size]? = some (.deferred (some []))) wL hB (keep _ _) ?_ hIL ⟨hL, hD⟩).mono ?_
  · -- one round
    rintro pre x W1 hi ⟨e1, e2⟩ hlen
    have hlt : L < W1.heap.size := (Array.getElem?_eq_some_iff.1 e1).1
    have hy := run_yield (P := P) (args := #[.string ⟨x.toArray⟩]) e1 rfl
    have hz : (#[p].zip #[(Value.string ⟨x.toArray⟩)]).foldl (fun tmps (t, a) => tmps.setIfInBounds t a) a.tmps = a.tmps.setIfInBounds p (.string ⟨x.toArray⟩) := by simp
    dsimp only at hy
    rw [hz] at hy
    refine ⟨_, _, _, _, hy, roundIn_of_wpIn hfn ?_⟩
    refine hassign _ x W1 _ ?_
    refine ⟨_, run_beginRound e1 rfl, ?_⟩
    let W2 := W1.putObj L (R .busy none)
    have b1 : W2.heap[L]? = some (R .busy none) := World.putObj_heap_same hlt
    have b2 : W2.heap[w.heap.size]? = some (.deferred (some [])) := (World.putObj_heap_other (by omega)).trans e2
    have bk : Kp W1 W2 := hKb _ _ _ _ (by omega) e1 rfl
    refine wpIn_mono (hbody L pre x W2 (hI.putObj _ hi (by omega) e1 rfl) hlen) ?_
    -- the end of a round
    have fin : ∀ (jump : Option Code) (W3 : World), KeepsFrom w.heap.size W2 W3 →
        (Instr.endRound L jump).run P W3 = .ok (.bool jump.isNone) (W3.putObj L (R (if jump.isNone then .ready else .done) jump)) ∧ W3.heap[L]? = some (R .busy none) ∧
        (W3.putObj L (R (if jump.isNone then .ready else .done) jump)).heap[L]? = some (R (if jump.isNone then .ready else .done) jump) ∧
        (W3.putObj L (R (if jump.isNone then .ready else .done) jump)).heap[w.heap.size]? = some (.deferred (some [])) := fun jump W3 hk => by
      have c1 := hk.same _ _ (by omega) b1 rfl
      exact ⟨run_endRound jump c1, c1, World.putObj_heap_same (Array.getElem?_eq_some_iff.1 c1).1, (World.putObj_heap_other (by omega)).trans (hk.same _ _ (Nat.le_refl _) b2 rfl)⟩
    rintro e a3 W3 hp
    cases e with
    | normal =>
      obtain ⟨hk, hkp, hi3⟩ := hp
      obtain ⟨hr, c1, c2, c3⟩ := fin none W3 hk
      exact ⟨_, _, hr, .inl ⟨rfl, ⟨hI.putObj _ hi3 (by omega) c1 rfl, c2, c3⟩, hKt (hKt bk hkp) (hKb _ _ _ _ (by omega) c1 rfl)⟩⟩
    | ret =>
      obtain ⟨hk, hi3⟩ := hp
      obtain ⟨hr, c1, c2, c3⟩ := fin (some .ret) W3 hk
      exact ⟨_, _, hr, .inr ⟨rfl, hIx.putObj _ hi3 (by omega) c1 rfl, c2, c3⟩⟩
    | exit id => exact hp.elim
    | goto t => exact hp.elim
    | panic ch => exact hp.elim
    | outgrown => exact hp.elim
  · -- behind the iterator
    rintro e W2 ⟨⟨v, rfl⟩, ⟨hi, e1, e2⟩ | ⟨pre, hi, e1, e2⟩⟩
    · exact ⟨none, _, run_endLoop e1 (by simp), hdone _ _ (Nat.le_refl _) (hI.putObj _ hi (by omega) e1 rfl) ((World.putObj_heap_other (by omega)).trans e2)⟩
    · exact ⟨some .ret, _, run_endLoop e1 (by simp), hstop _ pre _ (Nat.le_refl _) (hIx.putObj _ hi (by omega) e1 rfl) ((World.putObj_heap_other (by omega)).trans e2)⟩
end Go.Proofs.YtidmjepfpjfkoaaDoor
