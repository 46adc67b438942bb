/-
  A region that draws its order: a plan for what comes first, then every order of the rest.
-/
import Derived.Test.YtidmjepfpjfkoaaDoorMx
namespace Go.Proofs.YtidmjepfpjfkoaaDoor
open Go Go.RowKit
set_option linter.unusedVariables false
section
variable {P : Program} {ops : Array Oper} {Q : Exit → Act → World → Prop} {S : World → Prop} {md : Region.Mode}

/-- stateless operations, one behind the other; then K -/
def wpFirst (P : Program) (ops : Array Oper) (S : World → Prop) (K : Act → World → Prop) : List Nat → Act → World → Prop
  | [], a, w => K a w
  | i :: rest, a, w => ∃ o v, ops[i]? = some o ∧ YieldsIf P ops S o v a ∧ wpFirst P ops S K rest (a.put o.dst v) w
def firstB (md : Region.Mode) (ops : Array Oper) : List Nat → Array Bool → Option (Array Bool)
  | [], listed => some listed
  | i :: rest, listed => if (Region.ready md ops listed).contains i && Region.free md ops listed i then firstB md ops rest (listed.setIfInBounds i true) else none
theorem wpAnyH_firsts (hsel : Region.noSelect ops = true) (hQ : ∀ c d v a w, Q (.panic c) (Act.put a d v) w → Q (.panic c) a w) (k : Nat) (l' : Array Bool) :
    ∀ (pl : List Nat) (listed : Array Bool) (a : Act) (w : World), firstB md ops pl listed = some l' → S w → wpFirst P ops S (fun a w => wpAnyH P md ops Q S k l' a w) pl a w → wpAnyH P md ops Q S (k + pl.length) listed a w := by
  intro pl
  induction pl with
  | nil =>
    intro listed a w hB hS h
    simp only [firstB, Option.some.injEq] at hB
    subst hB
    exact h
  | cons i rest ih =>
    intro listed a w hB hS h
    simp only [firstB] at hB
    split at hB
    · rename_i hc
      simp only [Bool.and_eq_true] at hc
      obtain ⟨o, v, ho, hy, h'⟩ := h
      exact wpAnyH_take ho hsel hc.2 hc.1 (fun c a w => hQ c _ _ a w) hy hS (ih _ _ _ hB hS h')
    · cases hB
theorem wp_region_firsts (S : World → Prop) (pl : List Nat) (k : Nat) (l' : Array Bool) {id : Nat} {a : Act} {w : World} {l : List Oper} (hm : P.follows .mixedOrders = true)
    (hsel : Region.noSelect l.toArray = true) (hn : k + pl.length = l.length) (hB : firstB .any l.toArray pl (Array.replicate l.toArray.size false) = some l')
    (hS : S w.drew) (h : wpFirst P l.toArray S (fun a w => wpAnyH P .any l.toArray (NoPanic Q) S k l' a w) pl a w.drew) : (Code.region id l.toArray true).wp P Q a w := by
  refine wp_region_noPanic (wp_region_held (S := S) hm ?_)
  rw [show l.toArray.size = k + pl.length by simp [hn]]
  refine wpAnyH_firsts hsel (fun _ _ _ _ _ h => h) k l' pl _ a w.drew ?_ hS h
  rw [← hB]; simp [hn]
theorem my_pure {K : Act → World → Prop} {rest : List Nat} {i : Nat} {o : Oper} {v : Value} {a : Act} {w : World} (ho : ops[i]? = some o) (hw : Region.wanted o (yielded ops a.tmps) = true)
    (hy : ∀ w, S w → (execOp a.eval o).run P w = .ok (.value v) w) (h : wpFirst P ops S K rest (a.put o.dst v) w) : wpFirst P ops S K (i :: rest) a w :=
  ⟨o, v, ho, .inl ⟨hw, hy⟩, h⟩
theorem my_end {K : Act → World → Prop} {a : Act} {w : World} (h : K a w) : wpFirst P ops S K [] a w := h

/-- each of those that may come up -/
theorem my_any {rs : List Nat} {fuel : Nat} {listed : Array Bool} {a : Act} {w : World} (hr : Region.ready md ops listed = rs) (hne : rs ≠ [])
    (h : AllReadyH P md ops Q S fuel listed a w rs) : wpAnyH P md ops Q S (fuel + 1) listed a w := wpAnyH_ready hr hne h
theorem my_call {fuel : Nat} {listed : Array Bool} {i : Nat} {rs : List Nat} {o : Oper} {a : Act} {w : World} {f : FuncId} {args : Array Value} (ho : ops[i]? = some o) (hw : Region.wanted o (yielded ops a.tmps) = true)
    (hr : ∀ w, (execOp a.eval o).run P w = .ok (.enter f args) w) (h : Calls P f args w fun e w' => ∃ v, e = .returned v ∧ S w' ∧ wpAnyH P md ops Q S fuel (listed.setIfInBounds i true) (a.put o.dst v) w')
    (hm : AllReadyH P md ops Q S fuel listed a w rs) : AllReadyH P md ops Q S fuel listed a w (i :: rs) := by
  intro j hj
  rcases List.mem_cons.1 hj with rfl | hj
  · unfold wpOp
    simp only [ho, hw, if_true]
    refine .inl ?_
    unfold Oper.wp
    rw [hr]
    refine h.mono fun e w' ⟨v, he, hS, hp⟩ => ?_
    subst he
    exact ⟨hS, hp⟩
  · exact hm j hj
theorem my_alloc {fuel : Nat} {listed : Array Bool} {i : Nat} {rs : List Nat} {o : Oper} {a : Act} {w : World} {T : TypeId} (Z : Array Value) {ti : TypeInfo} {z : Value} (ho : ops[i]? = some o) (hw : Region.wanted o (yielded ops a.tmps) = true)
    (hop : o.op = .alloc T) (hi : P.info? T = some ti) (hz : ti.zero = some z) (hZ : z.cells = Z)
    (h : S (w.alloc (.cells Z T)) ∧ wpAnyH P md ops Q S fuel (listed.setIfInBounds i true) (a.put o.dst (.pointer (some ⟨w.heap.size, 0, none⟩))) (w.alloc (.cells Z T)))
    (hm : AllReadyH P md ops Q S fuel listed a w rs) : AllReadyH P md ops Q S fuel listed a w (i :: rs) := by
  intro j hj
  rcases List.mem_cons.1 hj with rfl | hj
  · unfold wpOp
    simp only [ho, hw, if_true]
    refine .inl ?_
    unfold Oper.wp execOp
    rw [hop]
    have : (Instr.alloc T true (.tuple #[])).run P w = .ok (.pointer (some ⟨w.heap.size, 0, none⟩)) (w.alloc (.cells Z T)) := by
      subst hZ
      simp [Instr.alloc, zeroValue, typeInfo, hi, hz, newVar, newRow, Sem.run_bind]
    simp only [Sem.run_bind, this, Result.andThen_ok]
    exact h
  · exact hm j hj
theorem my_store_row {fuel : Nat} {listed : Array Bool} {i : Nat} {rs : List Nat} {o : Oper} {a : Act} {w : World} (ho : ops[i]? = some o) (hw : Region.wanted o (yielded ops a.tmps) = true)
    (hg : o.guard = none) (ty : TypeId) (x y : Operand) (hop : o.op = .store ty x y) (g : Nat) (cells : Array Value) (hx : a.eval x = .pointer (some ⟨g, 0, none⟩)) (hy : a.eval y = .agg cells)
    (t : TypeId) (old : Array Value) (hb : w.heap[g]? = some (.cells old t (0, 0))) (hi : (P.info? ty).map (·.size) = some cells.size) (hold : old.size = cells.size) (h1 : cells.all (·.oneCell') = true)
    (h : S (w.setRow g cells) ∧ wpAnyH P md ops Q S fuel (listed.setIfInBounds i true) (a.put o.dst undef) (w.setRow g cells))
    (hm : AllReadyH P md ops Q S fuel listed a w rs) : AllReadyH P md ops Q S fuel listed a w (i :: rs) := by
  intro j hj
  rcases List.mem_cons.1 hj with rfl | hj
  · have := wpList_store_row (P := P) (ops := ops) (rest := []) (Q := MixQ Q fun a' w' => S w' ∧ wpAnyH P md ops Q S fuel (listed.setIfInBounds j true) a' w') (a := a) (w := w) hg ty x y hop g cells hx hy t old hb hi hold h1 h
    unfold wpOp
    simp only [ho]
    unfold wpList at this
    rw [if_pos hw] at this ⊢
    rcases this with h' | ⟨ha, hl⟩
    · exact .inl (wp_mixQ h')
    · exact .inr ⟨ha, hl⟩
  · exact hm j hj
theorem my_nil {fuel : Nat} {listed : Array Bool} {a : Act} {w : World} : AllReadyH P md ops Q S fuel listed a w [] := fun _ h => by cases h
theorem my_done {listed : Array Bool} {a : Act} {w : World} (hr : Region.ready md ops listed = []) (h : Q .normal a w) (fuel : Nat) : wpAnyH P md ops (NoPanic Q) S fuel listed a w :=
  wpAnyH_done hr (NoPanic.normal h) fuel
end
end Go.Proofs.YtidmjepfpjfkoaaDoor
