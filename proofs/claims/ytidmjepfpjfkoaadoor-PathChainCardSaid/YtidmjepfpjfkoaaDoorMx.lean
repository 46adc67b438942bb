/-
  A region that draws its order, walked by a plan: what needs no world of its own is taken as soon as it may come up; all else comes up alone.
-/
import Derived.OrdersHeld
import Derived.Deep.RegionHeld3
import Derived.Laws.Rows
import Derived.KernelRfl
import Derived.Test.YtidmjepfpjfkoaaDoorK
namespace Go.Proofs.YtidmjepfpjfkoaaDoor
open Go Go.RowKit
set_option linter.unusedVariables false
section
variable {P : Program} {ops : Array Oper} {Q : Exit → Act → World → Prop} {S : World → Prop} {md : Region.Mode}

/-- the post of one operation: K behind it, Q else -/
def MixQ (Q : Exit → Act → World → Prop) (K : Act → World → Prop) : Exit → Act → World → Prop
  | .normal, a, w => K a w
  | e, a, w => Q e a w

/-- the operations in the plan's order -/
def wpPlan (P : Program) (ops : Array Oper) (S : World → Prop) (Q : Exit → Act → World → Prop) : List (Bool × Nat) → Act → World → Prop
  | [], a, w => Q .normal a w
  | (true, i) :: rest, a, w => ∃ o v, ops[i]? = some o ∧ YieldsIf P ops S o v a ∧ wpPlan P ops S Q rest (a.put o.dst v) w
  | (false, i) :: rest, a, w => ∃ o, ops[i]? = some o ∧ wpList P ops (MixQ Q fun a' w' => S w' ∧ wpPlan P ops S Q rest a' w') [o] a w

/-- may the plan be followed? -/
def planB (md : Region.Mode) (ops : Array Oper) : List (Bool × Nat) → Array Bool → Bool
  | [], listed => (Region.ready md ops listed).isEmpty
  | (true, i) :: rest, listed => (Region.ready md ops listed).contains i && Region.free md ops listed i && planB md ops rest (listed.setIfInBounds i true)
  | (false, i) :: rest, listed => (Region.ready md ops listed == [i]) && planB md ops rest (listed.setIfInBounds i true)

theorem wp_mixQ {o : Oper} {a : Act} {w : World} {K K' : Act → World → Prop} (h : o.wp P a w K (MixQ Q K')) : o.wp P a w K Q := by
  unfold Oper.wp at *
  generalize (execOp a.eval o).run P w = r at *
  cases r with
  | ok n w' =>
    cases n with
    | enter f args =>
      refine Calls.mono h fun e w'' he => ?_
      cases e <;> exact he
    | _ => exact h
  | halt x w' => cases x <;> exact h

theorem wpAnyH_plan (hsel : Region.noSelect ops = true) (hQ : ∀ c d v a w, Q (.panic c) (Act.put a d v) w → Q (.panic c) a w) :
    ∀ (pl : List (Bool × Nat)) (listed : Array Bool) (a : Act) (w : World), planB md ops pl listed = true → S w → wpPlan P ops S Q pl a w → wpAnyH P md ops Q S pl.length listed a w := by
  intro pl
  induction pl with
  | nil =>
    intro listed a w hB hS h
    exact ⟨by simpa [planB] using hB, h⟩
  | cons x rest ih =>
    obtain ⟨b, i⟩ := x
    intro listed a w hB hS h
    cases b with
    | true =>
      simp only [planB, Bool.and_eq_true] at hB
      obtain ⟨⟨hr, hf⟩, hB'⟩ := hB
      obtain ⟨o, v, ho, hy, h'⟩ := h
      exact wpAnyH_take ho hsel hf hr (fun c a w => hQ c _ _ a w) hy hS (ih _ _ _ hB' hS h')
    | false =>
      simp only [planB, Bool.and_eq_true, beq_iff_eq] at hB
      obtain ⟨hr, hB'⟩ := hB
      obtain ⟨o, ho, h'⟩ := h
      refine wpAnyH_all hr (by simp) fun j hj => ?_
      obtain rfl : j = i := by simpa using hj
      unfold wpOp
      simp only [ho]
      unfold wpList at h'
      split
      · rename_i hw
        rw [if_pos hw] at h'
        rcases h' with h' | ⟨ha, hl⟩
        · refine .inl (wp_mixQ (K' := fun a' w' => S w' ∧ wpPlan P ops S Q rest a' w') ?_)
          exact Oper.wp_mono (fun a' w' hk => ⟨hk.1, ih _ _ _ hB' hk.1 hk.2⟩) h'
        · exact .inr ⟨ha, hl⟩
      · rename_i hw
        rw [if_neg hw] at h'
        exact ⟨h'.1, ih _ _ _ hB' h'.1 h'.2⟩

/-- **a region that draws its order, by a plan** (it is shown not to panic) -/
theorem wp_region_plan (S : World → Prop) (pl : List (Bool × Nat)) {id : Nat} {a : Act} {w : World} {l : List Oper} (hm : P.follows .mixedOrders = true)
    (hB : (Region.noSelect l.toArray && (pl.length == l.toArray.size) && planB .any l.toArray pl (Array.replicate l.toArray.size false)) = true)
    (hS : S w.drew) (h : wpPlan P l.toArray S (NoPanic Q) pl a w.drew) : (Code.region id l.toArray true).wp P Q a w := by
  simp only [Bool.and_eq_true, beq_iff_eq] at hB
  obtain ⟨⟨h1, h2⟩, h3⟩ := hB
  refine wp_region_noPanic (wp_region_held (S := S) hm ?_)
  rw [← h2]
  exact wpAnyH_plan h1 (fun _ _ _ _ _ h => h) pl _ a w.drew (by rw [h2] at *; exact h3) hS h

theorem mx_end {a : Act} {w : World} (h : Q .normal a w) : wpPlan P ops S (NoPanic Q) [] a w := NoPanic.normal h
theorem mx_pure {rest : List (Bool × Nat)} {i : Nat} {o : Oper} {v : Value} {a : Act} {w : World} (ho : ops[i]? = some o) (hw : Region.wanted o (yielded ops a.tmps) = true)
    (hy : ∀ w, S w → (execOp a.eval o).run P w = .ok (.value v) w) (h : wpPlan P ops S Q rest (a.put o.dst v) w) : wpPlan P ops S Q ((true, i) :: rest) a w :=
  ⟨o, v, ho, .inl ⟨hw, hy⟩, h⟩
theorem mx_skip {rest : List (Bool × Nat)} {i : Nat} {o : Oper} {a : Act} {w : World} (ho : ops[i]? = some o) (hw : Region.wanted o (yielded ops a.tmps) = false)
    (h : wpPlan P ops S Q rest (a.put o.dst undef) w) : wpPlan P ops S Q ((true, i) :: rest) a w :=
  ⟨o, undef, ho, .inr ⟨hw, rfl⟩, h⟩
theorem mx_skipL {rest : List (Bool × Nat)} {i : Nat} {o : Oper} {a : Act} {w : World} (ho : ops[i]? = some o) (hw : Region.wanted o (yielded ops a.tmps) = false)
    (hS : S w) (h : wpPlan P ops S Q rest (a.put o.dst undef) w) : wpPlan P ops S Q ((false, i) :: rest) a w := by
  refine ⟨o, ho, ?_⟩
  unfold wpList
  rw [if_neg (by rw [hw]; simp)]
  exact ⟨hS, h⟩
theorem mx_call {rest : List (Bool × Nat)} {i : Nat} {o : Oper} {a : Act} {w : World} {f : FuncId} {args : Array Value} (ho : ops[i]? = some o) (hw : Region.wanted o (yielded ops a.tmps) = true)
    (hr : ∀ w, (execOp a.eval o).run P w = .ok (.enter f args) w) (h : Calls P f args w fun e w' => ∃ v, e = .returned v ∧ S w' ∧ wpPlan P ops S Q rest (a.put o.dst v) w') : wpPlan P ops S Q ((false, i) :: rest) a w := by
  refine ⟨o, ho, ?_⟩
  unfold wpList
  rw [if_pos hw]
  refine .inl ?_
  unfold Oper.wp
  rw [hr]
  refine h.mono fun e w' ⟨v, he, hS, hp⟩ => ?_
  subst he
  exact ⟨hS, hp⟩
/-- what is carried out in the very world at hand -/
theorem mx_loud {rest : List (Bool × Nat)} {i : Nat} {o : Oper} {a : Act} {w : World} (ho : ops[i]? = some o)
    (h : wpList P ops (MixQ Q fun a' w' => S w' ∧ wpPlan P ops S Q rest a' w') [o] a w) : wpPlan P ops S Q ((false, i) :: rest) a w := ⟨o, ho, h⟩
theorem mx_loud_end {K : Act → World → Prop} {a : Act} {w : World} (h : K a w) : MixQ Q K .normal a w := h

/-- a whole row is read -/
theorem mx_load_row {o : Oper} {a : Act} {w : World} (ty : TypeId) (x : Operand) (ho : o.op = .load ty x)
    (g : Nat) (hx : a.eval x = .pointer (some ⟨g, 0, none⟩)) (t : TypeId) (cs : Array Value) (fr : Nat × Nat) (d : TypeDesc) (hg : w.heap[g]? = some (.cells cs t fr))
    (hu : P.underlying ty = some d) (hd : (match d with | .struct _ | .array _ _ => true | _ => false) = true) (hi : (P.info? ty).map (·.size) = some cs.size) :
    (execOp a.eval o).run P w = .ok (.value (.agg cs)) w := by
  unfold execOp
  simp only [ho, hx, Instr.loadAt, Instr.sureAddr, Sem.run_bind, Sem.run_pure, Result.andThen_ok, run_loadVar_row w g t ty cs fr d hg hu hd hi]
end

/-- what is known of a world: it is as w0 was below B; and these blocks hold these -/
structure Kn (B : Nat) (w0 : World) (L : List (Nat × Obj)) (w : World) : Prop where
  below : Below B w0 w
  base : B ≤ w.heap.size
  has : ∀ x ∈ L, w.heap[x.1]? = some x.2
theorem Kn.start (w : World) : Kn w.heap.size w [] w := ⟨Below.refl _ _, Nat.le_refl _, fun _ h => by cases h⟩
theorem Kn.call {B : Nat} {w0 w w' : World} {L : List (Nat × Obj)} (h : Kn B w0 L w) (hb : Below w.heap.size w w') : Kn B w0 L w' :=
  ⟨h.below.trans (hb.mono h.base), Nat.le_trans h.base hb.size, fun x hx => Below.keep hb (h.has x hx) (lt_of_block (h.has x hx))⟩
theorem Kn.alloc {B : Nat} {w0 w : World} {L : List (Nat × Obj)} (h : Kn B w0 L w) (o : Obj) : Kn B w0 ((w.heap.size, o) :: L) (w.alloc o) :=
  ⟨h.below.alloc h.base o, by rw [size_alloc]; have := h.base; omega, fun x hx => by
    rcases List.mem_cons.1 hx with rfl | hx
    · exact heap_alloc_new w o
    · exact blk_old w o (h.has x hx)⟩
theorem Kn.alloc' {B : Nat} {w0 w : World} {L : List (Nat × Obj)} (h : Kn B w0 L w) (o : Obj) : Kn B w0 L (w.alloc o) :=
  h.call ((Below.refl _ _).alloc (Nat.le_refl _) o)
theorem Kn.drew {B : Nat} {w0 w : World} {L : List (Nat × Obj)} (h : Kn B w0 L w) : Kn B w0 L w.drew := ⟨h.below.drew, h.base, h.has⟩
theorem Kn.add {B : Nat} {w0 w : World} {L : List (Nat × Obj)} (h : Kn B w0 L w) {b : Nat} {o : Obj} (hb : w.heap[b]? = some o) : Kn B w0 ((b, o) :: L) w :=
  ⟨h.below, h.base, fun x hx => by
    rcases List.mem_cons.1 hx with rfl | hx
    · exact hb
    · exact h.has x hx⟩
theorem Kn.get {B : Nat} {w0 w : World} {L : List (Nat × Obj)} (h : Kn B w0 L w) (i : Nat) {b : Nat} {o : Obj} (hx : L[i]? = some (b, o)) : w.heap[b]? = some o :=
  h.has (b, o) (List.mem_of_getElem? hx)
theorem Kn.lt {B : Nat} {w0 w : World} {L : List (Nat × Obj)} (h : Kn B w0 L w) (i : Nat) {b : Nat} {o : Obj} (hx : L[i]? = some (b, o)) : b < w.heap.size :=
  lt_of_block (h.get i hx)
theorem Kn.sub {B : Nat} {w0 w : World} {L M : List (Nat × Obj)} (h : Kn B w0 L w) (hs : ∀ x ∈ M, x ∈ L) : Kn B w0 M w := ⟨h.below, h.base, fun x hx => h.has x (hs x hx)⟩
theorem Kn.swap {B : Nat} {w0 w : World} {L : List (Nat × Obj)} {x y : Nat × Obj} (h : Kn B w0 (x :: y :: L) w) : Kn B w0 (y :: x :: L) w :=
  h.sub fun z hz => by
    rcases List.mem_cons.1 hz with rfl | hz
    · exact List.mem_cons_of_mem _ (List.mem_cons_self ..)
    · rcases List.mem_cons.1 hz with rfl | hz
      · exact List.mem_cons_self ..
      · exact List.mem_cons_of_mem _ (List.mem_cons_of_mem _ hz)
theorem ch_setRow (w : World) (g : Nat) (cs : Array Value) : Ch w (w.setRow g cs) [g] :=
  ⟨rfl, rfl, rfl, by rw [size_setRow]; exact Nat.le_refl _, fun k _ hk => setRow_other w g k cs (by simpa using hk)⟩
/-- a whole row is written anew: the first of the list -/
theorem Kn.put {B : Nat} {w0 w w' : World} {L : List (Nat × Obj)} {b : Nat} {o o' : Obj} (h : Kn B w0 ((b, o) :: L) w) (hB : B ≤ b) (hne : ∀ x ∈ L, x.1 ≠ b)
    (hc : Ch w w' [b]) (hn : w'.heap[b]? = some o') : Kn B w0 ((b, o') :: L) w' :=
  ⟨Ch.below h.below hc h.base (fun k hk => by simp at hk; omega), Nat.le_trans h.base hc.size, fun x hx => by
    rcases List.mem_cons.1 hx with rfl | hx
    · exact hn
    · exact hc.keep (h.has x (List.mem_cons_of_mem _ hx)) (by simp; exact hne x hx)⟩
end Go.Proofs.YtidmjepfpjfkoaaDoor
