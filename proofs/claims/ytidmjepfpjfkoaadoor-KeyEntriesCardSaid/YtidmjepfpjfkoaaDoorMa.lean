/-
  Small laws of our own on memory: a block known whole, rows of many cells under a name. Program-independent.
  A region that draws its order, walked by a plan: what needs no world of its own is taken as soon as it may come up; all else comes up alone.
  append onto a slice of the call's own: a source that is nil; a source of texts; what is behind it.
  A region that draws its order: what it leaves is known by a list of blocks alone ('Kn'): a call or a load that gives one value in every such world may be taken as soon as it may come up; all else comes up alone.
  A region that draws its order: a plan for what comes first, then every order of the rest.
  append of one element onto a slice of the call's own: just its own block turns, and where the new one lies.
  Laws: a map whose elements are bools, by what it answers at each key.
-/
import Derived.WalkKit
import Derived.WalkSpells
import Derived.WalkLawsBesides
import Derived.Lib.Hide
import Derived.Laws.CopyOwn
import Derived.Deep.MidRow
import Derived.Deep.WholeRow
import Derived.Deep.OwnRows
import Derived.OrdersHeld
import Derived.Deep.RegionHeld3
import Derived.Laws.Rows
import Derived.KernelRfl
import Derived.Maps.AppendAt
import Derived.Maps.OwnSet
import Derived.Maps.Views
namespace Go.Proofs.YtidmjepfpjfkoaaDoor
open Go Go.RowKit

section
variable {P : Program} {ops : Array Oper} {rest : List Oper} {o : Oper} {a : Act} {w : World} {Q : Exit → Act → World → Prop}

/-- a new variable whose zero value is known under a name -/
theorem kl_alloc (hgd : o.guard = none) (T : TypeId) (ho : o.op = .alloc T) (Z : Array Value) (i : TypeInfo) (hi : P.info? T = some i) (z : Value) (hz : i.zero = some z) (hZ : z.cells = Z)
    (h : wpList P ops Q rest (a.put o.dst (.pointer (some ⟨w.heap.size, 0, none⟩))) (w.alloc (.cells Z T))) : wpList P ops Q (o :: rest) a w := by
  refine wpList_plain hgd fun K hK => ?_
  unfold Oper.wp execOp
  rw [ho]
  have : (Instr.alloc T true (.tuple #[])).run P w = .ok (.pointer (some ⟨w.heap.size, 0, none⟩)) (w.alloc (.cells Z T)) := by
    subst hZ
    simp [Instr.alloc, zeroValue, typeInfo, hi, hz, newVar, newRow, Sem.run_bind]
  simp only [Sem.run_bind, this, Result.andThen_ok]
  exact hK _ _ h

/-- the block that a new variable is -/
theorem blk_new (w : World) (o : Obj) : (w.alloc o).heap[w.heap.size]? = some o := heap_alloc_new w o
theorem blk_old (w : World) (o : Obj) {b : Nat} {x : Obj} (h : w.heap[b]? = some x) : (w.alloc o).heap[b]? = some x := by
  rw [Go.heap_alloc_old w o (lt_of_block h)]; exact h
theorem size_alloc (w : World) (o : Obj) : (w.alloc o).heap.size = w.heap.size + 1 := by
  show (w.heap.push o).size = _; simp
theorem size_setCell (w : World) (a : Addr) (v : Value) : (w.setCell a v).heap.size = w.heap.size := by simp [World.setCell]
/-- a whole row stored into the block that was made last -/
theorem kl_store_new (hgd : o.guard = none) (ty : TypeId) (x y : Operand) (ho : o.op = .store ty x y) (cells : Array Value) (hx : a.eval x = .pointer (some ⟨w.heap.size, 0, none⟩)) (hy : a.eval y = .agg cells)
    (t : TypeId) (old : Array Value) (hi : (P.info? ty).map (·.size) = some cells.size) (hold : old.size = cells.size) (h1 : cells.all (·.oneCell') = true)
    (h : wpList P ops Q rest (a.put o.dst undef) (w.alloc (.cells cells t))) : wpList P ops Q (o :: rest) a (w.alloc (.cells old t)) := by
  refine wpList_store_row hgd ty x y ho w.heap.size cells hx hy t old (heap_alloc_new _ _) hi hold h1 ?_
  rw [World.setRow_alloc_new]
  exact h
end
section
variable {P : Program} {ops : Array Oper} {rest : List Oper} {o : Oper} {a : Act} {w : World} {Q : Exit → Act → World → Prop}
/-- one element (of k cells) appended to a slice of the call's own -/
theorem kl_append1 (hgd : o.guard = none) (s x : Operand) (t : TypeId) (ho : o.op = .call { callee := .builtin .append, args := #[s, x], argTypes := #[t, t] })
    (base : Nat) (e : TypeId) (i : TypeInfo) (z : Value) (size bytes : Nat) (ht : P.underlying t = some (.slice e)) (hi : P.info? e = some i) (hz : i.zero = some z)
    (hsize : i.size = size) (hby : i.bytes = bytes) (hzs : z.cells.size = size) (hsz : 0 < size)
    (v : Value) (n : Nat) (xs : List Value) (hs : a.eval s = v) (hown : w.ownsRow base e size v n xs)
    (c : Nat) (us : Array Value) (hx : a.eval x = .slice (some ⟨w.heap.size, 0, none⟩) 1 c) (hus : us.size = size) (h1 : ∀ u ∈ us.toList, u.oneCell' = true)
    (hn : n < 16777216) (hb16 : bytes ≤ 4096) (hbase : base ≤ w.heap.size)
    (h : ∀ v' w', w'.ownsRow base e size v' (n + 1) (xs ++ us.toList) → Below base w w' → w.heap.size ≤ w'.heap.size → v' ≠ .slice none 0 0 → wpList P ops Q rest (a.put o.dst v') w') :
    wpList P ops Q (o :: rest) a (w.alloc (.cells us e)) := by
  refine wpList_append_own _ hgd s x t ho base e i z size bytes ht hi hz hsize hby hzs hsz v n xs hs (hown.alloc _) ⟨w.heap.size, 0, none⟩ 1 c us.toList hx ?_ ?_ h1 ?_ ?_ ?_ ?_
  · simp [hus]
  · intro j u hj
    rw [Addr.add_mid, cell_of_row _ _ _ _ _ _ (heap_alloc_new _ _)]
    simpa using hj
  · unfold maxLen; omega
  · have : (n + 1) * bytes ≤ 16777216 * 4096 := Nat.mul_le_mul (by omega) hb16
    omega
  · rw [size_alloc]; omega
  · intro v' w' ho' hg hnil
    have hlt := hown.lt
    have hb : Below base (w.alloc (.cells us e)) w' := (Below.refl _ _).grown hg (by rw [size_alloc]; omega) (fun k hk => (hlt k hk).1)
    refine h v' w' ho' (((Below.refl _ _).alloc hbase _).trans hb) ?_ ?_
    · have := hb.size; rw [size_alloc] at this; omega
    · intro e'
      have := (hnil.1 e').2
      omega
end

/-- a slice of the call's own, as one that is read -/
theorem owns_read {w : World} {base : Nat} {e : TypeId} {size : Nat} {v : Value} {n : Nat} {xs : List Value} (h : w.ownsRow base e size v n xs) :
    ∃ p c, v = .slice p n c ∧ n ≤ c ∧ (n = 0 ∨ ∃ b, p = some ⟨b, 0, none⟩ ∧ base ≤ b ∧ b < w.heap.size ∧ ∀ j u, xs[j]? = some u → w.cell? ⟨b, j, none⟩ = some u) := by
  obtain ⟨hl, h⟩ := h
  rcases h with ⟨rfl, rfl⟩ | ⟨g, cap, cur, rfl, hg, hh, hc, _, _, hx⟩
  · exact ⟨none, 0, rfl, Nat.le_refl _, Or.inl rfl⟩
  · refine ⟨_, cap, rfl, hc, Or.inr ⟨g, rfl, hg, lt_of_block hh, fun j u hj => ?_⟩⟩
    rw [cell_of_row _ _ _ _ _ _ hh]
    rw [← hx, List.getElem?_take] at hj
    split at hj
    · simpa using hj
    · cases hj

section
variable {P : Program} {ops : Array Oper} {rest : List Oper} {o : Oper} {a : Act} {w : World} {Q : Exit → Act → World → Prop}
/-- '[]byte(s)': a new row that holds the bytes -/
theorem kl_bytes (hgd : o.guard = none) (src dst e : TypeId) (x : Operand) (ho : o.op = .convert src dst x) (hs : P.underlying src = some .string) (hd : P.underlying dst = some (.slice e)) (he : P.underlying e = some (.int .u8))
    (s : ByteArray) (hx : a.eval x = .string s)
    (h : ∀ c w', s.size ≤ c → Below w.heap.size w w' → w.heap.size < w'.heap.size → (∀ j u, s.data.toList[j]? = some u → w'.cell? ⟨w.heap.size, j, none⟩ = some (.int .u8 (u.toNat : Int))) →
      wpList P ops Q rest (a.put o.dst (.slice (some ⟨w.heap.size, 0, none⟩) s.size c)) w') : wpList P ops Q (o :: rest) a w := by
  refine wpList_plain hgd fun K hK => ?_
  unfold Oper.wp execOp
  rw [ho]
  dsimp only
  rw [hx, Sem.run_bind, run_bytes_of_string w src dst e s hs hd he]
  simp only [Result.andThen_ok]
  refine hK _ _ (h (grownCap w s.size 0 e) _ (grownCap_ge _ _ _ _) (((Below.refl _ _).drew).alloc (Nat.le_refl _) _) (by rw [size_alloc]; exact Nat.lt_succ_self _) ?_)
  intro j u hj
  have hblk := heap_alloc_new w.drew (Obj.cells (bytesRow s (grownCap w s.size 0 e)) e ((bytesRow s (grownCap w s.size 0 e)).size, (bytesRow s (grownCap w s.size 0 e)).size + 1))
  rw [show w.heap.size = w.drew.heap.size from rfl, cell_of_row _ _ _ _ _ _ hblk]
  obtain ⟨hj1, hj2⟩ := List.getElem?_eq_some_iff.1 hj
  subst hj2
  have hj3 : j < s.data.size := by simpa using hj1
  have hj4 : j < s.size := hj3
  simp [bytesRow, hj4, Array.getElem?_append]

/-- 'string(b)' where b's cells are known -/
theorem kl_string (hgd : o.guard = none) (src dst e : TypeId) (x : Operand) (ho : o.op = .convert src dst x) (hs : P.underlying src = some (.slice e)) (he : P.underlying e = some (.int .u8)) (hd : P.underlying dst = some .string)
    (b off n c : Nat) (hx : a.eval x = .slice (some ⟨b, off, none⟩) n c) (l : List UInt8) (hl : l.length = n) (hc : ∀ j u, l[j]? = some u → w.cell? ⟨b, off + j, none⟩ = some (.int .u8 (u.toNat : Int)))
    (h : wpList P ops Q rest (a.put o.dst (.string ⟨l.toArray⟩)) w) : wpList P ops Q (o :: rest) a w := by
  refine wpList_plain hgd fun K hK => ?_
  unfold Oper.wp execOp
  rw [ho]
  dsimp only
  rw [hx, Sem.run_bind]
  subst hl
  rw [run_convert_bytes_back w src dst e ⟨b, off, none⟩ c l hs he hd (fun j hj => by rw [Addr.add_mid]; exact hc j _ (List.getElem?_eq_getElem hj))]
  exact hK _ _ h
end

theorem madeCells_rep (z : Value) (n : Nat) : madeCells #[z] n = Array.replicate n z := by
  apply Array.ext'
  rw [toList_madeCells_one]; simp

/-- what was there is as it was, but for the blocks listed; there may be new ones -/
structure Ch (w w' : World) (S : List Nat) : Prop where
  os : w'.os = w.os
  tape : w'.tape = w.tape
  output : w'.output = w.output
  size : w.heap.size ≤ w'.heap.size
  block : ∀ k, k < w.heap.size → k ∉ S → w'.heap[k]? = w.heap[k]?

theorem Ch.refl (w : World) (S : List Nat) : Ch w w S := ⟨rfl, rfl, rfl, Nat.le_refl _, fun _ _ _ => rfl⟩
theorem Ch.trans {a b c : World} {S : List Nat} (h : Ch a b S) (k : Ch b c S) : Ch a c S :=
  ⟨k.os.trans h.os, k.tape.trans h.tape, k.output.trans h.output, Nat.le_trans h.size k.size,
    fun i hi hn => (k.block i (Nat.lt_of_lt_of_le hi h.size) hn).trans (h.block i hi hn)⟩
theorem Ch.mono {a b : World} {S T : List Nat} (h : Ch a b S) (hs : ∀ k ∈ S, k ∈ T) : Ch a b T :=
  ⟨h.os, h.tape, h.output, h.size, fun i hi hn => h.block i hi (fun hm => hn (hs i hm))⟩
theorem Ch.setCell {a w : World} {S : List Nat} (h : Ch a w S) {p : Addr} (hp : p.block ∈ S) (v : Value) : Ch a (w.setCell p v) S :=
  h.trans ⟨rfl, rfl, rfl, by rw [size_setCell]; exact Nat.le_refl _, fun k _ hn => Below.heap_setCell _ _ _ _ (fun e => hn (e ▸ hp))⟩
theorem Ch.alloc {a w : World} {S : List Nat} (h : Ch a w S) (o : Obj) : Ch a (w.alloc o) S :=
  h.trans ⟨rfl, rfl, rfl, by rw [size_alloc]; omega, fun k hk _ => Below.heap_alloc _ _ _ hk⟩
theorem Ch.drew {a w : World} {S : List Nat} (h : Ch a w S) : Ch a w.drew S := ⟨h.os, h.tape, h.output, h.size, h.block⟩
theorem Ch.ofBelow {a w : World} (h : Below a.heap.size a w) (S : List Nat) : Ch a w S := ⟨h.os, h.tape, h.output, h.size, fun k hk _ => h.block k hk⟩
theorem Ch.below {B : Nat} {a w w' : World} {S : List Nat} (h : Below B a w) (c : Ch w w' S) (hB : B ≤ w.heap.size) (hS : ∀ k ∈ S, B ≤ k) : Below B a w' :=
  h.trans ⟨c.os, c.tape, c.output, c.size, fun k hk => c.block k (by omega) (fun hm => by have := hS k hm; omega)⟩
theorem Ch.keep {w w' : World} {S : List Nat} (c : Ch w w' S) {b : Nat} {o : Obj} (h : w.heap[b]? = some o) (hn : b ∉ S) : w'.heap[b]? = some o :=
  (c.block b (lt_of_block h) hn).trans h
theorem Below.keep {B : Nat} {w w' : World} (c : Below B w w') {b : Nat} {o : Obj} (h : w.heap[b]? = some o) (hn : b < B) : w'.heap[b]? = some o :=
  (c.block b hn).trans h
end Go.Proofs.YtidmjepfpjfkoaaDoor

namespace Go.Proofs.YtidmjepfpjfkoaaDoor
open Go Go.RowKit
set_option linter.unusedVariables false
section
variable {P : Program} {ops : Array Oper} {Q : Exit → Act → World → Prop} {S : World → Prop} {md : Region.Mode}

/-- the post of one operation: K behind it, Q else -/
def MixQ (Q : Exit → Act → World → Prop) (K : Act → World → Prop) : Exit → Act → World → Prop
  | .normal, a, w => K a w
  | e, a, w => Q e a w

/-- the operations in the plan's order -/
def wpPlan (P : Program) (ops : Array Oper) (S : World → Prop) (Q : Exit → Act → World → Prop) : List (Bool × Nat) → Act → World → Prop
  | [], a, w => Q .normal a w
  | (true, i) :: rest, a, w => ∃ o v, ops[i]? = some o ∧ YieldsIf P ops S o v a ∧ wpPlan P ops S Q rest (a.put o.dst v) w
  | (false, i) :: rest, a, w => ∃ o, ops[i]? = some o ∧ wpList P ops (MixQ Q fun a' w' => S w' ∧ wpPlan P ops S Q rest a' w') [o] a w

/-- may the plan be followed? -/
def planB (md : Region.Mode) (ops : Array Oper) : List (Bool × Nat) → Array Bool → Bool
  | [], listed => (Region.ready md ops listed).isEmpty
  | (true, i) :: rest, listed => (Region.ready md ops listed).contains i && Region.free md ops listed i && planB md ops rest (listed.setIfInBounds i true)
  | (false, i) :: rest, listed => (Region.ready md ops listed == [i]) && planB md ops rest (listed.setIfInBounds i true)

theorem wp_mixQ {o : Oper} {a : Act} {w : World} {K K' : Act → World → Prop} (h : o.wp P a w K (MixQ Q K')) : o.wp P a w K Q := by
  unfold Oper.wp at *
  generalize (execOp a.eval o).run P w = r at *
  cases r with
  | ok n w' =>
    cases n with
    | enter f args =>
      refine Calls.mono h fun e w'' he => ?_
      cases e <;> exact he
    | _ => exact h
  | halt x w' => cases x <;> exact h

theorem wpAnyH_plan (hsel : Region.noSelect ops = true) (hQ : ∀ c d v a w, Q (.panic c) (Act.put a d v) w → Q (.panic c) a w) :
    ∀ (pl : List (Bool × Nat)) (listed : Array Bool) (a : Act) (w : World), planB md ops pl listed = true → S w → wpPlan P ops S Q pl a w → wpAnyH P md ops Q S pl.length listed a w := by
  intro pl
  induction pl with
  | nil =>
    intro listed a w hB hS h
    exact ⟨by simpa [planB] using hB, h⟩
  | cons x rest ih =>
    obtain ⟨b, i⟩ := x
    intro listed a w hB hS h
    cases b with
    | true =>
      simp only [planB, Bool.and_eq_true] at hB
      obtain ⟨⟨hr, hf⟩, hB'⟩ := hB
      obtain ⟨o, v, ho, hy, h'⟩ := h
      exact wpAnyH_take ho hsel hf hr (fun c a w => hQ c _ _ a w) hy hS (ih _ _ _ hB' hS h')
    | false =>
      simp only [planB, Bool.and_eq_true, beq_iff_eq] at hB
      obtain ⟨hr, hB'⟩ := hB
      obtain ⟨o, ho, h'⟩ := h
      refine wpAnyH_all hr (by simp) fun j hj => ?_
      obtain rfl : j = i := by simpa using hj
      unfold wpOp
      simp only [ho]
      unfold wpList at h'
      split
      · rename_i hw
        rw [if_pos hw] at h'
        rcases h' with h' | ⟨ha, hl⟩
        · refine .inl (wp_mixQ (K' := fun a' w' => S w' ∧ wpPlan P ops S Q rest a' w') ?_)
          exact Oper.wp_mono (fun a' w' hk => ⟨hk.1, ih _ _ _ hB' hk.1 hk.2⟩) h'
        · exact .inr ⟨ha, hl⟩
      · rename_i hw
        rw [if_neg hw] at h'
        exact ⟨h'.1, ih _ _ _ hB' h'.1 h'.2⟩

/-- **a region that draws its order, by a plan** (it is shown not to panic) -/
theorem wp_region_plan (S : World → Prop) (pl : List (Bool × Nat)) {id : Nat} {a : Act} {w : World} {l : List Oper} (hm : P.follows .mixedOrders = true)
    (hB : (Region.noSelect l.toArray && (pl.length == l.toArray.size) && planB .any l.toArray pl (Array.replicate l.toArray.size false)) = true)
    (hS : S w.drew) (h : wpPlan P l.toArray S (NoPanic Q) pl a w.drew) : (Code.region id l.toArray true).wp P Q a w := by
  simp only [Bool.and_eq_true, beq_iff_eq] at hB
  obtain ⟨⟨h1, h2⟩, h3⟩ := hB
  refine wp_region_noPanic (wp_region_held (S := S) hm ?_)
  rw [← h2]
  exact wpAnyH_plan h1 (fun _ _ _ _ _ h => h) pl _ a w.drew (by rw [h2] at *; exact h3) hS h

theorem mx_end {a : Act} {w : World} (h : Q .normal a w) : wpPlan P ops S (NoPanic Q) [] a w := NoPanic.normal h
theorem mx_pure {rest : List (Bool × Nat)} {i : Nat} {o : Oper} {v : Value} {a : Act} {w : World} (ho : ops[i]? = some o) (hw : Region.wanted o (yielded ops a.tmps) = true)
    (hy : ∀ w, S w → (execOp a.eval o).run P w = .ok (.value v) w) (h : wpPlan P ops S Q rest (a.put o.dst v) w) : wpPlan P ops S Q ((true, i) :: rest) a w :=
  ⟨o, v, ho, .inl ⟨hw, hy⟩, h⟩
theorem mx_skip {rest : List (Bool × Nat)} {i : Nat} {o : Oper} {a : Act} {w : World} (ho : ops[i]? = some o) (hw : Region.wanted o (yielded ops a.tmps) = false)
    (h : wpPlan P ops S Q rest (a.put o.dst undef) w) : wpPlan P ops S Q ((true, i) :: rest) a w :=
  ⟨o, undef, ho, .inr ⟨hw, rfl⟩, h⟩
theorem mx_skipL {rest : List (Bool × Nat)} {i : Nat} {o : Oper} {a : Act} {w : World} (ho : ops[i]? = some o) (hw : Region.wanted o (yielded ops a.tmps) = false)
    (hS : S w) (h : wpPlan P ops S Q rest (a.put o.dst undef) w) : wpPlan P ops S Q ((false, i) :: rest) a w := by
  refine ⟨o, ho, ?_⟩
  unfold wpList
  rw [if_neg (by rw [hw]; simp)]
  exact ⟨hS, h⟩
theorem mx_call {rest : List (Bool × Nat)} {i : Nat} {o : Oper} {a : Act} {w : World} {f : FuncId} {args : Array Value} (ho : ops[i]? = some o) (hw : Region.wanted o (yielded ops a.tmps) = true)
    (hr : ∀ w, (execOp a.eval o).run P w = .ok (.enter f args) w) (h : Calls P f args w fun e w' => ∃ v, e = .returned v ∧ S w' ∧ wpPlan P ops S Q rest (a.put o.dst v) w') : wpPlan P ops S Q ((false, i) :: rest) a w := by
  refine ⟨o, ho, ?_⟩
  unfold wpList
  rw [if_pos hw]
  refine .inl ?_
  unfold Oper.wp
  rw [hr]
  refine h.mono fun e w' ⟨v, he, hS, hp⟩ => ?_
  subst he
  exact ⟨hS, hp⟩
/-- what is carried out in the very world at hand -/
theorem mx_loud {rest : List (Bool × Nat)} {i : Nat} {o : Oper} {a : Act} {w : World} (ho : ops[i]? = some o)
    (h : wpList P ops (MixQ Q fun a' w' => S w' ∧ wpPlan P ops S Q rest a' w') [o] a w) : wpPlan P ops S Q ((false, i) :: rest) a w := ⟨o, ho, h⟩
theorem mx_loud_end {K : Act → World → Prop} {a : Act} {w : World} (h : K a w) : MixQ Q K .normal a w := h

/-- a whole row is read -/
theorem mx_load_row {o : Oper} {a : Act} {w : World} (ty : TypeId) (x : Operand) (ho : o.op = .load ty x)
    (g : Nat) (hx : a.eval x = .pointer (some ⟨g, 0, none⟩)) (t : TypeId) (cs : Array Value) (fr : Nat × Nat) (d : TypeDesc) (hg : w.heap[g]? = some (.cells cs t fr))
    (hu : P.underlying ty = some d) (hd : (match d with | .struct _ | .array _ _ => true | _ => false) = true) (hi : (P.info? ty).map (·.size) = some cs.size) :
    (execOp a.eval o).run P w = .ok (.value (.agg cs)) w := by
  unfold execOp
  simp only [ho, hx, Instr.loadAt, Instr.sureAddr, Sem.run_bind, Sem.run_pure, Result.andThen_ok, run_loadVar_row w g t ty cs fr d hg hu hd hi]
end

/-- what is known of a world: it is as w0 was below B; and these blocks hold these -/
structure Kn (B : Nat) (w0 : World) (L : List (Nat × Obj)) (w : World) : Prop where
  below : Below B w0 w
  base : B ≤ w.heap.size
  has : ∀ x ∈ L, w.heap[x.1]? = some x.2
theorem Kn.start (w : World) : Kn w.heap.size w [] w := ⟨Below.refl _ _, Nat.le_refl _, fun _ h => by cases h⟩
theorem Kn.call {B : Nat} {w0 w w' : World} {L : List (Nat × Obj)} (h : Kn B w0 L w) (hb : Below w.heap.size w w') : Kn B w0 L w' :=
  ⟨h.below.trans (hb.mono h.base), Nat.le_trans h.base hb.size, fun x hx => Below.keep hb (h.has x hx) (lt_of_block (h.has x hx))⟩
theorem Kn.alloc {B : Nat} {w0 w : World} {L : List (Nat × Obj)} (h : Kn B w0 L w) (o : Obj) : Kn B w0 ((w.heap.size, o) :: L) (w.alloc o) :=
  ⟨h.below.alloc h.base o, by rw [size_alloc]; have := h.base; omega, fun x hx => by
    rcases List.mem_cons.1 hx with rfl | hx
    · exact heap_alloc_new w o
    · exact blk_old w o (h.has x hx)⟩
theorem Kn.alloc' {B : Nat} {w0 w : World} {L : List (Nat × Obj)} (h : Kn B w0 L w) (o : Obj) : Kn B w0 L (w.alloc o) :=
  h.call ((Below.refl _ _).alloc (Nat.le_refl _) o)
theorem Kn.drew {B : Nat} {w0 w : World} {L : List (Nat × Obj)} (h : Kn B w0 L w) : Kn B w0 L w.drew := ⟨h.below.drew, h.base, h.has⟩
theorem Kn.add {B : Nat} {w0 w : World} {L : List (Nat × Obj)} (h : Kn B w0 L w) {b : Nat} {o : Obj} (hb : w.heap[b]? = some o) : Kn B w0 ((b, o) :: L) w :=
  ⟨h.below, h.base, fun x hx => by
    rcases List.mem_cons.1 hx with rfl | hx
    · exact hb
    · exact h.has x hx⟩
theorem Kn.get {B : Nat} {w0 w : World} {L : List (Nat × Obj)} (h : Kn B w0 L w) (i : Nat) {b : Nat} {o : Obj} (hx : L[i]? = some (b, o)) : w.heap[b]? = some o :=
  h.has (b, o) (List.mem_of_getElem? hx)
theorem Kn.lt {B : Nat} {w0 w : World} {L : List (Nat × Obj)} (h : Kn B w0 L w) (i : Nat) {b : Nat} {o : Obj} (hx : L[i]? = some (b, o)) : b < w.heap.size :=
  lt_of_block (h.get i hx)
theorem Kn.sub {B : Nat} {w0 w : World} {L M : List (Nat × Obj)} (h : Kn B w0 L w) (hs : ∀ x ∈ M, x ∈ L) : Kn B w0 M w := ⟨h.below, h.base, fun x hx => h.has x (hs x hx)⟩
theorem Kn.swap {B : Nat} {w0 w : World} {L : List (Nat × Obj)} {x y : Nat × Obj} (h : Kn B w0 (x :: y :: L) w) : Kn B w0 (y :: x :: L) w :=
  h.sub fun z hz => by
    rcases List.mem_cons.1 hz with rfl | hz
    · exact List.mem_cons_of_mem _ (List.mem_cons_self ..)
    · rcases List.mem_cons.1 hz with rfl | hz
      · exact List.mem_cons_self ..
      · exact List.mem_cons_of_mem _ (List.mem_cons_of_mem _ hz)
theorem ch_setRow (w : World) (g : Nat) (cs : Array Value) : Ch w (w.setRow g cs) [g] :=
  ⟨rfl, rfl, rfl, by rw [size_setRow]; exact Nat.le_refl _, fun k _ hk => setRow_other w g k cs (by simpa using hk)⟩
/-- a whole row is written anew: the first of the list -/
theorem Kn.put {B : Nat} {w0 w w' : World} {L : List (Nat × Obj)} {b : Nat} {o o' : Obj} (h : Kn B w0 ((b, o) :: L) w) (hB : B ≤ b) (hne : ∀ x ∈ L, x.1 ≠ b)
    (hc : Ch w w' [b]) (hn : w'.heap[b]? = some o') : Kn B w0 ((b, o') :: L) w' :=
  ⟨Ch.below h.below hc h.base (fun k hk => by simp at hk; omega), Nat.le_trans h.base hc.size, fun x hx => by
    rcases List.mem_cons.1 hx with rfl | hx
    · exact hn
    · exact hc.keep (h.has x (List.mem_cons_of_mem _ hx)) (by simp; exact hne x hx)⟩
end Go.Proofs.YtidmjepfpjfkoaaDoor

namespace Go.Proofs.YtidmjepfpjfkoaaDoor
open Go Go.RowKit
set_option linter.unusedVariables false
section
variable {P : Program} {ops : Array Oper} {rest : List Oper} {o : Oper} {a : Act} {w : World} {Q : Exit → Act → World → Prop}

/-- a nil source: nothing turns -/
theorem kl_append_nil (hgd : o.guard = none) (s x : Operand) (t : TypeId) (ho : o.op = .call { callee := .builtin .append, args := #[s, x], argTypes := #[t, t] })
    (base : Nat) (e : TypeId) (i : TypeInfo) (size : Nat) (ht : P.underlying t = some (.slice e)) (hi : P.info? e = some i)
    (v : Value) (n : Nat) (xs : List Value) (hs : a.eval s = v) (hown : w.ownsRow base e size v n xs) (hx : a.eval x = .slice none 0 0)
    (h : wpList P ops Q rest (a.put o.dst v) w) : wpList P ops Q (o :: rest) a w := by
  refine wpList_plain hgd fun K hK => ?_
  have hrun : (Builtin.append_ #[t, t] o.type #[v, .slice none 0 0]).run P w = .ok v w := by
    rcases hown.2 with ⟨rfl, rfl⟩ | ⟨g, cap, cur, rfl, _, _, hnc, _⟩
    · simp [Builtin.append_, run_underlying ht, sizeOf, typeInfo, hi, Builtin.lenOf, Builtin.firstCells]
    · simp [Builtin.append_, run_underlying ht, sizeOf, typeInfo, hi, Builtin.lenOf, Builtin.firstCells, hnc, storeCells]
  unfold Oper.wp execOp
  simp only [ho, resolve, invoke, builtin, Sem.run_bind, Sem.run_pure, Result.andThen_ok, List.map_toArray, List.map_cons, List.map_nil, hs, hx, hrun]
  exact hK _ _ h

/-- a slice, as it is read: nil, or an address that leads to these cells -/
def RdS (v : Value) (n : Nat) (xs : List Value) (B : Nat) (w : World) : Prop :=
  xs.length = n ∧ ((v = .slice none 0 0 ∧ n = 0) ∨ ∃ (ad : Addr) (c : Nat), v = .slice (some ad) n c ∧ n ≤ c ∧
    (n = 0 ∨ ∃ b off, ad = ⟨b, off, none⟩ ∧ b < B ∧ ∀ j u, xs[j]? = some u → w.cell? ⟨b, off + j, none⟩ = some u))

theorem RdS.below {v : Value} {n B : Nat} {xs : List Value} {w w' : World} (h : RdS v n xs B w) (hb : Below B w w') : RdS v n xs B w' := by
  refine ⟨h.1, h.2.imp id ?_⟩
  rintro ⟨ad, c, h1, h2, h3⟩
  refine ⟨ad, c, h1, h2, h3.imp id ?_⟩
  rintro ⟨b, off, h3, h4, h5⟩
  refine ⟨b, off, h3, h4, fun j u hu => ?_⟩
  rw [← h5 j u hu]
  have := hb.block b h4
  unfold World.cell?
  rw [this]
/-- an element of it -/
theorem RdS.at_ {A : Option Addr} {n c B : Nat} {xs : List Value} {w : World} (h : RdS (.slice A n c) n xs B w) {i : Nat} (hi : i < n) :
    ∃ b off, A = some ⟨b, off, none⟩ ∧ n ≤ c ∧ b < B ∧ ∀ j u, xs[j]? = some u → w.cell? ⟨b, off + j, none⟩ = some u := by
  rcases h.2 with ⟨_, h⟩ | ⟨ad, c', h, h2, h3⟩
  · omega
  · injection h with h5 h6 h7
    rcases h3 with h3 | ⟨b, off, h3, h4, h8⟩
    · omega
    · exact ⟨b, off, by rw [h5, h3], by omega, h4, h8⟩

/-- one-cell elements of a slice that is read, behind a slice of the call's own -/
theorem kl_append_rd (hgd : o.guard = none) (s x : Operand) (t : TypeId) (ho : o.op = .call { callee := .builtin .append, args := #[s, x], argTypes := #[t, t] })
    (base : Nat) (e : TypeId) (i : TypeInfo) (z : Value) (bytes : Nat) (ht : P.underlying t = some (.slice e)) (hi : P.info? e = some i) (hz : i.zero = some z)
    (hsize : i.size = 1) (hby : i.bytes = bytes) (hzs : z.cells.size = 1)
    (v : Value) (n : Nat) (xs : List Value) (hs : a.eval s = v) (hown : w.ownsRow base e 1 v n xs)
    (y : Value) (m : Nat) (ys : List Value) (B : Nat) (hx : a.eval x = y) (hr : RdS y m ys B w) (h1 : ∀ u ∈ ys, u.oneCell' = true)
    (hn : n + m < 16777216) (hb16 : bytes ≤ 4096) (hbase : base ≤ w.heap.size)
    (h : ∀ v' w', w'.ownsRow base e 1 v' (n + m) (xs ++ ys) → Below base w w' → w.heap.size ≤ w'.heap.size → (v' = .slice none 0 0 ↔ v = .slice none 0 0 ∧ m = 0) → wpList P ops Q rest (a.put o.dst v') w') :
    wpList P ops Q (o :: rest) a w := by
  obtain ⟨hl, hr⟩ := hr
  rcases hr with ⟨rfl, rfl⟩ | ⟨ad, c, rfl, hc, hcell⟩
  · obtain rfl : ys = [] := List.eq_nil_of_length_eq_zero hl
    exact kl_append_nil hgd s x t ho base e i 1 ht hi v n xs hs hown hx (h v w (by simpa using hown) (Below.refl _ _) (Nat.le_refl _) (by simp))
  · refine wpList_append_own _ hgd s x t ho base e i z 1 bytes ht hi hz hsize hby hzs (by decide) v n xs hs hown ad m c ys hx (by simpa using hl) (fun j u hj => by
      rcases hcell with h0 | ⟨b, off, rfl, hb, hcell⟩
      · have : ys = [] := List.eq_nil_of_length_eq_zero (by omega)
        subst this; simp at hj
      · rw [Addr.add_mid]; exact hcell j u hj) h1 (by unfold maxLen; omega) ?_ hbase ?_
    · have : (n + m) * bytes ≤ 16777216 * 4096 := Nat.mul_le_mul (by omega) hb16
      omega
    · intro v' w' ho' hg hnil
      have hlt := hown.lt
      have hbw : Below base w w' := (Below.refl _ _).grown hg hbase (fun k hk => (hlt k hk).1)
      exact h v' w' ho' hbw hbw.size hnil

/-- '[]T{}' -/
theorem owns_empty (w : World) (base : Nat) (e : TypeId) (hb : base ≤ w.heap.size) : (w.alloc (.cells #[] e)).ownsRow base e 1 (.slice (some ⟨w.heap.size, 0, none⟩) 0 0) 0 [] :=
  ⟨rfl, .inr ⟨w.heap.size, 0, #[], rfl, hb, heap_alloc_new _ _, Nat.le_refl _, by unfold maxLen; omega, rfl, rfl⟩⟩
/-- a slice of the call's own that is not nil, as it is read -/
theorem owns_some {w : World} {base : Nat} {e : TypeId} {v : Value} {n : Nat} {xs : List Value} (h : w.ownsRow base e 1 v n xs) (hn : v ≠ .slice none 0 0) :
    ∃ b c, v = .slice (some ⟨b, 0, none⟩) n c ∧ n ≤ c ∧ base ≤ b ∧ b < w.heap.size ∧ ∀ j u, xs[j]? = some u → w.cell? ⟨b, 0 + j, none⟩ = some u := by
  obtain ⟨hl, h⟩ := h
  rcases h with ⟨rfl, rfl⟩ | ⟨g, cap, cur, rfl, hg, hh, hc, _, _, hx⟩
  · exact absurd rfl hn
  · refine ⟨g, cap, rfl, hc, hg, lt_of_block hh, fun j u hj => ?_⟩
    rw [Nat.zero_add, cell_of_row _ _ _ _ _ _ hh]
    rw [← hx, List.getElem?_take] at hj
    split at hj
    · simpa using hj
    · cases hj
end
end Go.Proofs.YtidmjepfpjfkoaaDoor

namespace Go.Proofs.YtidmjepfpjfkoaaDoor
open Go Go.RowKit
set_option linter.unusedVariables false
section
variable {P : Program} {ops : Array Oper} {md : Region.Mode} {B : Nat} {w0 : World} {Q : Exit → Act → World → Prop}

/-- one value, in the very world, or by a call that turns nothing of what there is -/
def kUpon (P : Program) (w : World) (v : Value) : Result Next → Prop
  | .ok (.value u) w' => w' = w ∧ u = v
  | .ok (.enter f args) w' => w' = w ∧ Calls P f args w (fun e w'' => e = .returned v ∧ Below w.heap.size w w'')
  | _ => False
def kAt (P : Program) (o : Oper) (a : Act) (w : World) (v : Value) : Prop := kUpon P w v ((execOp a.eval o).run P w)
def KY (P : Program) (ops : Array Oper) (B : Nat) (w0 : World) (L : List (Nat × Obj)) (o : Oper) (v : Value) (a : Act) : Prop :=
  (Region.wanted o (yielded ops a.tmps) = true ∧ ∀ w, Kn B w0 L w → kAt P o a w v) ∨ (Region.wanted o (yielded ops a.tmps) = false ∧ v = undef)

theorem KY.sub {L L' : List (Nat × Obj)} {o : Oper} {v : Value} {a : Act} (h : KY P ops B w0 L o v a) (hs : ∀ x ∈ L, x ∈ L') : KY P ops B w0 L' o v a :=
  h.imp (fun ⟨h1, h2⟩ => ⟨h1, fun w hw => h2 w (hw.sub hs)⟩) id
theorem KY.of_same {L : List (Nat × Obj)} {o : Oper} {v : Value} {a a' : Act} (h : KY P ops B w0 L o v a) (he : execOp a'.eval o = execOp a.eval o)
    (hw : Region.wanted o (yielded ops a'.tmps) = Region.wanted o (yielded ops a.tmps)) : KY P ops B w0 L o v a' := by
  unfold KY kAt at *
  rw [he, hw]
  exact h

/-- what an operation waits for, so many steps back -/
def preds (md : Region.Mode) (ops : Array Oper) : Nat → Nat → List Nat
  | 0, _ => []
  | f + 1, j => match ops[j]? with
    | some oj => oj.after.toList.flatMap fun e => if Region.binds md e then e.on :: preds md ops f e.on else []
    | none => []
/-- each other one is waited for by it, or waits for it -/
def lone (md : Region.Mode) (ops : Array Oper) (i : Nat) : Bool :=
  (List.range ops.size).all fun j => j == i || (preds md ops 3 i).contains j || (match ops[j]? with
    | some oj => oj.after.any fun e => Region.binds md e && e.on == i
    | none => true)
/-- what has come up, with all that it waited for -/
def Closed (md : Region.Mode) (ops : Array Oper) (listed : Array Bool) : Prop :=
  ∀ k ok, ops[k]? = some ok → listed.getD k false = true → ∀ e ∈ ok.after, Region.binds md e = true → listed.getD e.on false = true
theorem preds_listed {listed : Array Bool} (hc : Closed md ops listed) : ∀ (f j : Nat), (∀ oj, ops[j]? = some oj → ∀ e ∈ oj.after, Region.binds md e = true → listed.getD e.on false = true) →
    ∀ k ∈ preds md ops f j, listed.getD k false = true := by
  intro f
  induction f with
  | zero => intro j _ k hk; cases hk
  | succ f ih =>
    intro j hj k hk
    unfold preds at hk
    split at hk
    · rename_i oj hoj
      rw [List.mem_flatMap] at hk
      obtain ⟨e, he, hk⟩ := hk
      have he' : e ∈ oj.after := by simpa using he
      split at hk
      · rename_i hb
        have h1 := hj oj hoj e he' hb
        rcases List.mem_cons.1 hk with rfl | hk
        · exact h1
        · exact ih e.on (fun oe hoe e2 he2 hb2 => hc e.on oe hoe h1 e2 he2 hb2) k hk
      · cases hk
    · cases hk
theorem getD_tf {listed : Array Bool} {i : Nat} (h1 : listed.getD i true = false) (h2 : listed.getD i false = true) : False := by
  rcases Nat.lt_or_ge i listed.size with h' | h'
  · simp [h'] at h1 h2; rw [h1] at h2; cases h2
  · simp [Array.getElem?_eq_none h'] at h2
theorem lone_no {listed : Array Bool} (hc : Closed md ops listed) {i j : Nat} (hi : i ∈ Region.ready md ops listed) (hj : j ∈ Region.ready md ops listed) (hij : i ≠ j) (h : lone md ops j = true) : False := by
  obtain ⟨hiun, oi, hoi, halli⟩ := mem_ready.1 hi
  obtain ⟨hjun, oj, hoj, hallj⟩ := mem_ready.1 hj
  have h2 := List.all_eq_true.1 h i (List.mem_range.2 (Array.getElem?_eq_some_iff.1 hoi).1)
  simp only [hoi, Bool.or_eq_true, beq_iff_eq, hij, false_or] at h2
  rcases h2 with h2 | h2
  · exact getD_tf hiun (preds_listed hc 3 j (fun o ho => by obtain rfl := Option.some.inj (ho.symm.trans hoj); exact hallj) i (by simpa using h2))
  · obtain ⟨e, he, hb⟩ := Array.any_eq_true'.1 h2
    simp only [Bool.and_eq_true, beq_iff_eq] at hb
    have h4 := halli e he hb.1
    rw [hb.2] at h4
    exact getD_tf hjun h4
theorem Closed.set {listed : Array Bool} (hc : Closed md ops listed) {j : Nat} (hj : j ∈ Region.ready md ops listed) : Closed md ops (listed.setIfInBounds j true) := by
  obtain ⟨hjun, oj, hoj, hallj⟩ := mem_ready.1 hj
  intro k ok hk hl e he hb
  have up : ∀ x, listed.getD x false = true → (listed.setIfInBounds j true).getD x false = true := fun x hx => by
    rcases Nat.lt_or_ge x listed.size with h' | h'
    · simp [h'] at hx
      by_cases hjx : j = x
      · subst hjx; simp [Array.getElem?_setIfInBounds, h']
      · simp [Array.getElem?_setIfInBounds, hjx, h', hx]
    · simp [Array.getElem?_eq_none h'] at hx
  by_cases hjk : j = k
  · subst hjk
    obtain rfl := Option.some.inj (hk.symm.trans hoj)
    exact up _ (hallj e he hb)
  · refine up _ (hc k ok hk ?_ e he hb)
    rcases Nat.lt_or_ge k listed.size with h' | h'
    · simpa [Array.getElem?_setIfInBounds, hjk, h'] using hl
    · simp [Array.getElem?_setIfInBounds, hjk, Array.getElem?_eq_none h'] at hl
theorem Closed.start (n : Nat) : Closed md ops (Array.replicate n false) := by
  intro k ok _ hl
  rcases Nat.lt_or_ge k n with h' | h'
  · simp [h'] at hl
  · simp [h'] at hl

/-- number i comes up -/
def aOp (P : Program) (md : Region.Mode) (ops : Array Oper) (B : Nat) (w0 : World) (Q : Exit → Act → World → Prop) (i : Nat) (K : Act → List (Nat × Obj) → Prop) (a : Act) (L : List (Nat × Obj)) : Prop :=
  ∃ o, ops[i]? = some o ∧ ((∃ v, KY P ops B w0 L o v a ∧ K (a.put o.dst v) L) ∨
    (Region.wanted o (yielded ops a.tmps) = true ∧ ∀ w, Kn B w0 L w → o.wp P a w (fun a' w' => ∃ L', (lone md ops i = true ∨ ∀ x ∈ L, x ∈ L') ∧ Kn B w0 L' w' ∧ K a' L') Q ∨ (o.asks P a w ∧ LetsOut Q)))

/-- every order -/
def absAny (P : Program) (md : Region.Mode) (ops : Array Oper) (B : Nat) (w0 : World) (Q : Exit → Act → World → Prop) : Nat → Array Bool → Act → List (Nat × Obj) → Prop
  | 0, listed, a, L => Region.ready md ops listed = [] ∧ ∀ w, Kn B w0 L w → Q .normal a w
  | n + 1, listed, a, L => Region.ready md ops listed ≠ [] ∧ ∀ i ∈ Region.ready md ops listed, aOp P md ops B w0 Q i (absAny P md ops B w0 Q n (listed.setIfInBounds i true)) a L

theorem wpAny_of_abs : ∀ (n : Nat) (listed : Array Bool) (a : Act) (L : List (Nat × Obj)), absAny P md ops B w0 Q n listed a L → ∀ w, Kn B w0 L w → wpAny P md ops Q n listed a w := by
  intro n
  induction n with
  | zero => intro listed a L h w hw; exact ⟨h.1, h.2 w hw⟩
  | succ n ih =>
    intro listed a L h w hw
    refine ⟨fun h0 => absurd h0 h.1, fun i hi => ?_⟩
    obtain ⟨o, ho, h2⟩ := h.2 i hi
    unfold wpOp
    simp only [ho]
    rcases h2 with ⟨v, hy, hk⟩ | ⟨hwt, hl⟩
    · rcases hy with ⟨hwt, hv⟩ | ⟨hwt, rfl⟩
      · rw [if_pos hwt]
        refine .inl ?_
        have h3 := hv w hw
        unfold kAt at h3
        unfold Oper.wp
        generalize (execOp a.eval o).run P w = r at *
        cases r with
        | ok nx w' =>
          cases nx <;> simp only [kUpon] at h3 <;> simp only [Oper.upon]
          case value u =>
            obtain ⟨e1, e2⟩ := h3
            rw [e1, e2]
            exact ih _ _ _ hk w hw
          case enter f args =>
            obtain ⟨e1, hc⟩ := h3
            rw [e1]
            exact hc.mono fun e w'' ⟨he, hb⟩ => by subst he; exact ih _ _ _ hk w'' (hw.call hb)
        | halt x w' => simp only [kUpon] at h3
      · rw [if_neg (by rw [hwt]; simp)]
        exact ih _ _ _ hk w hw
    · rw [if_pos hwt]
      rcases hl w hw with h3 | h3
      · exact .inl (Oper.wp_mono (fun a' w' ⟨L', _, hk, hn⟩ => ih _ _ _ hn w' hk) h3)
      · exact .inr h3

theorem loud_put {oi oj : Oper} {v : Value} {L : List (Nat × Obj)} (hap : oi.apart ops oj = true) (hsj : ∀ cs b, oj.op ≠ .select cs b) (hsi : ∀ cs b, oi.op ≠ .select cs b)
    (hQ : ∀ c d v a w, Q (.panic c) (Act.put a d v) w → Q (.panic c) a w) {K K' : Act → List (Nat × Obj) → Prop} {a : Act} {w : World} {R : List (Nat × Obj) → Prop}
    (hy : KY P ops B w0 L oi v a) (hK : ∀ a' L', R L' → (KY P ops B w0 L oi v a') → K (a'.put oi.dst v) L' → K' a' L')
    (h : oj.wp P (a.put oi.dst v) w (fun a' w' => ∃ L', R L' ∧ Kn B w0 L' w' ∧ K a' L') Q) : oj.wp P a w (fun a' w' => ∃ L', R L' ∧ Kn B w0 L' w' ∧ K' a' L') Q := by
  obtain ⟨h1, h2, h3⟩ := Oper.apart_spec hap
  have keep : ∀ (a : Act), KY P ops B w0 L oi v a → ∀ u, KY P ops B w0 L oi v (a.put oj.dst u) := fun a hy u =>
    hy.of_same (execOp_put oi hsi a oj.dst u h3) (wanted_put oi a oj.dst u h3)
  have keepD : ∀ d, KY P ops B w0 L oi v { a with defers := d :: a.defers } := fun d => hy.of_same rfl rfl
  unfold Oper.wp at *
  rw [execOp_put oj hsj a oi.dst v h1] at h
  generalize (execOp a.eval oj).run P w = r at *
  cases r with
  | ok n w' =>
    cases n <;> simp only [Oper.upon] at h ⊢
    case value u =>
      obtain ⟨L', hr, hk, hn⟩ := h
      exact ⟨L', hr, hk, hK _ _ hr (keep a hy u) (by rw [← Act.put_comm a v u h2]; exact hn)⟩
    case skip =>
      obtain ⟨L', hr, hk, hn⟩ := h
      exact ⟨L', hr, hk, hK _ _ hr (keep a hy _) (by rw [← Act.put_comm a v undef h2]; exact hn)⟩
    case defer d =>
      obtain ⟨L', hr, hk, hn⟩ := h
      refine ⟨L', hr, hk, hK _ _ hr (keep _ (keepD d) _) ?_⟩
      rw [← Act.put_comm _ v undef h2, ← Act.put_defers]
      exact hn
    case enter f args =>
      refine Calls.mono h fun e w'' he => ?_
      cases e with
      | returned u =>
        obtain ⟨L', hr, hk, hn⟩ := he
        exact ⟨L', hr, hk, hK _ _ hr (keep a hy u) (by rw [← Act.put_comm a v u h2]; exact hn)⟩
      | panicked c => exact hQ _ _ _ _ _ he
      | outgrown => exact he
    case row row args =>
      refine Rows.mono h fun u w'' he => ?_
      obtain ⟨L', hr, hk, hn⟩ := he
      exact ⟨L', hr, hk, hK _ _ hr (keep a hy u) (by rw [← Act.put_comm a v u h2]; exact hn)⟩
  | halt x w' =>
    cases x <;> simp only [Oper.upon] at h ⊢
    case panic u => exact hQ _ _ _ _ _ h

theorem absAny_first {i : Nat} {oi : Oper} {v : Value} (hi : ops[i]? = some oi) (hsel : ∀ (j : Nat) (o : Oper) cs b, ops[j]? = some o → o.op ≠ .select cs b)
    (hQ : ∀ c d v a w, Q (.panic c) (Act.put a d v) w → Q (.panic c) a w) :
    ∀ (n : Nat) (listed : Array Bool) (a : Act) (L : List (Nat × Obj)), Closed md ops listed →
      (∀ j oj, ops[j]? = some oj → j ≠ i → listed.getD j true = false → (∀ e ∈ oj.after, Region.binds md e = true → e.on ≠ i) → oi.apart ops oj = true) →
      i ∈ Region.ready md ops listed → KY P ops B w0 L oi v a →
      absAny P md ops B w0 Q n (listed.setIfInBounds i true) (a.put oi.dst v) L → absAny P md ops B w0 Q (n + 1) listed a L := by
  intro n
  induction n with
  | zero =>
    intro listed a L _ _ hr hy H
    refine ⟨fun h => (by rw [h] at hr; cases hr), fun j hj => ?_⟩
    by_cases hji : j = i
    · subst hji; exact ⟨oi, hi, .inl ⟨v, hy, H⟩⟩
    · have := ready_mono hj hji
      rw [H.1] at this
      cases this
  | succ n ih =>
    intro listed a L hcl hfree hr hy H
    refine ⟨fun h => (by rw [h] at hr; cases hr), fun j hj => ?_⟩
    by_cases hji : j = i
    · subst hji; exact ⟨oi, hi, .inl ⟨v, hy, H⟩⟩
    · obtain ⟨oj, hoj, h1⟩ := H.2 j (ready_mono hj hji)
      obtain ⟨hjun, oj', hoj', hall⟩ := mem_ready.1 hj
      obtain rfl : oj' = oj := Option.some.inj (hoj'.symm.trans hoj)
      have hiun : listed.getD i true = false := (mem_ready.1 hr).1
      have hnot : ∀ e ∈ oj'.after, Region.binds md e = true → e.on ≠ i := fun e he hb heq => by
        have h2 := hall e he hb
        rw [heq] at h2
        rcases Nat.lt_or_ge i listed.size with h' | h'
        · simp [h'] at hiun h2; rw [hiun] at h2; cases h2
        · simp [Array.getElem?_eq_none h'] at h2
      have hap := hfree j oj' hoj hji hjun hnot
      obtain ⟨p1, p2, p3⟩ := Oper.apart_spec hap
      have hsj := fun cs b => hsel j oj' cs b hoj
      have hsi := fun cs b => hsel i oi cs b hi
      have hfree' : ∀ k ok, ops[k]? = some ok → k ≠ i → (listed.setIfInBounds j true).getD k true = false →
          (∀ e ∈ ok.after, Region.binds md e = true → e.on ≠ i) → oi.apart ops ok = true := fun k ok hk hki hun hno => by
        refine hfree k ok hk hki ?_ hno
        by_cases hjk : j = k
        · subst hjk; exact hjun
        · rw [getD_set_ne true hjk] at hun; exact hun
      have hr' : i ∈ Region.ready md ops (listed.setIfInBounds j true) := ready_mono hr (Ne.symm hji)
      refine ⟨oj', hoj, ?_⟩
      rcases h1 with ⟨u, hyj, hk⟩ | ⟨hwt, hl⟩
      · refine .inl ⟨u, ?_, ?_⟩
        · exact hyj.of_same (execOp_put oj' hsj a oi.dst v p1).symm (wanted_put oj' a oi.dst v p1).symm
        · refine ih _ _ _ (hcl.set hj) hfree' hr' (hy.of_same (execOp_put oi hsi a oj'.dst u p3) (wanted_put oi a oj'.dst u p3)) ?_
          rw [Array.setIfInBounds_comm _ _ hji, ← Act.put_comm a v u p2]
          exact hk
      · refine .inr ⟨by rw [wanted_put oj' a oi.dst v p1] at hwt; exact hwt, fun w hw => ?_⟩
        rcases hl w hw with h3 | ⟨h3, h4⟩
        · refine .inl ?_
          refine loud_put (R := fun L' => lone md ops j = true ∨ ∀ x ∈ L, x ∈ L') (K := absAny P md ops B w0 Q n ((listed.setIfInBounds i true).setIfInBounds j true)) hap hsj hsi hQ hy (fun a' L' hr2 hy2 hk2 => ?_) h3
          rcases hr2 with hr2 | hr2
          · exact (lone_no hcl hr hj (Ne.symm hji) hr2).elim
          · refine ih _ _ _ (hcl.set hj) hfree' hr' (hy2.sub hr2) ?_
            rw [Array.setIfInBounds_comm _ _ hji]
            exact hk2
        · exact .inr ⟨by unfold Oper.asks at *; rw [execOp_put oj' hsj a oi.dst v p1] at h3; exact h3, h4⟩

/-- the plan: (true, i): one value, taken at once; (false, i): alone -/
def wpAbs (P : Program) (md : Region.Mode) (ops : Array Oper) (B : Nat) (w0 : World) (Q : Exit → Act → World → Prop) : List (Bool × Nat) → Act → List (Nat × Obj) → Prop
  | [], a, L => ∀ w, Kn B w0 L w → Q .normal a w
  | (true, i) :: rest, a, L => ∃ o v, ops[i]? = some o ∧ KY P ops B w0 L o v a ∧ wpAbs P md ops B w0 Q rest (a.put o.dst v) L
  | (false, i) :: rest, a, L => ∃ o, ops[i]? = some o ∧ Region.wanted o (yielded ops a.tmps) = true ∧
      ∀ w, Kn B w0 L w → wpList P ops (MixQ Q fun a' w' => ∃ L', (lone md ops i = true ∨ ∀ x ∈ L, x ∈ L') ∧ Kn B w0 L' w' ∧ wpAbs P md ops B w0 Q rest a' L') [o] a w

theorem absAny_plan (hsel : Region.noSelect ops = true) (hQ : ∀ c d v a w, Q (.panic c) (Act.put a d v) w → Q (.panic c) a w) :
    ∀ (pl : List (Bool × Nat)) (listed : Array Bool) (a : Act) (L : List (Nat × Obj)), Closed md ops listed → planB md ops pl listed = true → wpAbs P md ops B w0 Q pl a L → absAny P md ops B w0 Q pl.length listed a L := by
  intro pl
  induction pl with
  | nil => intro listed a L _ hB h; exact ⟨by simpa [planB] using hB, h⟩
  | cons x rest ih =>
    obtain ⟨b, i⟩ := x
    intro listed a L hc hB h
    cases b with
    | true =>
      simp only [planB, Bool.and_eq_true] at hB
      obtain ⟨⟨hr, hf⟩, hB'⟩ := hB
      obtain ⟨o, v, ho, hy, h'⟩ := h
      have hr' : i ∈ Region.ready md ops listed := by simpa using hr
      exact absAny_first ho (Region.noSelect_spec hsel) hQ rest.length listed a L hc (Region.free_spec ho hf) hr' hy (ih _ _ _ (hc.set hr') hB' h')
    | false =>
      simp only [planB, Bool.and_eq_true, beq_iff_eq] at hB
      obtain ⟨hr, hB'⟩ := hB
      have hr' : i ∈ Region.ready md ops listed := by rw [hr]; simp
      obtain ⟨o, ho, hwt, h'⟩ := h
      refine ⟨by rw [hr]; simp, fun j hj => ?_⟩
      obtain rfl : j = i := by rw [hr] at hj; simpa using hj
      refine ⟨o, ho, .inr ⟨hwt, fun w hw => ?_⟩⟩
      have h2 := h' w hw
      unfold wpList at h2
      rw [if_pos hwt] at h2
      rcases h2 with h2 | ⟨ha, hl⟩
      · refine .inl (wp_mixQ (K' := fun a' w' => ∃ L', (lone md ops j = true ∨ ∀ x ∈ L, x ∈ L') ∧ Kn B w0 L' w' ∧ wpAbs P md ops B w0 Q rest a' L') ?_)
        exact Oper.wp_mono (fun a' w' ⟨L', hr2, hk, hn⟩ => ⟨L', hr2, hk, ih _ _ _ (hc.set hr') hB' hn⟩) h2
      · exact .inr ⟨ha, hl⟩

/-- **a region that draws its order**: it is shown not to panic; what is behind it is asked in every world of which the list is known -/
theorem wp_region_abs (B : Nat) (w0 : World) (L : List (Nat × Obj)) (pl : List (Bool × Nat)) {id : Nat} {a : Act} {w : World} {l : List Oper} (hm : P.follows .mixedOrders = true)
    (hB : (Region.noSelect l.toArray && (pl.length == l.toArray.size) && planB .any l.toArray pl (Array.replicate l.toArray.size false)) = true)
    (hS : Kn B w0 L w.drew) (h : wpAbs P .any l.toArray B w0 (NoPanic Q) pl a L) : (Code.region id l.toArray true).wp P Q a w := by
  simp only [Bool.and_eq_true, beq_iff_eq] at hB
  obtain ⟨⟨h1, h2⟩, h3⟩ := hB
  refine wp_region_noPanic (wp_region_any hm ?_)
  rw [← h2]
  exact wpAny_of_abs _ _ _ _ (absAny_plan h1 (fun _ _ _ _ _ h => h) pl _ a L (Closed.start _) (by rw [h2] at *; exact h3) h) _ hS

theorem ab_end {a : Act} {L : List (Nat × Obj)} (h : ∀ w, Kn B w0 L w → Q .normal a w) : wpAbs P md ops B w0 (NoPanic Q) [] a L := fun w hw => NoPanic.normal (h w hw)
theorem ab_pure {rest : List (Bool × Nat)} {i : Nat} {o : Oper} {v : Value} {a : Act} {L : List (Nat × Obj)} (ho : ops[i]? = some o) (hw : Region.wanted o (yielded ops a.tmps) = true)
    (hy : ∀ w, Kn B w0 L w → (execOp a.eval o).run P w = .ok (.value v) w) (h : wpAbs P md ops B w0 Q rest (a.put o.dst v) L) : wpAbs P md ops B w0 Q ((true, i) :: rest) a L :=
  ⟨o, v, ho, .inl ⟨hw, fun w hk => by unfold kAt; rw [hy w hk]; exact ⟨rfl, rfl⟩⟩, h⟩
theorem ab_skip {rest : List (Bool × Nat)} {i : Nat} {o : Oper} {a : Act} {L : List (Nat × Obj)} (ho : ops[i]? = some o) (hw : Region.wanted o (yielded ops a.tmps) = false)
    (h : wpAbs P md ops B w0 Q rest (a.put o.dst undef) L) : wpAbs P md ops B w0 Q ((true, i) :: rest) a L :=
  ⟨o, undef, ho, .inr ⟨hw, rfl⟩, h⟩
theorem ab_call {rest : List (Bool × Nat)} {i : Nat} {o : Oper} {v : Value} {a : Act} {L : List (Nat × Obj)} {f : FuncId} {args : Array Value} (ho : ops[i]? = some o) (hw : Region.wanted o (yielded ops a.tmps) = true)
    (hr : ∀ w, (execOp a.eval o).run P w = .ok (.enter f args) w) (hc : ∀ w, Kn B w0 L w → Calls P f args w fun e w' => e = .returned v ∧ Below w.heap.size w w')
    (h : wpAbs P md ops B w0 Q rest (a.put o.dst v) L) : wpAbs P md ops B w0 Q ((true, i) :: rest) a L :=
  ⟨o, v, ho, .inl ⟨hw, fun w hk => by unfold kAt; rw [hr w]; exact ⟨rfl, hc w hk⟩⟩, h⟩
theorem ab_loud {rest : List (Bool × Nat)} {i : Nat} {o : Oper} {a : Act} {L : List (Nat × Obj)} (ho : ops[i]? = some o) (hw : Region.wanted o (yielded ops a.tmps) = true)
    (h : ∀ w, Kn B w0 L w → wpList P ops (MixQ Q fun a' w' => ∃ L', (lone md ops i = true ∨ ∀ x ∈ L, x ∈ L') ∧ Kn B w0 L' w' ∧ wpAbs P md ops B w0 Q rest a' L') [o] a w) :
    wpAbs P md ops B w0 Q ((false, i) :: rest) a L := ⟨o, ho, hw, h⟩
/-- behind a loud one: the list has grown -/
theorem ab_on {rest : List (Bool × Nat)} {i : Nat} {a : Act} {w : World} {L : List (Nat × Obj)} (L' : List (Nat × Obj)) (hs : ∀ x ∈ L, x ∈ L') (hk : Kn B w0 L' w) (h : wpAbs P md ops B w0 Q rest a L') :
    MixQ Q (fun a' w' => ∃ L', (lone md ops i = true ∨ ∀ x ∈ L, x ∈ L') ∧ Kn B w0 L' w' ∧ wpAbs P md ops B w0 Q rest a' L') .normal a w := ⟨L', .inr hs, hk, h⟩
/-- behind one that all others are apart from: any list -/
theorem ab_lone {rest : List (Bool × Nat)} {i : Nat} {a : Act} {w : World} {L : List (Nat × Obj)} (L' : List (Nat × Obj)) (hs : lone md ops i = true) (hk : Kn B w0 L' w) (h : wpAbs P md ops B w0 Q rest a L') :
    MixQ Q (fun a' w' => ∃ L', (lone md ops i = true ∨ ∀ x ∈ L, x ∈ L') ∧ Kn B w0 L' w' ∧ wpAbs P md ops B w0 Q rest a' L') .normal a w := ⟨L', .inl hs, hk, h⟩
end
end Go.Proofs.YtidmjepfpjfkoaaDoor

namespace Go.Proofs.YtidmjepfpjfkoaaDoor
open Go Go.RowKit
set_option linter.unusedVariables false
section
variable {P : Program} {ops : Array Oper} {Q : Exit → Act → World → Prop} {S : World → Prop} {md : Region.Mode}

/-- stateless operations, one behind the other; then K -/
def wpFirst (P : Program) (ops : Array Oper) (S : World → Prop) (K : Act → World → Prop) : List Nat → Act → World → Prop
  | [], a, w => K a w
  | i :: rest, a, w => ∃ o v, ops[i]? = some o ∧ YieldsIf P ops S o v a ∧ wpFirst P ops S K rest (a.put o.dst v) w
def firstB (md : Region.Mode) (ops : Array Oper) : List Nat → Array Bool → Option (Array Bool)
  | [], listed => some listed
  | i :: rest, listed => if (Region.ready md ops listed).contains i && Region.free md ops listed i then firstB md ops rest (listed.setIfInBounds i true) else none
theorem wpAnyH_firsts (hsel : Region.noSelect ops = true) (hQ : ∀ c d v a w, Q (.panic c) (Act.put a d v) w → Q (.panic c) a w) (k : Nat) (l' : Array Bool) :
    ∀ (pl : List Nat) (listed : Array Bool) (a : Act) (w : World), firstB md ops pl listed = some l' → S w → wpFirst P ops S (fun a w => wpAnyH P md ops Q S k l' a w) pl a w → wpAnyH P md ops Q S (k + pl.length) listed a w := by
  intro pl
  induction pl with
  | nil =>
    intro listed a w hB hS h
    simp only [firstB, Option.some.injEq] at hB
    subst hB
    exact h
  | cons i rest ih =>
    intro listed a w hB hS h
    simp only [firstB] at hB
    split at hB
    · rename_i hc
      simp only [Bool.and_eq_true] at hc
      obtain ⟨o, v, ho, hy, h'⟩ := h
      exact wpAnyH_take ho hsel hc.2 hc.1 (fun c a w => hQ c _ _ a w) hy hS (ih _ _ _ hB hS h')
    · cases hB
theorem wp_region_firsts (S : World → Prop) (pl : List Nat) (k : Nat) (l' : Array Bool) {id : Nat} {a : Act} {w : World} {l : List Oper} (hm : P.follows .mixedOrders = true)
    (hsel : Region.noSelect l.toArray = true) (hn : k + pl.length = l.length) (hB : firstB .any l.toArray pl (Array.replicate l.toArray.size false) = some l')
    (hS : S w.drew) (h : wpFirst P l.toArray S (fun a w => wpAnyH P .any l.toArray (NoPanic Q) S k l' a w) pl a w.drew) : (Code.region id l.toArray true).wp P Q a w := by
  refine wp_region_noPanic (wp_region_held (S := S) hm ?_)
  rw [show l.toArray.size = k + pl.length by simp [hn]]
  refine wpAnyH_firsts hsel (fun _ _ _ _ _ h => h) k l' pl _ a w.drew ?_ hS h
  rw [← hB]; simp [hn]
theorem my_pure {K : Act → World → Prop} {rest : List Nat} {i : Nat} {o : Oper} {v : Value} {a : Act} {w : World} (ho : ops[i]? = some o) (hw : Region.wanted o (yielded ops a.tmps) = true)
    (hy : ∀ w, S w → (execOp a.eval o).run P w = .ok (.value v) w) (h : wpFirst P ops S K rest (a.put o.dst v) w) : wpFirst P ops S K (i :: rest) a w :=
  ⟨o, v, ho, .inl ⟨hw, hy⟩, h⟩
theorem my_end {K : Act → World → Prop} {a : Act} {w : World} (h : K a w) : wpFirst P ops S K [] a w := h

/-- each of those that may come up -/
theorem my_any {rs : List Nat} {fuel : Nat} {listed : Array Bool} {a : Act} {w : World} (hr : Region.ready md ops listed = rs) (hne : rs ≠ [])
    (h : AllReadyH P md ops Q S fuel listed a w rs) : wpAnyH P md ops Q S (fuel + 1) listed a w := wpAnyH_ready hr hne h
theorem my_call {fuel : Nat} {listed : Array Bool} {i : Nat} {rs : List Nat} {o : Oper} {a : Act} {w : World} {f : FuncId} {args : Array Value} (ho : ops[i]? = some o) (hw : Region.wanted o (yielded ops a.tmps) = true)
    (hr : ∀ w, (execOp a.eval o).run P w = .ok (.enter f args) w) (h : Calls P f args w fun e w' => ∃ v, e = .returned v ∧ S w' ∧ wpAnyH P md ops Q S fuel (listed.setIfInBounds i true) (a.put o.dst v) w')
    (hm : AllReadyH P md ops Q S fuel listed a w rs) : AllReadyH P md ops Q S fuel listed a w (i :: rs) := by
  intro j hj
  rcases List.mem_cons.1 hj with rfl | hj
  · unfold wpOp
    simp only [ho, hw, if_true]
    refine .inl ?_
    unfold Oper.wp
    rw [hr]
    refine h.mono fun e w' ⟨v, he, hS, hp⟩ => ?_
    subst he
    exact ⟨hS, hp⟩
  · exact hm j hj
theorem my_alloc {fuel : Nat} {listed : Array Bool} {i : Nat} {rs : List Nat} {o : Oper} {a : Act} {w : World} {T : TypeId} (Z : Array Value) {ti : TypeInfo} {z : Value} (ho : ops[i]? = some o) (hw : Region.wanted o (yielded ops a.tmps) = true)
    (hop : o.op = .alloc T) (hi : P.info? T = some ti) (hz : ti.zero = some z) (hZ : z.cells = Z)
    (h : S (w.alloc (.cells Z T)) ∧ wpAnyH P md ops Q S fuel (listed.setIfInBounds i true) (a.put o.dst (.pointer (some ⟨w.heap.size, 0, none⟩))) (w.alloc (.cells Z T)))
    (hm : AllReadyH P md ops Q S fuel listed a w rs) : AllReadyH P md ops Q S fuel listed a w (i :: rs) := by
  intro j hj
  rcases List.mem_cons.1 hj with rfl | hj
  · unfold wpOp
    simp only [ho, hw, if_true]
    refine .inl ?_
    unfold Oper.wp execOp
    rw [hop]
    have : (Instr.alloc T true (.tuple #[])).run P w = .ok (.pointer (some ⟨w.heap.size, 0, none⟩)) (w.alloc (.cells Z T)) := by
      subst hZ
      simp [Instr.alloc, zeroValue, typeInfo, hi, hz, newVar, newRow, Sem.run_bind]
    simp only [Sem.run_bind, this, Result.andThen_ok]
    exact h
  · exact hm j hj
theorem my_store_row {fuel : Nat} {listed : Array Bool} {i : Nat} {rs : List Nat} {o : Oper} {a : Act} {w : World} (ho : ops[i]? = some o) (hw : Region.wanted o (yielded ops a.tmps) = true)
    (hg : o.guard = none) (ty : TypeId) (x y : Operand) (hop : o.op = .store ty x y) (g : Nat) (cells : Array Value) (hx : a.eval x = .pointer (some ⟨g, 0, none⟩)) (hy : a.eval y = .agg cells)
    (t : TypeId) (old : Array Value) (hb : w.heap[g]? = some (.cells old t (0, 0))) (hi : (P.info? ty).map (·.size) = some cells.size) (hold : old.size = cells.size) (h1 : cells.all (·.oneCell') = true)
    (h : S (w.setRow g cells) ∧ wpAnyH P md ops Q S fuel (listed.setIfInBounds i true) (a.put o.dst undef) (w.setRow g cells))
    (hm : AllReadyH P md ops Q S fuel listed a w rs) : AllReadyH P md ops Q S fuel listed a w (i :: rs) := by
  intro j hj
  rcases List.mem_cons.1 hj with rfl | hj
  · have := wpList_store_row (P := P) (ops := ops) (rest := []) (Q := MixQ Q fun a' w' => S w' ∧ wpAnyH P md ops Q S fuel (listed.setIfInBounds j true) a' w') (a := a) (w := w) hg ty x y hop g cells hx hy t old hb hi hold h1 h
    unfold wpOp
    simp only [ho]
    unfold wpList at this
    rw [if_pos hw] at this ⊢
    rcases this with h' | ⟨ha, hl⟩
    · exact .inl (wp_mixQ h')
    · exact .inr ⟨ha, hl⟩
  · exact hm j hj
theorem my_nil {fuel : Nat} {listed : Array Bool} {a : Act} {w : World} : AllReadyH P md ops Q S fuel listed a w [] := fun _ h => by cases h
theorem my_done {listed : Array Bool} {a : Act} {w : World} (hr : Region.ready md ops listed = []) (h : Q .normal a w) (fuel : Nat) : wpAnyH P md ops (NoPanic Q) S fuel listed a w :=
  wpAnyH_done hr (NoPanic.normal h) fuel
end
end Go.Proofs.YtidmjepfpjfkoaaDoor

namespace Go.Proofs.YtidmjepfpjfkoaaDoor
open Go Go.RowKit
set_option linter.unusedVariables false
section
variable {P : Program} {ops : Array Oper} {rest : List Oper} {o : Oper} {a : Act} {w : World} {Q : Exit → Act → World → Prop}
/-- what an append leaves -/
structure App (base : Nat) (v v' : Value) (w w' : World) : Prop where
  below : Below base w w'
  keep : ∀ k, k < w.heap.size → some k ≠ v.ownBlock → w'.heap[k]? = w.heap[k]?
  lies : ∀ k, v'.ownBlock = some k → v.ownBlock = some k ∨ w.heap.size ≤ k
  some' : v' ≠ .slice none 0 0
theorem kl_append1a (hgd : o.guard = none) (s x : Operand) (t : TypeId) (ho : o.op = .call { callee := .builtin .append, args := #[s, x], argTypes := #[t, t] })
    (base : Nat) (e : TypeId) (i : TypeInfo) (z : Value) (size bytes : Nat) (ht : P.underlying t = some (.slice e)) (hi : P.info? e = some i) (hz : i.zero = some z)
    (hsize : i.size = size) (hby : i.bytes = bytes) (hzs : z.cells.size = size) (hsz : 0 < size)
    (v : Value) (n : Nat) (xs : List Value) (hs : a.eval s = v) (hown : w.ownsRow base e size v n xs)
    (c : Nat) (us : Array Value) (hx : a.eval x = .slice (some ⟨w.heap.size, 0, none⟩) 1 c) (hus : us.size = size) (h1 : ∀ u ∈ us.toList, u.oneCell' = true)
    (hn : n < 16777216) (hb16 : bytes ≤ 4096) (hbase : base ≤ w.heap.size)
    (h : ∀ v' w', w'.ownsRow base e size v' (n + 1) (xs ++ us.toList) → App base v v' w w' → wpList P ops Q rest (a.put o.dst v') w') :
    wpList P ops Q (o :: rest) a (w.alloc (.cells us e)) := by
  refine wpList_append_own_at _ hgd s x t ho base e i z size bytes ht hi hz hsize hby hzs hsz v n xs hs (hown.alloc _) ⟨w.heap.size, 0, none⟩ 1 c us.toList hx ?_ ?_ h1 ?_ ?_ ?_ ?_
  · simp [hus]
  · intro j u hj
    rw [Addr.add_mid, cell_of_row _ _ _ _ _ _ (heap_alloc_new _ _)]
    simpa using hj
  · unfold maxLen; omega
  · have : (n + 1) * bytes ≤ 16777216 * 4096 := Nat.mul_le_mul (by omega) hb16
    omega
  · rw [size_alloc]; omega
  · intro v' w' ho' hg hnil hat
    have hlt := hown.lt
    have hb : Below base (w.alloc (.cells us e)) w' := (Below.refl _ _).grown hg (by rw [size_alloc]; omega) (fun k hk => (hlt k hk).1)
    refine h v' w' ho' ⟨((Below.refl _ _).alloc hbase _).trans hb, fun k hk hne => ?_, fun k hk => ?_, ?_⟩
    · rw [hg.block k (by rw [size_alloc]; omega) hne]
      exact Below.heap_alloc _ _ _ hk
    · rcases hat with hat | hat
      · exact .inl (hat ▸ hk)
      · rw [hat] at hk
        injection hk with hk
        rw [size_alloc] at hk
        exact .inr (by omega)
    · intro e'
      have := (hnil.1 e').2
      omega
end
/-- a slice that is read, by its block -/
theorem RdS.block {b off n c N N' : Nat} {xs : List Value} {w w' : World} (h : RdS (.slice (some ⟨b, off, none⟩) n c) n xs N w) (hb : w'.heap[b]? = w.heap[b]?) (hN : b < N') : RdS (.slice (some ⟨b, off, none⟩) n c) n xs N' w' := by
  refine ⟨h.1, h.2.imp id ?_⟩
  rintro ⟨ad, c', h1, h2, h3⟩
  refine ⟨ad, c', h1, h2, h3.imp id ?_⟩
  rintro ⟨q, off', h4, h5, h6⟩
  refine ⟨q, off', h4, ?_, fun j x hx => ?_⟩
  · injection h1 with h8 _ _
    injection h8 with h8
    rw [h4] at h8
    injection h8 with h8 _ _
    subst h8
    exact hN
  have h7 := h6 j x hx
  injection h1 with h8 _ _
  injection h8 with h8
  rw [h4] at h8
  injection h8 with h8 _ _
  subst h8
  unfold World.cell? at h7 ⊢
  rw [hb]
  exact h7
/-- an append in a world: what is another block than the row's -/
theorem App.far {base : Nat} {v v' : Value} {w w' : World} (h : App base v v' w w') {g : Nat} (hg : g < w.heap.size) (hv : v.ownBlock ≠ some g) : v'.ownBlock ≠ some g ∧ w'.heap[g]? = w.heap[g]? :=
  ⟨fun e => by
    rcases h.lies g e with e | e
    · exact hv e
    · omega, h.keep g hg (fun e => hv e.symm)⟩
end Go.Proofs.YtidmjepfpjfkoaaDoor

namespace Go.Proofs.YtidmjepfpjfkoaaDoor
open Go Go.RowKit Go.Maps Go.WideElems
set_option linter.unusedVariables false

theorem plainElem_bool_inv {H : Type} {P : Program} {e : TypeId} (he : P.underlying e = some .bool) {v : Value} {z : DataW H × List MemPlace} (h : plainElem P e v = some z) : ∃ x, v = .bool x ∧ z = (.lit (.bool x), []) := by
  unfold plainElem at h
  rw [he] at h
  split at h <;> simp_all
/-- block b is a map with bools, of at most n entries, that answers S -/
def BMap (P : Program) (k e : TypeId) (w : World) (b n : Nat) (S : Value → Bool) : Prop :=
  ∃ D : DataW Unit, w.ownsMap P k (plainElem P e) b n D ∧ ∀ v kl, keyOf P k v = some kl → D.atKey kl (.lit (.bool false)) = .lit (.bool (S v))
section
variable {P : Program} {k e t : TypeId} {w : World} {b n : Nat} {S : Value → Bool}
theorem BMap.made (w : World) : BMap P k e (w.alloc (.map #[] 0)) w.heap.size 0 (fun _ => false) :=
  ⟨.map [], World.ownsMap_made _ _ _ _, fun v kl _ => rfl⟩
theorem BMap.kept {w' : World} (h : BMap P k e w b n S) (hb : w'.heap[b]? = w.heap[b]?) : BMap P k e w' b n S := by
  obtain ⟨D, ⟨es, clock, h1, F, h2, h3⟩, h4⟩ := h
  exact ⟨D, ⟨es, clock, hb.trans h1, F, h2, h3⟩, h4⟩
theorem BMap.lt (h : BMap P k e w b n S) : b < w.heap.size := by
  obtain ⟨D, h1, _⟩ := h
  exact h1.lt
theorem BMap.below {B : Nat} {w' : World} (h : BMap P k e w b n S) (hb : Below B w w') (hB : b < B) : BMap P k e w' b n S := h.kept (hb.block b hB)
theorem BMap.obj (h : BMap P k e w b n S) : ∃ o, w.heap[b]? = some o ∧ ∀ w', w'.heap[b]? = some o → BMap P k e w' b n S := by
  obtain ⟨D, ⟨es, clock, h1, F, h2, h3⟩, h4⟩ := h
  exact ⟨_, h1, fun w' hw => ⟨D, ⟨es, clock, hw, F, h2, h3⟩, h4⟩⟩
theorem BMap.look (h : BMap P k e w b n S) (K : Keyed P k) (ht : P.underlying t = some (.map k e)) (he : P.underlying e = some .bool) (hz : (zeroValue e).run P w = .ok (.bool false) w) {key : Value} {kl : Lit} (hkey : keyOf P k key = some kl) :
    (Instr.lookup t (.map (some b)) key false).run P w = .ok (.bool (S key)) w := by
  obtain ⟨D, h1, h2⟩ := h
  obtain ⟨v, ps, hrun, hv⟩ := h1.lookup K ht hz (plainElem_bool he false) hkey
  rw [h2 key kl hkey] at hv
  obtain ⟨x, rfl, hx⟩ := plainElem_bool_inv he hv
  have hx1 := congrArg Prod.fst hx
  simp only [DataW.lit.injEq, Lit.bool.injEq] at hx1
  rw [hx1]
  exact hrun
theorem BMap.set (h : BMap P k e w b n S) (K : Keyed P k) (ht : P.underlying t = some (.map k e)) (he : P.underlying e = some .bool) (hn : n < maxLen) {key : Value} {kl : Lit} (hkey : keyOf P k key = some kl) (x : Bool)
    (S' : Value → Bool) (h1 : S' key = x) (h2 : ∀ v, v ≠ key → S' v = S v) :
    ∃ w', (Instr.mapUpdate t (.map (some b)) key (.bool x)).run P w = .ok () w' ∧ BMap P k e w' b (n + 1) S' ∧ w.grownBy w' (some b) := by
  obtain ⟨D, h3, h4⟩ := h
  obtain ⟨w', hrun, h5, h6⟩ := h3.update K ht hn hkey (plainElem_bool he x)
  refine ⟨w', hrun, ⟨_, h5, fun v kl' hv => ?_⟩, h6⟩
  by_cases hvk : kl' = kl
  · subst hvk
    obtain rfl : v = key := K.inj hv hkey
    rw [atKey_put_same h3.isMap (K.key hkey), h1]
  · rw [atKey_put_other, h4 v kl' hv, h2 v (fun hh => by subst hh; rw [hv] at hkey; exact hvk (Option.some.inj hkey))]
    exact hvk
end
section
variable {P : Program} {ops : Array Oper} {rest : List Oper} {o : Oper} {a : Act} {w : World} {Q : Exit → Act → World → Prop} {k e t : TypeId} {b n : Nat} {S : Value → Bool}
/-- 'm[k] = x' -/
theorem kl_mapset (hgd : o.guard = none) (t k e : TypeId) (m x v : Operand) (hop : o.op = .mapUpdate t m x v) (K : Keyed P k) (ht : P.underlying t = some (.map k e)) (he : P.underlying e = some .bool) (b n : Nat) (S : Value → Bool)
    (hm : a.eval m = .map (some b)) (hown : BMap P k e w b n S) (hn : n < maxLen) (key : Value) (y : Bool) (kl : Lit) (hx : a.eval x = key) (hv : a.eval v = .bool y) (hkey : keyOf P k key = some kl)
    (S' : Value → Bool) (h1 : S' key = y) (h2 : ∀ v, v ≠ key → S' v = S v)
    (h : ∀ w', BMap P k e w' b (n + 1) S' → w.grownBy w' (some b) → wpList P ops Q rest (a.put o.dst undef) w') : wpList P ops Q (o :: rest) a w := by
  refine wpList_plain hgd fun K' hK' => ?_
  obtain ⟨w', hrun, r1, r2⟩ := hown.set K ht he hn hkey y S' h1 h2
  unfold Oper.wp
  simp [execOp, hop, hm, hx, hv, hrun, Result.andThen]
  exact hK' _ _ (h w' r1 r2)
/-- 'm[k]' -/
theorem mx_maplook (t k e : TypeId) (m x : Operand) (hop : o.op = .lookup t m x false) (K : Keyed P k) (ht : P.underlying t = some (.map k e)) (he : P.underlying e = some .bool) (hz : (zeroValue e).run P w = .ok (.bool false) w) (b n : Nat) (S : Value → Bool)
    (hm : a.eval m = .map (some b)) (hown : BMap P k e w b n S) (key : Value) (kl : Lit) (hx : a.eval x = key) (hkey : keyOf P k key = some kl) :
    (execOp a.eval o).run P w = .ok (.value (.bool (S key))) w := by
  unfold execOp
  simp only [hop, hm, hx, Sem.run_bind, hown.look K ht he hz hkey, Result.andThen_ok]
  rfl
theorem kl_maplook (hgd : o.guard = none) (t k e : TypeId) (m x : Operand) (hop : o.op = .lookup t m x false) (K : Keyed P k) (ht : P.underlying t = some (.map k e)) (he : P.underlying e = some .bool) (hz : (zeroValue e).run P w = .ok (.bool false) w) (b n : Nat) (S : Value → Bool)
    (hm : a.eval m = .map (some b)) (hown : BMap P k e w b n S) (key : Value) (kl : Lit) (hx : a.eval x = key) (hkey : keyOf P k key = some kl)
    (h : wpList P ops Q rest (a.put o.dst (.bool (S key))) w) : wpList P ops Q (o :: rest) a w := by
  refine wpList_plain hgd fun K' hK' => ?_
  unfold Oper.wp
  rw [mx_maplook t k e m x hop K ht he hz b n S hm hown key kl hx hkey]
  exact hK' _ _ h
end
end Go.Proofs.YtidmjepfpjfkoaaDoor
