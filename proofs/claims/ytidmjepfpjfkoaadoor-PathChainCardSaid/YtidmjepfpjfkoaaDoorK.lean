/-
  Small laws of our own on memory: a block known whole, rows of many cells under a name. Program-independent.
-/
import Derived.WalkKit
import Derived.WalkSpells
import Derived.WalkLawsBesides
import Derived.Lib.Hide
import Derived.Laws.CopyOwn
import Derived.Deep.MidRow
import Derived.Deep.WholeRow
import Derived.Deep.OwnRows
namespace Go.Proofs.YtidmjepfpjfkoaaDoor
open Go Go.RowKit

section
variable {P : Program} {ops : Array Oper} {rest : List Oper} {o : Oper} {a : Act} {w : World} {Q : Exit → Act → World → Prop}

/-- a new variable whose zero value is known under a name -/
theorem kl_alloc (hgd : o.guard = none) (T : TypeId) (ho : o.op = .alloc T) (Z : Array Value) (i : TypeInfo) (hi : P.info? T = some i) (z : Value) (hz : i.zero = some z) (hZ : z.cells = Z)
    (h : wpList P ops Q rest (a.put o.dst (.pointer (some ⟨w.heap.size, 0, none⟩))) (w.alloc (.cells Z T))) : wpList P ops Q (o :: rest) a w := by
  refine wpList_plain hgd fun K hK => ?_
  unfold Oper.wp execOp
  rw [ho]
  have : (Instr.alloc T true (.tuple #[])).run P w = .ok (.pointer (some ⟨w.heap.size, 0, none⟩)) (w.alloc (.cells Z T)) := by
    subst hZ
    simp [Instr.alloc, zeroValue, typeInfo, hi, hz, newVar, newRow, Sem.run_bind]
  simp only [Sem.run_bind, this, Result.andThen_ok]
  exact hK _ _ h

/-- the block that a new variable is -/
theorem blk_new (w : World) (o : Obj) : (w.alloc o).heap[w.heap.size]? = some o := heap_alloc_new w o
theorem blk_old (w : World) (o : Obj) {b : Nat} {x : Obj} (h : w.heap[b]? = some x) : (w.alloc o).heap[b]? = some x := by
  rw [Go.heap_alloc_old w o (lt_of_block h)]; exact h
theorem size_alloc (w : World) (o : Obj) : (w.alloc o).heap.size = w.heap.size + 1 := by
  show (w.heap.push o).size = _; simp
theorem size_setCell (w : World) (a : Addr) (v : Value) : (w.setCell a v).heap.size = w.heap.size := by simp [World.setCell]
/-- a whole row stored into the block that was made last -/
theorem kl_store_new (hgd : o.guard = none) (ty : TypeId) (x y : Operand) (ho : o.op = .store ty x y) (cells : Array Value) (hx : a.eval x = .pointer (some ⟨w.heap.size, 0, none⟩)) (hy : a.eval y = .agg cells)
    (t : TypeId) (old : Array Value) (hi : (P.info? ty).map (·.size) = some cells.size) (hold : old.size = cells.size) (h1 : cells.all (·.oneCell') = true)
    (h : wpList P ops Q rest (a.put o.dst undef) (w.alloc (.cells cells t))) : wpList P ops Q (o :: rest) a (w.alloc (.cells old t)) := by
  refine wpList_store_row hgd ty x y ho w.heap.size cells hx hy t old (heap_alloc_new _ _) hi hold h1 ?_
  rw [World.setRow_alloc_new]
  exact h
end
section
variable {P : Program} {ops : Array Oper} {rest : List Oper} {o : Oper} {a : Act} {w : World} {Q : Exit → Act → World → Prop}
/-- one element (of k cells) appended to a slice of the call's own -/
theorem kl_append1 (hgd : o.guard = none) (s x : Operand) (t : TypeId) (ho : o.op = .call { callee := .builtin .append, args := #[s, x], argTypes := #[t, t] })
    (base : Nat) (e : TypeId) (i : TypeInfo) (z : Value) (size bytes : Nat) (ht : P.underlying t = some (.slice e)) (hi : P.info? e = some i) (hz : i.zero = some z)
    (hsize : i.size = size) (hby : i.bytes = bytes) (hzs : z.cells.size = size) (hsz : 0 < size)
    (v : Value) (n : Nat) (xs : List Value) (hs : a.eval s = v) (hown : w.ownsRow base e size v n xs)
    (c : Nat) (us : Array Value) (hx : a.eval x = .slice (some ⟨w.heap.size, 0, none⟩) 1 c) (hus : us.size = size) (h1 : ∀ u ∈ us.toList, u.oneCell' = true)
    (hn : n < 16777216) (hb16 : bytes ≤ 4096) (hbase : base ≤ w.heap.size)
    (h : ∀ v' w', w'.ownsRow base e size v' (n + 1) (xs ++ us.toList) → Below base w w' → w.heap.size ≤ w'.heap.size → v' ≠ .slice none 0 0 → wpList P ops Q rest (a.put o.dst v') w') :
    wpList P ops Q (o :: rest) a (w.alloc (.cells us e)) := by
  refine wpList_append_own _ hgd s x t ho base e i z size bytes ht hi hz hsize hby hzs hsz v n xs hs (hown.alloc _) ⟨w.heap.size, 0, none⟩ 1 c us.toList hx ?_ ?_ h1 ?_ ?_ ?_ ?_
  · simp [hus]
  · intro j u hj
    rw [Addr.add_mid, cell_of_row _ _ _ _ _ _ (heap_alloc_new _ _)]
    simpa using hj
  · unfold maxLen; omega
  · have : (n + 1) * bytes ≤ 16777216 * 4096 := Nat.mul_le_mul (by omega) hb16
    omega
  · rw [size_alloc]; omega
  · intro v' w' ho' hg hnil
    have hlt := hown.lt
    have hb : Below base (w.alloc (.cells us e)) w' := (Below.refl _ _).grown hg (by rw [size_alloc]; omega) (fun k hk => (hlt k hk).1)
    refine h v' w' ho' (((Below.refl _ _).alloc hbase _).trans hb) ?_ ?_
    · have := hb.size; rw [size_alloc] at this; omega
    · intro e'
      have := (hnil.1 e').2
      omega
end

/-- a slice of the call's own, as one that is read -/
theorem owns_read {w : World} {base : Nat} {e : TypeId} {size : Nat} {v : Value} {n : Nat} {xs : List Value} (h : w.ownsRow base e size v n xs) :
    ∃ p c, v = .slice p n c ∧ n ≤ c ∧ (n = 0 ∨ ∃ b, p = some ⟨b, 0, none⟩ ∧ base ≤ b ∧ b < w.heap.size ∧ ∀ j u, xs[j]? = some u → w.cell? ⟨b, j, none⟩ = some u) := by
  obtain ⟨hl, h⟩ := h
  rcases h with ⟨rfl, rfl⟩ | ⟨g, cap, cur, rfl, hg, hh, hc, _, _, hx⟩
  · exact ⟨none, 0, rfl, Nat.le_refl _, Or.inl rfl⟩
  · refine ⟨_, cap, rfl, hc, Or.inr ⟨g, rfl, hg, lt_of_block hh, fun j u hj => ?_⟩⟩
    rw [cell_of_row _ _ _ _ _ _ hh]
    rw [← hx, List.getElem?_take] at hj
    split at hj
    · simpa using hj
    · cases hj

section
variable {P : Program} {ops : Array Oper} {rest : List Oper} {o : Oper} {a : Act} {w : World} {Q : Exit → Act → World → Prop}
/-- '[]byte(s)': a new row that holds the bytes -/
theorem kl_bytes (hgd : o.guard = none) (src dst e : TypeId) (x : Operand) (ho : o.op = .convert src dst x) (hs : P.underlying src = some .string) (hd : P.underlying dst = some (.slice e)) (he : P.underlying e = some (.int .u8))
    (s : ByteArray) (hx : a.eval x = .string s)
    (h : ∀ c w', s.size ≤ c → Below w.heap.size w w' → w.heap.size < w'.heap.size → (∀ j u, s.data.toList[j]? = some u → w'.cell? ⟨w.heap.size, j, none⟩ = some (.int .u8 (u.toNat : Int))) →
      wpList P ops Q rest (a.put o.dst (.slice (some ⟨w.heap.size, 0, none⟩) s.size c)) w') : wpList P ops Q (o :: rest) a w := by
  refine wpList_plain hgd fun K hK => ?_
  unfold Oper.wp execOp
  rw [ho]
  dsimp only
  rw [hx, Sem.run_bind, run_bytes_of_string w src dst e s hs hd he]
  simp only [Result.andThen_ok]
  refine hK _ _ (h (grownCap w s.size 0 e) _ (grownCap_ge _ _ _ _) (((Below.refl _ _).drew).alloc (Nat.le_refl _) _) (by rw [size_alloc]; exact Nat.lt_succ_self _) ?_)
  intro j u hj
  have hblk := heap_alloc_new w.drew (Obj.cells (bytesRow s (grownCap w s.size 0 e)) e ((bytesRow s (grownCap w s.size 0 e)).size, (bytesRow s (grownCap w s.size 0 e)).size + 1))
  rw [show w.heap.size = w.drew.heap.size from rfl, cell_of_row _ _ _ _ _ _ hblk]
  obtain ⟨hj1, hj2⟩ := List.getElem?_eq_some_iff.1 hj
  subst hj2
  have hj3 : j < s.data.size := by simpa using hj1
  have hj4 : j < s.size := hj3
  simp [bytesRow, hj4, Array.getElem?_append]

/-- 'string(b)' where b's cells are known -/
theorem kl_string (hgd : o.guard = none) (src dst e : TypeId) (x : Operand) (ho : o.op = .convert src dst x) (hs : P.underlying src = some (.slice e)) (he : P.underlying e = some (.int .u8)) (hd : P.underlying dst = some .string)
    (b off n c : Nat) (hx : a.eval x = .slice (some ⟨b, off, none⟩) n c) (l : List UInt8) (hl : l.length = n) (hc : ∀ j u, l[j]? = some u → w.cell? ⟨b, off + j, none⟩ = some (.int .u8 (u.toNat : Int)))
    (h : wpList P ops Q rest (a.put o.dst (.string ⟨l.toArray⟩)) w) : wpList P ops Q (o :: rest) a w := by
  refine wpList_plain hgd fun K hK => ?_
  unfold Oper.wp execOp
  rw [ho]
  dsimp only
  rw [hx, Sem.run_bind]
  subst hl
  rw [run_convert_bytes_back w src dst e ⟨b, off, none⟩ c l hs he hd (fun j hj => by rw [Addr.add_mid]; exact hc j _ (List.getElem?_eq_getElem hj))]
  exact hK _ _ h
end

theorem madeCells_rep (z : Value) (n : Nat) : madeCells #[z] n = Array.replicate n z := by
  apply Array.ext'
  rw [toList_madeCells_one]; simp

/-- what was there is as it was, but for the blocks listed; there may be new ones -/
structure Ch (w w' : World) (S : List Nat) : Prop where
  os : w'.os = w.os
  tape : w'.tape = w.tape
  output : w'.output = w.output
  size : w.heap.size ≤ w'.heap.size
  block : ∀ k, k < w.heap.size → k ∉ S → w'.heap[k]? = w.heap[k]?

theorem Ch.refl (w : World) (S : List Nat) : Ch w w S := ⟨rfl, rfl, rfl, Nat.le_refl _, fun _ _ _ => rfl⟩
theorem Ch.trans {a b c : World} {S : List Nat} (h : Ch a b S) (k : Ch b c S) : Ch a c S :=
  ⟨k.os.trans h.os, k.tape.trans h.tape, k.output.trans h.output, Nat.le_trans h.size k.size,
    fun i hi hn => (k.block i (Nat.lt_of_lt_of_le hi h.size) hn).trans (h.block i hi hn)⟩
theorem Ch.mono {a b : World} {S T : List Nat} (h : Ch a b S) (hs : ∀ k ∈ S, k ∈ T) : Ch a b T :=
  ⟨h.os, h.tape, h.output, h.size, fun i hi hn => h.block i hi (fun hm => hn (hs i hm))⟩
theorem Ch.setCell {a w : World} {S : List Nat} (h : Ch a w S) {p : Addr} (hp : p.block ∈ S) (v : Value) : Ch a (w.setCell p v) S :=
  h.trans ⟨rfl, rfl, rfl, by rw [size_setCell]; exact Nat.le_refl _, fun k _ hn => Below.heap_setCell _ _ _ _ (fun e => hn (e ▸ hp))⟩
theorem Ch.alloc {a w : World} {S : List Nat} (h : Ch a w S) (o : Obj) : Ch a (w.alloc o) S :=
  h.trans ⟨rfl, rfl, rfl, by rw [size_alloc]; omega, fun k hk _ => Below.heap_alloc _ _ _ hk⟩
theorem Ch.drew {a w : World} {S : List Nat} (h : Ch a w S) : Ch a w.drew S := ⟨h.os, h.tape, h.output, h.size, h.block⟩
theorem Ch.ofBelow {a w : World} (h : Below a.heap.size a w) (S : List Nat) : Ch a w S := ⟨h.os, h.tape, h.output, h.size, fun k hk _ => h.block k hk⟩
theorem Ch.below {B : Nat} {a w w' : World} {S : List Nat} (h : Below B a w) (c : Ch w w' S) (hB : B ≤ w.heap.size) (hS : ∀ k ∈ S, B ≤ k) : Below B a w' :=
  h.trans ⟨c.os, c.tape, c.output, c.size, fun k hk => c.block k (by omega) (fun hm => by have := hS k hm; omega)⟩
theorem Ch.keep {w w' : World} {S : List Nat} (c : Ch w w' S) {b : Nat} {o : Obj} (h : w.heap[b]? = some o) (hn : b ∉ S) : w'.heap[b]? = some o :=
  (c.block b (lt_of_block h) hn).trans h
theorem Below.keep {B : Nat} {w w' : World} (c : Below B w w') {b : Nat} {o : Obj} (h : w.heap[b]? = some o) (hn : b < B) : w'.heap[b]? = some o :=
  (c.block b hn).trans h
end Go.Proofs.YtidmjepfpjfkoaaDoor
