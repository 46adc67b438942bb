/-
  append onto a slice of the call's own: a source that is nil; a source of texts; what is behind it.
-/
import Derived.Test.YtidmjepfpjfkoaaDoorMx
namespace Go.Proofs.YtidmjepfpjfkoaaDoor
open Go Go.RowKit
set_option linter.unusedVariables false
section
variable {P : Program} {ops : Array Oper} {rest : List Oper} {o : Oper} {a : Act} {w : World} {Q : Exit → Act → World → Prop}

/-- a nil source: nothing turns -/
theorem kl_append_nil (hgd : o.guard = none) (s x : Operand) (t : TypeId) (ho : o.op = .call { callee := .builtin .append, args := #[s, x], argTypes := #[t, t] })
    (base : Nat) (e : TypeId) (i : TypeInfo) (size : Nat) (ht : P.underlying t = some (.slice e)) (hi : P.info? e = some i)
    (v : Value) (n : Nat) (xs : List Value) (hs : a.eval s = v) (hown : w.ownsRow base e size v n xs) (hx : a.eval x = .slice none 0 0)
    (h : wpList P ops Q rest (a.put o.dst v) w) : wpList P ops Q (o :: rest) a w := by
  refine wpList_plain hgd fun K hK => ?_
  have hrun : (Builtin.append_ #[t, t] o.type #[v, .slice none 0 0]).run P w = .ok v w := by
    rcases hown.2 with ⟨rfl, rfl⟩ | ⟨g, cap, cur, rfl, _, _, hnc, _⟩
    · simp [Builtin.append_, run_underlying ht, sizeOf, typeInfo, hi, Builtin.lenOf, Builtin.firstCells]
    · simp [Builtin.append_, run_underlying ht, sizeOf, typeInfo, hi, Builtin.lenOf, Builtin.firstCells, hnc, storeCells]
  unfold Oper.wp execOp
  simp only [ho, resolve, invoke, builtin, Sem.run_bind, Sem.run_pure, Result.andThen_ok, List.map_toArray, List.map_cons, List.map_nil, hs, hx, hrun]
  exact hK _ _ h

/-- a slice, as it is read: nil, or an address that leads to these cells -/
def RdS (v : Value) (n : Nat) (xs : List Value) (B : Nat) (w : World) : Prop :=
  xs.length = n ∧ ((v = .slice none 0 0 ∧ n = 0) ∨ ∃ (ad : Addr) (c : Nat), v = .slice (some ad) n c ∧ n ≤ c ∧
    (n = 0 ∨ ∃ b off, ad = ⟨b, off, none⟩ ∧ b < B ∧ ∀ j u, xs[j]? = some u → w.cell? ⟨b, off + j, none⟩ = some u))

theorem RdS.below {v : Value} {n B : Nat} {xs : List Value} {w w' : World} (h : RdS v n xs B w) (hb : Below B w w') : RdS v n xs B w' := by
  refine ⟨h.1, h.2.imp id ?_⟩
  rintro ⟨ad, c, h1, h2, h3⟩
  refine ⟨ad, c, h1, h2, h3.imp id ?_⟩
  rintro ⟨b, off, h3, h4, h5⟩
  refine ⟨b, off, h3, h4, fun j u hu => ?_⟩
  rw [← h5 j u hu]
  have := hb.block b h4
  unfold World.cell?
  rw [this]
/-- an element of it -/
theorem RdS.at_ {A : Option Addr} {n c B : Nat} {xs : List Value} {w : World} (h : RdS (.slice A n c) n xs B w) {i : Nat} (hi : i < n) :
    ∃ b off, A = some ⟨b, off, none⟩ ∧ n ≤ c ∧ b < B ∧ ∀ j u, xs[j]? = some u → w.cell? ⟨b, off + j, none⟩ = some u := by
  rcases h.2 with ⟨_, h⟩ | ⟨ad, c', h, h2, h3⟩
  · omega
  · injection h with h5 h6 h7
    rcases h3 with h3 | ⟨b, off, h3, h4, h8⟩
    · omega
    · exact ⟨b, off, by rw [h5, h3], by omega, h4, h8⟩

/-- one-cell elements of a slice that is read, behind a slice of the call's own -/
theorem kl_append_rd (hgd : o.guard = none) (s x : Operand) (t : TypeId) (ho : o.op = .call { callee := .builtin .append, args := #[s, x], argTypes := #[t, t] })
    (base : Nat) (e : TypeId) (i : TypeInfo) (z : Value) (bytes : Nat) (ht : P.underlying t = some (.slice e)) (hi : P.info? e = some i) (hz : i.zero = some z)
    (hsize : i.size = 1) (hby : i.bytes = bytes) (hzs : z.cells.size = 1)
    (v : Value) (n : Nat) (xs : List Value) (hs : a.eval s = v) (hown : w.ownsRow base e 1 v n xs)
    (y : Value) (m : Nat) (ys : List Value) (B : Nat) (hx : a.eval x = y) (hr : RdS y m ys B w) (h1 : ∀ u ∈ ys, u.oneCell' = true)
    (hn : n + m < 16777216) (hb16 : bytes ≤ 4096) (hbase : base ≤ w.heap.size)
    (h : ∀ v' w', w'.ownsRow base e 1 v' (n + m) (xs ++ ys) → Below base w w' → w.heap.size ≤ w'.heap.size → (v' = .slice none 0 0 ↔ v = .slice none 0 0 ∧ m = 0) → wpList P ops Q rest (a.put o.dst v') w') :
    wpList P ops Q (o :: rest) a w := by
  obtain ⟨hl, hr⟩ := hr
  rcases hr with ⟨rfl, rfl⟩ | ⟨ad, c, rfl, hc, hcell⟩
  · obtain rfl : ys = [] := List.eq_nil_of_length_eq_zero hl
    exact kl_append_nil hgd s x t ho base e i 1 ht hi v n xs hs hown hx (h v w (by simpa using hown) (Below.refl _ _) (Nat.le_refl _) (by simp))
  · refine wpList_append_own _ hgd s x t ho base e i z 1 bytes ht hi hz hsize hby hzs (by decide) v n xs hs hown ad m c ys hx (by simpa using hl) (fun j u hj => by
      rcases hcell with h0 | ⟨b, off, rfl, hb, hcell⟩
      · have : ys = [] := List.eq_nil_of_length_eq_zero (by omega)
        subst this; simp at hj
      · rw [Addr.add_mid]; exact hcell j u hj) h1 (by unfold maxLen; omega) ?_ hbase ?_
    · have : (n + m) * bytes ≤ 16777216 * 4096 := Nat.mul_le_mul (by omega) hb16
      omega
    · intro v' w' ho' hg hnil
      have hlt := hown.lt
      have hbw : Below base w w' := (Below.refl _ _).grown hg hbase (fun k hk => (hlt k hk).1)
      exact h v' w' ho' hbw hbw.size hnil

/-- '[]T{}' -/
theorem owns_empty (w : World) (base : Nat) (e : TypeId) (hb : base ≤ w.heap.size) : (w.alloc (.cells #[] e)).ownsRow base e 1 (.slice (some ⟨w.heap.size, 0, none⟩) 0 0) 0 [] :=
  ⟨rfl, .inr ⟨w.heap.size, 0, #[], rfl, hb, heap_alloc_new _ _, Nat.le_refl _, by unfold maxLen; omega, rfl, rfl⟩⟩
/-- a slice of the call's own that is not nil, as it is read -/
theorem owns_some {w : World} {base : Nat} {e : TypeId} {v : Value} {n : Nat} {xs : List Value} (h : w.ownsRow base e 1 v n xs) (hn : v ≠ .slice none 0 0) :
    ∃ b c, v = .slice (some ⟨b, 0, none⟩) n c ∧ n ≤ c ∧ base ≤ b ∧ b < w.heap.size ∧ ∀ j u, xs[j]? = some u → w.cell? ⟨b, 0 + j, none⟩ = some u := by
  obtain ⟨hl, h⟩ := h
  rcases h with ⟨rfl, rfl⟩ | ⟨g, cap, cur, rfl, hg, hh, hc, _, _, hx⟩
  · exact absurd rfl hn
  · refine ⟨g, cap, rfl, hc, hg, lt_of_block hh, fun j u hj => ?_⟩
    rw [Nat.zero_add, cell_of_row _ _ _ _ _ _ hh]
    rw [← hx, List.getElem?_take] at hj
    split at hj
    · simpa using hj
    · cases hj
end
end Go.Proofs.YtidmjepfpjfkoaaDoor
