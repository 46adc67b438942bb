/-
  Small laws on rows of the call's own and rows that are read.
-/
import Derived.Test.YtidmjepfpjfkoaaDoorMc
import Derived.Test.YtidmjepfpjfkoaaDoorMa
namespace Go.Proofs.YtidmjepfpjfkoaaDoor
open Go Go.RowKit
set_option maxHeartbeats 4000000
set_option maxRecDepth 20000
set_option linter.unusedVariables false
set_option linter.unusedSimpArgs false

theorem own_below {w w' : World} {base : Nat} {e : TypeId} {v : Value} {n : Nat} {xs : List Value} (h : w.ownsRow base e 1 v n xs) (hb : Below w.heap.size w w') : w'.ownsRow base e 1 v n xs :=
  ⟨h.1, h.2.imp id fun ⟨g, cap, cur, e1, e2, e3, r⟩ => ⟨g, cap, cur, e1, e2, by rw [hb.block g (lt_of_block e3)]; exact e3, r⟩⟩
section
variable {P : Program} {ops : Array Oper} {Q : Exit → Act → World → Prop} {S : World → Prop} {md : Region.Mode}
theorem my_firsts (pl : List Nat) (k : Nat) (l' : Array Bool) {fuel : Nat} {listed : Array Bool} {a : Act} {w : World} (hsel : Region.noSelect ops = true) (hn : k + pl.length = fuel) (hB : firstB md ops pl listed = some l') (hS : S w)
    (h : wpFirst P ops S (fun a w => wpAnyH P md ops (NoPanic Q) S k l' a w) pl a w) : wpAnyH P md ops (NoPanic Q) S fuel listed a w := by
  subst hn
  exact wpAnyH_firsts hsel (fun _ _ _ _ _ h => h) k l' pl listed a w hB hS h
theorem my_loud {fuel : Nat} {listed : Array Bool} {i : Nat} {rs : List Nat} {o : Oper} {a : Act} {w : World} (ho : ops[i]? = some o)
    (h : wpList P ops (MixQ Q fun a' w' => S w' ∧ wpAnyH P md ops Q S fuel (listed.setIfInBounds i true) a' w') [o] a w)
    (hm : AllReadyH P md ops Q S fuel listed a w rs) : AllReadyH P md ops Q S fuel listed a w (i :: rs) := by
  intro j hj
  rcases List.mem_cons.1 hj with rfl | hj
  · unfold wpOp
    simp only [ho]
    unfold wpList at h
    split
    · rename_i hw
      rw [if_pos hw] at h
      rcases h with h' | ⟨ha, hl⟩
      · exact .inl (wp_mixQ h')
      · exact .inr ⟨ha, hl⟩
    · rename_i hw
      rw [if_neg hw] at h
      exact h
  · exact hm j hj
variable {rest : List Oper} {o : Oper} {a : Act} {w : World}
/-- one-cell elements of a slice that is read, behind a slice of the call's own: just its own block turns -/
theorem kl_append_rdg (hgd : o.guard = none) (s x : Operand) (t : TypeId) (ho : o.op = .call { callee := .builtin .append, args := #[s, x], argTypes := #[t, t] })
    (base : Nat) (e : TypeId) (i : TypeInfo) (z : Value) (bytes : Nat) (ht : P.underlying t = some (.slice e)) (hi : P.info? e = some i) (hz : i.zero = some z)
    (hsize : i.size = 1) (hby : i.bytes = bytes) (hzs : z.cells.size = 1)
    (v : Value) (n : Nat) (xs : List Value) (hs : a.eval s = v) (hown : w.ownsRow base e 1 v n xs)
    (y : Value) (m : Nat) (ys : List Value) (B : Nat) (hx : a.eval x = y) (hr : RdS y m ys B w) (h1 : ∀ u ∈ ys, u.oneCell' = true)
    (hn : n + m < 16777216) (hb16 : bytes ≤ 4096) (hbase : base ≤ w.heap.size)
    (h : ∀ v' w', w'.ownsRow base e 1 v' (n + m) (xs ++ ys) → w.grownBy w' v.ownBlock → Below base w w' → wpList P ops Q rest (a.put o.dst v') w') :
    wpList P ops Q (o :: rest) a w := by
  obtain ⟨hl, hr⟩ := hr
  rcases hr with ⟨rfl, rfl⟩ | ⟨ad, c, rfl, hc, hcell⟩
  · obtain rfl : ys = [] := List.eq_nil_of_length_eq_zero hl
    exact kl_append_nil hgd s x t ho base e i 1 ht hi v n xs hs hown hx (h v w (by simpa using hown) ⟨rfl, rfl, rfl, Nat.le_refl _, fun _ _ _ => rfl⟩ (Below.refl _ _))
  · refine wpList_append_own _ hgd s x t ho base e i z 1 bytes ht hi hz hsize hby hzs (by decide) v n xs hs hown ad m c ys hx (by simpa using hl) (fun j u hj => by
      rcases hcell with h0 | ⟨b, off, rfl, hb, hcell⟩
      · have : ys = [] := List.eq_nil_of_length_eq_zero (by omega)
        subst this; simp at hj
      · rw [Addr.add_mid]; exact hcell j u hj) h1 (by unfold maxLen; omega) ?_ hbase ?_
    · have : (n + m) * bytes ≤ 16777216 * 4096 := Nat.mul_le_mul (by omega) hb16
      omega
    · intro v' w' ho' hg hnil
      have hlt := hown.lt
      exact h v' w' ho' hg ((Below.refl _ _).grown hg hbase (fun k hk => (hlt k hk).1))
end
theorem owns_rdS {w : World} {base : Nat} {e : TypeId} {v : Value} {n : Nat} {xs : List Value} (h : w.ownsRow base e 1 v n xs) : RdS v n xs w.heap.size w := by
  have hl := h.1
  rcases h.2 with ⟨rfl, rfl⟩ | ⟨g, cap, cur, rfl, hg, hh, hc, _, _, hx⟩
  · exact ⟨by simpa using hl, .inl ⟨rfl, rfl⟩⟩
  · refine ⟨by simpa using hl, .inr ⟨_, _, rfl, hc, .inr ⟨g, 0, rfl, lt_of_block hh, fun j u hj => ?_⟩⟩⟩
    rw [Nat.zero_add, cell_of_row _ _ _ _ _ _ hh]
    rw [← hx, List.getElem?_take] at hj
    split at hj
    · simpa using hj
    · cases hj
theorem info_str : (Tryd.prog.info? 9).map (fun i => (i.zero, i.size, i.bytes)) = some (some (.string ⟨#[]⟩), 1, 16) := by kernel_rfl
theorem own_base {w : World} {base base' : Nat} {e : TypeId} {v : Value} {n : Nat} {xs : List Value} (h : w.ownsRow base e 1 v n xs) (hb : base' ≤ base) : w.ownsRow base' e 1 v n xs :=
  ⟨h.1, h.2.imp id fun ⟨g, cap, cur, e1, e2, r⟩ => ⟨g, cap, cur, e1, Nat.le_trans hb e2, r⟩⟩
theorem pv_one (ps : List (List UInt8)) : ∀ u ∈ pv ps, u.oneCell' = true := by
  intro u hu
  unfold pv at hu
  obtain ⟨x, _, rfl⟩ := List.mem_map.1 hu
  rfl
theorem rd_one {w : World} {q : Nat} {e : TypeId} {u : Value} (h : w.heap[q]? = some (.cells #[u] e (0, 0))) : RdS (.slice (some ⟨q, 0, none⟩) 1 1) 1 [u] w.heap.size w :=
  ⟨rfl, .inr ⟨_, _, rfl, Nat.le_refl _, .inr ⟨q, 0, rfl, lt_of_block h, fun j u hj => by rw [Nat.zero_add, cell_of_row _ _ _ _ _ _ h]; simpa using hj⟩⟩⟩
/-- of a row the first ones -/
theorem rd_take {b off m c B : Nat} {ps : List (List UInt8)} {w : World} (h : RdS (.slice (some ⟨b, off, none⟩) m c) m (pv ps) B w) {k : Nat} (hk : k ≤ m) : RdS (.slice (some ⟨b, off, none⟩) k c) k (pv (ps.take k)) B w := by
  obtain ⟨h1, h2⟩ := h
  have hpl : ps.length = m := by simpa [pv] using h1
  refine ⟨by simp [pv]; omega, ?_⟩
  rcases h2 with ⟨h, _⟩ | ⟨ad, c', e, hc, hx⟩
  · cases h
  · injection e with e1 e2 e3
    injection e1 with e1
    subst e1 e3
    refine .inr ⟨_, c, rfl, by omega, ?_⟩
    rcases hx with hx | ⟨b', off', e4, hb, hcell⟩
    · exact .inl (by omega)
    · refine .inr ⟨b', off', e4, hb, fun j u hj => hcell j u ?_⟩
      unfold pv at hj ⊢
      rw [List.map_take, List.getElem?_take] at hj
      split at hj
      · exact hj
      · cases hj
theorem rd_drop {b off m c B : Nat} {ps : List (List UInt8)} {w : World} (h : RdS (.slice (some ⟨b, off, none⟩) m c) m (pv ps) B w) {k : Nat} (hk : k ≤ m) {A : Option Addr} (hA : (if c = k then (some ⟨b, off, none⟩ : Option Addr) else some ⟨b, off + k, none⟩) = A) :
    RdS (.slice A (m - k) (c - k)) (m - k) (pv (ps.drop k)) B w := by
  obtain ⟨h1, h2⟩ := h
  have hpl : ps.length = m := by simpa [pv] using h1
  refine ⟨by simp [pv]; omega, ?_⟩
  rcases h2 with ⟨h, _⟩ | ⟨ad, c', e, hc, hx⟩
  · cases h
  · injection e with e1 e2 e3
    injection e1 with e1
    subst e1 e3
    by_cases hck : c = k
    · rw [if_pos hck] at hA
      subst hA
      exact .inr ⟨_, _, rfl, by omega, .inl (by omega)⟩
    · rw [if_neg hck] at hA
      subst hA
      refine .inr ⟨_, _, rfl, by omega, ?_⟩
      rcases hx with hx | ⟨b', off', e4, hb, hcell⟩
      · exact .inl (by omega)
      · injection e4 with e5 e6 e7
        subst e5 e6
        refine .inr ⟨_, _, rfl, hb, fun j u hj => ?_⟩
        rw [Nat.add_assoc]
        refine hcell (k + j) u ?_
        unfold pv at hj ⊢
        rw [List.map_drop, List.getElem?_drop] at hj
        exact hj
end Go.Proofs.YtidmjepfpjfkoaaDoor
