/-
  Arguments that are rows of digests, opened; behind a slice of the call's own; two rows of texts that are the same.
-/
import Derived.Test.YtgdjfijkbemkeaaEtA
import Derived.Test.YtgdjfijkbemkeaaFo
import Derived.Deep.SlicePairs
import Derived.OpenShut
namespace Go.Proofs.Ytgdjfijkbemkeaa
open Go.ChangeShapes Go.WideShapes Go.ChangeAt Go.RowKit
set_option maxHeartbeats 2000000
set_option maxRecDepth 20000
set_option linter.unusedVariables false

attribute [local irreducible] dArr
theorem byte_of {x : Int} (h : (Lit.int .u8 x).wf = true) : ∃ u : UInt8, x = (u.toNat : Int) := by
  have e0 : IntKind.u8.min = 0 := by decide
  have e1 : IntKind.u8.max = 255 := by decide
  unfold Lit.wf at h
  simp only [e0, e1, Bool.and_eq_true, decide_eq_true_eq] at h
  refine ⟨UInt8.ofNat x.toNat, ?_⟩
  rw [UInt8.toNat_ofNat']
  omega
/-- 32 cells that read as bytes are a digest -/
theorem digest_cells {H : Type} {enc : TypeId × Value → H} {P : Program} {w : World} {base : Nat} {sp : Nat → Bool} {held : Bool} {e u : TypeId} (he : P.underlying e = some (.array 32 u)) (hu : P.underlying u = some (.int .u8)) (hce : P.cellsOf e = 32) (hcu : P.cellsOf u = 1)
    {n : Nat} {cs : List Value} {x : DataW H × List MemPlace} (h : DataW.trod enc P w base sp held n e cs = some x) : ∃ d : List UInt8, d.length = 32 ∧ cs = (dArr d).toList := by
  obtain ⟨xs, m, _, _, hl, hxl, hx⟩ := DataW.trod_array he h
  rw [hce] at hl
  have hone : ∀ i, i < 32 → ∃ y : UInt8, cs[i]? = some (.int .u8 (y.toNat : Int)) := fun i hi => by
    have h1 := hx i hi
    rw [hcu, Nat.mul_one, List.getElem?_eq_getElem (by omega)] at h1
    obtain ⟨z, hz, _, hwf⟩ := DataW.trod_int hu h1
    obtain ⟨y, rfl⟩ := byte_of hwf
    refine ⟨y, ?_⟩
    have h2 : ((cs.drop i).take 1)[0]? = cs[i]? := by rw [List.getElem?_take_of_lt (by omega), List.getElem?_drop]; rfl
    rw [← h2, hz]; rfl
  obtain ⟨f, hf⟩ := Deep.choose_lt (α := UInt8) (p := fun i y => cs[i]? = some (.int .u8 (y.toNat : Int))) hone
  refine ⟨(List.range 32).map f, by simp, ?_⟩
  apply List.ext_getElem?
  intro j
  rcases Nat.lt_or_ge j 32 with hj | hj
  · rw [hf j hj, Array.getElem?_toList, dArr_get _ _ hj]
    simp [hj]
  · rw [List.getElem?_eq_none (by omega), List.getElem?_eq_none (by rw [Array.length_toList, dArr_size]; exact hj)]

theorem open_rdD {H : Type} {enc : TypeId × Value → H} {P : Program} {w : World} {t e u : TypeId} (ht : P.underlying t = some (.slice e)) (he : P.underlying e = some (.array 32 u)) (hu : P.underlying u = some (.int .u8)) (hce : P.cellsOf e = 32) (hcu : P.cellsOf u = 1)
    {v : Value} {d : DataW H} {p : List MemPlace} (hv : ∃ A n c, v = .slice A n c) (h : DataW.Trod enc P w 0 (fun _ => true) true t v d p) (hlt : ∀ x ∈ p, x.block < w.heap.size) :
    ∃ ds : List (List UInt8), (∀ d ∈ ds, d.length = 32) ∧ RdD v ds w.heap.size w := by
  obtain ⟨A, n, c, rfl⟩ := hv
  obtain ⟨fuel, hf⟩ := h
  rcases Deep.open_slice ht hf with ⟨hcs, _⟩ | ⟨a, len, cap, m, k, D, Pl, hcs, _, hl, hm, hz, hx, hcell⟩
  · simp [Value.cells] at hcs
    obtain ⟨rfl, rfl, rfl⟩ := hcs
    exact ⟨[], by simp, .inl ⟨rfl, rfl⟩⟩
  · simp [Value.cells] at hcs
    obtain ⟨rfl, rfl, rfl⟩ := hcs
    simp only [if_true] at hz
    subst hz
    rw [hce] at hcell
    have each : ∀ i, i < m → ∃ y : List UInt8, y.length = 32 ∧ ∀ j u, (dArr y).toList[j]? = some u → w.cell? (a.add (i * 32 + j)) = some u := fun i hi => by
      obtain ⟨cs', h1, h2⟩ := hcell i hi
      obtain ⟨y, hy, rfl⟩ := digest_cells he hu hce hcu h2
      obtain ⟨_, _, hc⟩ := World.cells?_some h1
      refine ⟨y, hy, fun j u hj => ?_⟩
      have hj32 : j < 32 := by have := (List.getElem?_eq_some_iff.1 hj).1; rwa [Array.length_toList, dArr_size] at this
      rw [← Deep.add_add, hc j hj32, hj]
    obtain ⟨f, hf'⟩ := Deep.choose_lt (α := List UInt8) each
    refine ⟨(List.range n).map f, ?_, ?_⟩
    · intro d hd
      obtain ⟨i, hi, rfl⟩ := List.mem_map.1 hd
      exact (hf' i (by have := List.mem_range.1 hi; omega)).1
    · have hln : ((List.range n).map f).length = n := by simp
      refine .inr ⟨a, m, by rw [hln], by rw [hln]; exact hl, ?_⟩
      by_cases h0 : n = 0
      · subst h0; exact .inl rfl
      · refine .inr ?_
        obtain ⟨b, off, spot⟩ := a
        have hc0 := (hf' 0 (by omega)).2 0 _ (by rw [Array.getElem?_toList, dArr_get _ _ (by omega)])
        have hspot : spot = none := by simpa [Addr.add] using World.cell?_spot hc0
        subst hspot
        simp only [Prod.mk.injEq] at hx
        have hbW : b < w.heap.size := hlt (.cell b off) (by rw [hx.2, List.mem_append]; exact .inl (MemPlace.mem_row.2 ⟨0, by rw [hce]; omega, by simp⟩))
        refine ⟨b, off, rfl, hbW, fun i hi j u hj => ?_⟩
        rw [hln] at hi
        rw [List.getElem_map, List.getElem_range] at hj
        have := (hf' i (by omega)).2 j u hj
        rw [Addr.add_mid] at this
        rw [Nat.add_assoc]
        exact this

/-- a guarded operation that is wanted -/
theorem kl_guard {P : Program} {ops : Array Oper} {rest : List Oper} {o : Oper} {a : Act} {w : World} {Q : Exit → Act → World → Prop} (hw : Region.wanted o (yielded ops a.tmps) = true)
    (h : wpList P ops Q ({ o with guard := none } :: rest) a w) : wpList P ops Q (o :: rest) a w := by
  unfold wpList at h ⊢
  rw [if_pos hw]
  rw [if_pos (by rfl)] at h
  exact h

theorem dcs_cell {w : World} {b off : Nat} {ds : List (List UInt8)} (h : ∀ i (h : i < ds.length), w.rangeAt b (off + i * 32) (dArr ds[i]).toList) : ∀ j u, (dcs ds)[j]? = some u → w.cell? ⟨b, off + j, none⟩ = some u := by
  intro j u hj
  have hl : (dcs ds).length = ds.length * 32 := by
    have : ∀ ds : List (List UInt8), (dcs ds).length = ds.length * 32 := by
      intro ds
      induction ds with
      | nil => rfl
      | cons d ds ih => show ((dArr d).toList ++ dcs ds).length = _; rw [List.length_append, ih, Array.length_toList, dArr_size]; simp; omega
    exact this ds
  have hj1 : j < ds.length * 32 := by rw [← hl]; exact (List.getElem?_eq_some_iff.1 hj).1
  have hi : j / 32 < ds.length := by omega
  have e : j = j / 32 * 32 + j % 32 := by omega
  rw [e, dcs_get ds (j / 32) hi (j % 32) (Nat.mod_lt _ (by omega))] at hj
  rw [e, ← Nat.add_assoc]
  exact h (j / 32) hi (j % 32) u hj
theorem dcs_length : ∀ ds : List (List UInt8), (dcs ds).length = ds.length * 32
  | [] => rfl
  | d :: ds => by show ((dArr d).toList ++ dcs ds).length = _; rw [List.length_append, dcs_length ds, Array.length_toList, dArr_size]; simp; omega
theorem dcs_ones (ds : List (List UInt8)) : ∀ u ∈ dcs ds, u.oneCell' = true := fun u hu => by
  obtain ⟨d, _, hd⟩ := List.mem_flatMap.1 hu
  exact dArr_ones d u hd

/-- digests that are read, behind a slice of the call's own -/
theorem kl_append_rdD {P : Program} {ops : Array Oper} {rest : List Oper} {o : Oper} {a : Act} {w : World} {Q : Exit → Act → World → Prop} (hgd : o.guard = none) (s x : Operand) (t : TypeId) (ho : o.op = .call { callee := .builtin .append, args := #[s, x], argTypes := #[t, t] })
    (base : Nat) (e : TypeId) (i : TypeInfo) (z : Value) (ht : P.underlying t = some (.slice e)) (hi : P.info? e = some i) (hz : i.zero = some z)
    (hsize : i.size = 32) (hby : i.bytes = 32) (hzs : z.cells.size = 32)
    (v : Value) (n : Nat) (xs : List Value) (hs : a.eval s = v) (hown : w.ownsRow base e 32 v n xs)
    (y : Value) (ds : List (List UInt8)) (B : Nat) (hx : a.eval x = y) (hr : RdD y ds B w)
    (hn : n + ds.length < 16777216) (hbase : base ≤ w.heap.size)
    (h : ∀ v' w', w'.ownsRow base e 32 v' (n + ds.length) (xs ++ dcs ds) → Below base w w' → w.heap.size ≤ w'.heap.size → wpList P ops Q rest (a.put o.dst v') w') :
    wpList P ops Q (o :: rest) a w := by
  rcases hr with ⟨rfl, rfl⟩ | ⟨ad, c, rfl, hc, hcell⟩
  · refine kl_append_nil hgd s x t ho base e i 32 ht hi v n xs hs hown hx (h v w ?_ (Below.refl _ _) (Nat.le_refl _))
    have : dcs [] = [] := rfl
    rw [this, List.append_nil]; exact hown
  · refine wpList_append_own _ hgd s x t ho base e i z 32 32 ht hi hz hsize hby hzs (by decide) v n xs hs hown ad ds.length c (dcs ds) hx (dcs_length ds) (fun j u hj => by
      rcases hcell with rfl | ⟨b, off, rfl, hb, hcell⟩
      · cases hj
      · rw [Addr.add_mid]; exact dcs_cell hcell j u hj) (dcs_ones ds) (by unfold maxLen; omega) ?_ hbase ?_
    · omega
    · intro v' w' ho' hg hnil
      have hlt := hown.lt
      have hbw : Below base w w' := (Below.refl _ w).grown hg hbase (fun k hk => (hlt k hk).1)
      exact h v' w' ho' hbw hbw.size
theorem owns_empty32 (w : World) (base : Nat) (e : TypeId) (hb : base ≤ w.heap.size) : (w.alloc (.cells #[] e)).ownsRow base e 32 (.slice (some ⟨w.heap.size, 0, none⟩) 0 0) 0 [] :=
  ⟨rfl, .inr ⟨w.heap.size, 0, #[], rfl, hb, heap_alloc_new _ _, Nat.le_refl _, by unfold maxLen; omega, rfl, rfl⟩⟩

theorem same5 (A A' : Option Addr) (n c c' : Nat) (hn : n ≤ 1000000) (ps : List (List UInt8)) (w : World) (h1 : RdS (.slice A n c) n (pv ps) w.heap.size w) (h2 : RdS (.slice A' n c') n (pv ps) w.heap.size w) :
    Calls Try.prog 39 #[.slice A n c, .slice A' n c'] w fun e w' => e = .returned (.bool true) ∧ Below w.heap.size w w' := by
  have Hh1 := Lib.hid h1
  have Hh2 := Lib.hid h2
  clear h1 h2
  go_enter Try.func39, Try.ntmps39
  go_wp2_with fail
  go_loopw [5] (fun iv wr => ∃ i : Nat, i ≤ n ∧ iv = .int .i64 (i : Int) ∧ Hid (Kn w.heap.size w [] wr)) (fun iv _ => n - (intOf iv).toNat)
  case atStart => exact ⟨0, by omega, rfl, Kn.start w⟩
  case round =>
    obtain ⟨i, hi, rfl, K⟩ := hrel
    by_cases hin : i < n
    · obtain ⟨b, off, hA, hc, hb, hcell⟩ := Hh1.out.at_ hin
      obtain ⟨b', off', hA', hc', hb', hcell'⟩ := Hh2.out.at_ hin
      subst hA
      subst hA'
      have hil : i < (pv ps).length := by rw [Hh1.out.1]; exact hin
      obtain ⟨x, hx⟩ : ∃ x : ByteArray, (pv ps)[i]? = some (.string x) := by
        unfold pv at hil ⊢
        rw [List.getElem?_map, List.getElem?_eq_getElem (by simpa using hil)]
        exact ⟨_, rfl⟩
      have hx1 := hcell i _ hx
      have hx2 := hcell' i _ hx
      have hr1 : ∀ wS, Kn w.heap.size w [] wS → wS.cell? ⟨b, off + i, none⟩ = some (.string x) := fun wS hS => (Below.cell hS.below (a := ⟨b, off + i, none⟩) hb).trans hx1
      have hr2 : ∀ wS, Kn w.heap.size w [] wS → wS.cell? ⟨b', off' + i, none⟩ = some (.string x) := fun wS hS => (Below.cell hS.below (a := ⟨b', off' + i, none⟩) hb').trans hx2
      have hbi : (0 : Int) ≤ i := by omega
      have hbn : (i : Int) < n := by omega
      have Hhr1 := Lib.hid hr1
      have Hhr2 := Lib.hid hr2
      have Hhx := Lib.hid hx
      clear hr1 hr2 hx
      clear hx1 hx2 hcell hcell' hil
      go_wp2_with fail
      refine wp_region_abs w.heap.size w [] ((true, 0) :: (true, 1) :: (true, 2) :: (true, 3) :: (true, 4) :: (true, 5) :: (true, 6) :: (true, 7) :: (true, 8) :: []) (by kernel_rfl) (by kernel_rfl) K.out.drew ?_
      (apply ab_pure
       · (simp only [List.getElem?_toArray, List.getElem?_cons_succ, List.getElem?_cons_zero]; rfl)
       · rfl
       · (intro wS hS; go_simp; try exact rfl)
       simp only [Act.put, List.setIfInBounds_toArray, List.set_cons_zero, List.set_cons_succ])
      (apply ab_pure
       · (simp only [List.getElem?_toArray, List.getElem?_cons_succ, List.getElem?_cons_zero]; rfl)
       · rfl
       · (intro wS hS; go_simp; try exact rfl)
       simp only [Act.put, List.setIfInBounds_toArray, List.set_cons_zero, List.set_cons_succ])
      (apply ab_pure
       · (simp only [List.getElem?_toArray, List.getElem?_cons_succ, List.getElem?_cons_zero]; rfl)
       · rfl
       · (intro wS hS; go_simp; try exact rfl)
       simp only [Act.put, List.setIfInBounds_toArray, List.set_cons_zero, List.set_cons_succ])
      (apply ab_pure
       · (simp only [List.getElem?_toArray, List.getElem?_cons_succ, List.getElem?_cons_zero]; rfl)
       · rfl
       · (intro wS hS; have hc := Hhr1.out wS hS; go_simp; try exact rfl)
       simp only [Act.put, List.setIfInBounds_toArray, List.set_cons_zero, List.set_cons_succ])
      (apply ab_pure
       · (simp only [List.getElem?_toArray, List.getElem?_cons_succ, List.getElem?_cons_zero]; rfl)
       · rfl
       · (intro wS hS; go_simp; try exact rfl)
       simp only [Act.put, List.setIfInBounds_toArray, List.set_cons_zero, List.set_cons_succ])
      (apply ab_pure
       · (simp only [List.getElem?_toArray, List.getElem?_cons_succ, List.getElem?_cons_zero]; rfl)
       · rfl
       · (intro wS hS; go_simp; try exact rfl)
       simp only [Act.put, List.setIfInBounds_toArray, List.set_cons_zero, List.set_cons_succ])
      (apply ab_pure
       · (simp only [List.getElem?_toArray, List.getElem?_cons_succ, List.getElem?_cons_zero]; rfl)
       · rfl
       · (intro wS hS; go_simp; try exact rfl)
       simp only [Act.put, List.setIfInBounds_toArray, List.set_cons_zero, List.set_cons_succ])
      (apply ab_pure
       · (simp only [List.getElem?_toArray, List.getElem?_cons_succ, List.getElem?_cons_zero]; rfl)
       · rfl
       · (intro wS hS; have hc := Hhr2.out wS hS; go_simp; try exact rfl)
       simp only [Act.put, List.setIfInBounds_toArray, List.set_cons_zero, List.set_cons_succ])
      (apply ab_pure
       · (simp only [List.getElem?_toArray, List.getElem?_cons_succ, List.getElem?_cons_zero]; rfl)
       · rfl
       · (intro wS hS; go_simp; try exact rfl)
       simp only [Act.put, List.setIfInBounds_toArray, List.set_cons_zero, List.set_cons_succ])
      refine ab_end ?_
      intro wE hE
      have K2 := Lib.hid hE
      clear hE K
      go_wp2_with fail
      go_roundw
      case rel => exact ⟨i + 1, by omega, by go_num, K2⟩
      case measure => simp [intOf]; omega
    · obtain rfl : i = n := by omega
      have hbn : ¬ (i : Int) < i := by omega
      go_wp2_with fail
      go_ret
      exact ⟨rfl, K.out.below⟩
end Go.Proofs.Ytgdjfijkbemkeaa
