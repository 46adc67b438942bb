/-
  Walks: which parts an upload has.
-/
import Derived.Test.YtgdjfijkbemkeaaEtU
import Derived.Sort.OwnSortedInts
import Derived.Sort.OwnSorted
namespace Go.Proofs.Ytgdjfijkbemkeaa
open Go.RowKit Go.Sort
set_option maxHeartbeats 2000000
set_option maxRecDepth 20000
set_option linter.unusedVariables false

theorem sorted_there (U : Um.Up) (xs : List Int) (hn : xs.Nodup) (hm : ∀ x, x ∈ xs ↔ ∃ k : Nat, x = k ∧ 1 ≤ k ∧ k ≤ 64 ∧ U k ≠ []) :
    (xs.mergeSort fun x y => decide (x ≤ y)) = (Um.there U).map fun k : Nat => (k : Int) := by
  have hs := Um.thereTo_sorted U 64
  refine List.Perm.eq_of_pairwise (le := fun a b => decide (a ≤ b) = true) (fun a b _ _ h1 h2 => by simp only [decide_eq_true_eq] at h1 h2; omega)
    (List.pairwise_mergeSort (fun a b c h1 h2 => by simp only [decide_eq_true_eq] at *; omega) (fun a b => by simp only [Bool.or_eq_true, decide_eq_true_eq]; omega) _) ?_ ?_
  · unfold Um.there
    rw [List.pairwise_map]
    exact hs.imp (fun h => by simp only [decide_eq_true_eq]; omega)
  · refine (List.mergeSort_perm _ _).trans ?_
    refine (List.perm_ext_iff_of_nodup hn ?_).2 fun x => ?_
    · unfold Um.there
      refine List.Pairwise.map _ (fun a b (h : a < b) => ?_) hs
      show (a : Int) ≠ b
      omega
    · rw [hm, List.mem_map]
      constructor
      · rintro ⟨k, rfl, h⟩
        exact ⟨k, (Um.mem_thereTo U 64 k).2 h, rfl⟩
      · rintro ⟨k, hk, rfl⟩
        exact ⟨k, rfl, (Um.mem_thereTo U 64 k).1 hk⟩
theorem info_int5 : (Try.prog.info? 3).map (fun i => (i.zero, i.size, i.bytes)) = some (some (.int .i64 0), 1, 8) := by kernel_rfl

/-- the numbers so far: just those that aren't to come -/
structure Seen (D : DataW Unit) (left : Lit → Bool) (xs : List Int) : Prop where
  nd : xs.Nodup
  mem : ∀ x, x ∈ xs ↔ Maps.has D (.int .i64 x) = true ∧ left (.int .i64 x) = false
theorem Seen.start (D : DataW Unit) : Seen D (Maps.has D) [] := ⟨List.nodup_nil, fun x => by
  constructor
  · intro h; cases h
  · rintro ⟨h1, h2⟩; rw [h1] at h2; cases h2⟩
theorem Seen.step {D : DataW Unit} {left : Lit → Bool} {xs : List Int} (h : Seen D left xs) {x : Int} (hx : left (.int .i64 x) = true) (hd : Maps.has D (.int .i64 x) = true) :
    Seen D (fun z => left z && !z.sameKey (.int .i64 x)) (xs ++ [x]) := by
  have key : ∀ y : Int, (Lit.int .i64 y).sameKey (.int .i64 x) = true ↔ y = x := fun y => by
    rw [WideAt.sameKey_iff (Um.keyLit x)]
    constructor
    · intro e; injection e
    · rintro rfl; rfl
  refine ⟨?_, fun y => ?_⟩
  · rw [List.nodup_append]
    refine ⟨h.nd, by simp, fun a ha b hb => ?_⟩
    obtain rfl : b = x := by simpa using hb
    intro e
    subst e
    have := ((h.mem a).1 ha).2
    rw [hx] at this
    cases this
  · rw [List.mem_append, h.mem y]
    by_cases hy : y = x
    · subst hy
      simp [hd, (key y).2 rfl]
    · have : (Lit.int .i64 y).sameKey (.int .i64 x) = false := by
        cases hk : (Lit.int .i64 y).sameKey (.int .i64 x)
        · rfl
        · exact absurd ((key y).1 hk) hy
      simp [this, hy]

/-- one element appended to a slice of the call's own: just its own block turns -/
theorem kl_append1g {P : Program} {ops : Array Oper} {rest : List Oper} {o : Oper} {a : Act} {w : World} {Q : Exit → Act → World → Prop} (hgd : o.guard = none) (s x : Operand) (t : TypeId) (ho : o.op = .call { callee := .builtin .append, args := #[s, x], argTypes := #[t, t] })
    (base : Nat) (e : TypeId) (i : TypeInfo) (z : Value) (size bytes : Nat) (ht : P.underlying t = some (.slice e)) (hi : P.info? e = some i) (hz : i.zero = some z)
    (hsize : i.size = size) (hby : i.bytes = bytes) (hzs : z.cells.size = size) (hsz : 0 < size)
    (v : Value) (n : Nat) (xs : List Value) (hs : a.eval s = v) (hown : w.ownsRow base e size v n xs)
    (c : Nat) (us : Array Value) (hx : a.eval x = .slice (some ⟨w.heap.size, 0, none⟩) 1 c) (hus : us.size = size) (h1 : ∀ u ∈ us.toList, u.oneCell' = true)
    (hn : n < 16777216) (hb16 : bytes ≤ 4096) (hbase : base ≤ w.heap.size)
    (h : ∀ v' w', w'.ownsRow base e size v' (n + 1) (xs ++ us.toList) → w.grownBy w' v.ownBlock → wpList P ops Q rest (a.put o.dst v') w') :
    wpList P ops Q (o :: rest) a (w.alloc (.cells us e)) := by
  refine wpList_append_own _ hgd s x t ho base e i z size bytes ht hi hz hsize hby hzs hsz v n xs hs (hown.alloc _) ⟨w.heap.size, 0, none⟩ 1 c us.toList hx ?_ ?_ h1 ?_ ?_ ?_ ?_
  · simp [hus]
  · intro j u hj
    rw [Addr.add_mid, cell_of_row _ _ _ _ _ _ (heap_alloc_new _ _)]
    simpa using hj
  · unfold maxLen; omega
  · have : (n + 1) * bytes ≤ 16777216 * 4096 := Nat.mul_le_mul (by omega) hb16
    omega
  · rw [size_alloc]; omega
  · intro v' w' ho' hg hnil
    refine h v' w' ho' ⟨hg.os, hg.tape, hg.output, ?_, fun i hi hne => ?_⟩
    · have := hg.size; rw [size_alloc] at this; omega
    · exact (hg.block i (by rw [size_alloc]; omega) hne).trans (Below.heap_alloc _ _ _ hi)

theorem etagHave (U : Um.Up) (hU : Um.Good U) (g m k : Nat) (hk : k < 1000000) (w : World) (h : UpAt U g m k w) :
    Calls Try.prog 53 #[.pointer (some ⟨g, 0, none⟩)] w (RetS ((Um.there U).map fun k : Nat => Value.int .i64 (k : Int)) w) := by
  obtain ⟨i0, hi0, hz0, hz1, hz2⟩ := info_parts info_int5
  obtain ⟨hg1, D, hown, hDU⟩ := h
  have hgl := lt_of_block hg1
  have hml := hown.lt
  have hcell : w.cell? ⟨g, 0, none⟩ = some (.map (some m)) := by rw [cell_of_row _ _ _ _ _ _ hg1]; rfl
  have hsz : Maps.size D ≤ k := hown.size_le
  have hend : ∀ xs, Seen D (fun _ => false) xs → (xs.mergeSort fun x y => decide (x ≤ y)) = (Um.there U).map fun k : Nat => (k : Int) := fun xs hx => by
    refine sorted_there U xs hx.nd fun x => ?_
    rw [hx.mem x]
    constructor
    · rintro ⟨h1, _⟩
      rcases Int.lt_or_le x 0 with hx0 | hx0
      · rw [hDU.neg x hx0] at h1; cases h1
      · obtain ⟨j, rfl⟩ : ∃ j : Nat, x = j := ⟨x.toNat, by omega⟩
        have h2 := (hDU.has j).1 h1
        refine ⟨j, rfl, ?_, ?_, h2⟩
        · rcases Nat.eq_zero_or_pos j with hj | hj
          · exact absurd (hU.out j (.inl hj)) h2
          · exact hj
        · rcases Nat.lt_or_ge 64 j with hj | hj
          · exact absurd (hU.out j (.inr hj)) h2
          · exact hj
    · rintro ⟨j, rfl, h1, h2, h3⟩
      exact ⟨(hDU.has j).2 h3, rfl⟩
  obtain ⟨X, hX⟩ : ∃ X, X = (Um.there U).map fun k : Nat => (k : Int) := ⟨_, rfl⟩
  have hXX : ((Um.there U).map fun k : Nat => Value.int .i64 (k : Int)) = X.map (Value.int .i64) := by rw [hX, List.map_map]; rfl
  rw [hXX]
  rw [← hX] at hend
  have hstart : Hid (Seen D (Maps.has D) []) := Seen.start D
  have Hhend := Lib.hid hend
  have HhXX := Lib.hid hXX
  have HhX := Lib.hid hX
  clear hend hXX hX
  go_enter Try.func53, Try.ntmps53
  go_wp2_with (first | (at_range; refine wpList_range_own _ rfl _ 115 rfl 3 9 keyedInt Try.underlying115 _ m k D rfl hown ?_; intro w0 hrg0 hg0 hs0) | go_in)
  go_frame
  go_loopw [3] (fun v wr => ∃ (left : Lit → Bool) (cnt : Nat) (xs : List Int), wr.ranges Try.prog 3 (plainElem (H := Unit) Try.prog 9) m w.heap.size k D left cnt ∧
      wr.ownsRow w.heap.size 3 1 v xs.length (xs.map (Value.int .i64)) ∧ Hid (Seen D left xs) ∧ xs.length + cnt ≤ k ∧ Below w.heap.size w wr)
    (fun _ wr => wr.rangeLeft m w.heap.size)
  case atStart => exact ⟨_, _, [], hrg0, World.ownsRow_nil _ _ _ _, hstart, by simpa using hsz, ⟨hg0.os, hg0.tape, hg0.output, hg0.size, fun j hj => hg0.block j hj (by simp)⟩⟩
  case round =>
    obtain ⟨left, cnt, xs, hrg, hrow, HS, hlen, hb⟩ := hrel
    go_wp2_with (first | (at_next; refine wpList_next_ranges_is _ rfl _ rfl 3 9 .i64 keyedInt Try.underlying3 Try.underlying9 m w.heap.size k _ _ _ rfl hrg ?_ ?_) | go_in)
    · intro hc0 hl0
      have hS : Seen D (fun _ => false) xs := by
        have : left = fun _ => false := funext hl0
        rw [← this]; exact HS.out
      have hX2 := Hhend.out xs hS
      rcases hrow.2 with ⟨hnil, hk0⟩ | ⟨g', cap, cur, hv, hbase, hb', h1, h2, h3, h4⟩
      · subst hnil
        obtain rfl : xs = [] := List.eq_nil_of_length_eq_zero hk0
        have hX0 : X = [] := by rw [← hX2]; simp
        have HhX0 := Lib.hid hX0
        clear hX0
        clear hrg hX2
        go_wp2_with (go_at_call 74; refine (Try.slices_Sort_int_none none 0 _).mono ?_; rintro e w' ⟨rfl, rfl⟩)
        go_ret
        rw [HhX0.out]
        exact ⟨_, _, rfl, ⟨rfl, .inl ⟨rfl, rfl⟩⟩, hb⟩
      · subst hv
        have hH : Holds (Value.int .i64) wr g' 0 xs.toArray := holds_of_blockI hb' (by simpa using h4)
        have hgl' : g' < wr.heap.size := (Array.getElem?_eq_some_iff.1 hb').1
        have hsort := Try.slices_Sort_int g' 0 cap xs wr hH hgl' (by omega)
        have hl2 : X.length = xs.length := by rw [← hX2]; exact List.length_mergeSort xs
        rw [hX2] at hsort
        clear hrg hH
        have HhX2 := Lib.hid hX2
        have Hhl2 := Lib.hid hl2
        clear hX2 hl2
        go_wp2_with (go_at_call 74; refine hsort.mono ?_; rintro e w' ⟨rfl, nn, os, rfl⟩)
        go_ret
        have hg := grownBy_sortedI (w := wr) (g := g') (n := nn) (os := os) X.toArray
        have hro := ownsRow_sortedI (n := nn) (os := os) (ts := X) Hhl2.out hbase hb' h1 h2 h3
        exact ⟨_, _, rfl, rd_of_own hro, hb.trans (((Below.refl _ _).grown hg (Nat.le_trans hb.size (Nat.le_refl _)) (fun j hj => by cases hj; exact hbase)))⟩
    · intro x c w1 cnt1 hwx hwc hlx hat hrg1 hlt hg1 hs1 hen
      have hm0 : wr.rangeLeft m w.heap.size = cnt := hrg.left_eq
      have hhas := Maps.has_true_of_atKey hat
      have hS1 : Hid (Seen D (fun z => left z && !z.sameKey (.int .i64 x)) (xs ++ [x])) := HS.out.step hlx hhas
      have hrow1 := hrow.kept hg1 (by
        cases hob : u3.ownBlock with
        | none => exact Or.inl rfl
        | some g => exact Or.inr (fun e => row_ne_iter hrow hrg (by rw [hob]; exact e.symm)))
      have hb1 : Below w.heap.size w w1 := hb.grown hg1 hb.size (fun j hj => by cases hj; exact Nat.le_refl _)
      have hbs := hb1.size
      have hn16 : xs.length < 16777216 := by omega
      have hgb : g < w1.heap.size := by omega
      have Hhwx := Lib.hid hwx
      have Hhlx := Lib.hid hlx
      have Hhhas := Lib.hid hhas
      have Hhat := Lib.hid hat
      have Hhwc := Lib.hid hwc
      have Hhrg1 := Lib.hid hrg1
      have Hhs1 := Lib.hid hs1
      have Hhs0 := Lib.hid hs0
      have Hhm0 := Lib.hid hm0
      clear hwx hlx hhas hat hwc hrg1 hs1 hs0 hm0
      clear hrow hrg HS hb hrg0 hg0 hown hDU hg1
      go_wp2_with (at_builtin; refine kl_append1g rfl _ _ 83 rfl w.heap.size 3 i0 (.int .i64 0) 1 8 Try.underlying83 hi0 hz0 hz1 hz2 rfl (by decide) _ xs.length _ rfl hrow1 1 #[.int .i64 x] rfl rfl (by simp [Value.oneCell']) (by omega) (by omega) hbs ?_; intro v' w' hown' hgr)
      have hrg2 := Hhrg1.out.kept hgr (by
        intro e
        have := (hrow1.lt _ e.symm).1
        omega) (by intro e; exact row_ne_iter hrow1 Hhrg1.out e)
      have hb2 : Below w.heap.size w w' := hb1.grown hgr hbs (fun j hj => (hrow1.lt j hj).1)
      refine ⟨⟨_, cnt1, xs ++ [x], hrg2, ?_, hS1, by simp; omega, hb2⟩, ?_⟩
      · rw [List.length_append, List.map_append]; exact hown'
      · rw [hrg2.left_eq, Hhm0.out]; exact hlt
end Go.Proofs.Ytgdjfijkbemkeaa
