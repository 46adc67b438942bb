/-
  Walks: shoalsynclaw03.few, awake.
-/
import Derived.Test.YtidmjepfpjfkoaaDoorPcF
namespace Go.Proofs.YtidmjepfpjfkoaaDoor
open Go Go.RowKit
set_option maxHeartbeats 8000000
set_option maxRecDepth 20000
set_option linter.unusedVariables false
set_option linter.unusedSimpArgs false

/-- few and short -/
def fewB (ps : List (List UInt8)) : Bool := decide (ps.length ≤ 60) && ps.all fun x => decide (x.length ≤ 300)
theorem fewB_no {ps : List (List UInt8)} {i : Nat} (hi : i < ps.length) (h : 60 ≤ i ∨ 300 < ps[i].length) : fewB ps = false := by
  unfold fewB
  rcases h with h | h
  · rw [decide_eq_false (by omega)]; rfl
  · rw [Bool.and_eq_false_iff]
    right
    rw [List.all_eq_false]
    exact ⟨_, List.getElem_mem hi, by simpa using h⟩
theorem fewB_yes {ps : List (List UInt8)} (h0 : ps.length ≤ 60) (h : ∀ j (hj : j < ps.length), ps[j].length ≤ 300) : fewB ps = true := by
  unfold fewB
  rw [decide_eq_true h0, Bool.true_and, List.all_eq_true]
  intro x hx
  obtain ⟨j, hj, rfl⟩ := List.getElem_of_mem hx
  exact decide_eq_true (h j hj)
theorem few03 (ps : List (List UInt8)) (A : Option Addr) (c : Nat) (w : World) (hrd : RdS (.slice A ps.length c) ps.length (pv ps) w.heap.size w) :
    Calls Tryd.prog 43 #[.slice A ps.length c] w fun e w' => e = .returned (.bool (fewB ps)) ∧ w' = w := by
  obtain ⟨n, hn⟩ : ∃ n, n = ps.length := ⟨_, rfl⟩
  obtain ⟨r, hr⟩ : ∃ r, r = fewB ps := ⟨_, rfl⟩
  rw [← hn] at hrd ⊢
  rw [← hr]
  have Hhn := Lib.hid hn
  have Hhr := Lib.hid hr
  have Hhrd := Lib.hid hrd
  clear hn hr hrd
  go_enter Tryd.func43, Tryd.ntmps43
  go_wp2_with fail
  go_loopw [3] (fun iv wr => ∃ i : Nat, i ≤ n ∧ i ≤ 60 ∧ iv = .int .i64 (i : Int) ∧ Hid (∀ j (hj : j < ps.length), j < i → ps[j].length ≤ 300) ∧ wr = w) (fun iv _ => n - (intOf iv).toNat)
  case atStart => exact ⟨0, by omega, by omega, rfl, fun j _ h => absurd h (by omega), rfl⟩
  case round =>
    obtain ⟨i, hi, hi6, rfl, HB, rfl⟩ := hrel
    by_cases hin : i < n
    · have hil : i < ps.length := by rw [← Hhn.out]; exact hin
      obtain ⟨b, off, hA, hcn, hbb, hcell⟩ := Hhrd.out.at_ hin
      have hx := hcell i _ (pv_get ps i hil)
      obtain ⟨x, hxx⟩ : ∃ x : ByteArray, x = ⟨ps[i].toArray⟩ := ⟨_, rfl⟩
      rw [← hxx] at hx
      have hxs : x.size = ps[i].length := by rw [hxx]; show ps[i].toArray.size = _; simp
      subst hA
      have hbn : (i : Int) < n := by omega
      clear hcell
      have Hhxx := Lib.hid hxx
      have Hhxs := Lib.hid hxs
      clear hxx hxs
      by_cases h60 : (60 : Int) ≤ i
      · have HR : Hid (r = false) := by show r = false; rw [Hhr.out, fewB_no hil (.inl (by omega))]
        go_wp2_with fail
        go_ret
        exact ⟨by rw [HR.out]; rfl, rfl⟩
      · by_cases h300 : (300 : Int) < (x.size : Int)
        · have HR : Hid (r = false) := by show r = false; rw [Hhr.out, fewB_no hil (.inr (by have := Hhxs.out; omega))]
          go_wp2_with fail
          go_ret
          exact ⟨by rw [HR.out]; rfl, rfl⟩
        · have HB2 : Hid (∀ j (hj : j < ps.length), j < i + 1 → ps[j].length ≤ 300) := fun j hj h => by
            rcases Nat.lt_or_ge j i with h3 | h3
            · exact HB.out j hj h3
            · obtain rfl : j = i := by omega
              have := Hhxs.out
              omega
          go_wp2_with fail
          go_roundw
          case rel => exact ⟨i + 1, by omega, by omega, by go_num, HB2, trivial⟩
          case measure => simp [intOf]; omega
    · obtain rfl : i = n := by omega
      have hbn : ¬ (i : Int) < i := by omega
      have HR : Hid (r = true) := by show r = true; rw [Hhr.out, fewB_yes (by rw [← Hhn.out]; omega) (fun j hj => HB.out j hj (by rw [Hhn.out]; exact hj))]
      go_wp2_with fail
      go_ret
      exact ⟨by rw [HR.out]; rfl, rfl⟩

def sA : List UInt8 := [97]
def sB : List UInt8 := [98]
def sC : List UInt8 := [99]
def sAB : List UInt8 := [97, 47, 98]
theorem aw_right : Pm.right sA = 0 ∧ Pm.right sB = 0 ∧ Pm.right sC = 0 ∧ Pm.right sAB = 0 ∧ Pm.right [] = 2 ∧ Pm.right [97, 47] = 2 := by decide +kernel
theorem aw_sort1 : Pm.IsSort [sAB, sC, sA] [sA, sAB, sC] := by
  obtain ⟨h1, h2, h3, h4, h5, _⟩ := aw_right
  refine ⟨by decide +kernel, fun x => ?_⟩
  simp only [List.mem_cons, List.not_mem_nil, or_false]
  constructor
  · rintro (rfl | rfl | rfl)
    · exact ⟨.inr (.inr rfl), h1⟩
    · exact ⟨.inl rfl, h4⟩
    · exact ⟨.inr (.inl rfl), h3⟩
  · rintro ⟨rfl | rfl | rfl, _⟩
    · exact .inr (.inl rfl)
    · exact .inr (.inr rfl)
    · exact .inl rfl
theorem aw_sort2 : Pm.IsSort [sB, sAB, sA, sB, []] [sA, sAB, sB] := by
  obtain ⟨h1, h2, h3, h4, h5, _⟩ := aw_right
  refine ⟨by decide +kernel, fun x => ?_⟩
  simp only [List.mem_cons, List.not_mem_nil, or_false]
  constructor
  · rintro (rfl | rfl | rfl)
    · exact ⟨.inr (.inr (.inl rfl)), h1⟩
    · exact ⟨.inr (.inl rfl), h4⟩
    · exact ⟨.inl rfl, h2⟩
  · rintro ⟨rfl | rfl | rfl | rfl | rfl, h⟩
    · exact .inr (.inr rfl)
    · exact .inr (.inl rfl)
    · exact .inl rfl
    · exact .inr (.inr rfl)
    · rw [h5] at h; cases h
theorem aw_clash : Pm.clash [sA, sAB, sC] = some (sA, sAB) := by decide +kernel
theorem aw_norm : Pm.normP [47, 97, 47, 46, 47, 98, 47, 46, 46, 47, 99] = [97, 47, 99] ∧ Pm.normE [47, 97, 47, 46, 47, 98, 47, 46, 46, 47, 99] = 0 ∧ Pm.normP [46, 46] = [] ∧ Pm.normE [46, 46] = 1 := by decide +kernel
theorem aw_join : Pm.joinP [sA, sB] = sAB ∧ Pm.joinE [sA, sB] = 0 := by decide +kernel
theorem aw_par : par [97, 47, 98, 47, 99] = true ∧ parS [97, 47, 98, 47, 99] = sAB ∧ par sA = false ∧ parS sA = [] := by decide +kernel
theorem aw_rest : Pm.within sAB sA = true ∧ Pm.compare sA sB = -1 ∧ Pm.parts sAB = [sA, sB] := by decide +kernel

theorem rd_new (w : World) (ps : List (List UInt8)) : RdS (.slice (some ⟨w.heap.size, 0, none⟩) ps.length ps.length) ps.length (pv ps) (w.alloc (.cells (pv ps).toArray 9)).heap.size (w.alloc (.cells (pv ps).toArray 9)) := by
  have := cells_rd (c := ps.length) (heap_alloc_new w (.cells (pv ps).toArray 9)) (by rw [pv_length]; exact Nat.le_refl _)
  rw [pv_length] at this
  exact this
theorem awClash (W : World) (h : Gl (W.alloc (.cells (pv [sAB, sC, sA]).toArray 9))) :
    Calls Tryd.prog 25 #[.slice (some ⟨W.heap.size, 0, none⟩) 3 3] (W.alloc (.cells (pv [sAB, sC, sA]).toArray 9)) fun e w' =>
      e = .returned (.tuple #[.string ⟨sA.toArray⟩, .string ⟨sAB.toArray⟩, .bool true]) ∧ Below (W.alloc (.cells (pv [sAB, sC, sA]).toArray 9)).heap.size (W.alloc (.cells (pv [sAB, sC, sA]).toArray 9)) w' :=
  (pathClash [sAB, sC, sA] (by decide) (by decide) _ _ _ h (rd_new W [sAB, sC, sA])).mono fun e w' ⟨xs, h1, h2, h3⟩ => ⟨by rw [h1, h2.unique aw_sort1, aw_clash]; rfl, h3⟩
theorem awSort (W : World) (h : Gl (W.alloc (.cells (pv [sB, sAB, sA, sB, []]).toArray 9))) :
    Calls Tryd.prog 57 #[.slice (some ⟨W.heap.size, 0, none⟩) 5 5] (W.alloc (.cells (pv [sB, sAB, sA, sB, []]).toArray 9)) fun e w' =>
      ∃ v, e = .returned v ∧ RdS v 3 (pv [sA, sAB, sB]) w'.heap.size w' ∧ Below (W.alloc (.cells (pv [sB, sAB, sA, sB, []]).toArray 9)).heap.size (W.alloc (.cells (pv [sB, sAB, sA, sB, []]).toArray 9)) w' :=
  (pathSort [sB, sAB, sA, sB, []] (by decide) (by decide) _ _ _ h (rd_new W [sB, sAB, sA, sB, []])).mono fun e w' ⟨v, xs, h1, h2, h3, h4, _⟩ => ⟨v, h1, by rw [h4.unique aw_sort2] at h2; exact h2, h3⟩
theorem awake03 (w : World) (hG : Gl w) :
    Calls Tryd.prog 42 #[] w fun e w' => e = .returned (.bool true) ∧ Below w.heap.size w w' := by
  have hgl := hG.lt
  have hG2 : ∀ W, Below w.heap.size w W → Gl W := fun W h => hG.below h hgl
  have c1 := fun W (h : Below w.heap.size w W) => pathNormal ⟨#[47, 97, 47, 46, 47, 98, 47, 46, 46, 47, 99]⟩ (by decide) W (hG2 W h)
  rw [show (⟨#[47, 97, 47, 46, 47, 98, 47, 46, 46, 47, 99]⟩ : ByteArray).data.toList = [47, 97, 47, 46, 47, 98, 47, 46, 46, 47, 99] from rfl, aw_norm.1, aw_norm.2.1] at c1
  have c2 := fun W (h : Below w.heap.size w W) => pathNormal ⟨#[46, 46]⟩ (by decide) W (hG2 W h)
  rw [show (⟨#[46, 46]⟩ : ByteArray).data.toList = [46, 46] from rfl, aw_norm.2.2.1, aw_norm.2.2.2] at c2
  have c3 := fun W (h : Below w.heap.size w (W.alloc (.cells (pv [sA, sB]).toArray 9))) => pathJoin [sA, sB] (by decide) (by decide) _ _ _ (hG2 _ h) (rd_new W [sA, sB])
  rw [aw_join.1, aw_join.2] at c3
  have c4 := fun W (h : Below w.heap.size w W) => pathParent ⟨#[97, 47, 98, 47, 99]⟩ (by decide) W (hG2 W h)
  rw [show (⟨#[97, 47, 98, 47, 99]⟩ : ByteArray).data.toList = [97, 47, 98, 47, 99] from rfl, aw_par.1, aw_par.2.1] at c4
  have c5 := fun W (h : Below w.heap.size w W) => pathParent ⟨#[97]⟩ (by decide) W (hG2 W h)
  rw [show (⟨#[97]⟩ : ByteArray).data.toList = sA from rfl, aw_par.2.2.1, aw_par.2.2.2] at c5
  have c6 := fun W (h : Below w.heap.size w (W.alloc (.cells (pv [sAB, sC, sA]).toArray 9))) => awClash W (hG2 _ h)
  have c7 := fun W (h : Below w.heap.size w (W.alloc (.cells (pv [sB, sAB, sA, sB, []]).toArray 9))) => awSort W (hG2 _ h)
  have c8 := fun W (h : Below w.heap.size w W) => pathRight ⟨#[97]⟩ (by decide) W (hG2 W h)
  rw [show (⟨#[97]⟩ : ByteArray).data.toList = sA from rfl, aw_right.1] at c8
  have c9 := fun W (h : Below w.heap.size w W) => pathRight ⟨#[97, 47]⟩ (by decide) W (hG2 W h)
  rw [show (⟨#[97, 47]⟩ : ByteArray).data.toList = [97, 47] from rfl, aw_right.2.2.2.2.2] at c9
  have cA := fun W => pathWithin ⟨#[97, 47, 98]⟩ ⟨#[97]⟩ (by decide) W
  rw [show (⟨#[97, 47, 98]⟩ : ByteArray).data.toList = sAB from rfl, show (⟨#[97]⟩ : ByteArray).data.toList = sA from rfl, aw_rest.1] at cA
  have cB := fun W (h : Below w.heap.size w W) => pathCompare ⟨#[97]⟩ ⟨#[98]⟩ (by decide) (by decide) W (hG2 W h)
  rw [show (⟨#[98]⟩ : ByteArray).data.toList = sB from rfl, show (⟨#[97]⟩ : ByteArray).data.toList = sA from rfl, aw_rest.2.1] at cB
  have cC := fun W (h : Below w.heap.size w W) => pathParts ⟨#[97, 47, 98]⟩ (by decide) W (hG2 W h)
  rw [show (⟨#[97, 47, 98]⟩ : ByteArray).data.toList = sAB from rfl, aw_rest.2.2] at cC
  have Hc1 := Lib.hid c1
  have Hc2 := Lib.hid c2
  have Hc3 := Lib.hid c3
  have Hc4 := Lib.hid c4
  have Hc5 := Lib.hid c5
  have Hc6 := Lib.hid c6
  have Hc7 := Lib.hid c7
  have Hc8 := Lib.hid c8
  have Hc9 := Lib.hid c9
  have HcA := Lib.hid cA
  have HcB := Lib.hid cB
  have HcC := Lib.hid cC
  have HhG2 := Lib.hid hG2
  clear c1 c2 c3 c4 c5 c6 c7 c8 c9 cA cB cC hG2
  clear hG
  go_enter Tryd.func42, Tryd.ntmps42
  go_wp2_with fail
  refine (Hc1.out _ (Below.refl _ _)).mono ?_
  rintro e w1 ⟨rfl, b1⟩
  go_wp2_with fail
  refine (Hc2.out _ b1).mono ?_
  rintro e w2 ⟨rfl, b2⟩
  have b3 := b1.trans (b2.mono b1.size)
  clear b1 b2
  go_wp2_with fail
  have b4 := b3.alloc b3.size (.cells (pv [sA, sB]).toArray 9)
  refine (Hc3.out w2 b4).mono ?_
  rintro e w3 ⟨rfl, b5⟩
  have b6 := b4.trans (b5.mono b4.size)
  clear b3 b4 b5
  go_wp2_with fail
  refine (Hc4.out _ b6).mono ?_
  rintro e w4 ⟨rfl, b7⟩
  have b8 := b6.trans (b7.mono b6.size)
  clear b6 b7
  go_wp2_with fail
  refine (Hc5.out _ b8).mono ?_
  rintro e w5 ⟨rfl, b9⟩
  have b10 := b8.trans (b9.mono b8.size)
  clear b8 b9
  go_wp2_with fail
  have b11 := b10.alloc b10.size (.cells (pv [sAB, sC, sA]).toArray 9)
  refine (Hc6.out w5 b11).mono ?_
  rintro e w6 ⟨rfl, b12⟩
  have b13 := b11.trans (b12.mono b11.size)
  clear b10 b11 b12
  go_wp2_with fail
  have b14 := b13.alloc b13.size (.cells (pv [sB, sAB, sA, sB, []]).toArray 9)
  refine (Hc7.out w6 b14).mono ?_
  rintro e w7 ⟨v, rfl, hv, b15⟩
  have b16 := b14.trans (b15.mono b14.size)
  obtain ⟨A, c, rfl⟩ := hv.slice
  obtain ⟨bk, off, hA, hc3, hbk, hcell⟩ := hv.at_ (i := 1) (by decide)
  subst hA
  have hx1 := hcell 1 _ rfl
  clear b13 b14 b15 hcell hv
  go_wp2_with fail
  refine (Hc8.out _ b16).mono ?_
  rintro e w8 ⟨rfl, b17⟩
  have b18 := b16.trans (b17.mono b16.size)
  clear b16 b17
  go_wp2_with fail
  refine (Hc9.out _ b18).mono ?_
  rintro e w9 ⟨rfl, b19⟩
  have b20 := b18.trans (b19.mono b18.size)
  clear b18 b19
  go_wp2_with fail
  refine (HcA.out _).mono ?_
  rintro e w10 ⟨rfl, rfl⟩
  go_wp2_with fail
  refine (HcB.out _ b20).mono ?_
  rintro e w11 ⟨rfl, b21⟩
  have b22 := b20.trans (b21.mono b20.size)
  clear b20 b21
  go_wp2_with fail
  refine (HcC.out _ b22).mono ?_
  rintro e w12 ⟨v, n, rfl, hv, b23⟩
  have b24 := b22.trans (b23.mono b22.size)
  obtain ⟨A', c', rfl⟩ := hv.slice
  obtain rfl : n = 2 := by rw [← hv.1]; rfl
  clear b22 b23 hv
  go_wp2_with fail
  go_ret
  exact ⟨rfl, b24⟩
end Go.Proofs.YtidmjepfpjfkoaaDoor
