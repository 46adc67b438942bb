/-
  Walks: shoalsynclaw03.few, awake.
  Walk: shoalsynclaw03.PathBack.
  Walk: shoalsynclaw03.PathChain.
  Walk: shoalsynclaw03.PathOrders.
  Walk: shoalsynclaw03.PathTells.
-/
import Derived.Test.YtidmjepfpjfkoaaDoorMf
import Derived.Test.YtidmjepfpjfkoaaDoorMc
import Derived.Deep.DeepCutAuto
import Derived.Deep.CutBlock
import Derived.Test.YtidmjepfpjfkoaaDoorMg
namespace Go.Proofs.YtidmjepfpjfkoaaDoor
open Go Go.RowKit
set_option maxHeartbeats 8000000
set_option maxRecDepth 20000
set_option linter.unusedVariables false
set_option linter.unusedSimpArgs false

/-- few and short -/
def fewB (ps : List (List UInt8)) : Bool := decide (ps.length ≤ 60) && ps.all fun x => decide (x.length ≤ 300)
theorem fewB_no {ps : List (List UInt8)} {i : Nat} (hi : i < ps.length) (h : 60 ≤ i ∨ 300 < ps[i].length) : fewB ps = false := by
  unfold fewB
  rcases h with h | h
  · rw [decide_eq_false (by omega)]; rfl
  · rw [Bool.and_eq_false_iff]
    right
    rw [List.all_eq_false]
    exact ⟨_, List.getElem_mem hi, by simpa using h⟩
theorem fewB_yes {ps : List (List UInt8)} (h0 : ps.length ≤ 60) (h : ∀ j (hj : j < ps.length), ps[j].length ≤ 300) : fewB ps = true := by
  unfold fewB
  rw [decide_eq_true h0, Bool.true_and, List.all_eq_true]
  intro x hx
  obtain ⟨j, hj, rfl⟩ := List.getElem_of_mem hx
  exact decide_eq_true (h j hj)
theorem few03 (ps : List (List UInt8)) (A : Option Addr) (c : Nat) (w : World) (hrd : RdS (.slice A ps.length c) ps.length (pv ps) w.heap.size w) :
    Calls Tryd.prog 43 #[.slice A ps.length c] w fun e w' => e = .returned (.bool (fewB ps)) ∧ w' = w := by
  obtain ⟨n, hn⟩ : ∃ n, n = ps.length := ⟨_, rfl⟩
  obtain ⟨r, hr⟩ : ∃ r, r = fewB ps := ⟨_, rfl⟩
  rw [← hn] at hrd ⊢
  rw [← hr]
  have Hhn := Lib.hid hn
  have Hhr := Lib.hid hr
  have Hhrd := Lib.hid hrd
  clear hn hr hrd
  go_enter Tryd.func43, Tryd.ntmps43
  go_wp2_with fail
  go_loopw [3] (fun iv wr => ∃ i : Nat, i ≤ n ∧ i ≤ 60 ∧ iv = .int .i64 (i : Int) ∧ Hid (∀ j (hj : j < ps.length), j < i → ps[j].length ≤ 300) ∧ wr = w) (fun iv _ => n - (intOf iv).toNat)
  case atStart => exact ⟨0, by omega, by omega, rfl, fun j _ h => absurd h (by omega), rfl⟩
  case round =>
    obtain ⟨i, hi, hi6, rfl, HB, rfl⟩ := hrel
    by_cases hin : i < n
    · have hil : i < ps.length := by rw [← Hhn.out]; exact hin
      obtain ⟨b, off, hA, hcn, hbb, hcell⟩ := Hhrd.out.at_ hin
      have hx := hcell i _ (pv_get ps i hil)
      obtain ⟨x, hxx⟩ : ∃ x : ByteArray, x = ⟨ps[i].toArray⟩ := ⟨_, rfl⟩
      rw [← hxx] at hx
      have hxs : x.size = ps[i].length := by rw [hxx]; show ps[i].toArray.size = _; simp
      subst hA
      have hbn : (i : Int) < n := by omega
      clear hcell
      have Hhxx := Lib.hid hxx
      have Hhxs := Lib.hid hxs
      clear hxx hxs
      by_cases h60 : (60 : Int) ≤ i
      · have HR : Hid (r = false) := by show r = false; rw [Hhr.out, fewB_no hil (.inl (by omega))]
        go_wp2_with fail
        go_ret
        exact ⟨by rw [HR.out]; rfl, rfl⟩
      · by_cases h300 : (300 : Int) < (x.size : Int)
        · have HR : Hid (r = false) := by show r = false; rw [Hhr.out, fewB_no hil (.inr (by have := Hhxs.out; omega))]
          go_wp2_with fail
          go_ret
          exact ⟨by rw [HR.out]; rfl, rfl⟩
        · have HB2 : Hid (∀ j (hj : j < ps.length), j < i + 1 → ps[j].length ≤ 300) := fun j hj h => by
            rcases Nat.lt_or_ge j i with h3 | h3
            · exact HB.out j hj h3
            · obtain rfl : j = i := by omega
              have := Hhxs.out
              omega
          go_wp2_with fail
          go_roundw
          case rel => exact ⟨i + 1, by omega, by omega, by go_num, HB2, trivial⟩
          case measure => simp [intOf]; omega
    · obtain rfl : i = n := by omega
      have hbn : ¬ (i : Int) < i := by omega
      have HR : Hid (r = true) := by show r = true; rw [Hhr.out, fewB_yes (by rw [← Hhn.out]; omega) (fun j hj => HB.out j hj (by rw [Hhn.out]; exact hj))]
      go_wp2_with fail
      go_ret
      exact ⟨by rw [HR.out]; rfl, rfl⟩

def sA : List UInt8 := [97]
def sB : List UInt8 := [98]
def sC : List UInt8 := [99]
def sAB : List UInt8 := [97, 47, 98]
theorem aw_right : Pm.right sA = 0 ∧ Pm.right sB = 0 ∧ Pm.right sC = 0 ∧ Pm.right sAB = 0 ∧ Pm.right [] = 2 ∧ Pm.right [97, 47] = 2 := by decide +kernel
theorem aw_sort1 : Pm.IsSort [sAB, sC, sA] [sA, sAB, sC] := by
  obtain ⟨h1, h2, h3, h4, h5, _⟩ := aw_right
  refine ⟨by decide +kernel, fun x => ?_⟩
  simp only [List.mem_cons, List.not_mem_nil, or_false]
  constructor
  · rintro (rfl | rfl | rfl)
    · exact ⟨.inr (.inr rfl), h1⟩
    · exact ⟨.inl rfl, h4⟩
    · exact ⟨.inr (.inl rfl), h3⟩
  · rintro ⟨rfl | rfl | rfl, _⟩
    · exact .inr (.inl rfl)
    · exact .inr (.inr rfl)
    · exact .inl rfl
theorem aw_sort2 : Pm.IsSort [sB, sAB, sA, sB, []] [sA, sAB, sB] := by
  obtain ⟨h1, h2, h3, h4, h5, _⟩ := aw_right
  refine ⟨by decide +kernel, fun x => ?_⟩
  simp only [List.mem_cons, List.not_mem_nil, or_false]
  constructor
  · rintro (rfl | rfl | rfl)
    · exact ⟨.inr (.inr (.inl rfl)), h1⟩
    · exact ⟨.inr (.inl rfl), h4⟩
    · exact ⟨.inl rfl, h2⟩
  · rintro ⟨rfl | rfl | rfl | rfl | rfl, h⟩
    · exact .inr (.inr rfl)
    · exact .inr (.inl rfl)
    · exact .inl rfl
    · exact .inr (.inr rfl)
    · rw [h5] at h; cases h
theorem aw_clash : Pm.clash [sA, sAB, sC] = some (sA, sAB) := by decide +kernel
theorem aw_norm : Pm.normP [47, 97, 47, 46, 47, 98, 47, 46, 46, 47, 99] = [97, 47, 99] ∧ Pm.normE [47, 97, 47, 46, 47, 98, 47, 46, 46, 47, 99] = 0 ∧ Pm.normP [46, 46] = [] ∧ Pm.normE [46, 46] = 1 := by decide +kernel
theorem aw_join : Pm.joinP [sA, sB] = sAB ∧ Pm.joinE [sA, sB] = 0 := by decide +kernel
theorem aw_par : par [97, 47, 98, 47, 99] = true ∧ parS [97, 47, 98, 47, 99] = sAB ∧ par sA = false ∧ parS sA = [] := by decide +kernel
theorem aw_rest : Pm.within sAB sA = true ∧ Pm.compare sA sB = -1 ∧ Pm.parts sAB = [sA, sB] := by decide +kernel

theorem rd_new (w : World) (ps : List (List UInt8)) : RdS (.slice (some ⟨w.heap.size, 0, none⟩) ps.length ps.length) ps.length (pv ps) (w.alloc (.cells (pv ps).toArray 9)).heap.size (w.alloc (.cells (pv ps).toArray 9)) := by
  have := cells_rd (c := ps.length) (heap_alloc_new w (.cells (pv ps).toArray 9)) (by rw [pv_length]; exact Nat.le_refl _)
  rw [pv_length] at this
  exact this
theorem awClash (W : World) (h : Gl (W.alloc (.cells (pv [sAB, sC, sA]).toArray 9))) :
    Calls Tryd.prog 25 #[.slice (some ⟨W.heap.size, 0, none⟩) 3 3] (W.alloc (.cells (pv [sAB, sC, sA]).toArray 9)) fun e w' =>
      e = .returned (.tuple #[.string ⟨sA.toArray⟩, .string ⟨sAB.toArray⟩, .bool true]) ∧ Below (W.alloc (.cells (pv [sAB, sC, sA]).toArray 9)).heap.size (W.alloc (.cells (pv [sAB, sC, sA]).toArray 9)) w' :=
  (pathClash [sAB, sC, sA] (by decide) (by decide) _ _ _ h (rd_new W [sAB, sC, sA])).mono fun e w' ⟨xs, h1, h2, h3⟩ => ⟨by rw [h1, h2.unique aw_sort1, aw_clash]; rfl, h3⟩
theorem awSort (W : World) (h : Gl (W.alloc (.cells (pv [sB, sAB, sA, sB, []]).toArray 9))) :
    Calls Tryd.prog 57 #[.slice (some ⟨W.heap.size, 0, none⟩) 5 5] (W.alloc (.cells (pv [sB, sAB, sA, sB, []]).toArray 9)) fun e w' =>
      ∃ v, e = .returned v ∧ RdS v 3 (pv [sA, sAB, sB]) w'.heap.size w' ∧ Below (W.alloc (.cells (pv [sB, sAB, sA, sB, []]).toArray 9)).heap.size (W.alloc (.cells (pv [sB, sAB, sA, sB, []]).toArray 9)) w' :=
  (pathSort [sB, sAB, sA, sB, []] (by decide) (by decide) _ _ _ h (rd_new W [sB, sAB, sA, sB, []])).mono fun e w' ⟨v, xs, h1, h2, h3, h4, _⟩ => ⟨v, h1, by rw [h4.unique aw_sort2] at h2; exact h2, h3⟩
theorem awake03 (w : World) (hG : Gl w) :
    Calls Tryd.prog 42 #[] w fun e w' => e = .returned (.bool true) ∧ Below w.heap.size w w' := by
  have hgl := hG.lt
  have hG2 : ∀ W, Below w.heap.size w W → Gl W := fun W h => hG.below h hgl
  have c1 := fun W (h : Below w.heap.size w W) => pathNormal ⟨#[47, 97, 47, 46, 47, 98, 47, 46, 46, 47, 99]⟩ (by decide) W (hG2 W h)
  rw [show (⟨#[47, 97, 47, 46, 47, 98, 47, 46, 46, 47, 99]⟩ : ByteArray).data.toList = [47, 97, 47, 46, 47, 98, 47, 46, 46, 47, 99] from rfl, aw_norm.1, aw_norm.2.1] at c1
  have c2 := fun W (h : Below w.heap.size w W) => pathNormal ⟨#[46, 46]⟩ (by decide) W (hG2 W h)
  rw [show (⟨#[46, 46]⟩ : ByteArray).data.toList = [46, 46] from rfl, aw_norm.2.2.1, aw_norm.2.2.2] at c2
  have c3 := fun W (h : Below w.heap.size w (W.alloc (.cells (pv [sA, sB]).toArray 9))) => pathJoin [sA, sB] (by decide) (by decide) _ _ _ (hG2 _ h) (rd_new W [sA, sB])
  rw [aw_join.1, aw_join.2] at c3
  have c4 := fun W (h : Below w.heap.size w W) => pathParent ⟨#[97, 47, 98, 47, 99]⟩ (by decide) W (hG2 W h)
  rw [show (⟨#[97, 47, 98, 47, 99]⟩ : ByteArray).data.toList = [97, 47, 98, 47, 99] from rfl, aw_par.1, aw_par.2.1] at c4
  have c5 := fun W (h : Below w.heap.size w W) => pathParent ⟨#[97]⟩ (by decide) W (hG2 W h)
  rw [show (⟨#[97]⟩ : ByteArray).data.toList = sA from rfl, aw_par.2.2.1, aw_par.2.2.2] at c5
  have c6 := fun W (h : Below w.heap.size w (W.alloc (.cells (pv [sAB, sC, sA]).toArray 9))) => awClash W (hG2 _ h)
  have c7 := fun W (h : Below w.heap.size w (W.alloc (.cells (pv [sB, sAB, sA, sB, []]).toArray 9))) => awSort W (hG2 _ h)
  have c8 := fun W (h : Below w.heap.size w W) => pathRight ⟨#[97]⟩ (by decide) W (hG2 W h)
  rw [show (⟨#[97]⟩ : ByteArray).data.toList = sA from rfl, aw_right.1] at c8
  have c9 := fun W (h : Below w.heap.size w W) => pathRight ⟨#[97, 47]⟩ (by decide) W (hG2 W h)
  rw [show (⟨#[97, 47]⟩ : ByteArray).data.toList = [97, 47] from rfl, aw_right.2.2.2.2.2] at c9
  have cA := fun W => pathWithin ⟨#[97, 47, 98]⟩ ⟨#[97]⟩ (by decide) W
  rw [show (⟨#[97, 47, 98]⟩ : ByteArray).data.toList = sAB from rfl, show (⟨#[97]⟩ : ByteArray).data.toList = sA from rfl, aw_rest.1] at cA
  have cB := fun W (h : Below w.heap.size w W) => pathCompare ⟨#[97]⟩ ⟨#[98]⟩ (by decide) (by decide) W (hG2 W h)
  rw [show (⟨#[98]⟩ : ByteArray).data.toList = sB from rfl, show (⟨#[97]⟩ : ByteArray).data.toList = sA from rfl, aw_rest.2.1] at cB
  have cC := fun W (h : Below w.heap.size w W) => pathParts ⟨#[97, 47, 98]⟩ (by decide) W (hG2 W h)
  rw [show (⟨#[97, 47, 98]⟩ : ByteArray).data.toList = sAB from rfl, aw_rest.2.2] at cC
  have Hc1 := Lib.hid c1
  have Hc2 := Lib.hid c2
  have Hc3 := Lib.hid c3
  have Hc4 := Lib.hid c4
  have Hc5 := Lib.hid c5
  have Hc6 := Lib.hid c6
  have Hc7 := Lib.hid c7
  have Hc8 := Lib.hid c8
  have Hc9 := Lib.hid c9
  have HcA := Lib.hid cA
  have HcB := Lib.hid cB
  have HcC := Lib.hid cC
  have HhG2 := Lib.hid hG2
  clear c1 c2 c3 c4 c5 c6 c7 c8 c9 cA cB cC hG2
  clear hG
  go_enter Tryd.func42, Tryd.ntmps42
  go_wp2_with fail
  refine (Hc1.out _ (Below.refl _ _)).mono ?_
  rintro e w1 ⟨rfl, b1⟩
  go_wp2_with fail
  refine (Hc2.out _ b1).mono ?_
  rintro e w2 ⟨rfl, b2⟩
  have b3 := b1.trans (b2.mono b1.size)
  clear b1 b2
  go_wp2_with fail
  have b4 := b3.alloc b3.size (.cells (pv [sA, sB]).toArray 9)
  refine (Hc3.out w2 b4).mono ?_
  rintro e w3 ⟨rfl, b5⟩
  have b6 := b4.trans (b5.mono b4.size)
  clear b3 b4 b5
  go_wp2_with fail
  refine (Hc4.out _ b6).mono ?_
  rintro e w4 ⟨rfl, b7⟩
  have b8 := b6.trans (b7.mono b6.size)
  clear b6 b7
  go_wp2_with fail
  refine (Hc5.out _ b8).mono ?_
  rintro e w5 ⟨rfl, b9⟩
  have b10 := b8.trans (b9.mono b8.size)
  clear b8 b9
  go_wp2_with fail
  have b11 := b10.alloc b10.size (.cells (pv [sAB, sC, sA]).toArray 9)
  refine (Hc6.out w5 b11).mono ?_
  rintro e w6 ⟨rfl, b12⟩
  have b13 := b11.trans (b12.mono b11.size)
  clear b10 b11 b12
  go_wp2_with fail
  have b14 := b13.alloc b13.size (.cells (pv [sB, sAB, sA, sB, []]).toArray 9)
  refine (Hc7.out w6 b14).mono ?_
  rintro e w7 ⟨v, rfl, hv, b15⟩
  have b16 := b14.trans (b15.mono b14.size)
  obtain ⟨A, c, rfl⟩ := hv.slice
  obtain ⟨bk, off, hA, hc3, hbk, hcell⟩ := hv.at_ (i := 1) (by decide)
  subst hA
  have hx1 := hcell 1 _ rfl
  clear b13 b14 b15 hcell hv
  go_wp2_with fail
  refine (Hc8.out _ b16).mono ?_
  rintro e w8 ⟨rfl, b17⟩
  have b18 := b16.trans (b17.mono b16.size)
  clear b16 b17
  go_wp2_with fail
  refine (Hc9.out _ b18).mono ?_
  rintro e w9 ⟨rfl, b19⟩
  have b20 := b18.trans (b19.mono b18.size)
  clear b18 b19
  go_wp2_with fail
  refine (HcA.out _).mono ?_
  rintro e w10 ⟨rfl, rfl⟩
  go_wp2_with fail
  refine (HcB.out _ b20).mono ?_
  rintro e w11 ⟨rfl, b21⟩
  have b22 := b20.trans (b21.mono b20.size)
  clear b20 b21
  go_wp2_with fail
  refine (HcC.out _ b22).mono ?_
  rintro e w12 ⟨v, n, rfl, hv, b23⟩
  have b24 := b22.trans (b23.mono b22.size)
  obtain ⟨A', c', rfl⟩ := hv.slice
  obtain rfl : n = 2 := by rw [← hv.1]; rfl
  clear b22 b23 hv
  go_wp2_with fail
  go_ret
  exact ⟨rfl, b24⟩
end Go.Proofs.YtidmjepfpjfkoaaDoor

namespace Go.Proofs.YtidmjepfpjfkoaaDoor
open Go Go.RowKit
set_option maxHeartbeats 8000000
set_option maxRecDepth 20000
set_option linter.unusedVariables false
set_option linter.unusedSimpArgs false

namespace Pm
theorem join_path {s : By} (h : right s = 0) : joinE (cut s) = 0 ∧ joinP (cut s) = s := by
  have h1 : joinE (cut s) = 0 := by
    unfold joinE
    have : (cut s).any (fun x => x.contains 47) = false := by
      rw [List.any_eq_false]
      intro x hx
      have := cut_no s x hx
      simpa using this
    rw [this, if_neg (by simp), join_cut, h]
  exact ⟨h1, by unfold joinP; rw [if_pos h1, join_cut]⟩
theorem normal_path {s : By} (h : right s = 0) : normP s = s ∧ normE s = 0 := by
  obtain ⟨h1, h2⟩ := join_path h
  unfold normP normE
  rw [norm_path h]
  exact ⟨h2, h1⟩
theorem normal_is {s : By} (h : normE s = 0) : right (normP s) = 0 := by
  unfold normE at h
  unfold normP
  cases hn : norm (cut s) [] with
  | none => rw [hn] at h; cases h
  | some l =>
    rw [hn] at h
    simp only at h ⊢
    have h2 := h
    unfold joinP
    rw [if_pos h]
    unfold joinE at h2
    split at h2
    · cases h2
    · exact h2
theorem normP_le (s : By) : (normP s).length ≤ s.length + 1 := by
  unfold normP
  cases hn : norm (cut s) [] with
  | none => simp
  | some l =>
    have h1 := weigh_norm (cut s) [] l hn
    rw [weigh_cut] at h1
    have h2 := weigh_join l
    have h0 : weigh [] = 0 := rfl
    simp only
    unfold joinP
    split
    · omega
    · simp
theorem right_parts {s : By} (h : right s = 0) : (cut s).all part = true ∧ s.length ≤ 64 ∧ (cut s).length ≤ 6 ∧ (cut s).any (fun x => decide (24 < x.length)) = false := by
  have h1 := right_all h
  unfold right at h
  rw [if_pos h1] at h
  split at h
  · cases h
  · rename_i h2
    refine ⟨h1, by omega, by omega, ?_⟩
    cases h3 : (cut s).any (fun x => decide (24 < x.length))
    · rfl
    · exact absurd (.inr (.inr h3)) h2
theorem split_last : ∀ s : By, s.contains 47 = true → ∃ a b, s = a ++ 47 :: b ∧ 47 ∉ b
  | [], h => by simp at h
  | c :: l, h => by
    cases hl : l.contains 47 with
    | true =>
      obtain ⟨a, b, e, hb⟩ := split_last l hl
      exact ⟨c :: a, b, by rw [e]; rfl, hb⟩
    | false =>
      rw [List.contains_cons, hl, Bool.or_false, beq_iff_eq] at h
      subst h
      exact ⟨[], l, rfl, by simpa using hl⟩
/-- the one that a path is within -/
theorem parent_path {s : By} (h : right s = 0) (hc : s.contains 47 = true) : right (joinS (cut s).dropLast) = 0 ∧ within s (joinS (cut s).dropLast) = true ∧ compare (joinS (cut s).dropLast) s = -1 ∧ (cut (joinS (cut s).dropLast)).length + 1 = (cut s).length := by
  obtain ⟨a, b, rfl, hb⟩ := split_last s hc
  have hcut : cut (a ++ 47 :: b) = cut a ++ [b] := by rw [cut_append, cut_plain b hb]
  obtain ⟨h1, h2, h3, h4⟩ := right_parts h
  rw [hcut] at h1 h3 h4 ⊢
  rw [List.dropLast_concat, join_cut]
  have hw : within (a ++ 47 :: b) a = true := (within_iff _ _).2 ⟨[b], by simp, hcut⟩
  refine ⟨?_, hw, within_compare hw, by simp⟩
  rw [List.all_append, Bool.and_eq_true] at h1
  rw [List.any_append, Bool.or_eq_false_iff] at h4
  unfold right
  rw [if_pos h1.1, if_neg]
  rintro (h5 | h5 | h5)
  · simp at h2; omega
  · simp at h3; omega
  · rw [h4.1] at h5; cases h5
theorem no_parent {s : By} (hc : s.contains 47 = false) : (cut s).length = 1 := by
  rw [cut_plain s (by simpa using hc)]; rfl
theorem compare_self (s : By) : compare s s = 0 := cmpL_self _
end Pm

theorem ba_list (s : ByteArray) : (⟨s.data.toList.toArray⟩ : ByteArray) = s := by simp
theorem pathBack (s : ByteArray) (w : World) (hG : Gl w) :
    Calls Tryd.prog 13 #[.string s] w fun e w' => e = .returned (.bool true) ∧ Below w.heap.size w w' := by
  have hgl := hG.lt
  have hG2 : ∀ W, Below w.heap.size w W → Gl W := fun W h => hG.below h hgl
  have c0 := awake03 w hG
  by_cases h300 : (300 : Int) < s.size
  · clear hG2
    have Hc0 := Lib.hid c0
    clear c0
    go_enter Tryd.func13, Tryd.ntmps13
    go_wp2_with fail
    refine Hc0.out.mono ?_
    rintro e w1 ⟨rfl, b1⟩
    go_wp2_with fail
    go_ret
    exact ⟨rfl, b1⟩
  have hsl : s.data.toList.length = s.size := rfl
  have cW := fun W => pathWithin s s (by omega) W
  rw [Pm.within_self] at cW
  have cC := fun W (h : Below w.heap.size w W) => pathCompare s s (by omega) (by omega) W (hG2 W h)
  rw [Pm.compare_self] at cC
  have cR := fun W (h : Below w.heap.size w W) => pathRight s (by omega) W (hG2 W h)
  have cN := fun W (h : Below w.heap.size w W) => pathNormal s (by omega) W (hG2 W h)
  have cP := fun W (h : Below w.heap.size w W) => pathParts s (by omega) W (hG2 W h)
  have cU := fun W (h : Below w.heap.size w W) => pathParent s (by omega) W (hG2 W h)
  by_cases hr : Pm.right s.data.toList = 0
  · -- a path
    have hpp : Pm.parts s.data.toList = Pm.cut s.data.toList := by unfold Pm.parts; rw [if_pos hr]
    obtain ⟨j1, j2⟩ := Pm.join_path hr
    obtain ⟨g1, g2⟩ := Pm.normal_path hr
    obtain ⟨_, _, h6, _⟩ := Pm.right_parts hr
    rw [hr] at cR
    rw [g1, g2, ba_list] at cN
    rw [hpp] at cP
    have cJ := fun (W : World) (h : Below w.heap.size w W) (A : Option Addr) (c : Nat) (hrd : RdS (.slice A (Pm.cut s.data.toList).length c) (Pm.cut s.data.toList).length (pv (Pm.cut s.data.toList)) W.heap.size W) => pathJoin (Pm.cut s.data.toList) (by rw [Pm.join_cut]; omega) (by omega) A c W (hG2 W h) hrd
    rw [j1, j2, ba_list] at cJ
    obtain ⟨n, hn⟩ : ∃ n, n = (Pm.cut s.data.toList).length := ⟨_, rfl⟩
    have cP2 : ∀ W, Below w.heap.size w W → Calls Tryd.prog 52 #[.string s] W fun e w' => ∃ A c, e = .returned (.slice A n c) ∧ RdS (.slice A n c) n (pv (Pm.cut s.data.toList)) w'.heap.size w' ∧ Below W.heap.size W w' := fun W h => (cP W h).mono fun e w' ⟨v, m, h1, h2, h3⟩ => by
      obtain ⟨A, c, rfl⟩ := h2.slice
      have : m = n := by rw [hn, ← h2.1, pv_length]
      subst this
      exact ⟨A, c, h1, h2, h3⟩
    rw [← hn] at cJ h6
    have hn6 : ¬ ((6 : Int) < n) := by omega
    have hpar : par s.data.toList = s.data.toList.contains 47 := by unfold par; rw [hr]; rfl
    rw [hpar] at cU
    have hps : parS s.data.toList = if s.data.toList.contains 47 = true then Pm.joinS (Pm.cut s.data.toList).dropLast else [] := by unfold parS; rw [hpar]
    by_cases hc : s.data.toList.contains 47 = true
    · obtain ⟨p1, p2, p3, p4⟩ := Pm.parent_path hr hc
      rw [if_pos hc] at hps
      rw [← hps] at p1 p2 p3 p4
      rw [hc] at cU
      obtain ⟨u, hu⟩ : ∃ u : ByteArray, u = ⟨(parS s.data.toList).toArray⟩ := ⟨_, rfl⟩
      have hud : u.data.toList = parS s.data.toList := by rw [hu]
      rw [← hu] at cU
      rw [← hud] at p1 p2 p3 p4
      have hus : u.size ≤ 400 := by
        obtain ⟨_, h64, _, _⟩ := Pm.right_parts p1
        show u.data.toList.length ≤ _
        omega
      have cRu := fun W (h : Below w.heap.size w W) => pathRight u (by omega) W (hG2 W h)
      rw [p1] at cRu
      have cWu := fun W => pathWithin s u (by omega) W
      rw [p2] at cWu
      have cCu := fun W (h : Below w.heap.size w W) => pathCompare u s (by omega) (by omega) W (hG2 W h)
      rw [p3] at cCu
      have cPu := fun W (h : Below w.heap.size w W) => pathParts u (by omega) W (hG2 W h)
      obtain ⟨m, hm⟩ : ∃ m, m = (Pm.cut u.data.toList).length := ⟨_, rfl⟩
      have hmn : m + 1 = n := by rw [hm, hn]; exact p4
      have cPu2 : ∀ W, Below w.heap.size w W → Calls Tryd.prog 52 #[.string u] W fun e w' => ∃ A c, e = .returned (.slice A m c) ∧ RdS (.slice A m c) m (pv (Pm.cut u.data.toList)) w'.heap.size w' ∧ Below W.heap.size W w' := fun W h => (cPu W h).mono fun e w' ⟨v, q, h1, h2, h3⟩ => by
        rw [show Pm.parts u.data.toList = Pm.cut u.data.toList by unfold Pm.parts; rw [if_pos p1]] at h2
        obtain ⟨A, c, rfl⟩ := h2.slice
        have : q = m := by rw [hm, ← h2.1, pv_length]
        subst this
        exact ⟨A, c, h1, h2, h3⟩
      have hmn2 : ((n : Int) - 1) = (m : Int) := by omega
      have Hc0 := Lib.hid c0
      have HcW := Lib.hid cW
      have HcC := Lib.hid cC
      have HcR := Lib.hid cR
      have HcN := Lib.hid cN
      have HcP2 := Lib.hid cP2
      have HcU := Lib.hid cU
      have HcJ := Lib.hid cJ
      have HhG2 := Lib.hid hG2
      have HcRu := Lib.hid cRu
      have HcWu := Lib.hid cWu
      have HcCu := Lib.hid cCu
      have HcPu2 := Lib.hid cPu2
      have Hhps := Lib.hid hps
      clear c0 cW cC cR cN cP2 cU cJ hG2 cRu cWu cCu cPu2 hps
      clear p1 p2 p3 p4 hu hud cPu hm hc
      clear hG hr hpp j1 j2 g1 g2 hsl cP hn hpar hgl h6
      go_enter Tryd.func13, Tryd.ntmps13
      go_wp2_with fail
      refine Hc0.out.mono ?_
      rintro e w1 ⟨rfl, b1⟩
      go_wp2_with fail
      refine (HcW.out _).mono ?_
      rintro e w2 ⟨rfl, rfl⟩
      go_wp2_with fail
      refine (HcC.out _ b1).mono ?_
      rintro e w11 ⟨rfl, b2⟩
      have b3 := b1.trans (b2.mono b1.size)
      clear b1 b2
      go_wp2_with fail
      refine (HcN.out _ b3).mono ?_
      rintro e w13 ⟨rfl, b4⟩
      have b5 := b3.trans (b4.mono b3.size)
      clear b3 b4
      go_wp2_with fail
      refine (HcN.out _ b5).mono ?_
      rintro e w15 ⟨rfl, b6⟩
      have b7 := b5.trans (b6.mono b5.size)
      clear b5 b6
      go_wp2_with fail
      refine (HcR.out _ b7).mono ?_
      rintro e w17 ⟨rfl, b8⟩
      have b9 := b7.trans (b8.mono b7.size)
      clear b7 b8
      go_wp2_with fail
      refine (HcR.out _ b9).mono ?_
      rintro e w19 ⟨rfl, b10⟩
      have b11 := b9.trans (b10.mono b9.size)
      clear b9 b10
      go_wp2_with fail
      refine (HcP2.out _ b11).mono ?_
      rintro e w21 ⟨A11, c11, rfl, hv11, b12⟩
      have b13 := b11.trans (b12.mono b11.size)
      clear b11 b12
      have HV11 := Lib.hid hv11
      clear hv11
      go_wp2_with fail
      refine (HcJ.out _ b13 _ _ HV11.out).mono ?_
      rintro e w23 ⟨rfl, b14⟩
      have b15 := b13.trans (b14.mono b13.size)
      clear b13 b14
      go_wp2_with fail
      refine (HcN.out _ b15).mono ?_
      rintro e w25 ⟨rfl, b16⟩
      have b17 := b15.trans (b16.mono b15.size)
      clear b15 b16
      go_wp2_with fail
      refine (HcP2.out _ b17).mono ?_
      rintro e w27 ⟨A17, c17, rfl, hv17, b18⟩
      have b19 := b17.trans (b18.mono b17.size)
      clear b17 b18
      have HV17 := Lib.hid hv17
      clear hv17
      go_wp2_with fail
      refine (HcU.out _ b19).mono ?_
      rintro e w29 ⟨rfl, b20⟩
      have b21 := b19.trans (b20.mono b19.size)
      clear b19 b20
      go_wp2_with fail
      refine (HcRu.out _ b21).mono ?_
      rintro e wa ⟨rfl, b22⟩
      have b23 := b21.trans (b22.mono b21.size)
      clear b21 b22
      go_wp2_with fail
      refine (HcWu.out _).mono ?_
      rintro e wb ⟨rfl, rfl⟩
      go_wp2_with fail
      refine (HcCu.out _ b23).mono ?_
      rintro e w33 ⟨rfl, b24⟩
      have b25 := b23.trans (b24.mono b23.size)
      clear b23 b24
      go_wp2_with fail
      refine (HcPu2.out _ b25).mono ?_
      rintro e w35 ⟨A25, c25, rfl, hv25, b26⟩
      have b27 := b25.trans (b26.mono b25.size)
      clear b25 b26
      have HV25 := Lib.hid hv25
      clear hv25
      go_wp2_with fail
      refine (HcP2.out _ b27).mono ?_
      rintro e w37 ⟨A27, c27, rfl, hv27, b28⟩
      have b29 := b27.trans (b28.mono b27.size)
      clear b27 b28
      have HV27 := Lib.hid hv27
      clear hv27
      go_wp2_with fail
      go_ret
      exact ⟨rfl, b29⟩
    · have hc2 : s.data.toList.contains 47 = false := by simpa using hc
      rw [if_neg hc] at hps
      rw [hps, hc2] at cU
      obtain rfl : n = 1 := by rw [hn]; exact Pm.no_parent hc2
      have Hc0 := Lib.hid c0
      have HcW := Lib.hid cW
      have HcC := Lib.hid cC
      have HcR := Lib.hid cR
      have HcN := Lib.hid cN
      have HcP2 := Lib.hid cP2
      have HcU := Lib.hid cU
      have HcJ := Lib.hid cJ
      have HhG2 := Lib.hid hG2
      have Hhps := Lib.hid hps
      clear c0 cW cC cR cN cP2 cU cJ hG2 hps
      clear hc hc2
      clear hG hr hpp j1 j2 g1 g2 hsl cP hn hpar hgl h6
      go_enter Tryd.func13, Tryd.ntmps13
      go_wp2_with fail
      refine Hc0.out.mono ?_
      rintro e w1 ⟨rfl, b1⟩
      go_wp2_with fail
      refine (HcW.out _).mono ?_
      rintro e w2 ⟨rfl, rfl⟩
      go_wp2_with fail
      refine (HcC.out _ b1).mono ?_
      rintro e w11 ⟨rfl, b2⟩
      have b3 := b1.trans (b2.mono b1.size)
      clear b1 b2
      go_wp2_with fail
      refine (HcN.out _ b3).mono ?_
      rintro e w13 ⟨rfl, b4⟩
      have b5 := b3.trans (b4.mono b3.size)
      clear b3 b4
      go_wp2_with fail
      refine (HcN.out _ b5).mono ?_
      rintro e w15 ⟨rfl, b6⟩
      have b7 := b5.trans (b6.mono b5.size)
      clear b5 b6
      go_wp2_with fail
      refine (HcR.out _ b7).mono ?_
      rintro e w17 ⟨rfl, b8⟩
      have b9 := b7.trans (b8.mono b7.size)
      clear b7 b8
      go_wp2_with fail
      refine (HcR.out _ b9).mono ?_
      rintro e w19 ⟨rfl, b10⟩
      have b11 := b9.trans (b10.mono b9.size)
      clear b9 b10
      go_wp2_with fail
      refine (HcP2.out _ b11).mono ?_
      rintro e w21 ⟨A11, c11, rfl, hv11, b12⟩
      have b13 := b11.trans (b12.mono b11.size)
      clear b11 b12
      have HV11 := Lib.hid hv11
      clear hv11
      go_wp2_with fail
      refine (HcJ.out _ b13 _ _ HV11.out).mono ?_
      rintro e w23 ⟨rfl, b14⟩
      have b15 := b13.trans (b14.mono b13.size)
      clear b13 b14
      go_wp2_with fail
      refine (HcN.out _ b15).mono ?_
      rintro e w25 ⟨rfl, b16⟩
      have b17 := b15.trans (b16.mono b15.size)
      clear b15 b16
      go_wp2_with fail
      refine (HcP2.out _ b17).mono ?_
      rintro e w27 ⟨A17, c17, rfl, hv17, b18⟩
      have b19 := b17.trans (b18.mono b17.size)
      clear b17 b18
      have HV17 := Lib.hid hv17
      clear hv17
      go_wp2_with fail
      refine (HcU.out _ b19).mono ?_
      rintro e w29 ⟨rfl, b20⟩
      have b21 := b19.trans (b20.mono b19.size)
      clear b19 b20
      go_wp2_with fail
      refine (HcP2.out _ b21).mono ?_
      rintro e w31 ⟨A21, c21, rfl, hv21, b22⟩
      have b23 := b21.trans (b22.mono b21.size)
      clear b21 b22
      have HV21 := Lib.hid hv21
      clear hv21
      go_wp2_with fail
      go_ret
      exact ⟨rfl, b23⟩
  · -- no path
    have hpp : Pm.parts s.data.toList = [] := by unfold Pm.parts; rw [if_neg hr]
    rw [hpp] at cP
    obtain ⟨r, hrr⟩ : ∃ r, r = Pm.right s.data.toList := ⟨_, rfl⟩
    rw [← hrr] at hr cR
    have hne : ((r : Int) != 0) = true := by rw [bne_iff_ne]; omega
    by_cases hn : Pm.normE s.data.toList = 0
    · have hnr := Pm.normal_is hn
      have hnl := Pm.normP_le s.data.toList
      rw [hn] at cN
      obtain ⟨n, hnn⟩ : ∃ n : ByteArray, n = ⟨(Pm.normP s.data.toList).toArray⟩ := ⟨_, rfl⟩
      have hnd : n.data.toList = Pm.normP s.data.toList := by rw [hnn]
      have hns : n.size ≤ 400 := by show n.data.toList.length ≤ _; rw [hnd]; omega
      rw [← hnn] at cN
      rw [← hnd] at hnr
      have cN2 := fun W (h : Below w.heap.size w W) => pathNormal n (by omega) W (hG2 W h)
      obtain ⟨g1, g2⟩ := Pm.normal_path hnr
      rw [g1, g2, ba_list] at cN2
      have cR2 := fun W (h : Below w.heap.size w W) => pathRight n (by omega) W (hG2 W h)
      rw [hnr] at cR2
      have Hc0 := Lib.hid c0
      have HcW := Lib.hid cW
      have HcC := Lib.hid cC
      have HcR := Lib.hid cR
      have HcN := Lib.hid cN
      have HcP := Lib.hid cP
      have HcU := Lib.hid cU
      have HcN2 := Lib.hid cN2
      have HcR2 := Lib.hid cR2
      have HhG2 := Lib.hid hG2
      have Hhpp := Lib.hid hpp
      clear c0 cW cC cR cN cP cU cN2 cR2 hG2 hpp
      clear hG hrr hn hnr hnl hnn hnd hsl g1 g2
      go_enter Tryd.func13, Tryd.ntmps13
      go_wp2_with fail
      refine Hc0.out.mono ?_
      rintro e w1 ⟨rfl, b1⟩
      go_wp2_with fail
      refine (HcW.out _).mono ?_
      rintro e w2 ⟨rfl, rfl⟩
      go_wp2_with fail
      refine (HcC.out _ b1).mono ?_
      rintro e w3 ⟨rfl, b2⟩
      have b3 := b1.trans (b2.mono b1.size)
      clear b1 b2
      go_wp2_with fail
      refine (HcN.out _ b3).mono ?_
      rintro e w4 ⟨rfl, b4⟩
      have b5 := b3.trans (b4.mono b3.size)
      clear b3 b4
      go_wp2_with fail
      refine (HcN2.out _ b5).mono ?_
      rintro e w5 ⟨rfl, b6⟩
      have b7 := b5.trans (b6.mono b5.size)
      clear b5 b6
      go_wp2_with fail
      refine (HcR2.out _ b7).mono ?_
      rintro e w6 ⟨rfl, b8⟩
      have b9 := b7.trans (b8.mono b7.size)
      clear b7 b8
      go_wp2_with fail
      refine (HcR.out _ b9).mono ?_
      rintro e w7 ⟨rfl, b10⟩
      have b11 := b9.trans (b10.mono b9.size)
      clear b9 b10
      go_wp2_with fail
      refine (HcP.out _ b11).mono ?_
      rintro e w8 ⟨v, m, rfl, hv, b12⟩
      have b13 := b11.trans (b12.mono b11.size)
      obtain ⟨A', c', rfl⟩ := hv.slice
      obtain rfl : m = 0 := by rw [← hv.1]; rfl
      clear b11 b12 hv
      go_wp2_with fail
      go_ret
      exact ⟨rfl, b13⟩
    · have hn2 : (((Pm.normE s.data.toList : Nat) : Int) == 0) = false := by rw [beq_eq_false_iff_ne]; omega
      generalize Pm.normE s.data.toList = en at *
      generalize (⟨(Pm.normP s.data.toList).toArray⟩ : ByteArray) = n at *
      have Hc0 := Lib.hid c0
      have HcW := Lib.hid cW
      have HcC := Lib.hid cC
      have HcR := Lib.hid cR
      have HcN := Lib.hid cN
      have HcP := Lib.hid cP
      have HcU := Lib.hid cU
      have HhG2 := Lib.hid hG2
      have Hhpp := Lib.hid hpp
      clear c0 cW cC cR cN cP cU hG2 hpp
      clear hG hrr hn hsl
      go_enter Tryd.func13, Tryd.ntmps13
      go_wp2_with fail
      refine Hc0.out.mono ?_
      rintro e w1 ⟨rfl, b1⟩
      go_wp2_with fail
      refine (HcW.out _).mono ?_
      rintro e w2 ⟨rfl, rfl⟩
      go_wp2_with fail
      refine (HcC.out _ b1).mono ?_
      rintro e w3 ⟨rfl, b2⟩
      have b3 := b1.trans (b2.mono b1.size)
      clear b1 b2
      go_wp2_with fail
      refine (HcN.out _ b3).mono ?_
      rintro e w4 ⟨rfl, b4⟩
      have b9 := b3.trans (b4.mono b3.size)
      clear b3 b4
      go_wp2_with fail
      refine (HcR.out _ b9).mono ?_
      rintro e w7 ⟨rfl, b10⟩
      have b11 := b9.trans (b10.mono b9.size)
      clear b9 b10
      go_wp2_with fail
      refine (HcP.out _ b11).mono ?_
      rintro e w8 ⟨v, m, rfl, hv, b12⟩
      have b13 := b11.trans (b12.mono b11.size)
      obtain ⟨A', c', rfl⟩ := hv.slice
      obtain rfl : m = 0 := by rw [← hv.1]; rfl
      clear b11 b12 hv
      go_wp2_with fail
      go_ret
      exact ⟨rfl, b13⟩
end Go.Proofs.YtidmjepfpjfkoaaDoor

namespace Go.Proofs.YtidmjepfpjfkoaaDoor
open Go Go.RowKit
set_option maxHeartbeats 8000000
set_option maxRecDepth 20000
set_option linter.unusedVariables false
set_option linter.unusedSimpArgs false

theorem wrap_small {x : Int} (h : 0 ≤ x) (h2 : x ≤ 1000000) : IntKind.i64.wrap x = x := by
  simp [IntKind.wrap, IntKind.bits, IntKind.signed]
  omega
theorem fewB_is {ps : List (List UInt8)} (h : fewB ps = true) : ps.length ≤ 60 ∧ ∀ x ∈ ps, x.length ≤ 300 := by
  unfold fewB at h
  rw [Bool.and_eq_true, List.all_eq_true] at h
  exact ⟨of_decide_eq_true h.1, fun x hx => of_decide_eq_true (h.2 x hx)⟩
theorem isSort_self {l xs : List (List UInt8)} (h : Pm.IsSort l xs) : Pm.IsSort xs xs :=
  ⟨h.up, fun x => ⟨fun hx => ⟨hx, ((h.mem x).1 hx).2⟩, fun hx => hx.1⟩⟩

theorem pathChain (a b d : ByteArray) (ps : List (List UInt8)) (A : Option Addr) (c : Nat) (w : World) (hG : Gl w) (hrd : RdS (.slice A ps.length c) ps.length (pv ps) w.heap.size w) :
    Calls Tryd.prog 14 #[.string a, .string b, .string d, .slice A ps.length c] w fun e w' => e = .returned (.bool true) ∧ Below w.heap.size w w' := by
  have hgl := hG.lt
  have hG2 : ∀ W, Below w.heap.size w W → Gl W := fun W h => hG.below h hgl
  have c0 := awake03 w hG
  have cF := fun W (h : Below w.heap.size w W) => few03 ps A c W ((hrd.below h).mono h.size)
  obtain ⟨n, hn⟩ : ∃ n, n = ps.length := ⟨_, rfl⟩
  rw [← hn] at cF hrd ⊢
  obtain ⟨f, hf⟩ : ∃ f, f = fewB ps := ⟨_, rfl⟩
  rw [← hf] at cF
  by_cases ha : (300 : Int) < a.size
  · clear hG2 hf hn hG hrd
    have Hc0 := Lib.hid c0
    have HcF := Lib.hid cF
    clear c0 cF
    go_enter Tryd.func14, Tryd.ntmps14
    go_wp2_with fail
    refine Hc0.out.mono ?_
    rintro e w1 ⟨rfl, b1⟩
    go_wp2_with fail
    go_ret
    exact ⟨rfl, b1⟩
  by_cases hb : (300 : Int) < b.size
  · clear hG2 hf hn hG hrd
    have Hc0 := Lib.hid c0
    have HcF := Lib.hid cF
    clear c0 cF
    go_enter Tryd.func14, Tryd.ntmps14
    go_wp2_with fail
    refine Hc0.out.mono ?_
    rintro e w1 ⟨rfl, b1⟩
    go_wp2_with fail
    go_ret
    exact ⟨rfl, b1⟩
  by_cases hd : (300 : Int) < d.size
  · clear hG2 hf hn hG hrd
    have Hc0 := Lib.hid c0
    have HcF := Lib.hid cF
    clear c0 cF
    go_enter Tryd.func14, Tryd.ntmps14
    go_wp2_with fail
    refine Hc0.out.mono ?_
    rintro e w1 ⟨rfl, b1⟩
    go_wp2_with fail
    go_ret
    exact ⟨rfl, b1⟩
  cases f with
  | false =>
    clear hG2 hf hn hG hrd
    have Hc0 := Lib.hid c0
    have HcF := Lib.hid cF
    clear c0 cF
    go_enter Tryd.func14, Tryd.ntmps14
    go_wp2_with fail
    refine Hc0.out.mono ?_
    rintro e w1 ⟨rfl, b1⟩
    go_wp2_with fail
    refine (HcF.out _ b1).mono ?_
    rintro e w2 ⟨rfl, rfl⟩
    go_wp2_with fail
    go_ret
    exact ⟨rfl, b1⟩
  | true =>
    obtain ⟨hlen, hps⟩ := fewB_is hf.symm
    rw [← hn] at hlen
    have cab := fun W (h : Below w.heap.size w W) => pathCompare a b (by omega) (by omega) W (hG2 W h)
    have cbc := fun W (h : Below w.heap.size w W) => pathCompare b d (by omega) (by omega) W (hG2 W h)
    have cac := fun W (h : Below w.heap.size w W) => pathCompare a d (by omega) (by omega) W (hG2 W h)
    have cba := fun W (h : Below w.heap.size w W) => pathCompare b a (by omega) (by omega) W (hG2 W h)
    have wab := fun W => pathWithin a b (by omega) W
    have wbc := fun W => pathWithin b d (by omega) W
    have wac := fun W => pathWithin a d (by omega) W
    have hturn := Pm.cmp_neg a.data.toList b.data.toList
    have h3ab := Pm.cmpL_three (Pm.cut a.data.toList) (Pm.cut b.data.toList)
    have h3bc := Pm.cmpL_three (Pm.cut b.data.toList) (Pm.cut d.data.toList)
    have h3ac := Pm.cmpL_three (Pm.cut a.data.toList) (Pm.cut d.data.toList)
    have htr := Pm.cmpL_trans (Pm.cut a.data.toList) (Pm.cut b.data.toList) (Pm.cut d.data.toList)
    have hz : (a.toList == b.toList) = decide (Pm.compare a.data.toList b.data.toList = 0) := by
      rw [ByteArray.toList_eq, ByteArray.toList_eq]
      apply Bool.eq_iff_iff.2
      rw [beq_iff_eq, decide_eq_true_eq]
      constructor
      · intro h; rw [h]; exact Pm.compare_self _
      · exact Pm.cmp_eq
    have hwt : Pm.within a.data.toList b.data.toList = true → Pm.within b.data.toList d.data.toList = true → Pm.within a.data.toList d.data.toList = true := Pm.within_trans
    have hwc : Pm.within a.data.toList b.data.toList = true → Pm.compare a.data.toList b.data.toList = 1 := fun h => by
      have := Pm.within_compare h
      have := Pm.cmp_neg a.data.toList b.data.toList
      omega
    change Pm.compare a.data.toList b.data.toList = -1 ∨ Pm.compare a.data.toList b.data.toList = 0 ∨ Pm.compare a.data.toList b.data.toList = 1 at h3ab
    change Pm.compare b.data.toList d.data.toList = -1 ∨ Pm.compare b.data.toList d.data.toList = 0 ∨ Pm.compare b.data.toList d.data.toList = 1 at h3bc
    change Pm.compare a.data.toList d.data.toList = -1 ∨ Pm.compare a.data.toList d.data.toList = 0 ∨ Pm.compare a.data.toList d.data.toList = 1 at h3ac
    change Pm.compare a.data.toList b.data.toList < 0 → Pm.compare b.data.toList d.data.toList < 0 → Pm.compare a.data.toList d.data.toList < 0 at htr
    generalize Pm.compare a.data.toList b.data.toList = ab at *
    generalize Pm.compare b.data.toList d.data.toList = bc at *
    generalize Pm.compare a.data.toList d.data.toList = ac at *
    generalize Pm.compare b.data.toList a.data.toList = ba at *
    generalize Pm.within a.data.toList b.data.toList = vab at *
    generalize Pm.within b.data.toList d.data.toList = vbc at *
    generalize Pm.within a.data.toList d.data.toList = vac at *
    subst hturn
    have hs1 := fun (W : World) (h : Below w.heap.size w W) (A : Option Addr) (c : Nat) (hr : RdS (.slice A ps.length c) ps.length (pv ps) W.heap.size W) => pathSort ps (fun x hx => by have := hps x hx; omega) (by omega) A c W (hG2 W h) hr
    rw [← hn] at hs1
    obtain ⟨i0, hi0, hz0, hz1, hz2⟩ := info_parts info_str
    have Hc0 := Lib.hid c0
    have HcF := Lib.hid cF
    have Hcab := Lib.hid cab
    have Hcbc := Lib.hid cbc
    have Hcac := Lib.hid cac
    have Hcba := Lib.hid cba
    have Hwab := Lib.hid wab
    have Hwbc := Lib.hid wbc
    have Hwac := Lib.hid wac
    have HhG2 := Lib.hid hG2
    have Hhs1 := Lib.hid hs1
    have Hhrd := Lib.hid hrd
    have Hhps := Lib.hid hps
    have Hhn := Lib.hid hn
    have Hh3bc := Lib.hid h3bc
    have Hh3ac := Lib.hid h3ac
    have Hhtr := Lib.hid htr
    have Hhwt := Lib.hid hwt
    have Hhwc := Lib.hid hwc
    have Hh3ab := Lib.hid h3ab
    clear c0 cF cab cbc cac cba wab wbc wac hG2 hs1 hrd hps hn h3bc h3ac htr hwt hwc h3ab
    clear hf hG
    go_enter Tryd.func14, Tryd.ntmps14
    go_wp2_with fail
    refine Hc0.out.mono ?_
    rintro e w1 ⟨rfl, b1⟩
    go_wp2_with fail
    refine (HcF.out _ b1).mono ?_
    rintro e w2 ⟨rfl, rfl⟩
    go_wp2_with fail
    refine (Hcab.out _ b1).mono ?_
    rintro e w3 ⟨rfl, b2⟩
    have b3 := b1.trans (b2.mono b1.size)
    clear b1 b2
    go_wp2_with fail
    refine (Hcbc.out _ b3).mono ?_
    rintro e w4 ⟨rfl, b4⟩
    have b5 := b3.trans (b4.mono b3.size)
    clear b3 b4
    go_wp2_with fail
    refine (Hcac.out _ b5).mono ?_
    rintro e w5 ⟨rfl, b6⟩
    have b7 := b5.trans (b6.mono b5.size)
    clear b5 b6
    go_upto_region 6 with fail
    go_cut [94] (fun v wx => v = .bool false ∧ Hid (Below w.heap.size w wx))
    case first =>
      go_wp2_with fail
      refine (Hcba.out _ b7).mono ?_
      rintro e w6 ⟨rfl, b8⟩
      have b9 := b7.trans (b8.mono b7.size)
      clear b7 b8
      have B9 := Lib.hid b9
      clear b9
      rcases Hh3ab.out with rfl | rfl | rfl
      · obtain rfl : vab = false := by cases vab with
          | false => rfl
          | true => have := Hhwc.out rfl; omega
        rw [show decide ((-1 : Int) = 0) = false from rfl] at hz
        by_cases hbc : bc < 0
        · have hac : ac < 0 := Hhtr.out (by decide) hbc
          have hac2 : ¬ (0 ≤ ac) := by omega
          go_wp2_with fail
          refine (Hwab.out _).mono ?_
          rintro e w7 ⟨rfl, rfl⟩
          go_wp2_with fail
          refine (Hwab.out _).mono ?_
          rintro e w8 ⟨rfl, rfl⟩
          go_wp2_with fail
          go_meet
          case rel => exact ⟨congrArg Value.bool (decide_eq_false (by omega)), B9⟩
        · go_wp2_with fail
          refine (Hwab.out _).mono ?_
          rintro e w7 ⟨rfl, rfl⟩
          go_wp2_with fail
          refine (Hwab.out _).mono ?_
          rintro e w8 ⟨rfl, rfl⟩
          go_wp2_with fail
          go_meet
          case rel => exact ⟨rfl, B9⟩
      · obtain rfl : vab = false := by cases vab with
          | false => rfl
          | true => have := Hhwc.out rfl; omega
        rw [show decide ((0 : Int) = 0) = true from rfl] at hz
        go_wp2_with fail
        refine (Hwab.out _).mono ?_
        rintro e w7 ⟨rfl, rfl⟩
        go_wp2_with fail
        refine (Hwab.out _).mono ?_
        rintro e w8 ⟨rfl, rfl⟩
        go_wp2_with fail
        go_meet
        case rel => exact ⟨rfl, B9⟩
      · rw [show decide ((1 : Int) = 0) = false from rfl] at hz
        cases vab with
        | false =>
          go_wp2_with fail
          refine (Hwab.out _).mono ?_
          rintro e w7 ⟨rfl, rfl⟩
          go_wp2_with fail
          refine (Hwab.out _).mono ?_
          rintro e w8 ⟨rfl, rfl⟩
          go_wp2_with fail
          go_meet
          case rel => exact ⟨rfl, B9⟩
        | true =>
          cases vbc with
          | false =>
            go_wp2_with fail
            refine (Hwab.out _).mono ?_
            rintro e w7 ⟨rfl, rfl⟩
            go_wp2_with fail
            refine (Hwbc.out _).mono ?_
            rintro e w8 ⟨rfl, rfl⟩
            go_wp2_with fail
            refine (Hwab.out _).mono ?_
            rintro e w9 ⟨rfl, rfl⟩
            go_wp2_with fail
            go_meet
            case rel => exact ⟨rfl, B9⟩
          | true =>
            obtain rfl : vac = true := Hhwt.out rfl rfl
            go_wp2_with fail
            refine (Hwab.out _).mono ?_
            rintro e w7 ⟨rfl, rfl⟩
            go_wp2_with fail
            refine (Hwbc.out _).mono ?_
            rintro e w8 ⟨rfl, rfl⟩
            go_wp2_with fail
            refine (Hwac.out _).mono ?_
            rintro e wx ⟨rfl, rfl⟩
            go_wp2_with fail
            refine (Hwab.out _).mono ?_
            rintro e w9 ⟨rfl, rfl⟩
            go_wp2_with fail
            go_meet
            case rel => exact ⟨rfl, B9⟩
    case rest =>
      obtain ⟨rfl, B⟩ := hcut
      clear b7 hz
      have s1 := B.out.size
      have b2 := B.out.alloc s1 (.cells #[] 9)
      have hO := owns_empty wc w.heap.size 9 s1
      have hR := Hhrd.out.below b2
      have s2 : w.heap.size ≤ (wc.alloc (.cells #[] 9)).heap.size := b2.size
      go_wp2_with (at_builtin; refine kl_append_rdg rfl _ _ 56 rfl w.heap.size 9 i0 (.string ⟨#[]⟩) 16 Tryd.underlying56 hi0 hz0 hz1 hz2 rfl _ 0 [] rfl hO _ n (pv ps) _ rfl hR (pv_one _) (by omega) (by omega) s2 ?_; intro v3 w3 hown hgr hb3)
      rw [List.nil_append, Nat.zero_add] at hown
      have hr3 := owns_rdS hown
      have b3 := b2.trans hb3
      clear hO hR hown hgr hb3 b2 s1 s2
      obtain ⟨A3, c3, rfl⟩ := hr3.slice
      have hS1 := Lib.hid (Hhs1.out w3 b3 A3 c3 hr3)
      clear hr3
      go_wp2_with fail
      refine hS1.out.mono ?_
      rintro e w4 ⟨v4, xs, rfl, hv4, hb4, hI4, hl4⟩
      clear hS1
      have b4 := b3.trans (hb4.mono b3.size)
      clear b3 hb4
      obtain ⟨m, hm⟩ : ∃ m, m = xs.length := ⟨_, rfl⟩
      rw [← hm] at hv4 hl4
      obtain ⟨A4, c4, rfl⟩ := hv4.slice
      have hxs : ∀ z ∈ xs, z.length ≤ 300 := fun z hz => Hhps.out z ((hI4.mem z).1 hz).1
      have s4 := b4.size
      have b5 := b4.alloc s4 (.cells #[] 9)
      have hO := owns_empty w4 w.heap.size 9 s4
      have hR := (hv4.below ((Below.refl w4.heap.size w4).alloc (Nat.le_refl _) (.cells #[] 9)))
      have s5 : w.heap.size ≤ (w4.alloc (.cells #[] 9)).heap.size := b5.size
      have s6 : w4.heap.size ≤ (w4.alloc (.cells #[] 9)).heap.size := by rw [size_alloc]; omega
      have hO4 := owns_empty w4 w4.heap.size 9 (Nat.le_refl _)
      have Hhm := Lib.hid hm
      have Hhxs := Lib.hid hxs
      have Hhv4 := Lib.hid hv4
      have HhI4 := Lib.hid hI4
      clear hm hxs hv4 hI4
      go_wp2_with (at_builtin; refine kl_append_rdg rfl _ _ 56 rfl w4.heap.size 9 i0 (.string ⟨#[]⟩) 16 Tryd.underlying56 hi0 hz0 hz1 hz2 rfl _ 0 [] rfl hO4 _ m (pv xs) _ rfl hR (pv_one _) (by omega) (by omega) s6 ?_; intro v5 w5 hown hgr hb5)
      rw [List.nil_append, Nat.zero_add] at hown
      have hr5 := owns_rdS hown
      have hv5 := (Hhv4.out.below (((Below.refl w4.heap.size w4).alloc (Nat.le_refl _) (.cells #[] 9)).trans hb5))
      have b6 := b5.trans (hb5.mono s4)
      have s7 := hb5.size
      rw [size_alloc] at s7
      clear hO hR hown hgr hb5 b5 b4 hO4 s6 s5
      obtain ⟨A5, c5, rfl⟩ := hr5.slice
      have hS2 := Lib.hid (pathSort xs (fun z hz => by have := Hhxs.out z hz; omega) (by rw [← Hhm.out]; omega) A5 c5 w5 (HhG2.out w5 b6) (by rw [← Hhm.out]; exact hr5))
      rw [← Hhm.out] at hS2
      clear hr5
      have Hhv5 := Lib.hid hv5
      clear hv5
      go_wp2_with fail
      refine hS2.out.mono ?_
      rintro e w6 ⟨v6, ys, rfl, hv6, hb6, hI6, hl6⟩
      obtain rfl : ys = xs := hI6.unique (isSort_self HhI4.out)
      rw [← Hhm.out] at hv6
      obtain ⟨A6, c6, rfl⟩ := hv6.slice
      have b8 := b6.trans (hb6.mono b6.size)
      have hv7 := (Hhv5.out.below (hb6.mono (by omega))).mono (show w4.heap.size ≤ w6.heap.size by have := hb6.size; omega)
      have hsm := Lib.hid (same3 A4 A6 m c4 c6 (by omega) ys w6 hv7 hv6)
      clear hS2 hI6 hl6 b6 hb6 hv6
      have Hhv7 := Lib.hid hv7
      clear hv7
      go_wp2_with fail
      refine hsm.out.mono ?_
      rintro e w7 ⟨rfl, hb7⟩
      have b9 := b8.trans (hb7.mono b8.size)
      have hv8 := Hhv7.out.below hb7
      have hv9 := hv8.mono hb7.size
      clear b8 hb7 hsm hv8 Hhv7 Hhv5
      have hmn : ¬ ((n : Int) < m) := by omega
      have Hhv9 := Lib.hid hv9
      clear hv9
      go_wp2_with fail
      go_loopw [14] (fun iv wr => ∃ i : Nat, i ≤ m ∧ iv = .int .i64 (i : Int) ∧ Hid (Kn w7.heap.size w7 [] wr)) (fun iv _ => m - (intOf iv).toNat)
      case atStart => exact ⟨0, by omega, rfl, Kn.start w7⟩
      case round =>
        obtain ⟨i, hi, rfl, K⟩ := hrel
        have hbi : (0 : Int) ≤ i := by omega
        by_cases hin : i + 1 < m
        · have hil : i + 1 < ys.length := by rw [← Hhm.out]; exact hin
          obtain ⟨bk, off, hA, hcn, hbb, hcell⟩ := Hhv9.out.at_ (i := i) (by omega)
          subst hA
          have hx1 := hcell i _ (pv_get ys i (by omega))
          have hx2 := hcell (i + 1) _ (pv_get ys (i + 1) hil)
          clear hcell
          have hl1 := Hhxs.out _ (List.getElem_mem (show i < ys.length by omega))
          have hl2 := Hhxs.out _ (List.getElem_mem hil)
          obtain ⟨x1, e1⟩ : ∃ x : ByteArray, x = ⟨(ys[i]'(by omega)).toArray⟩ := ⟨_, rfl⟩
          obtain ⟨x2, e2⟩ : ∃ x : ByteArray, x = ⟨ys[i + 1].toArray⟩ := ⟨_, rfl⟩
          rw [← e1] at hx1
          rw [← e2] at hx2
          have d1 : x1.data.toList = ys[i]'(by omega) := by rw [e1]
          have d2 : x2.data.toList = ys[i + 1] := by rw [e2]
          have z1 : x1.size ≤ 300 := by rw [e1]; show (ys[i]'(by omega)).toArray.size ≤ _; simpa using hl1
          have z2 : x2.size ≤ 300 := by rw [e2]; show ys[i + 1].toArray.size ≤ _; simpa using hl2
          have hup := List.pairwise_iff_getElem.1 HhI4.out.up i (i + 1) (by omega) hil (by omega)
          have hcm := fun (wS : World) (hS : Kn w7.heap.size w7 [] wS) => pathCompare x1 x2 (by omega) (by omega) wS (HhG2.out wS (b9.trans (hS.below.mono b9.size)))
          rw [d1, d2, hup] at hcm
          have hr1 : ∀ wS, Kn w7.heap.size w7 [] wS → wS.cell? ⟨bk, off + i, none⟩ = some (.string x1) := fun wS hS => (Below.cell hS.below (p := ⟨bk, off + i, none⟩) hbb).trans hx1
          have hr2 : ∀ wS, Kn w7.heap.size w7 [] wS → wS.cell? ⟨bk, off + (i + 1), none⟩ = some (.string x2) := fun wS hS => (Below.cell hS.below (p := ⟨bk, off + (i + 1), none⟩) hbb).trans hx2
          have hb1 : (i : Int) + 1 < m := by omega
          have hb2 : (i : Int) < m := by omega
          have hwr : IntKind.i64.wrap ((i : Int) + 1) = (i : Int) + 1 := wrap_small (by omega) (by omega)
          have hb0 : (0 : Int) ≤ (i : Int) + 1 := by omega
          have Hhx1 := Lib.hid hx1
          have Hhx2 := Lib.hid hx2
          have He1 := Lib.hid e1
          have He2 := Lib.hid e2
          have Hd1 := Lib.hid d1
          have Hd2 := Lib.hid d2
          have Hhup := Lib.hid hup
          have Hhcm := Lib.hid hcm
          have Hhr1 := Lib.hid hr1
          have Hhr2 := Lib.hid hr2
          have Hhl1 := Lib.hid hl1
          have Hhl2 := Lib.hid hl2
          clear hx1 hx2 e1 e2 d1 d2 hup hcm hr1 hr2 hl1 hl2
          go_wp2_with fail
          refine wp_region_abs w7.heap.size w7 [] ((true, 0) :: (true, 1) :: (true, 2) :: (true, 3) :: (true, 4) :: (true, 5) :: (true, 6) :: (true, 7) :: (true, 8) :: (true, 9) :: (true, 10) :: []) (by kernel_rfl) (by kernel_rfl) K.out.drew ?_
          clear K
          (apply ab_pure
           · (simp only [List.getElem?_toArray, List.getElem?_cons_succ, List.getElem?_cons_zero]; rfl)
           · rfl
           · (intro wS hS; go_simp; try exact rfl)
           simp only [Act.put, List.setIfInBounds_toArray, List.set_cons_zero, List.set_cons_succ])
          (apply ab_pure
           · (simp only [List.getElem?_toArray, List.getElem?_cons_succ, List.getElem?_cons_zero]; rfl)
           · rfl
           · (intro wS hS; go_simp; try exact rfl)
           simp only [Act.put, List.setIfInBounds_toArray, List.set_cons_zero, List.set_cons_succ])
          (apply ab_pure
           · (simp only [List.getElem?_toArray, List.getElem?_cons_succ, List.getElem?_cons_zero]; rfl)
           · rfl
           · (intro wS hS; go_simp; try exact rfl)
           simp only [Act.put, List.setIfInBounds_toArray, List.set_cons_zero, List.set_cons_succ])
          (apply ab_pure
           · (simp only [List.getElem?_toArray, List.getElem?_cons_succ, List.getElem?_cons_zero]; rfl)
           · rfl
           · (intro wS hS; have hc := Hhr1.out wS hS; go_simp; try exact rfl)
           simp only [Act.put, List.setIfInBounds_toArray, List.set_cons_zero, List.set_cons_succ])
          (apply ab_pure
           · (simp only [List.getElem?_toArray, List.getElem?_cons_succ, List.getElem?_cons_zero]; rfl)
           · rfl
           · (intro wS hS; go_simp; try exact rfl)
           simp only [Act.put, List.setIfInBounds_toArray, List.set_cons_zero, List.set_cons_succ])
          (apply ab_pure
           · (simp only [List.getElem?_toArray, List.getElem?_cons_succ, List.getElem?_cons_zero]; rfl)
           · rfl
           · (intro wS hS; go_simp; try exact rfl)
           simp only [Act.put, List.setIfInBounds_toArray, List.set_cons_zero, List.set_cons_succ])
          (apply ab_pure
           · (simp only [List.getElem?_toArray, List.getElem?_cons_succ, List.getElem?_cons_zero]; rfl)
           · rfl
           · (intro wS hS; go_simp; try exact rfl)
           simp only [Act.put, List.setIfInBounds_toArray, List.set_cons_zero, List.set_cons_succ])
          (apply ab_pure
           · (simp only [List.getElem?_toArray, List.getElem?_cons_succ, List.getElem?_cons_zero]; rfl)
           · rfl
           · (intro wS hS; go_simp; try exact rfl)
           simp only [Act.put, List.setIfInBounds_toArray, List.set_cons_zero, List.set_cons_succ])
          (apply ab_pure
           · (simp only [List.getElem?_toArray, List.getElem?_cons_succ, List.getElem?_cons_zero]; rfl)
           · rfl
           · (intro wS hS; have hc := Hhr2.out wS hS; go_simp; try exact rfl)
           simp only [Act.put, List.setIfInBounds_toArray, List.set_cons_zero, List.set_cons_succ])
          (apply ab_call
           · (simp only [List.getElem?_toArray, List.getElem?_cons_succ, List.getElem?_cons_zero]; rfl)
           · rfl
           · (intro _; go_simp; first | exact ⟨rfl, rfl⟩ | exact rfl)
           · (intro wS hS; exact Hhcm.out wS hS)
           simp only [Act.put, List.setIfInBounds_toArray, List.set_cons_zero, List.set_cons_succ])
          (apply ab_pure (v := .bool false)
           · (simp only [List.getElem?_toArray, List.getElem?_cons_succ, List.getElem?_cons_zero]; rfl)
           · rfl
           · (intro wS hS; go_simp; done)
           simp only [Act.put, List.setIfInBounds_toArray, List.set_cons_zero, List.set_cons_succ])
          refine ab_end ?_
          intro wE hE
          have K2 := Lib.hid hE
          clear hE
          go_wp2_with fail
          go_roundw
          case rel => exact ⟨i + 1, by omega, by go_num, K2⟩
          case measure => simp [intOf]; omega
        · have hb1 : ¬ ((i : Int) + 1 < m) := by omega
          go_wp2_with fail
          go_ret
          exact ⟨rfl, b9.trans (K.out.below.mono b9.size)⟩
end Go.Proofs.YtidmjepfpjfkoaaDoor

namespace Go.Proofs.YtidmjepfpjfkoaaDoor
open Go Go.RowKit
set_option maxHeartbeats 8000000
set_option maxRecDepth 20000
set_option linter.unusedVariables false
set_option linter.unusedSimpArgs false

/-- a guarded operation that is wanted -/
theorem kl_guard {P : Program} {ops : Array Oper} {rest : List Oper} {o : Oper} {a : Act} {w : World} {Q : Exit → Act → World → Prop} (hw : Region.wanted o (yielded ops a.tmps) = true)
    (h : wpList P ops Q ({ o with guard := none } :: rest) a w) : wpList P ops Q (o :: rest) a w := by
  unfold wpList at h ⊢
  rw [if_pos hw]
  rw [if_pos (by rfl)] at h
  exact h

theorem clashV_tuple (c : Option (Pm.By × Pm.By)) : ∃ (x y : ByteArray) (z : Bool), Pm.clashV c = .tuple #[.string x, .string y, .bool z] := by
  cases c with
  | none => exact ⟨_, _, _, rfl⟩
  | some p => exact ⟨_, _, _, rfl⟩
theorem pathOrders (a b : ByteArray) (ps : List (List UInt8)) (A : Option Addr) (c : Nat) (w : World) (hG : Gl w) (hrd : RdS (.slice A ps.length c) ps.length (pv ps) w.heap.size w) :
    Calls Tryd.prog 12 #[.string a, .string b, .slice A ps.length c] w fun e w' => e = .returned (.bool true) ∧ Below w.heap.size w w' := by
  have hgl := hG.lt
  have hG2 : ∀ W, Below w.heap.size w W → Gl W := fun W h => hG.below h hgl
  have c0 := awake03 w hG
  have cF := fun W (h : Below w.heap.size w W) => few03 ps A c W ((hrd.below h).mono h.size)
  obtain ⟨n, hn⟩ : ∃ n, n = ps.length := ⟨_, rfl⟩
  rw [← hn] at cF hrd ⊢
  obtain ⟨f, hf⟩ : ∃ f, f = fewB ps := ⟨_, rfl⟩
  rw [← hf] at cF
  by_cases ha : (300 : Int) < a.size
  · clear hG2 hf hn hG hrd
    have Hc0 := Lib.hid c0
    have HcF := Lib.hid cF
    clear c0 cF
    go_enter Tryd.func12, Tryd.ntmps12
    go_wp2_with fail
    refine Hc0.out.mono ?_
    rintro e w1 ⟨rfl, b1⟩
    go_wp2_with fail
    go_ret
    exact ⟨rfl, b1⟩
  by_cases hb : (300 : Int) < b.size
  · clear hG2 hf hn hG hrd
    have Hc0 := Lib.hid c0
    have HcF := Lib.hid cF
    clear c0 cF
    go_enter Tryd.func12, Tryd.ntmps12
    go_wp2_with fail
    refine Hc0.out.mono ?_
    rintro e w1 ⟨rfl, b1⟩
    go_wp2_with fail
    go_ret
    exact ⟨rfl, b1⟩
  cases f with
  | false =>
    clear hG2 hf hn hG hrd
    have Hc0 := Lib.hid c0
    have HcF := Lib.hid cF
    clear c0 cF
    go_enter Tryd.func12, Tryd.ntmps12
    go_wp2_with fail
    refine Hc0.out.mono ?_
    rintro e w1 ⟨rfl, b1⟩
    go_wp2_with fail
    refine (HcF.out _ b1).mono ?_
    rintro e w2 ⟨rfl, rfl⟩
    go_wp2_with fail
    go_ret
    exact ⟨rfl, b1⟩
  | true =>
    obtain ⟨hlen, hps⟩ := fewB_is hf.symm
    have cab := fun W (h : Below w.heap.size w W) => pathCompare a b (by omega) (by omega) W (hG2 W h)
    have rab := fun W => refCompare a b (by omega) (by omega) W
    have wab := fun W => pathWithin a b (by omega) W
    have vab := fun W => refWithin a b (by omega) (by omega) W
    generalize Pm.compare a.data.toList b.data.toList = ab at *
    generalize Pm.within a.data.toList b.data.toList = vb at *
    have hs1 := fun (W : World) (h : Below w.heap.size w W) (A : Option Addr) (c : Nat) (hr : RdS (.slice A ps.length c) ps.length (pv ps) W.heap.size W) => pathSort ps (fun x hx => by have := hps x hx; omega) (by omega) A c W (hG2 W h) hr
    have hs2 := fun (W : World) (h : Below w.heap.size w W) => refSort ps (fun x hx => by have := hps x hx; omega) (by omega) A c W (by rw [← hn]; exact (hrd.below h).mono h.size)
    have hc1 := fun (W : World) (h : Below w.heap.size w W) (A : Option Addr) (c : Nat) (hr : RdS (.slice A ps.length c) ps.length (pv ps) W.heap.size W) => pathClash ps (fun x hx => by have := hps x hx; omega) (by omega) A c W (hG2 W h) hr
    have hc2 := fun (W : World) (h : Below w.heap.size w W) => refClash ps (fun x hx => by have := hps x hx; omega) (by omega) A c W (by rw [← hn]; exact (hrd.below h).mono h.size)
    rw [← hn] at hs1 hs2 hc1 hc2 hlen
    obtain ⟨i0, hi0, hz0, hz1, hz2⟩ := info_parts info_str
    have hrdW := fun W (h : Below w.heap.size w W) => (hrd.below h)
    have Hc0 := Lib.hid c0
    have HcF := Lib.hid cF
    have Hcab := Lib.hid cab
    have Hrab := Lib.hid rab
    have Hwab := Lib.hid wab
    have Hvab := Lib.hid vab
    have HhG2 := Lib.hid hG2
    have Hhs1 := Lib.hid hs1
    have Hhs2 := Lib.hid hs2
    have Hhc1 := Lib.hid hc1
    have Hhc2 := Lib.hid hc2
    have HhrdW := Lib.hid hrdW
    have Hhps := Lib.hid hps
    have Hhn := Lib.hid hn
    clear c0 cF cab rab wab vab hG2 hs1 hs2 hc1 hc2 hrdW hps hn
    clear hf hG hrd
    go_enter Tryd.func12, Tryd.ntmps12
    go_wp2_with fail
    refine Hc0.out.mono ?_
    rintro e w1 ⟨rfl, b1⟩
    have s1 := b1.size
    go_wp2_with fail
    refine (HcF.out _ b1).mono ?_
    rintro e w2 ⟨rfl, rfl⟩
    have b2 := b1.alloc s1 (.cells #[] 9)
    have hO := owns_empty w2 w.heap.size 9 s1
    have hR := HhrdW.out _ b2
    have s2 : w.heap.size ≤ (w2.alloc (.cells #[] 9)).heap.size := b2.size
    go_wp2_with (at_builtin; refine kl_append_rdg rfl _ _ 56 rfl w.heap.size 9 i0 (.string ⟨#[]⟩) 16 Tryd.underlying56 hi0 hz0 hz1 hz2 rfl _ 0 [] rfl hO _ n (pv ps) _ rfl hR (pv_one _) (by omega) (by omega) s2 ?_; intro v3 w3 hown hgr hb3)
    rw [List.nil_append, Nat.zero_add] at hown
    have hr3 := owns_rdS hown
    have b3 := b2.trans hb3
    clear hO hR hown hgr hb3 b1 b2 s1 s2
    obtain ⟨A3, c3, rfl⟩ := hr3.slice
    have hS1 := Lib.hid (Hhc1.out w3 b3 A3 c3 hr3)
    clear hr3
    go_wp2_with fail
    refine hS1.out.mono ?_
    rintro e w4 ⟨xs, rfl, hI4, hb4⟩
    clear hS1
    have b4 := b3.trans (hb4.mono b3.size)
    clear b3 hb4
    obtain ⟨X, Y, Z, hXYZ⟩ := clashV_tuple (Pm.clash xs)
    rw [hXYZ]
    have HhI4 := Lib.hid hI4
    have HhXYZ := Lib.hid hXYZ
    clear hI4 hXYZ
    go_wp2_with fail
    refine (Hhc2.out w4 b4).mono ?_
    rintro e w5 ⟨ys, rfl, hI5, hb5⟩
    obtain rfl : ys = xs := hI5.unique HhI4.out
    rw [HhXYZ.out]
    have b5 := b4.trans (hb5.mono b4.size)
    clear b4 hb5 hI5
    go_wp2_with fail
    refine (Hcab.out _ b5).mono ?_
    rintro e w6 ⟨rfl, b6⟩
    have b7 := b5.trans (b6.mono b5.size)
    clear b5 b6
    go_wp2_with fail
    refine (Hrab.out _).mono ?_
    rintro e w7 ⟨rfl, b8⟩
    have b9 := b7.trans (b8.mono b7.size)
    clear b7 b8
    go_wp2_with fail
    refine (Hwab.out _).mono ?_
    rintro e w8 ⟨rfl, rfl⟩
    go_wp2_with fail
    refine (Hvab.out _).mono ?_
    rintro e w9 ⟨rfl, b10⟩
    have b11 := b9.trans (b10.mono b9.size)
    clear b9 b10
    have s1 := b11.size
    have b2 := b11.alloc s1 (.cells #[] 9)
    have hO := owns_empty w9 w.heap.size 9 s1
    have hR := HhrdW.out _ b2
    have s2 : w.heap.size ≤ (w9.alloc (.cells #[] 9)).heap.size := b2.size
    go_wp2_with (refine kl_guard rfl ?_; refine kl_append_rdg rfl _ _ 56 rfl w.heap.size 9 i0 (.string ⟨#[]⟩) 16 Tryd.underlying56 hi0 hz0 hz1 hz2 rfl _ 0 [] rfl hO _ n (pv ps) _ rfl hR (pv_one _) (by omega) (by omega) s2 ?_; intro v10 w10 hown hgr hb3)
    rw [List.nil_append, Nat.zero_add] at hown
    have hr3 := owns_rdS hown
    have b3 := b2.trans hb3
    clear hO hR hown hgr hb3 b11 b2 s1 s2
    obtain ⟨A5, c5, rfl⟩ := hr3.slice
    have hS1 := Lib.hid (Hhs1.out w10 b3 A5 c5 hr3)
    clear hr3
    go_wp2_with fail
    refine hS1.out.mono ?_
    rintro e w11 ⟨v6, zs, rfl, hv6, hb6, hI6, hl6⟩
    obtain ⟨A6, c6, rfl⟩ := hv6.slice
    have b6 := b3.trans (hb6.mono b3.size)
    clear hS1 b3 hb6
    obtain ⟨m, hm⟩ : ∃ m, m = zs.length := ⟨_, rfl⟩
    rw [← hm] at hv6 hl6 ⊢
    have Hhv6 := Lib.hid hv6
    have HhI6 := Lib.hid hI6
    have Hhm := Lib.hid hm
    clear hv6 hI6 hm
    go_wp2_with fail
    refine (Hhs2.out w11 b6).mono ?_
    rintro e w12 ⟨v7, rfl, us, hv7, hb7, hI7, hl7⟩
    obtain rfl : us = zs := hI7.unique HhI6.out
    rw [← Hhm.out] at hv7
    obtain ⟨A7, c7, rfl⟩ := hv7.slice
    have b7 := b6.trans (hb7.mono b6.size)
    have hv8 := (Hhv6.out.below hb7).mono hb7.size
    have hsm := Lib.hid (same3 A6 A7 m c6 c7 (by omega) us w12 hv8 hv7)
    clear b6 hb7 hv7 hv8 hI7 hl7
    go_wp2_with fail
    refine hsm.out.mono ?_
    rintro e w13 ⟨rfl, hb8⟩
    have b9 := b7.trans (hb8.mono b7.size)
    clear b7 hb8 hsm
    go_wp2_with fail
    go_ret
    exact ⟨rfl, b9⟩
end Go.Proofs.YtidmjepfpjfkoaaDoor

namespace Go.Proofs.YtidmjepfpjfkoaaDoor
open Go Go.RowKit
set_option maxHeartbeats 8000000
set_option maxRecDepth 20000
set_option linter.unusedVariables false
set_option linter.unusedSimpArgs false

theorem few_weigh : ∀ (l : List (List UInt8)), (∀ x ∈ l, x.length ≤ 300) → Pm.weigh l ≤ 301 * l.length
  | [], _ => Nat.le_refl _
  | x :: l, h => by
    have h1 := few_weigh l fun y hy => h y (by simp [hy])
    have h2 := h x (by simp)
    rw [Pm.weigh, List.length_cons]
    omega
theorem pathTells (s : ByteArray) (ps : List (List UInt8)) (A : Option Addr) (c : Nat) (w : World) (hG : Gl w) (hrd : RdS (.slice A ps.length c) ps.length (pv ps) w.heap.size w) :
    Calls Tryd.prog 11 #[.string s, .slice A ps.length c] w fun e w' => e = .returned (.bool true) ∧ Below w.heap.size w w' := by
  have hgl := hG.lt
  have hG2 : ∀ W, Below w.heap.size w W → Gl W := fun W h => hG.below h hgl
  have c0 := awake03 w hG
  have cF := fun W (h : Below w.heap.size w W) => few03 ps A c W ((hrd.below h).mono h.size)
  obtain ⟨n, hn⟩ : ∃ n, n = ps.length := ⟨_, rfl⟩
  rw [← hn] at cF hrd ⊢
  obtain ⟨f, hf⟩ : ∃ f, f = fewB ps := ⟨_, rfl⟩
  rw [← hf] at cF
  by_cases ha : (300 : Int) < s.size
  · clear hG2 hf hn hG hrd
    have Hc0 := Lib.hid c0
    have HcF := Lib.hid cF
    clear c0 cF
    go_enter Tryd.func11, Tryd.ntmps11
    go_wp2_with fail
    refine Hc0.out.mono ?_
    rintro e w1 ⟨rfl, b1⟩
    go_wp2_with fail
    go_ret
    exact ⟨rfl, b1⟩
  cases f with
  | false =>
    clear hG2 hf hn hG hrd
    have Hc0 := Lib.hid c0
    have HcF := Lib.hid cF
    clear c0 cF
    go_enter Tryd.func11, Tryd.ntmps11
    go_wp2_with fail
    refine Hc0.out.mono ?_
    rintro e w1 ⟨rfl, b1⟩
    go_wp2_with fail
    refine (HcF.out _ b1).mono ?_
    rintro e w2 ⟨rfl, rfl⟩
    go_wp2_with fail
    go_ret
    exact ⟨rfl, b1⟩
  | true =>
    obtain ⟨hlen, hps⟩ := fewB_is hf.symm
    have hwe := few_weigh ps hps
    have hjl := Pm.weigh_join ps
    have hsl : s.data.toList.length = s.size := rfl
    have j1 := fun (W : World) (h : Below w.heap.size w W) (A : Option Addr) (c : Nat) (hr : RdS (.slice A ps.length c) ps.length (pv ps) W.heap.size W) => pathJoin ps (by omega) (by omega) A c W (hG2 W h) hr
    have j2 := fun (W : World) (h : Below w.heap.size w W) => refJoin ps (by omega) (by omega) A c W (by rw [← hn]; exact (hrd.below h).mono h.size)
    have n1 := fun W (h : Below w.heap.size w W) => pathNormal s (by omega) W (hG2 W h)
    have n2 := fun W => refNormal s (by omega) W
    have u1 := fun W (h : Below w.heap.size w W) => pathParent s (by omega) W (hG2 W h)
    have u2 := fun W => refParent s (by omega) W
    have r1 := fun W (h : Below w.heap.size w W) => pathRight s (by omega) W (hG2 W h)
    have r2 := fun W => refRight s (by omega) W
    obtain ⟨m, hm⟩ : ∃ m, m = (Pm.parts s.data.toList).length := ⟨_, rfl⟩
    have hml : m ≤ 301 := by
      rw [hm]
      unfold Pm.parts
      split
      · have := cut_le s.data.toList; omega
      · simp
    have p1 : ∀ W, Below w.heap.size w W → Calls Tryd.prog 52 #[.string s] W fun e w' => ∃ A c, e = .returned (.slice A m c) ∧ RdS (.slice A m c) m (pv (Pm.parts s.data.toList)) w'.heap.size w' ∧ Below W.heap.size W w' := fun W h => (pathParts s (by omega) W (hG2 W h)).mono fun e w' ⟨v, q, h1, h2, h3⟩ => by
      obtain ⟨A, c, rfl⟩ := h2.slice
      have : q = m := by rw [hm, ← h2.1, pv_length]
      subst this
      exact ⟨A, c, h1, h2, h3⟩
    have p2 : ∀ W, Calls Tryd.prog 53 #[.string s] W fun e w' => ∃ A c, e = .returned (.slice A m c) ∧ RdS (.slice A m c) m (pv (Pm.parts s.data.toList)) w'.heap.size w' ∧ Below W.heap.size W w' := fun W => (refParts s (by omega) W).mono fun e w' ⟨v, h1, h2, h3⟩ => by
      obtain ⟨A, c, rfl⟩ := h2.slice
      rw [← hm] at h1 h2
      exact ⟨A, c, h1, h2, h3⟩
    rw [← hn] at j1 j2 hlen
    generalize (⟨(Pm.joinP ps).toArray⟩ : ByteArray) = JP at *
    generalize Pm.joinE ps = JE at *
    generalize (⟨(Pm.normP s.data.toList).toArray⟩ : ByteArray) = NP at *
    generalize Pm.normE s.data.toList = NE at *
    generalize (⟨(parS s.data.toList).toArray⟩ : ByteArray) = UP at *
    generalize par s.data.toList = UB at *
    generalize Pm.right s.data.toList = RR at *
    obtain ⟨i0, hi0, hz0, hz1, hz2⟩ := info_parts info_str
    have hrdW := fun W (h : Below w.heap.size w W) => (hrd.below h)
    have Hc0 := Lib.hid c0
    have HcF := Lib.hid cF
    have Hj1 := Lib.hid j1
    have Hj2 := Lib.hid j2
    have Hn1 := Lib.hid n1
    have Hn2 := Lib.hid n2
    have Hu1 := Lib.hid u1
    have Hu2 := Lib.hid u2
    have Hr1 := Lib.hid r1
    have Hr2 := Lib.hid r2
    have Hp1 := Lib.hid p1
    have Hp2 := Lib.hid p2
    have HhrdW := Lib.hid hrdW
    clear c0 cF j1 j2 n1 n2 u1 u2 r1 r2 p1 p2 hrdW
    clear hf hG hrd hG2 hps hn hm hwe hjl hsl
    go_enter Tryd.func11, Tryd.ntmps11
    go_wp2_with fail
    refine Hc0.out.mono ?_
    rintro e w1 ⟨rfl, b1⟩
    have s1 := b1.size
    go_wp2_with fail
    refine (HcF.out _ b1).mono ?_
    rintro e w2 ⟨rfl, rfl⟩
    have b2 := b1.alloc s1 (.cells #[] 9)
    have hO := owns_empty w2 w.heap.size 9 s1
    have hR := HhrdW.out _ b2
    have s2 : w.heap.size ≤ (w2.alloc (.cells #[] 9)).heap.size := b2.size
    go_wp2_with (at_builtin; refine kl_append_rdg rfl _ _ 56 rfl w.heap.size 9 i0 (.string ⟨#[]⟩) 16 Tryd.underlying56 hi0 hz0 hz1 hz2 rfl _ 0 [] rfl hO _ n (pv ps) _ rfl hR (pv_one _) (by omega) (by omega) s2 ?_; intro v3 w3 hown hgr hb3)
    rw [List.nil_append, Nat.zero_add] at hown
    have hr3 := owns_rdS hown
    have b3 := b2.trans hb3
    clear hO hR hown hgr hb3 b1 b2 s1 s2
    obtain ⟨A3, c3, rfl⟩ := hr3.slice
    have hS1 := Lib.hid (Hj1.out w3 b3 A3 c3 hr3)
    clear hr3
    go_wp2_with fail
    refine hS1.out.mono ?_
    rintro e w4 ⟨rfl, hb4⟩
    clear hS1
    have b4 := b3.trans (hb4.mono b3.size)
    clear b3 hb4
    go_wp2_with fail
    refine (Hj2.out _ b4).mono ?_
    rintro e w5 ⟨rfl, b5⟩
    have b6 := b4.trans (b5.mono b4.size)
    clear b4 b5
    go_wp2_with fail
    refine (Hn1.out _ b6).mono ?_
    rintro e w6 ⟨rfl, b7⟩
    have b8 := b6.trans (b7.mono b6.size)
    clear b6 b7
    go_wp2_with fail
    refine (Hn2.out _).mono ?_
    rintro e w7 ⟨rfl, b9⟩
    have b10 := b8.trans (b9.mono b8.size)
    clear b8 b9
    go_wp2_with fail
    refine (Hu1.out _ b10).mono ?_
    rintro e w8 ⟨rfl, b11⟩
    have b12 := b10.trans (b11.mono b10.size)
    clear b10 b11
    go_wp2_with fail
    refine (Hu2.out _).mono ?_
    rintro e w9 ⟨rfl, b13⟩
    have b14 := b12.trans (b13.mono b12.size)
    clear b12 b13
    go_wp2_with fail
    refine (Hr1.out _ b14).mono ?_
    rintro e w10 ⟨rfl, b15⟩
    have b16 := b14.trans (b15.mono b14.size)
    clear b14 b15
    go_wp2_with fail
    refine (Hr2.out _).mono ?_
    rintro e w11 ⟨rfl, b17⟩
    have b18 := b16.trans (b17.mono b16.size)
    clear b16 b17
    go_wp2_with fail
    refine (Hp1.out _ b18).mono ?_
    rintro e w12 ⟨A6, c6, rfl, hv6, b19⟩
    have b20 := b18.trans (b19.mono b18.size)
    clear b18 b19
    have Hhv6 := Lib.hid hv6
    clear hv6
    go_wp2_with fail
    refine (Hp2.out w12).mono ?_
    rintro e w13 ⟨A7, c7, rfl, hv7, b21⟩
    have b22 := b20.trans (b21.mono b20.size)
    have hv8 := (Hhv6.out.below b21).mono b21.size
    have hsm := Lib.hid (same3 A6 A7 m c6 c7 (by omega) _ w13 hv8 hv7)
    clear b20 b21 hv8 hv7
    go_wp2_with fail
    refine hsm.out.mono ?_
    rintro e w14 ⟨rfl, b23⟩
    have b24 := b22.trans (b23.mono b22.size)
    clear b22 b23 hsm
    go_wp2_with fail
    go_ret
    exact ⟨rfl, b24⟩
end Go.Proofs.YtidmjepfpjfkoaaDoor
