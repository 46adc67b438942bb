/-
  Walks: the reference's upload: Have, Done.
-/
import Derived.Test.YtgdjfijkbemkeaaEtR
import Derived.Test.YtgdjfijkbemkeaaEtX
namespace Go.Proofs.Ytgdjfijkbemkeaa
open Go.RowKit
set_option maxHeartbeats 2000000
set_option maxRecDepth 20000
set_option linter.unusedVariables false
attribute [local irreducible] dArr uArr

theorem thereTo_none (U : Um.Up) (m : Nat) (h : U (m + 1) = []) : Um.thereTo U (m + 1) = Um.thereTo U m := by
  show Um.thereTo U m ++ (if U (m + 1) ≠ [] then [m + 1] else []) = _
  rw [if_neg (fun h' => h' h), List.append_nil]
theorem thereTo_some (U : Um.Up) (m : Nat) (h : U (m + 1) ≠ []) : Um.thereTo U (m + 1) = Um.thereTo U m ++ [m + 1] := by
  show Um.thereTo U m ++ (if U (m + 1) ≠ [] then [m + 1] else []) = _
  rw [if_pos h]
theorem refHave5 (U : Um.Up) (w : World) :
    Calls Try.prog 54 #[.agg (uArr U)] w (RetS ((Um.there U).map fun k : Nat => Value.int .i64 (k : Int)) w) := by
  obtain ⟨i0, hi0, hz0, hz1, hz2⟩ := info_parts info_int5
  obtain ⟨X, hX⟩ : ∃ X : Nat → List Value, X = fun i => (Um.thereTo U i).map fun k : Nat => Value.int .i64 (k : Int) := ⟨_, rfl⟩
  have hX0 : X 0 = [] := by rw [hX]; rfl
  have hXl : ((Um.there U).map fun k : Nat => Value.int .i64 (k : Int)) = X 64 := by rw [hX]; rfl
  have hXn : ∀ i, U (i + 1) = [] → X (i + 1) = X i := fun i h => by rw [hX]; simp only [thereTo_none U i h]
  have hXs : ∀ i, U (i + 1) ≠ [] → X (i + 1) = X i ++ [Value.int .i64 ((i : Int) + 1)] := fun i h => by rw [hX]; simp only [thereTo_some U i h, List.map_append]; rfl
  rw [hXl]
  have k1 := (Kn.start w).alloc (.cells (uArr U) 73)
  have B0 := Lib.hid (k1.get 0 rfl)
  have hw1 := k1.below
  have hs1 : w.heap.size < (w.alloc (.cells (uArr U) 73)).heap.size := by rw [size_alloc]; omega
  have HhX := Lib.hid hX
  have HhX0 := Lib.hid hX0
  have HhXl := Lib.hid hXl
  have HhXn := Lib.hid hXn
  have HhXs := Lib.hid hXs
  have Hhw1 := Lib.hid hw1
  clear hX hX0 hXl hXn hXs hw1
  clear k1
  go_enter Try.func54, Try.ntmps54
  go_wp2_with fail
  generalize w.alloc (.cells (uArr U) 73) = w1 at *
  go_loopw [3, 4] (fun ov iv wr => ∃ (i n : Nat), i ≤ 64 ∧ n ≤ i ∧ iv = .int .i64 (i : Int) ∧ Hid (wr.ownsRow w1.heap.size 3 1 ov n (X i)) ∧ Below w1.heap.size w1 wr) (fun _ iv _ => 64 - (intOf iv).toNat)
  case atStart => exact ⟨0, 0, by omega, by omega, rfl, by rw [HhX0.out]; exact World.ownsRow_nil _ _ _ _, Below.refl _ _⟩
  case round =>
    obtain ⟨i, n, hi, hn, rfl, HO, hb⟩ := hrel
    by_cases hi64 : i < 64
    · have hc : wr.cell? ⟨w.heap.size, i, none⟩ = some (.string ⟨(U (i + 1)).toArray⟩) := by
        rw [Below.cell hb (by show w.heap.size < _; omega), cell_of_row _ _ _ _ _ _ B0.out, uArr_get _ _ hi64]
      obtain ⟨x, hx⟩ : ∃ x : ByteArray, x = ⟨(U (i + 1)).toArray⟩ := ⟨_, rfl⟩
      have hxe : x.toList.isEmpty = (U (i + 1)).isEmpty := by rw [ByteArray.toList_eq, hx]
      rw [← hx] at hc
      have hbs := hb.size
      have hbi : (0 : Int) ≤ i := by omega
      have hbn : (i : Int) < 64 := by omega
      clear hs1 hi
      by_cases hu : U (i + 1) = []
      · have hc2 : wr.cell? ⟨w.heap.size, i, none⟩ = some (.string ⟨#[]⟩) := by rw [hc, hx, hu]
        have HX := Lib.hid (HhXn.out i hu)
        clear hu hx hxe hc
        go_wp2_with fail
        go_roundw
        case rel => exact ⟨i + 1, n, by omega, by omega, by go_num, by rw [HX.out]; exact HO, hb⟩
        case measure => simp [intOf]; omega
      · have he : x.toList.isEmpty = false := by rw [hxe]; simpa using hu
        have HX := Lib.hid (HhXs.out i hu)
        clear hu hx hxe
        go_wp2_with (at_builtin; refine kl_append1 rfl _ _ 83 rfl w1.heap.size 3 i0 (.int .i64 0) 1 8 Try.underlying83 hi0 hz0 hz1 hz2 rfl (by decide) _ n _ rfl HO.out 1 #[.int .i64 ((i : Int) + 1)] rfl rfl (by simp [Value.oneCell']) (by omega) (by omega) hbs ?_; intro v' w' hown' hbel hsz' _)
        go_roundw
        case rel => exact ⟨i + 1, n + 1, by omega, by omega, by go_num, by rw [HX.out]; exact hown', hb.trans hbel⟩
        case measure => simp [intOf]; omega
    · obtain rfl : i = 64 := by omega
      go_wp2_with fail
      go_ret
      exact ⟨_, _, rfl, rd_of_own HO.out, Hhw1.out.trans (hb.mono (by omega))⟩

theorem ab_load_mid {P : Program} {o : Oper} {a : Act} {w : World} (ty : TypeId) (x : Operand) (ho : o.op = .load ty x) (b off : Nat) (hx : a.eval x = .pointer (some ⟨b, off, none⟩)) (cs : Array Value) (d : TypeDesc)
    (hc : w.rangeAt b off cs.toList) (hu : P.underlying ty = some d) (hd : d.isRow = true) (hi : (P.info? ty).map (·.size) = some cs.size) : (execOp a.eval o).run P w = .ok (.value (.agg cs)) w := by
  unfold execOp
  simp only [ho, hx, Instr.loadAt, Instr.sureAddr, Sem.run_bind, Sem.run_pure, Result.andThen_ok, run_loadVar_mid w b off ty cs.toList d hc hu hd (by rw [hi, Array.length_toList])]

theorem refDone5 (U : Um.Up) (hU : Um.Good U) (v : Value) (ds : List (List UInt8)) (hlen : ds.length ≤ 1000) (hd : ∀ d ∈ ds, d.length = 32) (w : World) (hrd : RdD v ds w.heap.size w) :
    Calls Try.prog 52 #[.agg (uArr U), v] w fun e w' =>
      e = .returned (.tuple #[.string ⟨(Um.doneS U ds).toArray⟩, .agg (dArr (Um.doneD U ds)), .int .i64 (Um.doneE U ds : Nat)]) ∧ Below w.heap.size w w' := by
  obtain ⟨i0, hi0, hz0, hs0⟩ := d32
  obtain ⟨A, c, rfl⟩ := hrd.slice
  obtain ⟨n, hn⟩ : ∃ n, n = ds.length := ⟨_, rfl⟩
  rw [← hn] at hrd hlen ⊢
  obtain ⟨S, hS⟩ : ∃ S, S = (⟨(Um.doneS U ds).toArray⟩ : ByteArray) := ⟨_, rfl⟩
  obtain ⟨D, hD⟩ : ∃ D, D = Um.doneD U ds := ⟨_, rfl⟩
  obtain ⟨E, hE⟩ : ∃ E, E = Um.doneE U ds := ⟨_, rfl⟩
  rw [← hS, ← hD, ← hE]
  have hbad : ∀ c, c ≠ 0 → Um.doneE U ds = c → S = ⟨#[]⟩ ∧ D = [] ∧ E = c := fun c hc he => by
    refine ⟨by rw [hS]; unfold Um.doneS; rw [if_neg (by omega)], by rw [hD]; unfold Um.doneD; rw [if_neg (by omega)], by rw [hE, he]⟩
  have k2 := ((Kn.start w).alloc (.cells (uArr U) 73)).alloc (.cells (dArr []) 50)
  rw [size_alloc] at k2
  have K1 := Lib.hid k2
  clear k2
  have Hhrd := Lib.hid hrd
  have Hhn := Lib.hid hn
  have HhS := Lib.hid hS
  have HhD := Lib.hid hD
  have HhE := Lib.hid hE
  have Hhbad := Lib.hid hbad
  clear hrd hn hS hD hE hbad
  by_cases h0 : n = 0
  · have HBAD := Lib.hid (Hhbad.out 3 (by omega) (Um.doneE_nil (by rw [← Hhn.out]; exact h0)))
    subst h0
    go_enter Try.func52, Try.ntmps52
    go_upto_region 2 with (refine kl_alloc rfl 50 rfl (dArr []) i0 hi0 _ hz0 rfl ?_)
    generalize (w.alloc (.cells (uArr U) 73)).alloc (.cells (dArr []) 50) = w1 at *
    obtain ⟨p1, hp1⟩ : ∃ p1, p1 = w.heap.size + 1 := ⟨_, rfl⟩
    rw [← hp1] at K1 ⊢
    have hpw : w.heap.size < p1 := by omega
    clear hp1
    have HRES' := Lib.hid (setRow_heap w1 p1 _ (dArr []) _ _ (K1.out.get 0 rfl))
    have HBR := below_setRow (g := p1) K1.out.below (by omega) (dArr [])
    have K3 := Lib.hid (K1.out.get 0 rfl)
    go_wp2_with (first | refine kl_build0 rfl 50 rfl 32 5 Try.underlying50 (by kernel_rfl) i0 hi0 (dArr []) hz0 ?_ | refine wpList_store_row rfl 50 _ _ rfl p1 (dArr []) rfl rfl _ _ K3.out (by rw [d32s, dArr_size]) (by rw [dArr_size]) (dArr_one _) ?_)
    refine bodyPost_ret (results_tmp_row_tmp rfl _ _ _ _ _ _ _ rfl HRES'.out Try.underlying50 rfl (by rw [d32s, dArr_size])) rfl ⟨by rw [HBAD.out.1, HBAD.out.2.1, HBAD.out.2.2]; rfl, HBR⟩
  · have hn0 : ((n : Int) == 0) = false := by rw [beq_eq_false_iff_ne]; omega
    go_enter Try.func52, Try.ntmps52
    go_wp2_with (refine kl_alloc rfl 50 rfl (dArr []) i0 hi0 _ hz0 rfl ?_)
    generalize (w.alloc (.cells (uArr U) 73)).alloc (.cells (dArr []) 50) = w1 at *
    obtain ⟨p1, hp1⟩ : ∃ p1, p1 = w.heap.size + 1 := ⟨_, rfl⟩
    rw [← hp1] at K1 ⊢
    have hpw : w.heap.size < p1 := by omega
    clear hp1 hn0
    have Hh0 := Lib.hid h0
    clear h0
    go_loopw [7] (fun iv wr => ∃ i : Nat, i ≤ n ∧ iv = .int .i64 (i : Int) ∧ Hid (Um.allThere U i) ∧ Hid (Kn w.heap.size w [(p1, .cells (dArr []) 50), (w.heap.size, .cells (uArr U) 73)] wr)) (fun iv _ => n - (intOf iv).toNat)
    case atStart => exact ⟨0, by omega, rfl, fun j hj => absurd hj (by omega), K1⟩
    case round =>
      obtain ⟨i, hi, rfl, HA, K⟩ := hrel
      clear K1
      have hbi : (0 : Int) ≤ i := by omega
      by_cases hin : i < n
      · by_cases hu : U (i + 1) = []
        · have HBAD := Lib.hid (Hhbad.out 5 (by omega) (Um.doneE_none (by rw [← Hhn.out]; exact Hh0.out) (by rw [← Hhn.out]; exact hin) hu))
          by_cases hi64 : i < 64
          · have hc : wr.cell? ⟨w.heap.size, i, none⟩ = some (.string ⟨#[]⟩) := by
              rw [cell_of_row _ _ _ _ _ _ (K.out.get 1 rfl), uArr_get _ _ hi64, hu]
            have h64 : ¬ (64 : Int) ≤ i := by omega
            have h64' : (i : Int) < 64 := by omega
            have hbn : (i : Int) < n := by omega
            clear hu hi64
            have HRES' := Lib.hid (setRow_heap wr p1 _ (dArr []) _ _ (K.out.get 0 rfl))
            have HBR := below_setRow (g := p1) K.out.below (by omega) (dArr [])
            have K3 := Lib.hid (K.out.get 0 rfl)
            go_wp2_with (first | refine kl_build0 rfl 50 rfl 32 5 Try.underlying50 (by kernel_rfl) i0 hi0 (dArr []) hz0 ?_ | refine wpList_store_row rfl 50 _ _ rfl p1 (dArr []) rfl rfl _ _ K3.out (by rw [d32s, dArr_size]) (by rw [dArr_size]) (dArr_one _) ?_)
            refine bodyPost_ret (results_tmp_row_tmp rfl _ _ _ _ _ _ _ rfl HRES'.out Try.underlying50 rfl (by rw [d32s, dArr_size])) rfl ⟨by rw [HBAD.out.1, HBAD.out.2.1, HBAD.out.2.2]; rfl, HBR⟩
          · have h64 : (64 : Int) ≤ i := by omega
            have hbn : (i : Int) < n := by omega
            clear hu hi64
            have HRES' := Lib.hid (setRow_heap wr p1 _ (dArr []) _ _ (K.out.get 0 rfl))
            have HBR := below_setRow (g := p1) K.out.below (by omega) (dArr [])
            have K3 := Lib.hid (K.out.get 0 rfl)
            go_wp2_with (first | refine kl_build0 rfl 50 rfl 32 5 Try.underlying50 (by kernel_rfl) i0 hi0 (dArr []) hz0 ?_ | refine wpList_store_row rfl 50 _ _ rfl p1 (dArr []) rfl rfl _ _ K3.out (by rw [d32s, dArr_size]) (by rw [dArr_size]) (dArr_one _) ?_)
            refine bodyPost_ret (results_tmp_row_tmp rfl _ _ _ _ _ _ _ rfl HRES'.out Try.underlying50 rfl (by rw [d32s, dArr_size])) rfl ⟨by rw [HBAD.out.1, HBAD.out.2.1, HBAD.out.2.2]; rfl, HBR⟩
        · have hi64 : i < 64 := by
            rcases Nat.lt_or_ge i 64 with h | h
            · exact h
            · exact absurd (hU.out (i + 1) (.inr (by omega))) hu
          have hc : wr.cell? ⟨w.heap.size, i, none⟩ = some (.string ⟨(U (i + 1)).toArray⟩) := by
            rw [cell_of_row _ _ _ _ _ _ (K.out.get 1 rfl), uArr_get _ _ hi64]
          obtain ⟨x, hx⟩ : ∃ x : ByteArray, x = ⟨(U (i + 1)).toArray⟩ := ⟨_, rfl⟩
          have hxe : x.toList.isEmpty = false := by rw [ByteArray.toList_eq, hx]; simpa using hu
          rw [← hx] at hc
          have HA' : Hid (Um.allThere U (i + 1)) := fun j hj => by
            rcases Nat.lt_or_ge j i with h3 | h3
            · exact HA.out j h3
            · obtain rfl : j = i := by omega
              exact hu
          have h64 : ¬ (64 : Int) ≤ i := by omega
          have h64' : (i : Int) < 64 := by omega
          have hbn : (i : Int) < n := by omega
          clear hu hx hi64
          go_wp2_with fail
          go_roundw
          case rel => exact ⟨i + 1, by omega, by go_num, HA', K⟩
          case measure => simp [intOf]; omega
      · obtain rfl : i = n := by omega
        have HI64 : Hid (i ≤ 64) := Um.allThere_le hU HA.out
        have hbn : ¬ (i : Int) < i := by omega
        go_wp2_with fail
        go_loopw [8, 9] (fun sv iv wx => ∃ (i' : Nat) (s : ByteArray), i' ≤ i ∧ iv = .int .i64 (i' : Int) ∧ sv = .string s ∧ Hid (s.data.toList = Um.cat U i') ∧ s.size ≤ 16 * i' ∧ Hid (Um.allLike U ds i') ∧ Hid (Kn w.heap.size w [(p1, .cells (dArr []) 50), (w.heap.size, .cells (uArr U) 73)] wx)) (fun _ iv _ => i - (intOf iv).toNat)
        case atStart => exact ⟨0, _, by omega, rfl, rfl, rfl, by decide, fun j hj => absurd hj (by omega), K⟩
        case round =>
          obtain ⟨i', s, hi', rfl, rfl, HS, hsz, HL, K2⟩ := hrel
          clear K
          have hbi' : (0 : Int) ≤ i' := by omega
          by_cases hin' : i' < i
          · have hil : i' < ds.length := by rw [← Hhn.out]; exact hin'
            have hrd := Hhrd.out
            rw [Hhn.out] at hrd
            obtain ⟨b, off, hA, hcn, hb, hrng⟩ := hrd.at_ hil
            rw [← Hhn.out] at hcn
            have hdl := hd _ (List.getElem_mem hil)
            have hdg : ds.getD i' [] = ds[i'] := by rw [List.getD_eq_getElem?_getD, List.getElem?_eq_getElem hil]; rfl
            generalize ds[i'] = d at *
            subst hA
            clear hil hrd
            have H64 : Hid (i' < 64) := by show i' < 64; have := HI64.out; omega
            obtain ⟨P, hP⟩ : ∃ P, P = U (i' + 1) := ⟨_, rfl⟩
            obtain ⟨x, hx⟩ : ∃ x : ByteArray, x = ⟨(U (i' + 1)).toArray⟩ := ⟨_, rfl⟩
            have hxl : x.data.toList = P := by rw [hx, hP]
            have hxs : x.size = P.length := by rw [← hxl]; rfl
            have hP16 : x.size ≤ 16 := by rw [hxs, hP]; exact hU.len _
            have hcc : ∀ wS, Kn w.heap.size w [(p1, .cells (dArr []) 50), (w.heap.size, .cells (uArr U) 73)] wS → wS.cell? ⟨w.heap.size, i', none⟩ = some (.string x) := fun wS hS => by
              rw [cell_of_row _ _ _ _ _ _ (hS.get 1 rfl), uArr_get _ _ H64.out, hx]
            have hrr : ∀ wS, Kn w.heap.size w [(p1, .cells (dArr []) 50), (w.heap.size, .cells (uArr U) 73)] wS → wS.rangeAt b (off + i' * 32) (dArr d).toList := fun wS hS j u hj =>
              (hS.below.cell (p := ⟨b, _, none⟩) hb).trans (hrng j u hj)
            obtain ⟨r, hr⟩ : ∃ r, deq (Sm.digest P) d = r := ⟨_, rfl⟩
            have hdr := eql_d_run (Sm.digest P) d r hr
            obtain ⟨DP, hDP⟩ : ∃ DP, DP = Sm.digest P := ⟨_, rfl⟩
            have hof := fun w => refOf x (by omega) w
            rw [hxl] at hof
            rw [← hDP] at hdr hof
            have hq := deq_iff (digest_length P) hdl
            rw [hr, hP, ← hdg] at hq
            have hbn : (i' : Int) < i := by omega
            have hb64 : (i' : Int) < 64 := by have := H64.out; omega
            have Hhdl := Lib.hid hdl
            have Hhdg := Lib.hid hdg
            have HhP := Lib.hid hP
            have Hhx := Lib.hid hx
            have Hhxl := Lib.hid hxl
            have Hhxs := Lib.hid hxs
            have Hhcc := Lib.hid hcc
            have Hhrr := Lib.hid hrr
            have Hhr := Lib.hid hr
            have HhDP := Lib.hid hDP
            have Hhof := Lib.hid hof
            have Hhq := Lib.hid hq
            have Hhrng := Lib.hid hrng
            have Hhdr := Lib.hid hdr
            clear hdl hdg hP hx hxl hxs hcc hrr hr hDP hof hq hrng hdr
            go_wp2_with fail
            have hgd := eqGuard_d
            have hdr := Hhdr.out
            refine wp_region_abs w.heap.size w [(p1, .cells (dArr []) 50), (w.heap.size, .cells (uArr U) 73)] ((true, 0) :: (true, 1) :: (true, 2) :: (true, 3) :: (true, 4) :: (true, 5) :: (true, 6) :: (true, 7) :: (true, 8) :: []) (by kernel_rfl) (by kernel_rfl) K2.out.drew ?_
            clear K2
            (apply ab_pure
             · (simp only [List.getElem?_toArray, List.getElem?_cons_succ, List.getElem?_cons_zero]; rfl)
             · rfl
             · (intro wS hS; go_simp; try exact rfl)
             simp only [Act.put, List.setIfInBounds_toArray, List.set_cons_zero, List.set_cons_succ])
            (apply ab_pure
             · (simp only [List.getElem?_toArray, List.getElem?_cons_succ, List.getElem?_cons_zero]; rfl)
             · rfl
             · (intro wS hS; go_simp; try exact rfl)
             simp only [Act.put, List.setIfInBounds_toArray, List.set_cons_zero, List.set_cons_succ])
            (apply ab_pure
             · (simp only [List.getElem?_toArray, List.getElem?_cons_succ, List.getElem?_cons_zero]; rfl)
             · rfl
             · (intro wS hS; have hc := Hhcc.out wS hS; go_simp; try exact rfl)
             simp only [Act.put, List.setIfInBounds_toArray, List.set_cons_zero, List.set_cons_succ])
            (apply ab_call
             · (simp only [List.getElem?_toArray, List.getElem?_cons_succ, List.getElem?_cons_zero]; rfl)
             · rfl
             · (intro _; go_simp; first | exact ⟨rfl, rfl⟩ | exact rfl)
             · (intro wS hS; exact Hhof.out _)
             simp only [Act.put, List.setIfInBounds_toArray, List.set_cons_zero, List.set_cons_succ])
            (apply ab_pure
             · (simp only [List.getElem?_toArray, List.getElem?_cons_succ, List.getElem?_cons_zero]; rfl)
             · rfl
             · (intro wS hS; go_simp; try exact rfl)
             simp only [Act.put, List.setIfInBounds_toArray, List.set_cons_zero, List.set_cons_succ])
            (apply ab_pure
             · (simp only [List.getElem?_toArray, List.getElem?_cons_succ, List.getElem?_cons_zero]; rfl)
             · rfl
             · (intro wS hS; go_simp; try exact rfl)
             simp only [Act.put, List.setIfInBounds_toArray, List.set_cons_zero, List.set_cons_succ])
            (apply ab_pure
             · (simp only [List.getElem?_toArray, List.getElem?_cons_succ, List.getElem?_cons_zero]; rfl)
             · rfl
             · (intro wS hS; go_simp; try exact rfl)
             simp only [Act.put, List.setIfInBounds_toArray, List.set_cons_zero, List.set_cons_succ])
            (apply ab_pure
             · (simp only [List.getElem?_toArray, List.getElem?_cons_succ, List.getElem?_cons_zero]; rfl)
             · rfl
             · (intro wS hS; exact ab_load_mid 50 _ rfl b (off + i' * 32) rfl (dArr d) _ (Hhrr.out wS hS) Try.underlying50 rfl (by rw [d32s, dArr_size]))
             simp only [Act.put, List.setIfInBounds_toArray, List.set_cons_zero, List.set_cons_succ])
            (apply ab_pure
             · (simp only [List.getElem?_toArray, List.getElem?_cons_succ, List.getElem?_cons_zero]; rfl)
             · rfl
             · (intro wS hS; go_simp; try exact rfl)
             simp only [Act.put, List.setIfInBounds_toArray, List.set_cons_zero, List.set_cons_succ])
            refine ab_end ?_
            intro wE hE
            have K2 := Lib.hid hE
            have hc := Hhcc.out wE hE
            clear hE
            cases r with
            | false =>
              have HBAD := Lib.hid (Hhbad.out 10 (by omega) (Um.doneE_unlike (by rw [← Hhn.out]; exact Hh0.out) (by rw [← Hhn.out]; exact HA.out) (fun hl => by
                have := Hhq.out.2 (hl i' (by rw [← Hhn.out]; exact hin'))
                cases this)))
              have HRES' := Lib.hid (setRow_heap wE p1 _ (dArr []) _ _ (K2.out.get 0 rfl))
              have HBR := below_setRow (g := p1) K2.out.below (by omega) (dArr [])
              have K3 := Lib.hid (K2.out.get 0 rfl)
              go_wp2_with (first | refine kl_build0 rfl 50 rfl 32 5 Try.underlying50 (by kernel_rfl) i0 hi0 (dArr []) hz0 ?_ | refine wpList_store_row rfl 50 _ _ rfl p1 (dArr []) rfl rfl _ _ K3.out (by rw [d32s, dArr_size]) (by rw [dArr_size]) (dArr_one _) ?_)
              refine bodyPost_ret (results_tmp_row_tmp rfl _ _ _ _ _ _ _ rfl HRES'.out Try.underlying50 rfl (by rw [d32s, dArr_size])) rfl ⟨by rw [HBAD.out.1, HBAD.out.2.1, HBAD.out.2.2]; rfl, HBR⟩
            | true =>
              have HL' : Hid (Um.allLike U ds (i' + 1)) := fun j hj => by
                rcases Nat.lt_or_ge j i' with h3 | h3
                · exact HL.out j h3
                · obtain rfl : j = i' := by omega
                  exact Hhq.out.1 rfl
              have hcat : Hid ((s ++ x).data.toList = Um.cat U (i' + 1)) := by
                show _ = _
                unfold Um.cat
                rw [← HS.out, ← HhP.out, ← Hhxl.out]; simp
              have hszc : (s ++ x).size ≤ 16 * (i' + 1) := by rw [ByteArray.size_append]; omega
              go_wp2_with fail
              go_roundw
              case rel => exact ⟨i' + 1, _, by omega, by go_num, rfl, hcat, hszc, HL', K2⟩
              case measure => simp [intOf]; omega
          · obtain rfl : i' = i := by omega
            have hbn' : ¬ (i' : Int) < i' := by omega
            go_wp2_with (refine wpList_load_row rfl 73 _ rfl w.heap.size rfl _ _ _ _ (K2.out.get 1 rfl) Try.underlying73 rfl (by rw [u64s, uArr_size]) ?_)
            refine (refHave5 U _).mono ?_
            rintro e w5 ⟨v5, n5, rfl, hr5, hb5⟩
            have hn5 : n5 = Um.cnt U := by rw [← hr5.1, List.length_map]; exact Um.thereTo_length U 64
            have k5 := K2.out.call hb5
            obtain ⟨A5, c5, rfl⟩ := hr5.slice
            have K5 := Lib.hid k5
            clear K2 k5 hr5 hb5
            have Hhn5 := Lib.hid hn5
            clear hn5
            by_cases hce : n5 = i'
            · subst hce
              go_wp2_with fail
              go_loopw [10] (fun jv wx => ∃ j : Nat, j ≤ n5 ∧ jv = .int .i64 (j : Int) ∧ Hid (∀ t, t < j → t + 1 < n5 → (U (t + 1)).length = 16) ∧ Hid (Kn w.heap.size w [(p1, .cells (dArr []) 50), (w.heap.size, .cells (uArr U) 73)] wx)) (fun jv _ => n5 - (intOf jv).toNat)
              case atStart => exact ⟨0, by omega, rfl, fun t ht => absurd ht (by omega), K5⟩
              case round =>
                obtain ⟨j, hj, rfl, HF, K6⟩ := hrel
                clear K5
                have hbj : (0 : Int) ≤ j := by omega
                by_cases hjn : j + 1 < n5
                · have H64 : Hid (j < 64) := by show j < 64; have := HI64.out; omega
                  have hb64 : (j : Int) < 64 := by have := H64.out; omega
                  have hjz : (j : Int) + 1 < n5 := by omega
                  obtain ⟨x, hx⟩ : ∃ x : ByteArray, x = ⟨(U (j + 1)).toArray⟩ := ⟨_, rfl⟩
                  have hxs : x.size = (U (j + 1)).length := by rw [hx]; show (U (j + 1)).toArray.size = _; simp
                  have hc : wr.cell? ⟨w.heap.size, j, none⟩ = some (.string x) := by
                    rw [cell_of_row _ _ _ _ _ _ (K6.out.get 1 rfl), uArr_get _ _ H64.out, hx]
                  have Hhx := Lib.hid hx
                  have Hhxs := Lib.hid hxs
                  clear hx hxs
                  by_cases h16 : x.size = 16
                  · have hq : ((x.size : Int) == 16) = true := by rw [beq_iff_eq]; omega
                    have HF' : Hid (∀ t, t < j + 1 → t + 1 < n5 → (U (t + 1)).length = 16) := fun t ht ht2 => by
                      rcases Nat.lt_or_ge t j with h3 | h3
                      · exact HF.out t h3 ht2
                      · obtain rfl : t = j := by omega
                        rw [← Hhxs.out]; exact h16
                    clear h16
                    go_wp2_with fail
                    go_roundw
                    case rel => exact ⟨j + 1, by omega, by go_num, HF', K6⟩
                    case measure => simp [intOf]; omega
                  · have hq : ((x.size : Int) == 16) = false := by rw [beq_eq_false_iff_ne]; omega
                    have HBAD := Lib.hid (Hhbad.out 2 (by omega) (Um.doneE_form (by rw [← Hhn.out]; exact Hh0.out) (by rw [← Hhn.out]; exact HA.out) (by rw [← Hhn.out]; exact HL.out) (.inr (fun hf => h16 (by rw [Hhxs.out]; exact hf j (by rw [← Hhn.out]; exact hjn))))))
                    clear h16
                    have HRES' := Lib.hid (setRow_heap wr p1 _ (dArr []) _ _ (K6.out.get 0 rfl))
                    have HBR := below_setRow (g := p1) K6.out.below (by omega) (dArr [])
                    have K3 := Lib.hid (K6.out.get 0 rfl)
                    go_wp2_with (first | refine kl_build0 rfl 50 rfl 32 5 Try.underlying50 (by kernel_rfl) i0 hi0 (dArr []) hz0 ?_ | refine wpList_store_row rfl 50 _ _ rfl p1 (dArr []) rfl rfl _ _ K3.out (by rw [d32s, dArr_size]) (by rw [dArr_size]) (dArr_one _) ?_)
                    refine bodyPost_ret (results_tmp_row_tmp rfl _ _ _ _ _ _ _ rfl HRES'.out Try.underlying50 rfl (by rw [d32s, dArr_size])) rfl ⟨by rw [HBAD.out.1, HBAD.out.2.1, HBAD.out.2.2]; rfl, HBR⟩
                · have hok := Um.doneE_ok (by rw [← Hhn.out]; exact Hh0.out) (by rw [← Hhn.out]; exact HA.out) (by rw [← Hhn.out]; exact HL.out) (by rw [← Hhn.out]; exact Hhn5.out.symm) (fun t ht => HF.out t (by rw [← Hhn.out] at ht; omega) (by rw [Hhn.out]; exact ht))
                  have hjz : ¬ (j : Int) + 1 < n5 := by omega
                  have e1 : S = s := by rw [HhS.out]; unfold Um.doneS; rw [if_pos hok, ← Hhn.out, ← HS.out]
                  have e2 : D = Em.comp ds := by rw [HhD.out]; unfold Um.doneD; rw [if_pos hok]
                  have e3 : E = 0 := by rw [HhE.out, hok]
                  have hrd := (Hhrd.out.below K6.out.below).mono K6.out.base
                  rw [Hhn.out] at hrd
                  have hco := refComp _ ds (by rw [← Hhn.out]; exact hlen) hd wr hrd
                  rw [← Hhn.out, ← e2] at hco
                  have Hhco := Lib.hid hco
                  have Hhok := Lib.hid hok
                  have Hhrd := Lib.hid hrd
                  have He1 := Lib.hid e1
                  have He2 := Lib.hid e2
                  have He3 := Lib.hid e3
                  clear hco hok hrd e1 e2 e3
                  go_wp2_with fail
                  refine Hhco.out.mono ?_
                  rintro e w4 ⟨rfl, hb4⟩
                  have k4 := K6.out.call hb4
                  have HRES := setRow_heap w4 p1 _ (dArr D) _ _ (k4.get 0 rfl)
                  have HBR := below_setRow (g := p1) k4.below (by omega) (dArr D)
                  have K3 := Lib.hid (k4.get 0 rfl)
                  have HRES' := Lib.hid HRES
                  clear k4 hb4 HRES
                  go_wp2_with (refine wpList_store_row rfl 50 _ _ rfl p1 (dArr D) rfl rfl _ _ K3.out (by rw [d32s, dArr_size]) (by rw [dArr_size, dArr_size]) (dArr_one _) ?_)
                  refine bodyPost_ret (results_tmp_row_tmp rfl _ _ _ _ _ _ _ rfl HRES'.out Try.underlying50 rfl (by rw [d32s, dArr_size])) rfl ⟨by rw [He1.out, He3.out]; rfl, HBR⟩
            · have HBAD := Lib.hid (Hhbad.out 2 (by omega) (Um.doneE_form (by rw [← Hhn.out]; exact Hh0.out) (by rw [← Hhn.out]; exact HA.out) (by rw [← Hhn.out]; exact HL.out) (.inl (by rw [← Hhn.out, ← Hhn5.out]; exact hce))))
              have hcz : ((n5 : Int) == i') = false := by rw [beq_eq_false_iff_ne]; omega
              go_upto_region 16 with fail
              have HRES' := Lib.hid (setRow_heap w5 p1 _ (dArr []) _ _ (K5.out.get 0 rfl))
              have HBR := below_setRow (g := p1) K5.out.below (by omega) (dArr [])
              have K3 := Lib.hid (K5.out.get 0 rfl)
              go_wp2_with (first | refine kl_build0 rfl 50 rfl 32 5 Try.underlying50 (by kernel_rfl) i0 hi0 (dArr []) hz0 ?_ | refine wpList_store_row rfl 50 _ _ rfl p1 (dArr []) rfl rfl _ _ K3.out (by rw [d32s, dArr_size]) (by rw [dArr_size]) (dArr_one _) ?_)
              refine bodyPost_ret (results_tmp_row_tmp rfl _ _ _ _ _ _ _ rfl HRES'.out Try.underlying50 rfl (by rw [d32s, dArr_size])) rfl ⟨by rw [HBAD.out.1, HBAD.out.2.1, HBAD.out.2.2]; rfl, HBR⟩
end Go.Proofs.Ytgdjfijkbemkeaa
