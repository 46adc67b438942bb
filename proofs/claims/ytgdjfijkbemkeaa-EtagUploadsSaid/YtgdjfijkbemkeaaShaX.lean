import Derived.Test.YtgdjfijkbemkeaaShaW
namespace Go.Proofs.Ytgdjfijkbemkeaa
open Go.RowKit
set_option maxHeartbeats 1000000
set_option maxRecDepth 20000
set_option linter.unusedVariables false

theorem tabArr_size (n : Nat) : (tabArr n).size = 72 := by simp [tabArr]
theorem tabArr_first (n i : Nat) (hi : i < 8) : (tabArr n)[i]? = some (.int .u32 ((if i < n then Sm.firstT.getD i 0 else 0 : Nat) : Int)) := by
  simp only [tabArr, Array.getElem?_ofFn, show i < 72 by omega, dif_pos, hi, if_true]
theorem tabArr_k (n i : Nat) (hi : i < 64) : (tabArr n)[8 + i]? = some (.int .u32 ((if i < n then Sm.kT.getD i 0 else 0 : Nat) : Int)) := by
  simp only [tabArr, Array.getElem?_ofFn, show 8 + i < 72 by omega, dif_pos, show ¬ 8 + i < 8 by omega, if_false, show 8 + i - 8 = i by omega]

theorem tabArr_put (n : Nat) (hn : n < 64) (x y : Nat) (hx : n < 8 → Sm.firstT.getD n 0 = x) (hy : Sm.kT.getD n 0 = y) :
    ((if n < 8 then (tabArr n).setIfInBounds n (.int .u32 (x : Int)) else tabArr n).setIfInBounds (8 + n) (.int .u32 (y : Int))) = tabArr (n + 1) := by
  apply Array.ext_getElem?
  intro i
  rw [Array.getElem?_setIfInBounds]
  have hsz : (if n < 8 then (tabArr n).setIfInBounds n (.int .u32 (x : Int)) else tabArr n).size = 72 := by
    split <;> simp [tabArr_size]
  by_cases h : 8 + n = i
  · subst h
    rw [if_pos rfl, hsz, if_pos (by omega), tabArr_k _ _ hn, if_pos (by omega), hy]
  · rw [if_neg h]
    by_cases hi8 : i < 8
    · rw [tabArr_first _ _ hi8]
      by_cases hn8 : n < 8
      · rw [if_pos hn8, Array.getElem?_setIfInBounds]
        by_cases hni : n = i
        · subst hni
          rw [if_pos rfl, tabArr_size, if_pos (by omega), if_pos (by omega), hx hn8]
        · rw [if_neg hni, tabArr_first _ _ hi8]
          by_cases hlt : i < n
          · rw [if_pos hlt, if_pos (by omega)]
          · rw [if_neg hlt, if_neg (by omega)]
      · rw [if_neg hn8, tabArr_first _ _ hi8, if_pos (by omega), if_pos (by omega)]
    · by_cases hi : i < 72
      · obtain ⟨j, rfl⟩ : ∃ j, i = 8 + j := ⟨i - 8, by omega⟩
        rw [tabArr_k _ _ (by omega)]
        have e : (if n < 8 then (tabArr n).setIfInBounds n (.int .u32 (x : Int)) else tabArr n)[8 + j]? = (tabArr n)[8 + j]? := by
          split
          · rw [Array.getElem?_setIfInBounds, if_neg (by omega)]
          · rfl
        rw [e, tabArr_k _ _ (by omega)]
        by_cases hlt : j < n
        · rw [if_pos hlt, if_pos (by omega)]
        · rw [if_neg hlt, if_neg (by omega)]
      · rw [Array.getElem?_eq_none (by rw [hsz]; omega), Array.getElem?_eq_none (by rw [tabArr_size]; omega)]

theorem tabArr_zero : tabArr 0 = Array.replicate 72 (.int .u32 0) := by
  apply Array.ext_getElem?
  intro i
  by_cases hi : i < 72
  · by_cases hi8 : i < 8
    · rw [tabArr_first _ _ hi8, if_neg (by omega)]; simp [hi]
    · obtain ⟨j, rfl⟩ : ∃ j, i = 8 + j := ⟨i - 8, by omega⟩
      rw [tabArr_k _ _ (by omega), if_neg (by omega)]; simp [hi]
  · rw [Array.getElem?_eq_none (by rw [tabArr_size]; omega), Array.getElem?_eq_none (by simp; omega)]

theorem prime_at (n P : Nat) (l : List Nat) (h : Sm.primes.drop n = P :: l) : Sm.primes[n]? = some P := by
  have := congrArg (fun x : List Nat => x[0]?) h
  simpa [List.getElem?_drop] using this
theorem first_at (n P : Nat) (h : Sm.primes[n]? = some P) (hn : n < 8) : Sm.firstT.getD n 0 = Sm.frac (Sm.sqB P) := by
  unfold Sm.firstT
  rw [List.getD_eq_getElem?_getD, List.getElem?_map, List.getElem?_take, if_pos hn, h, Option.map_some, Option.getD_some]
theorem k_at (n P : Nat) (h : Sm.primes[n]? = some P) : Sm.kT.getD n 0 = Sm.frac (Sm.cuB P) := by
  unfold Sm.kT
  rw [List.getD_eq_getElem?_getD, List.getElem?_map, h, Option.map_some, Option.getD_some]

/-- the number that a variable holds -/
def cellNat (w : World) (v : Value) : Nat := match v with | .pointer (some a) => (match w.cell? a with | some x => (intOf x).toNat | none => 0) | _ => 0

theorem cellNat_one {w : World} {b P : Nat} {t : TypeId} (h : w.heap[b]? = some (.cells #[.int .u64 (P : Int)] t (0, 0))) : cellNat w (.pointer (some ⟨b, 0, none⟩)) = P := by
  unfold cellNat; simp [cell_of_one h, intOf]

theorem info_tab : (Try.prog.info? 95).map (fun i => (i.zero, i.size)) = some (some (.agg (Array.replicate 72 (.int .u32 0))), 72) := by kernel_rfl

theorem made (w : World) :
    Calls Try.prog 59 #[] w fun e w' => ∃ T, e = .returned (.pointer (some ⟨T, 0, none⟩)) ∧ w.heap.size ≤ T ∧ w'.heap[T]? = some (.cells (tabArr 64) 95 (0, 0)) ∧ Below w.heap.size w w' := by
  go_enter Try.func59, Try.ntmps59
  go_wp2_with fail
  have hz : Try.zeroCells95 = tabArr 0 := by
    rw [tabArr_zero]
    kernel_rfl
  rw [hz]
  go_loopw [2, 3] (fun c pp wr => ∃ (n P pb : Nat), n ≤ 64 ∧ 2 ≤ P ∧ P ≤ 312 ∧ c = .int .i64 (n : Int) ∧ pp = .pointer (some ⟨pb, 0, none⟩) ∧ w.heap.size < pb ∧
      Hid (wr.heap[w.heap.size]? = some (.cells (tabArr n) 95 (0, 0)) ∧ wr.heap[pb]? = some (.cells #[.int .u64 (P : Int)] 23 (0, 0)) ∧ Sm.primesFrom (312 - P) P = Sm.primes.drop n) ∧ Below w.heap.size w wr)
    (fun _ pp wr => 312 - cellNat wr pp)
  case atStart =>
    exact ⟨0, 2, w.heap.size + 1, by omega, by omega, by omega, rfl, rfl, by omega, ⟨heap_alloc2_old _ _ _, heap_alloc2_new _ _ _, by unfold Sm.primes; rfl⟩, ((Below.refl _ _).alloc (Nat.le_refl _) _).alloc (by simp) _⟩
  case round =>
    obtain ⟨n, P, pb, hn, hP2, hP, rfl, rfl, hpb, HH, hb⟩ := hrel
    by_cases hlt : n < 64
    · have hcp := cell_of_one HH.out.2.1
      have HCN := Lib.hid (cellNat_one HH.out.2.1)
      have hPlt : P < 312 := by
        rcases Nat.lt_or_ge P 312 with h | h
        · exact h
        · have h1 := HH.out.2.2
          rw [show 312 - P = 0 by omega] at h1
          have h2 := congrArg List.length h1
          rw [List.length_drop, Sm.primes_length] at h2
          simp [Sm.primesFrom] at h2; omega
      go_wp2
      go_loop [4, 5] (fun b d => ∃ (D : Nat) (B : Bool), 2 ≤ D ∧ D ≤ 19 ∧ b = .bool B ∧ d = .int .u64 (D : Int) ∧ Hid ((B && Sm.primeFrom P (42 - D) D) = Sm.prime P)) (fun _ d => 20 - (intOf d).toNat)
      case atStart => exact ⟨2, true, by omega, by omega, rfl, rfl, by show _ = _; rfl⟩
      case round =>
        obtain ⟨D, B, hD2, hD, rfl, rfl, HB⟩ := hrel
        have hstep : Sm.primeFrom P (42 - D) D = if D * D ≤ P then (decide (P % D ≠ 0) && Sm.primeFrom P (41 - D) (D + 1)) else true := by
          rw [show 42 - D = (41 - D) + 1 by omega]; rfl
        by_cases hdd : D * D ≤ P
        · have hD18 : D ≤ 18 := by
            rcases Nat.lt_or_ge D 19 with h | h
            · omega
            · have : 19 * 19 ≤ D * D := Nat.mul_le_mul h h
              omega
          rw [if_pos hdd] at hstep
          have hst2 := HB.out
          rw [hstep] at hst2
          obtain ⟨e, he⟩ : ∃ e, e = D * D := ⟨_, rfl⟩
          have hee : (D : Int) * (D : Int) = (e : Int) := by rw [he, Int.natCast_mul]
          rw [← he] at hdd
          obtain ⟨m, hm⟩ : ∃ m, m = P % D := ⟨_, rfl⟩
          have hmm : (P : Int) % (D : Int) = (m : Int) := by rw [hm, Int.natCast_emod]
          rw [← hm] at hst2
          have hmod : decide (m ≠ 0) = ((m : Int) != 0) := by
            by_cases h : m = 0
            · subst h; rfl
            · rw [decide_eq_true h]; symm; rw [bne_iff_ne]; omega
          rw [hmod] at hst2
          have HST := Lib.hid hst2
          have HE := Lib.hid hee
          clear hst2 hstep he hm hmod
          cases B
          · go_wp2
            go_round
            case rel => exact ⟨D + 1, false, by omega, by omega, rfl, by go_num, by show _ = _; rw [← HST.out]; rfl⟩
            case measure => simp [intOf]; omega
          · go_wp2
            go_round
            case rel => exact ⟨D + 1, ((m : Int) != 0), by omega, by omega, rfl, by go_num, by show _ = _; rw [← HST.out, show 42 - (D + 1) = 41 - D by omega]; rfl⟩
            case measure => simp [intOf]; omega
        · rw [if_neg hdd] at hstep
          have hBp := HB.out
          rw [hstep, Bool.and_true] at hBp
          obtain ⟨e, he⟩ : ∃ e, e = D * D := ⟨_, rfl⟩
          have hee : (D : Int) * (D : Int) = (e : Int) := by rw [he, Int.natCast_mul]
          have he361 : e ≤ 19 * 19 := by rw [he]; exact Nat.mul_le_mul hD hD
          rw [← he] at hdd
          have hpf : Sm.primesFrom (312 - P) P = if Sm.prime P = true then P :: Sm.primesFrom (311 - P) (P + 1) else Sm.primesFrom (311 - P) (P + 1) := by
            rw [show 312 - P = (311 - P) + 1 by omega]; rfl
          rw [HH.out.2.2, ← hBp] at hpf
          clear hstep hBp HB he
          have hszpb := lt_of_block HH.out.2.1
          have hsz := hb.size
          cases B
          · have HPF := Lib.hid (hpf.trans (if_neg (by decide)))
            clear hpf
            go_wp2
            go_roundw
            case rel =>
              refine ⟨n, P + 1, wr.heap.size, hn, by omega, by omega, rfl, rfl, by omega, ⟨?_, ?_, ?_⟩, ?_⟩
              · exact blk_old _ _ HH.out.1
              · exact heap_alloc_new _ _
              · have h := HPF.out
                rw [show 312 - (P + 1) = 311 - P by omega, h]
              · exact hb.alloc hsz _
            case measure =>
              rw [HCN.out]
              have h := cellNat_one (P := P + 1) (heap_alloc_new wr (Obj.cells #[.int .u64 ((P : Int) + 1)] 23))
              rw [h]; omega
          · have HPF := Lib.hid (hpf.trans (if_pos rfl))
            clear hpf
            have hfr1 : ∀ wx : World, wx.heap[pb]? = some (.cells #[.int .u64 (P : Int)] 23 (0, 0)) → Calls Try.prog 75 #[.func (.func 76) #[] #[.pointer (some ⟨pb, 0, none⟩)]] wx fun e w' => e = .returned (.int .u32 (Sm.frac (Sm.sqB P) : Nat)) ∧ w' = wx :=
              fun wx hx => (fraction 76 _ (Sm.sqB P) wx (Or.inl rfl) (asks1 P (by omega) pb wx (cell_of_one hx))).mono fun e w' h => ⟨h.1, h.2.symm⟩
            have hfr2 : ∀ wx : World, wx.heap[pb]? = some (.cells #[.int .u64 (P : Int)] 23 (0, 0)) → Calls Try.prog 75 #[.func (.func 78) #[] #[.pointer (some ⟨pb, 0, none⟩)]] wx fun e w' => e = .returned (.int .u32 (Sm.frac (Sm.cuB P) : Nat)) ∧ w' = wx :=
              fun wx hx => (fraction 78 _ (Sm.cuB P) wx (Or.inr rfl) (asks2 P (by omega) pb wx (cell_of_one hx))).mono fun e w' h => ⟨h.1, h.2.symm⟩
            obtain ⟨x, hx⟩ : ∃ x, x = Sm.frac (Sm.sqB P) := ⟨_, rfl⟩
            obtain ⟨y, hy⟩ : ∃ y, y = Sm.frac (Sm.cuB P) := ⟨_, rfl⟩
            rw [← hx] at hfr1
            rw [← hy] at hfr2
            have hpr := prime_at n P _ HPF.out
            have HPUT := Lib.hid (tabArr_put n hlt x y (fun h => (first_at n P hpr h).trans hx.symm) ((k_at n P hpr).trans hy.symm))
            have HX := Lib.hid hx
            have HY := Lib.hid hy
            have HF1 := Lib.hid hfr1
            have HF2 := Lib.hid hfr2
            clear hx hy hfr1 hfr2
            by_cases hn8 : n < 8
            case' pos =>
              have hf := frozen_of_row _ _ n _ _ HH.out.1
              have hc : wr.cell? ⟨w.heap.size, n, none⟩ = some (.int .u32 0) := by
                rw [cell_of_row _ _ _ _ _ _ HH.out.1, tabArr_first _ _ hn8, if_neg (by omega)]; rfl
              go_wp2_with fail
              go_still_tail 7, (by kernel_rfl)
              still_call (HF1.out _ (show wr.drew.heap[pb]? = _ from HH.out.2.1))
              repeat still_step
              try refine wpStill_nil ?_
              change wpList _ _ _ _ _ wr.drew
              have K1 : Hid (wr.drew.heap[w.heap.size]? = some (.cells (tabArr n) 95 (0, 0))) := HH.out.1
              have K2 : Hid (wr.drew.heap[pb]? = some (.cells #[.int .u64 (P : Int)] 23 (0, 0))) := HH.out.2.1
              have K3 := HH.out.2.2
              have KB : Below w.heap.size w wr.drew := hb.drew
              have hf' : wr.drew.frozen? ⟨w.heap.size, n, none⟩ = false := hf
              have hc' : wr.drew.cell? ⟨w.heap.size, n, none⟩ = some (.int .u32 0) := hc
              have HK3 := Lib.hid K3
              clear hf hc hcp HH hb K3
              have hszpb2 : pb < wr.drew.heap.size := hszpb
              clear hszpb hsz
              generalize wr.drew = w2 at *
              go_wp2_with fail
              have L1 := heap_setCell_same w2 w.heap.size n _ _ (.int .u32 (x : Int)) K1.out
              have L2 := (heap_setCell_other w2 ⟨w.heap.size, n, none⟩ pb (.int .u32 (x : Int)) (by show pb ≠ w.heap.size; omega)).trans K2.out
              have LB := KB.setCell (p := ⟨w.heap.size, n, none⟩) (Nat.le_refl _) (.int .u32 (x : Int))
              have hszpb3 : pb < (w2.setCell ⟨w.heap.size, n, none⟩ (.int .u32 (x : Int))).heap.size := by rw [size_setCell]; exact hszpb2
              clear hf' hc' K1 K2 KB hszpb2
              have HL1 := Lib.hid L1
              have HL2 := Lib.hid L2
              clear L1 L2
              generalize w2.setCell ⟨w.heap.size, n, none⟩ (.int .u32 (x : Int)) = w3 at *
              have hput := HPUT.out
              rw [if_pos hn8] at hput
              have hszA : ((tabArr n).setIfInBounds n (.int .u32 (x : Int))).size = 72 := by rw [Array.size_setIfInBounds, tabArr_size]
              generalize (tabArr n).setIfInBounds n (.int .u32 (x : Int)) = AA at *
              have HP3 := Lib.hid hput
              clear hput HPUT HF1 HX HY
            case' neg =>
              go_wp2_with fail
              have hput := HPUT.out
              rw [if_neg hn8] at hput
              have hszA := tabArr_size n
              have HL1 := Lib.hid HH.out.1
              have HL2 := Lib.hid HH.out.2.1
              have HK3 := Lib.hid HH.out.2.2
              clear HH hcp hsz
              obtain ⟨w3, hw3⟩ : ∃ w3, w3 = wr := ⟨_, rfl⟩
              subst hw3
              have LB := hb
              have hszpb3 := hszpb
              generalize tabArr n = AA at *
              have HP3 := Lib.hid hput
              clear hput HPUT HF1 HX HY hb hszpb
            all_goals
              obtain ⟨cv, hc3⟩ : ∃ v, w3.cell? ⟨w.heap.size, 8 + n, none⟩ = some v := by
                rw [cell_of_row _ _ _ _ _ _ HL1.out]
                exact ⟨_, Array.getElem?_eq_getElem (by rw [hszA]; omega)⟩
              have hf3 := frozen_of_row _ _ (8 + n) _ _ HL1.out
              go_still_tail 7, (by kernel_rfl)
              still_call (HF2.out _ (show w3.drew.heap[pb]? = _ from HL2.out))
              repeat still_step
              try refine wpStill_nil ?_
              change wpList _ _ _ _ _ w3.drew
              have J1 : Hid (w3.drew.heap[w.heap.size]? = some (.cells AA 95 (0, 0))) := HL1.out
              have J2 : Hid (w3.drew.heap[pb]? = some (.cells #[.int .u64 (P : Int)] 23 (0, 0))) := HL2.out
              have JB : Below w.heap.size w w3.drew := LB.drew
              have hf' : w3.drew.frozen? ⟨w.heap.size, 8 + n, none⟩ = false := hf3
              have hc' : w3.drew.cell? ⟨w.heap.size, 8 + n, none⟩ = some cv := hc3
              have hszpb4 : pb < w3.drew.heap.size := hszpb3
              clear hf3 hc3 LB hszpb3 HL1 HL2 HF2
              generalize w3.drew = w4 at *
              have M1 := heap_setCell_same w4 w.heap.size (8 + n) _ _ (.int .u32 (y : Int)) J1.out
              have M2 := (heap_setCell_other w4 ⟨w.heap.size, 8 + n, none⟩ pb (.int .u32 (y : Int)) (by show pb ≠ w.heap.size; omega)).trans J2.out
              have MB := JB.setCell (p := ⟨w.heap.size, 8 + n, none⟩) (Nat.le_refl _) (.int .u32 (y : Int))
              rw [HP3.out] at M1
              have hsz5 : (w4.setCell ⟨w.heap.size, 8 + n, none⟩ (.int .u32 (y : Int))).heap.size = w4.heap.size := size_setCell _ _ _
              have hcp5 := cell_of_one M2
              have HM1 := Lib.hid M1
              have HM2 := Lib.hid M2
              have HS5 := Lib.hid hsz5
              have hpw4 : w.heap.size < w4.heap.size := by omega
              clear M1 M2 hsz5 J1 J2 JB
              go_wp2
              have hnew : ∀ o : Obj, ((w4.setCell ⟨w.heap.size, 8 + n, none⟩ (.int .u32 (y : Int))).alloc o).heap[w4.heap.size]? = some o := fun o => by
                rw [← HS5.out]; exact heap_alloc_new _ _
              go_roundw
              case rel =>
                refine ⟨n + 1, P + 1, w4.heap.size, by omega, by omega, by omega, by go_num, rfl, hpw4, ⟨blk_old _ _ HM1.out, hnew _, ?_⟩, MB.alloc MB.size _⟩
                have h := HPF.out
                rw [show 312 - (P + 1) = 311 - P by omega]
                have h2 := congrArg List.tail h
                simpa using h2.symm
              case measure =>
                rw [HCN.out]
                have h := cellNat_one (P := P + 1) (hnew (Obj.cells #[.int .u64 ((P : Int) + 1)] 23))
                rw [h]; omega
    · obtain rfl : n = 64 := by omega
      go_wp2
      go_ret
      exact ⟨w.heap.size, rfl, Nat.le_refl _, HH.out.1, hb⟩
