/-
  Walk: Of.
-/
import Derived.Test.YtgdjfijkbemkeaaShaD
namespace Go.Proofs.Ytgdjfijkbemkeaa
open Go.RowKit
set_option maxHeartbeats 1000000
set_option maxRecDepth 20000
set_option linter.unusedVariables false

theorem info_t46 : (Try.prog.info? 46).map (fun i => (i.zero, i.size)) = some (some (.agg talZ), 11) := by kernel_rfl
theorem t46 : ∃ i, Try.prog.info? 46 = some i ∧ i.zero = some (.agg talZ) ∧ i.size = 11 := by
  have h := info_t46
  cases hi : Try.prog.info? 46 with
  | none => rw [hi] at h; cases h
  | some i =>
    rw [hi] at h
    simp only [Option.map_some, Option.some.injEq, Prod.mk.injEq] at h
    exact ⟨i, rfl, h.1, h.2⟩
theorem Below.cell {B : Nat} {w w' : World} (c : Below B w w') {a : Addr} (h : a.block < B) : w'.cell? a = w.cell? a := by
  have := c.block a.block h
  unfold World.cell?
  rw [this]

theorem of1 (ad : Addr) (cap : Nat) (ss : List ByteArray) (w : World) (hb : ad.block < w.heap.size)
    (hc : ∀ i (h : i < ss.length), w.cell? (ad.add i) = some (.string ss[i])) (hsum : (ss.flatMap (·.data.toList)).length ≤ 1099511627000) (hss : ss.length ≤ 1000000) :
    Calls Try.prog 33 #[.slice (some ad) ss.length cap] w fun e w' =>
      e = .returned (.agg (dArr (Sm.digest (ss.flatMap (·.data.toList))))) ∧ Below w.heap.size w w' := by
  obtain ⟨i0, hi0, hz0, hs0⟩ := d32
  obtain ⟨i1, hi1, hz1, hs1⟩ := t46
  have hab : ∀ i, (ad.add i).block = ad.block := fun i => by unfold Addr.add; split <;> rfl
  obtain ⟨L, hL⟩ : ∃ L : Nat → List UInt8, L = fun k => (ss.take k).flatMap (·.data.toList) := ⟨_, rfl⟩
  have hL0 : L 0 = [] := by rw [hL]; rfl
  have hLs : ∀ k (h : k < ss.length), L (k + 1) = L k ++ (ss[k]).data.toList := fun k h => by
    rw [hL]; simp only [List.take_succ_eq_append_getElem h, List.flatMap_append]; simp
  have hLn : L ss.length = ss.flatMap (·.data.toList) := by rw [hL]; simp
  have hLl : ∀ k, (L k).length ≤ (L ss.length).length := fun k => by
    have h : ss.flatMap (·.data.toList) = L k ++ (ss.drop k).flatMap (·.data.toList) := by
      rw [hL]; simp only [← List.flatMap_append, List.take_append_drop]
    rw [hLn, h, List.length_append]; omega
  rw [← hLn] at hsum ⊢
  clear hL hLn
  have HC := Lib.hid hc
  have HL0 := Lib.hid hL0
  have HLs := Lib.hid hLs
  have HLl := Lib.hid hLl
  clear hc hL0 hLs hLl
  obtain ⟨n, hn⟩ : ∃ n, n = ss.length := ⟨_, rfl⟩
  have HN := Lib.hid hn
  rw [← hn] at hsum hss ⊢
  clear hn
  obtain ⟨D, hD⟩ : ∃ D, D = Sm.digest (L n) := ⟨_, rfl⟩
  rw [← hD]
  have HD := Lib.hid hD
  clear hD
  go_enter Try.func33, Try.ntmps33
  go_wp2_with (refine kl_alloc rfl 50 rfl (dArr []) i0 hi0 _ hz0 rfl ?_)
  refine (newTally _).mono ?_
  rintro e w1 ⟨T, rfl, hT, hTb, hb1⟩
  have d0 := Below.keep hb1 (heap_alloc_new w (.cells (dArr []) 50)) (by rw [size_alloc]; omega)
  have hbw : Below w.heap.size w w1 := ((Below.refl _ _).alloc (Nat.le_refl _) _).trans (hb1.mono (by rw [size_alloc]; omega))
  have hTl := lt_of_block hTb
  have hdl := lt_of_block d0
  rw [size_alloc] at hT
  have q1 := heap_alloc_new w1 (.cells talZ 46)
  have q2 := setRow_heap _ w1.heap.size _ (talA T st0 ⟨#[]⟩ 0) _ _ q1
  have q3 := (setRow_other (w1.alloc (.cells talZ 46)) w1.heap.size T (talA T st0 ⟨#[]⟩ 0) (by omega)).trans (blk_old _ _ hTb)
  have q4 := (setRow_other (w1.alloc (.cells talZ 46)) w1.heap.size w.heap.size (talA T st0 ⟨#[]⟩ 0) (by omega)).trans (blk_old _ _ d0)
  have q5 := below_setRow (g := w1.heap.size) (hbw.alloc hbw.size (.cells talZ 46)) hbw.size (talA T st0 ⟨#[]⟩ 0)
  have Q1 := Lib.hid q1
  have Q2 := Lib.hid q2
  have Q3 := Lib.hid q3
  have Q4 := Lib.hid q4
  clear q1 q2 q3 q4 hTb d0 hb1
  go_wp2_with (first | refine kl_alloc rfl 46 rfl talZ i1 hi1 _ hz1 rfl ?_ | refine wpList_store_row rfl 46 _ _ rfl w1.heap.size (talA T st0 ⟨#[]⟩ 0) rfl rfl _ _ Q1.out (by rw [info_tally]; rfl) rfl (talA_one _ _ _ _) ?_)
  generalize (w1.alloc (.cells talZ 46)).setRow w1.heap.size (talA T st0 ⟨#[]⟩ 0) = w2 at *
  have hbs := hbw.size
  generalize w1.heap.size = tb at *
  go_loopw [9] (fun c wr => ∃ k : Nat, k ≤ n ∧ c = .int .i64 (k : Int) ∧ Hid (wr.heap[tb]? = some (.cells (talA T (Sm.stOf (L k)) ⟨(Sm.restOf (L k)).toArray⟩ ((L k).length : Nat)) 46 (0, 0))) ∧
      Hid (wr.heap[T]? = some (.cells (tabArr 64) 95 (0, 0))) ∧ Hid (wr.heap[w.heap.size]? = some (.cells (dArr []) 50 (0, 0))) ∧ Below w.heap.size w wr) (fun c _ => n - (intOf c).toNat)
  case atStart => exact ⟨0, by omega, rfl, by rw [HL0.out]; exact Q2.out, Q3, Q4, q5⟩
  case round =>
    obtain ⟨k, hk, rfl, G1, G2, G3, hbr⟩ := hrel
    by_cases hlt : k < n
    · have hlk : k < ss.length := by rw [← HN.out]; exact hlt
      have hck : wr.cell? (ad.add k) = some (.string ss[k]) := by
        rw [Below.cell hbr (by rw [hab]; exact hb)]; exact HC.out k hlk
      have hLs := HLs.out k hlk
      have hl1 := HLl.out (k + 1)
      rw [hLs, List.length_append, ← HN.out] at hl1
      generalize ss[k] = sk at *
      have hsk : sk.data.toList.length = sk.size := rfl
      have had := add1 T (L k) sk wr (by omega) G2.out
      rw [← hLs] at had
      have hlen : (L k).length + sk.size = (L (k + 1)).length := by rw [hLs, List.length_append, hsk]
      rw [hlen] at had
      generalize (⟨(Sm.restOf (L k)).toArray⟩ : ByteArray) = r0 at *
      generalize (L k).length = n0 at *
      generalize Sm.stOf (L k) = S0 at *
      obtain ⟨r1, hr1⟩ : ∃ x : ByteArray, x = ⟨(Sm.restOf (L (k + 1))).toArray⟩ := ⟨_, rfl⟩
      obtain ⟨S1, hS1⟩ : ∃ x, x = Sm.stOf (L (k + 1)) := ⟨_, rfl⟩
      obtain ⟨n1, hn1⟩ : ∃ x, x = (L (k + 1)).length := ⟨_, rfl⟩
      rw [← hr1, ← hS1, ← hn1] at had
      have HAD := Lib.hid had
      have E1 := Lib.hid hr1
      have E2 := Lib.hid hS1
      have E3 := Lib.hid hn1
      clear had hr1 hS1 hn1 hlen hLs hl1 hsk
      have hki : (k : Int) < n := by omega
      go_wp2_with (refine wpList_load_row rfl 46 _ rfl tb rfl _ _ _ _ G1.out Try.underlying46 rfl (by rw [info_tally]; rfl) ?_)
      refine HAD.out.mono ?_
      rintro e w4 ⟨rfl, kb⟩
      have k1 := Below.keep kb G1.out (lt_of_block G1.out)
      have k2 := Below.keep kb G2.out (lt_of_block G2.out)
      have k3 := Below.keep kb G3.out (lt_of_block G3.out)
      have k4 := hbr.trans (kb.mono hbr.size)
      have q2 := setRow_heap w4 tb _ (talA T S1 r1 n1) _ _ k1
      have q3 := (setRow_other w4 tb T (talA T S1 r1 n1) (by omega)).trans k2
      have q4 := (setRow_other w4 tb w.heap.size (talA T S1 r1 n1) (by omega)).trans k3
      have q5 := below_setRow (g := tb) k4 (by omega) (talA T S1 r1 n1)
      have K1 := Lib.hid k1
      have Q2 := Lib.hid q2
      have Q3 := Lib.hid q3
      have Q4 := Lib.hid q4
      clear k1 k2 k3 q2 q3 q4
      go_wp2_with (refine wpList_store_row rfl 46 _ _ rfl tb (talA T S1 r1 n1) rfl rfl _ _ K1.out (by rw [info_tally]; rfl) rfl (talA_one _ _ _ _) ?_)
      go_roundw
      case rel =>
        refine ⟨k + 1, by omega, by go_num, ?_, Q3, Q4, q5⟩
        rw [← E1.out, ← E2.out, ← E3.out]; exact Q2
      case measure => simp [intOf]; omega
    · obtain rfl : k = n := by omega
      have hsm := tally_sum T (L k) wr (by rw [HN.out]; rw [HN.out] at hsum; exact hsum) G2.out
      rw [← HD.out] at hsm
      generalize (⟨(Sm.restOf (L k)).toArray⟩ : ByteArray) = r0 at *
      generalize (L k).length = n0 at *
      generalize Sm.stOf (L k) = S0 at *
      have HSM := Lib.hid hsm
      clear hsm
      go_wp2_with (refine wpList_load_row rfl 46 _ rfl tb rfl _ _ _ _ G1.out Try.underlying46 rfl (by rw [info_tally]; rfl) ?_)
      refine HSM.out.mono ?_
      rintro e w4 ⟨rfl, kb⟩
      have k3 := Below.keep kb G3.out (lt_of_block G3.out)
      have k4 := hbr.trans (kb.mono hbr.size)
      have HRES := setRow_heap w4 w.heap.size _ (dArr D) _ _ k3
      have HBR := below_setRow (g := w.heap.size) k4 (by omega) (dArr D)
      have K3 := Lib.hid k3
      have HRES' := Lib.hid HRES
      clear k3 HRES
      go_wp2_with (refine wpList_store_row rfl 50 _ _ rfl w.heap.size (dArr D) rfl rfl _ _ K3.out (by rw [d32s, dArr_size]) (by rw [dArr_size, dArr_size]) (dArr_one _) ?_)
      refine bodyPost_ret (results_cell_row rfl _ _ _ _ _ _ _ rfl HRES'.out Try.underlying50 rfl (by rw [d32s, dArr_size])) rfl ⟨rfl, HBR⟩
end Go.Proofs.Ytgdjfijkbemkeaa
