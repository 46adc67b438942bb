import Derived.Test.YtgdjfijkbemkeaaBitsX
import Derived.Room.At
namespace Go.Proofs.Ytgdjfijkbemkeaa
open Go.RowKit
set_option maxHeartbeats 400000
set_option maxRecDepth 20000
set_option linter.unusedVariables false

theorem refTurn (V : Nat) (n : Int) (hV : V < 18446744073709551616) (w : World) :
    Calls Try.prog 22 #[.int .u64 V, .int .i64 n] w fun e w' => e = .returned (.int .u64 (Bm.rev V (Bm.clamp n) : Nat)) ∧ Below w.heap.size w w' := by
  obtain ⟨i, hi, hz, hs⟩ := arr64 V
  obtain ⟨i0, hi0, hz0, hz1, hz2⟩ := info_parts (show (Try.prog.info? 3).map (fun i => (i.zero, i.size, i.bytes)) = some (some (.int .i64 0), 1, 8) by kernel_rfl)
  have hcl : Bm.clamp n ≤ 64 := by unfold Bm.clamp; omega
  have hcall := clamp_any n
  generalize Bm.clamp n = k at *
  have hrev : ∀ j, j < k → (Bm.bitsOf V k).reverse.take j ++ [V / 2 ^ (k - 1 - j) % 2] = (Bm.bitsOf V k).reverse.take (j + 1) := fun j hj => by
    have hlen : j < (Bm.bitsOf V k).reverse.length := by rw [List.length_reverse, Bm.bitsOf_length]; exact hj
    rw [List.take_succ_eq_append_getElem hlen]
    congr 2
    have h1 : (Bm.bitsOf V k).reverse[j]? = some (V / 2 ^ (k - 1 - j) % 2) := by
      rw [List.getElem?_reverse (by rw [Bm.bitsOf_length]; exact hj), Bm.bitsOf_length, Bm.bitsOf_get _ _ _ (by omega)]
    rw [List.getElem?_eq_getElem hlen] at h1
    exact (Option.some.inj h1).symm
  have HREV := Lib.hid hrev
  clear hrev
  go_enter Try.func22, Try.ntmps22
  go_wp2_with fail
  refine (refBits V hV _).mono ?_
  rintro e w1 ⟨rfl, hb1⟩
  have hblk := heap_alloc_new w1 (Obj.cells (bitArr V 64) 87)
  have HB := Lib.hid hblk
  clear hblk
  go_wp2_with (first | (refine kl_alloc rfl 87 rfl (bitArr V 0) i hi _ hz rfl ?_) | (refine kl_store_new rfl 87 _ _ rfl _ rfl rfl _ _ (by rw [arr64s, bitArr_size]) (by simp [bitArr_size]) (bitArr_one _ _) ?_) | (go_at_call 57; refine (hcall _).mono ?_; rintro e w' ⟨rfl, rfl⟩))
  have hb2 := hb1.alloc hb1.size (Obj.cells (bitArr V 64) 87)
  have hsz : w1.heap.size + 1 = (w1.alloc (Obj.cells (bitArr V 64) 87)).heap.size := (size_alloc _ _).symm
  have hle1 := hb1.size
  have HSZ := Lib.hid hsz
  clear hsz
  generalize w1.alloc (Obj.cells (bitArr V 64) 87) = wz at *
  have hlenr : (Bm.bitsOf V k).reverse.length = k := by rw [List.length_reverse, Bm.bitsOf_length]
  have HLR := Lib.hid hlenr
  clear hlenr
  go_loopw [6, 7] (fun v i wr => ∃ j : Nat, j ≤ k ∧ i = .int .i64 ((k : Int) - 1 - j) ∧ wr.ownsRow wz.heap.size 3 1 v j (((Bm.bitsOf V k).reverse.take j).map fun x : Nat => .int .i64 (x : Int)) ∧ Below wz.heap.size wz wr) (fun _ i _ => (intOf i + 1).toNat)
  case atStart => exact ⟨0, by omega, by simp, by simpa using World.ownsRow_nil _ _ _ _, Below.refl _ _⟩
  case round =>
    obtain ⟨j, hj, rfl, hown, hbz⟩ := hrel
    have hszr := hbz.size
    by_cases hlt : j < k
    · have hc : wr.cell? ⟨w1.heap.size, k - 1 - j, none⟩ = some (.int .i64 ((V / 2 ^ (k - 1 - j) % 2 : Nat) : Int)) := by
        rw [hbz.cell (by have := HSZ.out; show w1.heap.size < wz.heap.size; omega), cell_of_row _ _ _ _ _ _ HB.out, bitArr_get _ _ _ (by omega), if_pos (by omega)]
      have hr := HREV.out j hlt
      have hx2 : V / 2 ^ (k - 1 - j) % 2 < 2 := by omega
      generalize V / 2 ^ (k - 1 - j) % 2 = x at *
      obtain ⟨m, hm⟩ : ∃ m, m = k - 1 - j := ⟨_, rfl⟩
      rw [← hm] at hc
      have hkm : (k : Int) - 1 - j = (m : Int) := by omega
      rw [hkm]
      have HKM := Lib.hid hkm
      have hm64 : m < 64 := by omega
      have hmk : m + j + 1 = k := by omega
      have HMK := Lib.hid hmk
      have HR := Lib.hid hr
      clear hr hm hkm hmk
      go_wp2_with (at_builtin; refine kl_append1 rfl _ _ 83 rfl wz.heap.size 3 i0 (.int .i64 0) 1 8 Try.underlying83 hi0 hz0 hz1 hz2 rfl (by decide) _ j _ rfl hown 1 #[.int .i64 (x : Int)] rfl rfl (by simp [Value.oneCell']) (by omega) (by omega) hszr ?_; intro v' w' hown' hbel hsz' _)
      go_roundw
      case rel =>
        have hmk := HMK.out
        refine ⟨j + 1, by omega, by congr 1; omega, ?_, hbz.trans hbel⟩
        rw [← HR.out, List.map_append]; exact hown'
      case measure => simp [intOf]
    · obtain rfl : j = k := by omega
      rw [List.take_of_length_le (by rw [HLR.out]; omega)] at hown
      have hfin := Bm.wh_reverse V j
      have hneg : ¬ (0 ≤ (j : Int) - 1 - j) := by omega
      rw [show (j : Int) - 1 - j = -1 by omega]
      obtain ⟨p, c, rfl, _, hrd⟩ := owns_read hown
      have hsb : SlBits wr p (Bm.bitsOf V j).reverse := by
        rcases hrd with h0 | ⟨b, rfl, _, _, hcells⟩
        · exact Or.inl (by rw [h0]; rfl)
        · refine Or.inr ⟨b, 0, rfl, fun i x hx => ?_⟩
          rw [Nat.zero_add]
          exact hcells i _ (by rw [List.getElem?_map, hx]; rfl)
      have hw := refWhole (Bm.bitsOf V j).reverse (fun x hx => Bm.bitsOf_le V j x (List.mem_reverse.1 hx)) (by rw [HLR.out]; exact hcl) p c wr hsb
      rw [HLR.out, hfin] at hw
      clear hown hfin hneg
      go_wp2_with (refine hw.mono ?_; rintro e w' ⟨rfl, rfl⟩)
      go_ret
      exact ⟨rfl, hb2.trans (hbz.mono hb2.size)⟩
