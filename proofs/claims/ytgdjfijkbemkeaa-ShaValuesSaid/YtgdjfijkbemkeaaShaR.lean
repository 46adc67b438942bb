/-
  Walk: what the statements of the digests ask of a start.
-/
import Derived.Test.YtgdjfijkbemkeaaShaQ
namespace Go.Proofs.Ytgdjfijkbemkeaa
open Go.RowKit
set_option maxHeartbeats 8000000
set_option maxRecDepth 20000
set_option linter.unusedVariables false

def abcHex : ByteArray := ⟨#[98, 97, 55, 56, 49, 54, 98, 102, 56, 102, 48, 49, 99, 102, 101, 97, 52, 49, 52, 49, 52, 48, 100, 101, 53, 100, 97, 101, 50, 50, 50, 51, 98, 48, 48, 51, 54, 49, 97, 51, 57, 54, 49, 55, 55, 97, 57, 99, 98, 52, 49, 48, 102, 102, 54, 49, 102, 50, 48, 48, 49, 53, 97, 100]⟩
theorem abc_hex : Sm.hex (Sm.digest [97, 98, 99]) = abcHex.data.toList := by decide +kernel
theorem abc_unD : Sm.unD abcHex.data.toList = Sm.digest [97, 98, 99] := by decide +kernel
theorem abc_unE : Sm.unE abcHex.data.toList = 0 := by decide +kernel
theorem nil_unE : Sm.unE [] = 2 := by decide +kernel

theorem awake02 (w : World) :
    Calls Try.prog 27 #[] w fun e w' => e = .returned (.bool true) ∧ Below w.heap.size w w' := by
  obtain ⟨i0, hi0, hz0, hs0⟩ := d32
  obtain ⟨i1, hi1, hz1, hs1⟩ := t46
  have o1 := of1 ⟨w.heap.size, 0, none⟩ 2 [⟨#[97]⟩, ⟨#[98, 99]⟩] (w.alloc (.cells #[.string ⟨#[97]⟩, .string ⟨#[98, 99]⟩] 9)) (by rw [size_alloc]; exact Nat.lt_succ_self _)
    (fun i h => by
      rw [Addr.add_mid, cell_of_row _ _ _ _ _ _ (heap_alloc_new _ _)]
      match i, h with
      | 0, _ => rfl
      | 1, _ => rfl) (by decide) (by decide)
  rw [show ([⟨#[97]⟩, ⟨#[98, 99]⟩] : List ByteArray).flatMap (·.data.toList) = [97, 98, 99] from rfl] at o1
  have k0 := (Kn.start w).alloc' (.cells #[.string ⟨#[97]⟩, .string ⟨#[98, 99]⟩] 9)
  have cu := fun w => unhex1 abcHex w
  rw [abc_unD, abc_unE] at cu
  unfold abcHex at cu
  have cv := fun w => unhex1 ⟨#[]⟩ w
  rw [show (⟨#[]⟩ : ByteArray).data.toList = [] from rfl, nil_unE] at cv
  have ca := fun T w h => addT T [] ⟨#[97, 98]⟩ w (by decide) h
  rw [show ([] ++ (⟨#[97, 98]⟩ : ByteArray).data.toList : List UInt8) = [97, 98] from rfl] at ca
  have cb := fun T w h => addT T [97, 98] ⟨#[99]⟩ w (by decide) h
  rw [show ([97, 98] ++ (⟨#[99]⟩ : ByteArray).data.toList : List UInt8) = [97, 98, 99] from rfl] at cb
  have cs := fun T w h => sumT T [97, 98, 99] w (by decide) h
  have ch := fun w => hex1 (Sm.digest [97, 98, 99]) w
  rw [abc_hex] at ch
  unfold abcHex at ch
  have hde : deq (Sm.digest [97, 98, 99]) (Sm.digest [97, 98, 99]) = true := deq_self _
  generalize Sm.digest [97, 98, 99] = D at *
  generalize Sm.unD [] = E0 at *
  have hdr := eql_d_run D D true hde
  have hgd := eqGuard_d
  have Ho1 := Lib.hid o1
  have Hcu := Lib.hid cu
  have Hcv := Lib.hid cv
  have Hca := Lib.hid ca
  have Hcb := Lib.hid cb
  have Hcs := Lib.hid cs
  have Hch := Lib.hid ch
  have Hhdr := Lib.hid hdr
  clear o1 cu cv ca cb cs ch hdr
  clear hde
  go_enter Try.func27, Try.ntmps27
  go_wp2_with fail
  refine Ho1.out.mono ?_
  rintro e w1 ⟨rfl, hb⟩
  have k1 := k0.call hb
  clear k0 hb Ho1
  go_wp2_with (first | refine kl_alloc rfl 50 rfl (dArr []) i0 hi0 _ hz0 rfl ?_ | refine kl_store_new rfl 50 _ _ rfl (dArr D) rfl rfl _ _ (by rw [d32s, dArr_size]) (by rw [dArr_size, dArr_size]) (dArr_one _) ?_)
  have k2 := k1.alloc (.cells (dArr D) 50)
  generalize w1.alloc (.cells (dArr D) 50) = w2 at *
  generalize w1.heap.size = p1 at *
  refine (newT _).mono ?_
  rintro e w3 ⟨T, rfl, hT, hTb, hb⟩
  have k3 := (k2.call hb).add hTb.out
  clear k1 k2 hb hT hTb
  go_wp2_with fail
  refine (Hca.out T _ (.mk (k3.get 0 rfl))).mono ?_
  rintro e w4 ⟨rfl, hb⟩
  have k4 := k3.call hb
  clear k3 hb
  go_wp2_with (first | refine kl_alloc rfl 46 rfl talZ i1 hi1 _ hz1 rfl ?_ | refine kl_store_new rfl 46 _ _ rfl (tal T [97, 98]) rfl rfl _ _ (by rw [t46s, tal_size]) (by rw [tal_size]; rfl) (tal_one _ _) ?_ | refine wpList_load_row rfl 46 _ rfl w4.heap.size rfl _ _ _ _ (heap_alloc_new _ _) Try.underlying46 rfl (by rw [t46s, tal_size]) ?_)
  have k5 := k4.alloc (.cells (tal T [97, 98]) 46)
  generalize w4.alloc (.cells (tal T [97, 98]) 46) = w5 at *
  generalize w4.heap.size = p2 at *
  refine (Hcb.out T _ (.mk (k5.get 1 rfl))).mono ?_
  rintro e w6 ⟨rfl, hb⟩
  have k6 := k5.call hb
  clear k4 k5 hb
  go_wp2_with (first | refine kl_alloc rfl 46 rfl talZ i1 hi1 _ hz1 rfl ?_ | refine kl_store_new rfl 46 _ _ rfl (tal T [97, 98, 99]) rfl rfl _ _ (by rw [t46s, tal_size]) (by rw [tal_size]; rfl) (tal_one _ _) ?_)
  have k7 := k6.alloc (.cells (tal T [97, 98, 99]) 46)
  generalize w6.alloc (.cells (tal T [97, 98, 99]) 46) = w7 at *
  generalize w6.heap.size = p3 at *
  refine (Hcu.out _).mono ?_
  rintro e w8 ⟨rfl, hb⟩
  have k8 := k7.call hb
  clear k6 k7 hb
  go_wp2_with (first | refine kl_alloc rfl 50 rfl (dArr []) i0 hi0 _ hz0 rfl ?_ | refine kl_store_new rfl 50 _ _ rfl (dArr D) rfl rfl _ _ (by rw [d32s, dArr_size]) (by rw [dArr_size, dArr_size]) (dArr_one _) ?_)
  have k9 := k8.alloc (.cells (dArr D) 50)
  generalize w8.alloc (.cells (dArr D) 50) = w9 at *
  generalize w8.heap.size = p4 at *
  refine (Hcv.out _).mono ?_
  rintro e w10 ⟨rfl, hb⟩
  have k10 := k9.call hb
  clear k8 k9 hb
  go_wp2_with (first | refine kl_alloc rfl 50 rfl (dArr []) i0 hi0 _ hz0 rfl ?_ | refine kl_store_new rfl 50 _ _ rfl (dArr E0) rfl rfl _ _ (by rw [d32s, dArr_size]) (by rw [dArr_size, dArr_size]) (dArr_one _) ?_)
  have k11 := k10.alloc (.cells (dArr E0) 50)
  generalize w10.alloc (.cells (dArr E0) 50) = w11 at *
  generalize w10.heap.size = p5 at *
  have K := Lib.hid k11
  clear k10 k11
  refine wp_region_plan (Kn w.heap.size w [(p5, .cells (dArr E0) 50), (p4, .cells (dArr D) 50), (p3, .cells (tal T [97, 98, 99]) 46), (p2, .cells (tal T [97, 98]) 46), (T, .cells (tabArr 64) 95), (p1, .cells (dArr D) 50)]) ((true, 0) :: (false, 1) :: (true, 2) :: (true, 3) :: (true, 4) :: (true, 6) :: (false, 5) :: (true, 7) :: (true, 8) :: (true, 9) :: (true, 10) :: (false, 11) :: (true, 12) :: (true, 13) :: (true, 14) :: (true, 15) :: (false, 16) :: (true, 17) :: (true, 18) :: (true, 19) :: (true, 20) :: (true, 21) :: (true, 22) :: (true, 23) :: (true, 24) :: (true, 25) :: (true, 26) :: (true, 27) :: (true, 28) :: (true, 29) :: (true, 30) :: (true, 31) :: (false, 32) :: []) (by kernel_rfl) (by kernel_rfl) K.out.drew ?_
  have KK := Lib.hid K.out.drew
  clear K
  generalize w11.drew = w12 at *
  have hdr := Hhdr.out
  (apply mx_pure
   · (simp only [List.getElem?_toArray, List.getElem?_cons_succ, List.getElem?_cons_zero]; rfl)
   · rfl
   · (intro wS hS; exact mx_load_row 50 _ rfl _ rfl _ _ _ _ (hS.get 5 rfl) Try.underlying50 rfl (by rw [d32s, dArr_size]))
   simp only [Act.put, List.setIfInBounds_toArray, List.set_cons_zero, List.set_cons_succ])
  (apply mx_call
   · (simp only [List.getElem?_toArray, List.getElem?_cons_succ, List.getElem?_cons_zero]; rfl)
   · rfl
   · (intro _; go_simp; first | exact ⟨rfl, rfl⟩ | exact rfl)
   refine (Hch.out _).mono ?_; rintro e w13 ⟨rfl, hb⟩; have KK := Lib.hid (KK.out.call hb); clear hb; refine ⟨_, rfl, KK.out, ?_⟩
   simp only [Act.put, List.setIfInBounds_toArray, List.set_cons_zero, List.set_cons_succ])
  (apply mx_pure (v := .bool true)
   · (simp only [List.getElem?_toArray, List.getElem?_cons_succ, List.getElem?_cons_zero]; rfl)
   · rfl
   · (intro wS hS; go_simp; done)
   simp only [Act.put, List.setIfInBounds_toArray, List.set_cons_zero, List.set_cons_succ])
  (apply mx_pure
   · (simp only [List.getElem?_toArray, List.getElem?_cons_succ, List.getElem?_cons_zero]; rfl)
   · rfl
   · (intro wS hS; go_simp; try exact rfl)
   simp only [Act.put, List.setIfInBounds_toArray, List.set_cons_zero, List.set_cons_succ])
  (apply mx_pure
   · (simp only [List.getElem?_toArray, List.getElem?_cons_succ, List.getElem?_cons_zero]; rfl)
   · rfl
   · (intro wS hS; exact mx_load_row 46 _ rfl _ rfl _ _ _ _ (hS.get 2 rfl) Try.underlying46 rfl (by rw [t46s, tal_size]))
   simp only [Act.put, List.setIfInBounds_toArray, List.set_cons_zero, List.set_cons_succ])
  (apply mx_pure
   · (simp only [List.getElem?_toArray, List.getElem?_cons_succ, List.getElem?_cons_zero]; rfl)
   · rfl
   · (intro wS hS; exact mx_load_row 50 _ rfl _ rfl _ _ _ _ (hS.get 5 rfl) Try.underlying50 rfl (by rw [d32s, dArr_size]))
   simp only [Act.put, List.setIfInBounds_toArray, List.set_cons_zero, List.set_cons_succ])
  (apply mx_call
   · (simp only [List.getElem?_toArray, List.getElem?_cons_succ, List.getElem?_cons_zero]; rfl)
   · rfl
   · (intro _; go_simp; first | exact ⟨rfl, rfl⟩ | exact rfl)
   refine (Hcs.out T _ (.mk (KK.out.get 4 rfl))).mono ?_; rintro e w13 ⟨rfl, hb⟩; have KK := Lib.hid (KK.out.call hb); clear hb; refine ⟨_, rfl, KK.out, ?_⟩
   simp only [Act.put, List.setIfInBounds_toArray, List.set_cons_zero, List.set_cons_succ])
  (apply mx_pure (v := .bool true)
   · (simp only [List.getElem?_toArray, List.getElem?_cons_succ, List.getElem?_cons_zero]; rfl)
   · rfl
   · (intro wS hS; go_simp; done)
   simp only [Act.put, List.setIfInBounds_toArray, List.set_cons_zero, List.set_cons_succ])
  (apply mx_pure
   · (simp only [List.getElem?_toArray, List.getElem?_cons_succ, List.getElem?_cons_zero]; rfl)
   · rfl
   · (intro wS hS; go_simp; try exact rfl)
   simp only [Act.put, List.setIfInBounds_toArray, List.set_cons_zero, List.set_cons_succ])
  (apply mx_pure
   · (simp only [List.getElem?_toArray, List.getElem?_cons_succ, List.getElem?_cons_zero]; rfl)
   · rfl
   · (intro wS hS; go_simp; try exact rfl)
   simp only [Act.put, List.setIfInBounds_toArray, List.set_cons_zero, List.set_cons_succ])
  (apply mx_pure
   · (simp only [List.getElem?_toArray, List.getElem?_cons_succ, List.getElem?_cons_zero]; rfl)
   · rfl
   · (intro wS hS; exact mx_load_row 46 _ rfl _ rfl _ _ _ _ (hS.get 2 rfl) Try.underlying46 rfl (by rw [t46s, tal_size]))
   simp only [Act.put, List.setIfInBounds_toArray, List.set_cons_zero, List.set_cons_succ])
  (apply mx_call
   · (simp only [List.getElem?_toArray, List.getElem?_cons_succ, List.getElem?_cons_zero]; rfl)
   · rfl
   · (intro _; go_simp; first | exact ⟨rfl, rfl⟩ | exact rfl)
   refine (lenT T _ _).mono ?_; rintro e w13 ⟨rfl, hb⟩; have KK := Lib.hid (KK.out.call hb); clear hb; refine ⟨_, rfl, KK.out, ?_⟩
   simp only [Act.put, List.setIfInBounds_toArray, List.set_cons_zero, List.set_cons_succ])
  (apply mx_pure (v := .bool true)
   · (simp only [List.getElem?_toArray, List.getElem?_cons_succ, List.getElem?_cons_zero]; rfl)
   · rfl
   · (intro wS hS; go_simp; done)
   simp only [Act.put, List.setIfInBounds_toArray, List.set_cons_zero, List.set_cons_succ])
  (apply mx_pure
   · (simp only [List.getElem?_toArray, List.getElem?_cons_succ, List.getElem?_cons_zero]; rfl)
   · rfl
   · (intro wS hS; go_simp; try exact rfl)
   simp only [Act.put, List.setIfInBounds_toArray, List.set_cons_zero, List.set_cons_succ])
  (apply mx_pure
   · (simp only [List.getElem?_toArray, List.getElem?_cons_succ, List.getElem?_cons_zero]; rfl)
   · rfl
   · (intro wS hS; go_simp; try exact rfl)
   simp only [Act.put, List.setIfInBounds_toArray, List.set_cons_zero, List.set_cons_succ])
  (apply mx_pure
   · (simp only [List.getElem?_toArray, List.getElem?_cons_succ, List.getElem?_cons_zero]; rfl)
   · rfl
   · (intro wS hS; exact mx_load_row 46 _ rfl _ rfl _ _ _ _ (hS.get 3 rfl) Try.underlying46 rfl (by rw [t46s, tal_size]))
   simp only [Act.put, List.setIfInBounds_toArray, List.set_cons_zero, List.set_cons_succ])
  (apply mx_call
   · (simp only [List.getElem?_toArray, List.getElem?_cons_succ, List.getElem?_cons_zero]; rfl)
   · rfl
   · (intro _; go_simp; first | exact ⟨rfl, rfl⟩ | exact rfl)
   refine (lenT T _ _).mono ?_; rintro e w13 ⟨rfl, hb⟩; have KK := Lib.hid (KK.out.call hb); clear hb; refine ⟨_, rfl, KK.out, ?_⟩
   simp only [Act.put, List.setIfInBounds_toArray, List.set_cons_zero, List.set_cons_succ])
  (apply mx_pure (v := .bool true)
   · (simp only [List.getElem?_toArray, List.getElem?_cons_succ, List.getElem?_cons_zero]; rfl)
   · rfl
   · (intro wS hS; go_simp; done)
   simp only [Act.put, List.setIfInBounds_toArray, List.set_cons_zero, List.set_cons_succ])
  (apply mx_pure
   · (simp only [List.getElem?_toArray, List.getElem?_cons_succ, List.getElem?_cons_zero]; rfl)
   · rfl
   · (intro wS hS; go_simp; try exact rfl)
   simp only [Act.put, List.setIfInBounds_toArray, List.set_cons_zero, List.set_cons_succ])
  (apply mx_pure
   · (simp only [List.getElem?_toArray, List.getElem?_cons_succ, List.getElem?_cons_zero]; rfl)
   · rfl
   · (intro wS hS; go_simp; try exact rfl)
   simp only [Act.put, List.setIfInBounds_toArray, List.set_cons_zero, List.set_cons_succ])
  (apply mx_pure
   · (simp only [List.getElem?_toArray, List.getElem?_cons_succ, List.getElem?_cons_zero]; rfl)
   · rfl
   · (intro wS hS; exact mx_load_row 50 _ rfl _ rfl _ _ _ _ (hS.get 1 rfl) Try.underlying50 rfl (by rw [d32s, dArr_size]))
   simp only [Act.put, List.setIfInBounds_toArray, List.set_cons_zero, List.set_cons_succ])
  (apply mx_pure
   · (simp only [List.getElem?_toArray, List.getElem?_cons_succ, List.getElem?_cons_zero]; rfl)
   · rfl
   · (intro wS hS; exact mx_load_row 50 _ rfl _ rfl _ _ _ _ (hS.get 5 rfl) Try.underlying50 rfl (by rw [d32s, dArr_size]))
   simp only [Act.put, List.setIfInBounds_toArray, List.set_cons_zero, List.set_cons_succ])
  (apply mx_pure (v := .bool true)
   · (simp only [List.getElem?_toArray, List.getElem?_cons_succ, List.getElem?_cons_zero]; rfl)
   · rfl
   · (intro wS hS; go_simp; done)
   simp only [Act.put, List.setIfInBounds_toArray, List.set_cons_zero, List.set_cons_succ])
  (apply mx_pure
   · (simp only [List.getElem?_toArray, List.getElem?_cons_succ, List.getElem?_cons_zero]; rfl)
   · rfl
   · (intro wS hS; go_simp; try exact rfl)
   simp only [Act.put, List.setIfInBounds_toArray, List.set_cons_zero, List.set_cons_succ])
  (apply mx_pure
   · (simp only [List.getElem?_toArray, List.getElem?_cons_succ, List.getElem?_cons_zero]; rfl)
   · rfl
   · (intro wS hS; go_simp; try exact rfl)
   simp only [Act.put, List.setIfInBounds_toArray, List.set_cons_zero, List.set_cons_succ])
  (apply mx_pure
   · (simp only [List.getElem?_toArray, List.getElem?_cons_succ, List.getElem?_cons_zero]; rfl)
   · rfl
   · (intro wS hS; go_simp; try exact rfl)
   simp only [Act.put, List.setIfInBounds_toArray, List.set_cons_zero, List.set_cons_succ])
  (apply mx_pure (v := .bool true)
   · (simp only [List.getElem?_toArray, List.getElem?_cons_succ, List.getElem?_cons_zero]; rfl)
   · rfl
   · (intro wS hS; go_simp; done)
   simp only [Act.put, List.setIfInBounds_toArray, List.set_cons_zero, List.set_cons_succ])
  (apply mx_pure
   · (simp only [List.getElem?_toArray, List.getElem?_cons_succ, List.getElem?_cons_zero]; rfl)
   · rfl
   · (intro wS hS; go_simp; try exact rfl)
   simp only [Act.put, List.setIfInBounds_toArray, List.set_cons_zero, List.set_cons_succ])
  (apply mx_pure
   · (simp only [List.getElem?_toArray, List.getElem?_cons_succ, List.getElem?_cons_zero]; rfl)
   · rfl
   · (intro wS hS; go_simp; try exact rfl)
   simp only [Act.put, List.setIfInBounds_toArray, List.set_cons_zero, List.set_cons_succ])
  (apply mx_pure
   · (simp only [List.getElem?_toArray, List.getElem?_cons_succ, List.getElem?_cons_zero]; rfl)
   · rfl
   · (intro wS hS; go_simp; try exact rfl)
   simp only [Act.put, List.setIfInBounds_toArray, List.set_cons_zero, List.set_cons_succ])
  (apply mx_pure (v := .bool true)
   · (simp only [List.getElem?_toArray, List.getElem?_cons_succ, List.getElem?_cons_zero]; rfl)
   · rfl
   · (intro wS hS; go_simp; done)
   simp only [Act.put, List.setIfInBounds_toArray, List.set_cons_zero, List.set_cons_succ])
  (apply mx_pure
   · (simp only [List.getElem?_toArray, List.getElem?_cons_succ, List.getElem?_cons_zero]; rfl)
   · rfl
   · (intro wS hS; go_simp; try exact rfl)
   simp only [Act.put, List.setIfInBounds_toArray, List.set_cons_zero, List.set_cons_succ])
  (apply mx_loud
   · (simp only [List.getElem?_toArray, List.getElem?_cons_succ, List.getElem?_cons_zero]; rfl)
   go_wp2_with fail)
  refine mx_loud_end ⟨KK.out, mx_end ?_⟩
  go_wp2_with fail
  go_ret
  exact ⟨rfl, KK.out.below⟩
end Go.Proofs.Ytgdjfijkbemkeaa
