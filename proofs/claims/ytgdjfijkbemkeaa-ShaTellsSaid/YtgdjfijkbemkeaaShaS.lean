/-
  Walk: ShaTells.
-/
import Derived.Test.YtgdjfijkbemkeaaShaR
import Derived.Test.YtgdjfijkbemkeaaAp
import Derived.Test.YtgdjfijkbemkeaaQt
namespace Go.Proofs.Ytgdjfijkbemkeaa
open Go.RowKit
set_option maxHeartbeats 8000000
set_option maxRecDepth 20000
set_option linter.unusedVariables false

theorem info_str : (Try.prog.info? 9).map (fun i => (i.zero, i.size, i.bytes)) = some (some (.string ⟨#[]⟩), 1, 16) := by kernel_rfl
theorem ch_setRow (w : World) (g : Nat) (cs : Array Value) : Ch w (w.setRow g cs) [g] :=
  ⟨rfl, rfl, rfl, by rw [size_setRow]; exact Nat.le_refl _, fun k _ hk => setRow_other w g k cs (by simpa using hk)⟩

theorem shaTells (HOF : ∀ (s : ByteArray) (w : World), s.size ≤ 1000000 → Calls Try.prog 30 #[.string s] w fun e w' => e = .returned (.agg (dArr (Sm.digest s.data.toList))) ∧ Below w.heap.size w w')
    (A : Option Addr) (n c : Nat) (ss : List ByteArray) (s : ByteArray) (w : World) (hrd : RdS (.slice A n c) n (ss.map Value.string) w.heap.size w) :
    Calls Try.prog 6 #[.slice A n c, .string s] w fun e w' => e = .returned (.bool true) ∧ Below w.heap.size w w' := by
  obtain ⟨i0, hi0, hz0, hs0⟩ := d32
  obtain ⟨i1, hi1, hz1, hs1⟩ := t46
  obtain ⟨i2, hi2, hz2, hs2, hy2⟩ := info_parts info_str
  have hn : n = ss.length := by have := hrd.1; rw [List.length_map] at this; exact this.symm
  have HHOF := Lib.hid HOF
  have Hhn := Lib.hid hn
  have Hhrd := Lib.hid hrd
  clear HOF hn hrd
  by_cases h30 : n ≤ 30
  · by_cases h200 : s.size ≤ 200
    · have g1 : ¬ (30 < n) := by omega
      have g2 : ¬ (200 < s.size) := by omega
      go_enter Try.func6, Try.ntmps6
      go_wp2_with fail
      refine (awake02 _).mono ?_
      rintro e w1 ⟨rfl, hb1⟩
      have k1 := (Kn.start w).call hb1
      clear hb1
      go_wp2_with fail
      refine (newT _).mono ?_
      rintro e w3 ⟨T, rfl, hT, hTb, hb3⟩
      have k3 := (k1.call hb3).add hTb.out
      clear k1 hb3 hT hTb
      go_wp2_with (first | refine kl_alloc rfl 46 rfl talZ i1 hi1 _ hz1 rfl ?_ | refine kl_store_new rfl 46 _ _ rfl (tal T []) rfl rfl _ _ (by rw [t46s, tal_size]) (by rw [tal_size]; rfl) (tal_one _ _) ?_)
      have k4 := k3.alloc (.cells (tal T []) 46)
      have hp : w.heap.size ≤ w3.heap.size := k3.base
      have hTp : T ≠ w3.heap.size := by have := k3.lt 0 rfl; omega
      generalize w3.alloc (.cells (tal T []) 46) = w4 at *
      generalize w3.heap.size = p at *
      have K4 := Lib.hid k4
      clear k3 k4
      go_wp2_with fail
      go_loopw [5, 7] (fun tv iv wr => ∃ (i : Nat) (t : ByteArray), i ≤ n ∧ iv = .int .i64 (i : Int) ∧ tv = .string t ∧ t.size ≤ 4000 ∧ Hid (t.data.toList = (ss.take i).flatMap (·.data.toList)) ∧
          Hid (Kn w.heap.size w [(p, .cells (tal T t.data.toList) 46), (T, .cells (tabArr 64) 95)] wr)) (fun _ iv _ => n - (intOf iv).toNat)
      case atStart => exact ⟨0, ⟨#[]⟩, by omega, rfl, rfl, by decide, rfl, K4.out⟩
      case round =>
        obtain ⟨i, t, hi, rfl, rfl, ht, HT, K⟩ := hrel
        clear K4
        by_cases hin : i < n
        · obtain ⟨b, off, hA, hcn, hb, hcell⟩ := Hhrd.out.at_ hin
          have hil : i < ss.length := by rw [← Hhn.out]; exact hin
          have hx := hcell i (.string ss[i]) (by rw [List.getElem?_map, List.getElem?_eq_getElem hil]; rfl)
          have htk : (ss.take (i + 1)).flatMap (·.data.toList) = (ss.take i).flatMap (·.data.toList) ++ ss[i].data.toList := by
            rw [List.take_succ_eq_append_getElem hil, List.flatMap_append]; simp
          generalize ss[i] = x at *
          have hxr : wr.cell? ⟨b, off + i, none⟩ = some (.string x) := by rw [Below.cell K.out.below hb]; exact hx
          subst hA
          clear hx hcell hil
          by_cases hx1000 : x.size ≤ 1000
          · by_cases ht3000 : t.size ≤ 3000
            · have g3 : ¬ (1000 < x.size) := by omega
              have g4 : ¬ (3000 < t.size) := by omega
              obtain ⟨t2, ht2⟩ : ∃ y : ByteArray, y = t ++ x := ⟨_, rfl⟩
              have ht2l : t2.data.toList = t.data.toList ++ x.data.toList := by rw [ht2]; simp
              have ht2s : t2.size = t.size + x.size := by rw [ht2, ByteArray.size_append]
              have hn2 : ¬ 9223372036854775807 < t.size + x.size := by omega
              have hbi : (0 : Int) ≤ i := by omega
              have hbn : (i : Int) < n := by omega
              have ca := fun w h => addT T t.data.toList x w (by show t.size + x.size ≤ _; omega) h
              rw [← ht2l] at ca
              have Hht2 := Lib.hid ht2
              have Hht2l := Lib.hid ht2l
              have Hht2s := Lib.hid ht2s
              have Hhtk := Lib.hid htk
              have Hca := Lib.hid ca
              clear ht2 ht2l ht2s htk ca
              go_wp2_with fail
              rw [← Hht2.out]
              refine wp_region_qtail (Kn w.heap.size w [(p, .cells (tal T t.data.toList) 46), (T, .cells (tabArr 64) 95)]) 6 (by kernel_rfl) (by kernel_rfl) K.out.drew ?_
              simp only [List.take_succ_cons, List.take_zero, List.drop_succ_cons, List.drop_zero]
              (refine wpQuiet_step (fun Kq hKq => ?_)
               refine qt_want rfl ?_
               apply Exists.intro
               refine ⟨fun _ hw => ?_, ?_⟩
               · (exact qt_load_row 46 _ rfl p rfl _ _ _ _ (hw.get 0 rfl) Try.underlying46 rfl (by rw [t46s, tal_size]))
               go_simp
               refine hKq _ ?_
               clear hKq Kq)
              (refine wpQuiet_step (fun Kq hKq => ?_)
               refine qt_want rfl ?_
               apply Exists.intro
               refine ⟨fun _ hw => ?_, ?_⟩
               · (unfold Oper.quietAt; go_simp; try exact rfl)
               go_simp
               refine hKq _ ?_
               clear hKq Kq)
              (refine wpQuiet_step (fun Kq hKq => ?_)
               refine qt_want rfl ?_
               apply Exists.intro
               refine ⟨fun _ hw => ?_, ?_⟩
               · (unfold Oper.quietAt; go_simp; try exact rfl)
               go_simp
               refine hKq _ ?_
               clear hKq Kq)
              (refine wpQuiet_step (fun Kq hKq => ?_)
               refine qt_want rfl ?_
               apply Exists.intro
               refine ⟨fun _ hw => ?_, ?_⟩
               · (unfold Oper.quietAt; go_simp; try exact rfl)
               go_simp
               refine hKq _ ?_
               clear hKq Kq)
              (refine wpQuiet_step (fun Kq hKq => ?_)
               refine qt_want rfl ?_
               apply Exists.intro
               refine ⟨fun _ hw => ?_, ?_⟩
               · (have hq := (Below.cell hw.below (a := ⟨b, off + i, none⟩) hb).trans (Below.cell K.out.below (a := ⟨b, off + i, none⟩) hb).symm; rw [hxr] at hq; unfold Oper.quietAt; go_simp; try exact rfl)
               go_simp
               refine hKq _ ?_
               clear hKq Kq)
              (refine wpQuiet_step (fun Kq hKq => ?_)
               refine qt_called rfl (fun _ => by go_simp; first | exact ⟨rfl, rfl⟩ | exact rfl) ?_
               apply Exists.intro
               refine ⟨fun _ hw => ?_, ?_⟩
               · (refine (Hca.out _ (.mk (hw.get 1 rfl))).mono ?_; rintro e w' ⟨rfl, kb⟩; exact ⟨rfl, hw.call kb⟩)
               go_simp
               refine hKq _ ?_
               clear hKq Kq)
              refine wpQuiet_nil ?_
              intro w2 hw2
              have HW2 := Lib.hid hw2
              have hfin := Kn.put (w' := w2.setRow p (tal T t2.data.toList)) hw2 hp (fun y hy => by simp at hy; subst hy; exact hTp) (ch_setRow w2 p _) (setRow_heap _ _ _ _ _ _ (hw2.get 0 rfl))
              have HFIN := Lib.hid hfin
              clear hw2 hfin K hxr
              go_wp2_with (refine wpList_store_row rfl 46 _ _ rfl p (tal T t2.data.toList) rfl rfl _ _ (HW2.out.get 0 rfl) (by rw [t46s, tal_size]) (by rw [tal_size, tal_size]) (tal_one _ _) ?_)
              go_roundw
              case rel => exact ⟨i + 1, t2, by omega, by go_num, rfl, by have := Hht2s.out; omega, by show _ = _; rw [Hht2l.out, Hhtk.out, HT.out], HFIN.out⟩
              case measure => simp [intOf]; omega
            · have g3 : ¬ (1000 < x.size) := by omega
              have g4 : 3000 < t.size := by omega
              have hbi : (0 : Int) ≤ i := by omega
              have hbn : (i : Int) < n := by omega
              clear htk
              go_wp2_with fail
              go_ret
              exact ⟨rfl, K.out.below⟩
          · have g3 : 1000 < x.size := by omega
            have hbi : (0 : Int) ≤ i := by omega
            have hbn : (i : Int) < n := by omega
            clear htk
            go_wp2_with fail
            go_ret
            exact ⟨rfl, K.out.below⟩
        · obtain rfl : i = n := by omega
          have hall : t.data.toList = ss.flatMap (·.data.toList) := by rw [HT.out, Hhn.out, List.take_length]
          have ho := fun w => HHOF.out t w (by omega)
          have cu := fun w => unhex1 s w
          have cv := fun w => refUnhex s w
          have cs := fun w h => sumT T t.data.toList w (by show t.size ≤ _; omega) h
          have cl := fun w => lenT T t.data.toList w
          rw [show t.data.toList.length = t.size from rfl] at cl
          have ch := fun w => hex1 (Sm.digest t.data.toList) w
          have ch2 := fun w => refHex (Sm.digest t.data.toList) w
          have hde : deq (Sm.digest t.data.toList) (Sm.digest t.data.toList) = true := deq_self _
          obtain ⟨L, hL⟩ : ∃ L, L = t.data.toList := ⟨_, rfl⟩
          rw [← hL] at hall ho cs cl ch ch2 hde K
          have hLs : L.length ≤ 4000 := by rw [hL]; exact ht
          obtain ⟨D, hD⟩ : ∃ D, D = Sm.digest L := ⟨_, rfl⟩
          rw [← hD] at ho cs ch ch2 hde
          obtain ⟨hx, hhx⟩ : ∃ y : ByteArray, y = ⟨(Sm.hex D).toArray⟩ := ⟨_, rfl⟩
          rw [← hhx] at ch ch2
          generalize Sm.unD s.data.toList = UD at *
          generalize Sm.unE s.data.toList = UE at *
          have Hho := Lib.hid ho
          have Hcu := Lib.hid cu
          have Hcv := Lib.hid cv
          have Hcs := Lib.hid cs
          have Hcl := Lib.hid cl
          have Hch := Lib.hid ch
          have Hch2 := Lib.hid ch2
          have Hhde := Lib.hid hde
          have Hhall := Lib.hid hall
          have HhL := Lib.hid hL
          have HhD := Lib.hid hD
          have Hhhx := Lib.hid hhx
          clear ho cu cv cs cl ch ch2 hde hall hL hD hhx
          go_wp2_with fail
          refine (Hho.out _).mono ?_
          rintro e w5 ⟨rfl, hb5⟩
          have k5 := K.out.call hb5
          clear hb5 K
          go_wp2_with (first | refine kl_alloc rfl 50 rfl (dArr []) i0 hi0 _ hz0 rfl ?_ | refine kl_store_new rfl 50 _ _ rfl (dArr D) rfl rfl _ _ (by rw [d32s, dArr_size]) (by rw [dArr_size, dArr_size]) (dArr_one _) ?_)
          have k6 := k5.alloc (.cells (dArr D) 50)
          generalize w5.alloc (.cells (dArr D) 50) = w6 at *
          generalize w5.heap.size = p8 at *
          refine (Hcu.out _).mono ?_
          rintro e w7 ⟨rfl, hb7⟩
          have k7 := k6.call hb7
          clear k5 k6 hb7
          go_wp2_with (first | refine kl_alloc rfl 50 rfl (dArr []) i0 hi0 _ hz0 rfl ?_ | refine kl_store_new rfl 50 _ _ rfl (dArr UD) rfl rfl _ _ (by rw [d32s, dArr_size]) (by rw [dArr_size, dArr_size]) (dArr_one _) ?_)
          have k8 := k7.alloc (.cells (dArr UD) 50)
          generalize w7.alloc (.cells (dArr UD) 50) = w8 at *
          generalize w7.heap.size = p9 at *
          refine (Hcv.out _).mono ?_
          rintro e w9 ⟨rfl, hb9⟩
          have k9 := k8.call hb9
          clear k7 k8 hb9
          go_wp2_with (first | refine kl_alloc rfl 50 rfl (dArr []) i0 hi0 _ hz0 rfl ?_ | refine kl_store_new rfl 50 _ _ rfl (dArr UD) rfl rfl _ _ (by rw [d32s, dArr_size]) (by rw [dArr_size, dArr_size]) (dArr_one _) ?_)
          have k10 := k9.alloc (.cells (dArr UD) 50)
          generalize w9.alloc (.cells (dArr UD) 50) = w10 at *
          generalize w9.heap.size = p11 at *
          have K := Lib.hid k10
          clear k9 k10
          refine wp_region_plan (Kn w.heap.size w [(p11, .cells (dArr UD) 50), (p9, .cells (dArr UD) 50), (p8, .cells (dArr D) 50), (p, .cells (tal T L) 46), (T, .cells (tabArr 64) 95)]) ((true, 1) :: (true, 4) :: (false, 0) :: (false, 2) :: (false, 3) :: (true, 5) :: (true, 6) :: (true, 7) :: (true, 9) :: (false, 8) :: (true, 10) :: (true, 11) :: (true, 12) :: (true, 13) :: (true, 15) :: (true, 16) :: (false, 14) :: (true, 17) :: (true, 18) :: (true, 19) :: (true, 20) :: (true, 22) :: (false, 21) :: (false, 23) :: (true, 24) :: (true, 25) :: (true, 26) :: (true, 27) :: (true, 28) :: (true, 29) :: (true, 30) :: (true, 31) :: (true, 32) :: (true, 33) :: (true, 34) :: (true, 35) :: (false, 36) :: []) (by kernel_rfl) (by kernel_rfl) K.out.drew ?_
          have KK := Lib.hid K.out.drew
          clear K
          generalize w10.drew = w12 at *
          have hdr := eql_d_run D D true Hhde.out
          have hdr2 := eql_d_run UD UD true (deq_self _)
          have hgd := eqGuard_d
          (apply mx_pure
           · (simp only [List.getElem?_toArray, List.getElem?_cons_succ, List.getElem?_cons_zero]; rfl)
           · rfl
           · (intro wS hS; go_simp; try exact rfl)
           simp only [Act.put, List.setIfInBounds_toArray, List.set_cons_zero, List.set_cons_succ])
          (apply mx_pure
           · (simp only [List.getElem?_toArray, List.getElem?_cons_succ, List.getElem?_cons_zero]; rfl)
           · rfl
           · (intro wS hS; exact mx_load_row 50 _ rfl _ rfl _ _ _ _ (hS.get 2 rfl) Try.underlying50 rfl (by rw [d32s, dArr_size]))
           simp only [Act.put, List.setIfInBounds_toArray, List.set_cons_zero, List.set_cons_succ])
          (apply mx_loud
           · (simp only [List.getElem?_toArray, List.getElem?_cons_succ, List.getElem?_cons_zero]; rfl)
           go_wp2_with fail)
          have HO : Hid ((w12.alloc (.cells #[] 9)).ownsRow w12.heap.size 9 1 (.slice (some ⟨w12.heap.size, 0, none⟩) 0 0) 0 []) := owns_empty _ _ _ (Nat.le_refl _)
          have b13 : Below w12.heap.size w12 (w12.alloc (.cells #[] 9)) := (Below.refl _ _).alloc (Nat.le_refl _) _
          have z13 : w12.heap.size ≤ (w12.alloc (.cells #[] 9)).heap.size := b13.size
          refine mx_loud_end ⟨KK.out.call b13, ?_⟩
          generalize w12.alloc (.cells #[] 9) = w13 at *
          have hrd13 : RdS (.slice A i c) i (ss.map Value.string) w.heap.size w13 := Hhrd.out.below (KK.out.call b13).below
          (apply mx_loud
           · (simp only [List.getElem?_toArray, List.getElem?_cons_succ, List.getElem?_cons_zero]; rfl)
           refine kl_append_rd rfl _ _ 42 rfl w12.heap.size 9 i2 (.string ⟨#[]⟩) 16 Try.underlying42 hi2 hz2 hs2 hy2 rfl _ 0 [] rfl HO.out _ i (ss.map Value.string) w.heap.size rfl hrd13 (by simp [Value.oneCell']) (by omega) (by decide) z13 ?_)
          intro v' w14 ho' hb14 hz14 hnil
          obtain ⟨b', c', rfl, hc', hb1', hb2', hcl'⟩ := owns_some ho' (fun h => by have := (hnil.1 h).1; cases this)
          have k14 := KK.out.call (b13.trans hb14)
          have HOFC : Hid (Calls Try.prog 33 #[.slice (some ⟨b', 0, none⟩) i c'] w14 fun e w' => e = .returned (.agg (dArr D)) ∧ Below w14.heap.size w14 w') := by
            have h := of1 ⟨b', 0, none⟩ c' ss w14 hb2' (fun j hj => by rw [Addr.add_mid]; exact hcl' j _ (by rw [List.nil_append, List.getElem?_map, List.getElem?_eq_getElem hj]; rfl)) (by rw [← Hhall.out]; omega) (by rw [← Hhn.out]; omega)
            rw [← Hhn.out, ← Hhall.out, ← HhD.out] at h
            exact h
          have KK := Lib.hid k14
          clear k14 ho' hnil hcl' hb14 hrd13 HO b13
          refine ⟨KK.out, ?_⟩
          simp only [Act.put, List.setIfInBounds_toArray, List.set_cons_zero, List.set_cons_succ, Nat.zero_add]
          (apply mx_call
           · (simp only [List.getElem?_toArray, List.getElem?_cons_succ, List.getElem?_cons_zero]; rfl)
           · rfl
           · (intro _; go_simp; first | exact ⟨rfl, rfl⟩ | exact rfl)
           refine HOFC.out.mono ?_; rintro e w13 ⟨rfl, hb⟩; have KK := Lib.hid (KK.out.call hb); clear hb; refine ⟨_, rfl, KK.out, ?_⟩
           simp only [Act.put, List.setIfInBounds_toArray, List.set_cons_zero, List.set_cons_succ])
          (apply mx_pure (v := .bool true)
           · (simp only [List.getElem?_toArray, List.getElem?_cons_succ, List.getElem?_cons_zero]; rfl)
           · rfl
           · (intro wS hS; go_simp; done)
           simp only [Act.put, List.setIfInBounds_toArray, List.set_cons_zero, List.set_cons_succ])
          (apply mx_pure
           · (simp only [List.getElem?_toArray, List.getElem?_cons_succ, List.getElem?_cons_zero]; rfl)
           · rfl
           · (intro wS hS; go_simp; try exact rfl)
           simp only [Act.put, List.setIfInBounds_toArray, List.set_cons_zero, List.set_cons_succ])
          (apply mx_pure
           · (simp only [List.getElem?_toArray, List.getElem?_cons_succ, List.getElem?_cons_zero]; rfl)
           · rfl
           · (intro wS hS; exact mx_load_row 46 _ rfl _ rfl _ _ _ _ (hS.get 3 rfl) Try.underlying46 rfl (by rw [t46s, tal_size]))
           simp only [Act.put, List.setIfInBounds_toArray, List.set_cons_zero, List.set_cons_succ])
          (apply mx_pure
           · (simp only [List.getElem?_toArray, List.getElem?_cons_succ, List.getElem?_cons_zero]; rfl)
           · rfl
           · (intro wS hS; exact mx_load_row 50 _ rfl _ rfl _ _ _ _ (hS.get 2 rfl) Try.underlying50 rfl (by rw [d32s, dArr_size]))
           simp only [Act.put, List.setIfInBounds_toArray, List.set_cons_zero, List.set_cons_succ])
          (apply mx_call
           · (simp only [List.getElem?_toArray, List.getElem?_cons_succ, List.getElem?_cons_zero]; rfl)
           · rfl
           · (intro _; go_simp; first | exact ⟨rfl, rfl⟩ | exact rfl)
           refine (Hcs.out _ (.mk (KK.out.get 4 rfl))).mono ?_; rintro e w13 ⟨rfl, hb⟩; have KK := Lib.hid (KK.out.call hb); clear hb; refine ⟨_, rfl, KK.out, ?_⟩
           simp only [Act.put, List.setIfInBounds_toArray, List.set_cons_zero, List.set_cons_succ])
          (apply mx_pure (v := .bool true)
           · (simp only [List.getElem?_toArray, List.getElem?_cons_succ, List.getElem?_cons_zero]; rfl)
           · rfl
           · (intro wS hS; go_simp; done)
           simp only [Act.put, List.setIfInBounds_toArray, List.set_cons_zero, List.set_cons_succ])
          (apply mx_pure
           · (simp only [List.getElem?_toArray, List.getElem?_cons_succ, List.getElem?_cons_zero]; rfl)
           · rfl
           · (intro wS hS; go_simp; try exact rfl)
           simp only [Act.put, List.setIfInBounds_toArray, List.set_cons_zero, List.set_cons_succ])
          (apply mx_pure
           · (simp only [List.getElem?_toArray, List.getElem?_cons_succ, List.getElem?_cons_zero]; rfl)
           · rfl
           · (intro wS hS; go_simp; try exact rfl)
           simp only [Act.put, List.setIfInBounds_toArray, List.set_cons_zero, List.set_cons_succ])
          (apply mx_pure
           · (simp only [List.getElem?_toArray, List.getElem?_cons_succ, List.getElem?_cons_zero]; rfl)
           · rfl
           · (intro wS hS; exact mx_load_row 46 _ rfl _ rfl _ _ _ _ (hS.get 3 rfl) Try.underlying46 rfl (by rw [t46s, tal_size]))
           simp only [Act.put, List.setIfInBounds_toArray, List.set_cons_zero, List.set_cons_succ])
          (apply mx_pure
           · (simp only [List.getElem?_toArray, List.getElem?_cons_succ, List.getElem?_cons_zero]; rfl)
           · rfl
           · (intro wS hS; go_simp; try exact rfl)
           simp only [Act.put, List.setIfInBounds_toArray, List.set_cons_zero, List.set_cons_succ])
          (apply mx_pure
           · (simp only [List.getElem?_toArray, List.getElem?_cons_succ, List.getElem?_cons_zero]; rfl)
           · rfl
           · (intro wS hS; go_simp; try exact rfl)
           simp only [Act.put, List.setIfInBounds_toArray, List.set_cons_zero, List.set_cons_succ])
          (apply mx_call
           · (simp only [List.getElem?_toArray, List.getElem?_cons_succ, List.getElem?_cons_zero]; rfl)
           · rfl
           · (intro _; go_simp; first | exact ⟨rfl, rfl⟩ | exact rfl)
           refine (Hcl.out _).mono ?_; rintro e w13 ⟨rfl, hb⟩; have KK := Lib.hid (KK.out.call hb); clear hb; refine ⟨_, rfl, KK.out, ?_⟩
           simp only [Act.put, List.setIfInBounds_toArray, List.set_cons_zero, List.set_cons_succ])
          (apply mx_pure (v := .bool true)
           · (simp only [List.getElem?_toArray, List.getElem?_cons_succ, List.getElem?_cons_zero]; rfl)
           · rfl
           · (intro wS hS; go_simp; done)
           simp only [Act.put, List.setIfInBounds_toArray, List.set_cons_zero, List.set_cons_succ])
          (apply mx_pure
           · (simp only [List.getElem?_toArray, List.getElem?_cons_succ, List.getElem?_cons_zero]; rfl)
           · rfl
           · (intro wS hS; go_simp; try exact rfl)
           simp only [Act.put, List.setIfInBounds_toArray, List.set_cons_zero, List.set_cons_succ])
          (apply mx_pure
           · (simp only [List.getElem?_toArray, List.getElem?_cons_succ, List.getElem?_cons_zero]; rfl)
           · rfl
           · (intro wS hS; go_simp; try exact rfl)
           simp only [Act.put, List.setIfInBounds_toArray, List.set_cons_zero, List.set_cons_succ])
          (apply mx_pure
           · (simp only [List.getElem?_toArray, List.getElem?_cons_succ, List.getElem?_cons_zero]; rfl)
           · rfl
           · (intro wS hS; exact mx_load_row 50 _ rfl _ rfl _ _ _ _ (hS.get 2 rfl) Try.underlying50 rfl (by rw [d32s, dArr_size]))
           simp only [Act.put, List.setIfInBounds_toArray, List.set_cons_zero, List.set_cons_succ])
          (apply mx_pure
           · (simp only [List.getElem?_toArray, List.getElem?_cons_succ, List.getElem?_cons_zero]; rfl)
           · rfl
           · (intro wS hS; exact mx_load_row 50 _ rfl _ rfl _ _ _ _ (hS.get 2 rfl) Try.underlying50 rfl (by rw [d32s, dArr_size]))
           simp only [Act.put, List.setIfInBounds_toArray, List.set_cons_zero, List.set_cons_succ])
          (apply mx_call
           · (simp only [List.getElem?_toArray, List.getElem?_cons_succ, List.getElem?_cons_zero]; rfl)
           · rfl
           · (intro _; go_simp; first | exact ⟨rfl, rfl⟩ | exact rfl)
           refine (Hch.out _).mono ?_; rintro e w13 ⟨rfl, hb⟩; have KK := Lib.hid (KK.out.call hb); clear hb; refine ⟨_, rfl, KK.out, ?_⟩
           simp only [Act.put, List.setIfInBounds_toArray, List.set_cons_zero, List.set_cons_succ])
          (apply mx_call
           · (simp only [List.getElem?_toArray, List.getElem?_cons_succ, List.getElem?_cons_zero]; rfl)
           · rfl
           · (intro _; go_simp; first | exact ⟨rfl, rfl⟩ | exact rfl)
           refine (Hch2.out _).mono ?_; rintro e w13 ⟨rfl, hb⟩; have KK := Lib.hid (KK.out.call hb); clear hb; refine ⟨_, rfl, KK.out, ?_⟩
           simp only [Act.put, List.setIfInBounds_toArray, List.set_cons_zero, List.set_cons_succ])
          (apply mx_pure (v := .bool true)
           · (simp only [List.getElem?_toArray, List.getElem?_cons_succ, List.getElem?_cons_zero]; rfl)
           · rfl
           · (intro wS hS; go_simp; done)
           simp only [Act.put, List.setIfInBounds_toArray, List.set_cons_zero, List.set_cons_succ])
          (apply mx_pure
           · (simp only [List.getElem?_toArray, List.getElem?_cons_succ, List.getElem?_cons_zero]; rfl)
           · rfl
           · (intro wS hS; go_simp; try exact rfl)
           simp only [Act.put, List.setIfInBounds_toArray, List.set_cons_zero, List.set_cons_succ])
          (apply mx_pure
           · (simp only [List.getElem?_toArray, List.getElem?_cons_succ, List.getElem?_cons_zero]; rfl)
           · rfl
           · (intro wS hS; go_simp; try exact rfl)
           simp only [Act.put, List.setIfInBounds_toArray, List.set_cons_zero, List.set_cons_succ])
          (apply mx_pure
           · (simp only [List.getElem?_toArray, List.getElem?_cons_succ, List.getElem?_cons_zero]; rfl)
           · rfl
           · (intro wS hS; exact mx_load_row 50 _ rfl _ rfl _ _ _ _ (hS.get 1 rfl) Try.underlying50 rfl (by rw [d32s, dArr_size]))
           simp only [Act.put, List.setIfInBounds_toArray, List.set_cons_zero, List.set_cons_succ])
          (apply mx_pure
           · (simp only [List.getElem?_toArray, List.getElem?_cons_succ, List.getElem?_cons_zero]; rfl)
           · rfl
           · (intro wS hS; exact mx_load_row 50 _ rfl _ rfl _ _ _ _ (hS.get 0 rfl) Try.underlying50 rfl (by rw [d32s, dArr_size]))
           simp only [Act.put, List.setIfInBounds_toArray, List.set_cons_zero, List.set_cons_succ])
          (apply mx_pure (v := .bool true)
           · (simp only [List.getElem?_toArray, List.getElem?_cons_succ, List.getElem?_cons_zero]; rfl)
           · rfl
           · (intro wS hS; go_simp; done)
           simp only [Act.put, List.setIfInBounds_toArray, List.set_cons_zero, List.set_cons_succ])
          (apply mx_pure
           · (simp only [List.getElem?_toArray, List.getElem?_cons_succ, List.getElem?_cons_zero]; rfl)
           · rfl
           · (intro wS hS; go_simp; try exact rfl)
           simp only [Act.put, List.setIfInBounds_toArray, List.set_cons_zero, List.set_cons_succ])
          (apply mx_pure
           · (simp only [List.getElem?_toArray, List.getElem?_cons_succ, List.getElem?_cons_zero]; rfl)
           · rfl
           · (intro wS hS; go_simp; try exact rfl)
           simp only [Act.put, List.setIfInBounds_toArray, List.set_cons_zero, List.set_cons_succ])
          (apply mx_pure
           · (simp only [List.getElem?_toArray, List.getElem?_cons_succ, List.getElem?_cons_zero]; rfl)
           · rfl
           · (intro wS hS; go_simp; try exact rfl)
           simp only [Act.put, List.setIfInBounds_toArray, List.set_cons_zero, List.set_cons_succ])
          (apply mx_pure
           · (simp only [List.getElem?_toArray, List.getElem?_cons_succ, List.getElem?_cons_zero]; rfl)
           · rfl
           · (intro wS hS; go_simp; try exact rfl)
           simp only [Act.put, List.setIfInBounds_toArray, List.set_cons_zero, List.set_cons_succ])
          (apply mx_pure (v := .bool true)
           · (simp only [List.getElem?_toArray, List.getElem?_cons_succ, List.getElem?_cons_zero]; rfl)
           · rfl
           · (intro wS hS; go_simp; done)
           simp only [Act.put, List.setIfInBounds_toArray, List.set_cons_zero, List.set_cons_succ])
          (apply mx_pure
           · (simp only [List.getElem?_toArray, List.getElem?_cons_succ, List.getElem?_cons_zero]; rfl)
           · rfl
           · (intro wS hS; go_simp; try exact rfl)
           simp only [Act.put, List.setIfInBounds_toArray, List.set_cons_zero, List.set_cons_succ])
          (apply mx_loud
           · (simp only [List.getElem?_toArray, List.getElem?_cons_succ, List.getElem?_cons_zero]; rfl)
           go_wp2_with fail)
          refine mx_loud_end ⟨KK.out, mx_end ?_⟩
          go_wp2_with fail
          go_ret
          exact ⟨rfl, KK.out.below⟩
    · have g1 : ¬ (30 < n) := by omega
      have g2 : 200 < s.size := by omega
      go_enter Try.func6, Try.ntmps6
      go_wp2_with fail
      refine (awake02 _).mono ?_
      rintro e w1 ⟨rfl, hb1⟩
      go_wp2_with fail
      go_ret
      exact ⟨rfl, hb1⟩
  · have g1 : 30 < n := by omega
    go_enter Try.func6, Try.ntmps6
    go_wp2_with fail
    refine (awake02 _).mono ?_
    rintro e w1 ⟨rfl, hb1⟩
    go_wp2_with fail
    go_ret
    exact ⟨rfl, hb1⟩
end Go.Proofs.Ytgdjfijkbemkeaa
