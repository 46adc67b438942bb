/-
  Walk: ShaValues.
-/
import Derived.Test.YtgdjfijkbemkeaaShaR
import Derived.Test.YtgdjfijkbemkeaaMy
import Derived.Test.YtgdjfijkbemkeaaAb
import Derived.Deep.DeepCutAuto
namespace Go.Proofs.Ytgdjfijkbemkeaa
open Go.RowKit
set_option maxHeartbeats 8000000
set_option maxRecDepth 20000
set_option linter.unusedVariables false

theorem of_blk (ss : List ByteArray) (cs : Array Value) (hcs : cs = (ss.map Value.string).toArray) (hsum : (ss.flatMap (·.data.toList)).length ≤ 1099511627000) (hss : ss.length ≤ 1000000) (w : World) (p : Nat) (hp : w.heap[p]? = some (.cells cs 9 (0, 0))) :
    Calls Try.prog 33 #[.slice (some ⟨p, 0, none⟩) ss.length ss.length] w fun e w' => e = .returned (.agg (dArr (Sm.digest (ss.flatMap (·.data.toList))))) ∧ Below w.heap.size w w' := by
  subst hcs
  refine of1 ⟨p, 0, none⟩ ss.length ss _ (lt_of_block hp) (fun i h => ?_) hsum hss
  rw [Addr.add_mid, cell_of_row _ _ _ _ _ _ hp]
  simp [h]

theorem shaValues (a b c : ByteArray) (w : World) :
    Calls Try.prog 7 #[.string a, .string b, .string c] w fun e w' => e = .returned (.bool true) ∧ Below w.heap.size w w' := by
  obtain ⟨i0, hi0, hz0, hs0⟩ := d32
  obtain ⟨i1, hi1, hz1, hs1⟩ := t46
  by_cases h : a.size ≤ 1000 ∧ b.size ≤ 1000 ∧ c.size ≤ 1000
  · obtain ⟨ha, hb, hc⟩ := h
    have g1 : ¬ (1000 < a.size) := by omega
    have g2 : ¬ (1000 < b.size) := by omega
    have g3 : ¬ (1000 < c.size) := by omega
    -- the texts
    obtain ⟨la, hla⟩ : ∃ l, l = a.data.toList := ⟨_, rfl⟩
    obtain ⟨lab, hlab⟩ : ∃ l, l = a.data.toList ++ b.data.toList := ⟨_, rfl⟩
    obtain ⟨lac, hlac⟩ : ∃ l, l = a.data.toList ++ c.data.toList := ⟨_, rfl⟩
    obtain ⟨labc, hlabc⟩ : ∃ l, l = lab ++ c.data.toList := ⟨_, rfl⟩
    have za : la.length = a.size := by rw [hla]; rfl
    have zb : b.data.toList.length = b.size := rfl
    have zc : c.data.toList.length = c.size := rfl
    have zab : lab.length = a.size + b.size := by rw [hlab, List.length_append, ← hla, za, zb]
    have zac : lac.length = a.size + c.size := by rw [hlac, List.length_append, ← hla, za, zc]
    have zabc : labc.length = a.size + b.size + c.size := by rw [hlabc, List.length_append, zab, zc]
    have t1 := fun T w h => addT T [] a w (by show 0 + a.size ≤ _; omega) h
    rw [List.nil_append, ← hla] at t1
    have t2 := fun T w h => addT T la b w (by omega) h
    rw [hla, ← hlab, ← hla] at t2
    have t3 := fun T w h => addT T la c w (by omega) h
    rw [hla, ← hlac, ← hla] at t3
    have t4 := fun T w h => addT T lab c w (by omega) h
    rw [← hlabc] at t4
    have s1 := fun T w h => sumT T la w (by omega) h
    have s2 := fun T w h => sumT T lab w (by omega) h
    have s3 := fun T w h => sumT T lac w (by omega) h
    have s4 := fun T w h => sumT T labc w (by omega) h
    have n1 := fun T w => lenT T la w
    have n4 := fun T w => lenT T labc w
    rw [za] at n1
    rw [zabc] at n4
    have o1 := of_blk [a] #[.string a] rfl (by simp; omega) (by simp)
    rw [show [a].flatMap (·.data.toList) = la by simp [hla]] at o1
    have o2 := of_blk [a ++ b] #[.string (a ++ b)] rfl (by simp; omega) (by simp)
    rw [show [a ++ b].flatMap (·.data.toList) = lab by simp [hlab]] at o2
    have o3 := of_blk [a ++ c] #[.string (a ++ c)] rfl (by simp; omega) (by simp)
    rw [show [a ++ c].flatMap (·.data.toList) = lac by simp [hlac]] at o3
    have o4 := of_blk [a, b, c] #[.string a, .string b, .string c] rfl (by simp; omega) (by simp)
    rw [show [a, b, c].flatMap (·.data.toList) = labc by simp [hlabc, hlab]] at o4
    have m1 : ¬ 9223372036854775807 < a.size + b.size := by omega
    have m2 : ¬ 9223372036854775807 < a.size + c.size := by omega
    have e1 : IntKind.i64.wrap ((a.size : Int) + b.size) = (a.size : Int) + b.size := by rw [IntKind.wrap_i64]; omega
    have e2 : IntKind.i64.wrap ((a.size : Int) + b.size + c.size) = (a.size : Int) + b.size + c.size := by rw [IntKind.wrap_i64]; omega
    clear za zb zc zab zac zabc hla hlab hlac hlabc
    generalize hda : Sm.digest la = Da at *
    generalize hdb : Sm.digest lab = Db at *
    generalize hdc : Sm.digest lac = Dc at *
    generalize hdd : Sm.digest labc = Dd at *
    clear hda hdb hdc hdd
    have Ht1 := Lib.hid t1
    have Ht2 := Lib.hid t2
    have Ht3 := Lib.hid t3
    have Ht4 := Lib.hid t4
    have Hs1 := Lib.hid s1
    have Hs2 := Lib.hid s2
    have Hs3 := Lib.hid s3
    have Hs4 := Lib.hid s4
    have Hn1 := Lib.hid n1
    have Hn4 := Lib.hid n4
    have Ho1 := Lib.hid o1
    have Ho2 := Lib.hid o2
    have Ho3 := Lib.hid o3
    have Ho4 := Lib.hid o4
    clear t1 t2 t3 t4 s1 s2 s3 s4 n1 n4 o1 o2 o3 o4
    go_enter Try.func7, Try.ntmps7
    go_wp2_with fail
    refine (awake02 _).mono ?_
    rintro e w1 ⟨rfl, hb1⟩
    have k1 := (Kn.start w).call hb1
    clear hb1
    go_wp2_with fail
    refine (newT _).mono ?_
    rintro e w2 ⟨T, rfl, hT, hTb, hb2⟩
    have k2 := (k1.call hb2).add hTb.out
    clear k1 hb2 hT hTb
    go_wp2_with fail
    refine (Ht1.out T _ (.mk (k2.get 0 rfl))).mono ?_
    rintro e w3 ⟨rfl, hb3⟩
    have k3 := k2.call hb3
    clear k2 hb3
    go_wp2_with (first | refine kl_alloc rfl 46 rfl talZ i1 hi1 _ hz1 rfl ?_ | refine kl_store_new rfl 46 _ _ rfl (tal T la) rfl rfl _ _ (by rw [t46s, tal_size]) (by rw [tal_size]; rfl) (tal_one _ _) ?_ | refine wpList_load_row rfl 46 _ rfl w3.heap.size rfl _ _ _ _ (heap_alloc_new _ _) Try.underlying46 rfl (by rw [t46s, tal_size]) ?_)
    have k4 := k3.alloc (.cells (tal T la) 46)
    have p7b : w.heap.size ≤ w3.heap.size := k3.base
    generalize w3.alloc (.cells (tal T la) 46) = w4 at *
    generalize w3.heap.size = p7 at *
    refine (Hs1.out T _ (.mk (k4.get 1 rfl))).mono ?_
    rintro e w5 ⟨rfl, hb5⟩
    have k5 := k4.call hb5
    clear k3 k4 hb5
    go_wp2_with (first | refine kl_alloc rfl 50 rfl (dArr []) i0 hi0 _ hz0 rfl ?_ | refine kl_store_new rfl 50 _ _ rfl (dArr Da) rfl rfl _ _ (by rw [d32s, dArr_size]) (by rw [dArr_size, dArr_size]) (dArr_one _) ?_)
    have k6 := k5.alloc (.cells (dArr Da) 50)
    generalize w5.alloc (.cells (dArr Da) 50) = w6 at *
    generalize w5.heap.size = p8 at *
    have K := Lib.hid k6
    clear k5 k6
    simp only [Act.put, List.setIfInBounds_toArray, List.set_cons_zero, List.set_cons_succ]
    go_cut [9, 10] (fun v9 v10 wx => ∃ p9 p10 : Nat, v9 = .pointer (some ⟨p9, 0, none⟩) ∧ v10 = .pointer (some ⟨p10, 0, none⟩) ∧ Hid (Kn w.heap.size w [(p10, .cells (tal T lac) 46), (p9, .cells (tal T lab) 46), (p8, .cells (dArr Da) 50), (p7, .cells (tal T la) 46), (T, .cells (tabArr 64) 95)] wx))
    case first =>
      refine wp_region_firsts (Kn w.heap.size w [(p8, .cells (dArr Da) 50), (p7, .cells (tal T la) 46), (T, .cells (tabArr 64) 95)]) [0, 1, 3, 4] 6 #[true, true, false, true, true, false, false, false, false, false] (by kernel_rfl) (by kernel_rfl) (by kernel_rfl) (by kernel_rfl) K.out.drew ?_
      have KK := K.out.drew
      clear K
      generalize w6.drew = w7 at *
      (apply my_pure
       · (simp only [List.getElem?_toArray, List.getElem?_cons_succ, List.getElem?_cons_zero]; rfl)
       · rfl
       · (intro wS hS; exact mx_load_row 46 _ rfl _ rfl _ _ _ _ (hS.get 1 rfl) Try.underlying46 rfl (by rw [t46s, tal_size]))
       simp only [Act.put, List.setIfInBounds_toArray, List.set_cons_zero, List.set_cons_succ])
      (apply my_pure
       · (simp only [List.getElem?_toArray, List.getElem?_cons_succ, List.getElem?_cons_zero]; rfl)
       · rfl
       · (intro wS hS; go_simp; try exact rfl)
       simp only [Act.put, List.setIfInBounds_toArray, List.set_cons_zero, List.set_cons_succ])
      (apply my_pure
       · (simp only [List.getElem?_toArray, List.getElem?_cons_succ, List.getElem?_cons_zero]; rfl)
       · rfl
       · (intro wS hS; exact mx_load_row 46 _ rfl _ rfl _ _ _ _ (hS.get 1 rfl) Try.underlying46 rfl (by rw [t46s, tal_size]))
       simp only [Act.put, List.setIfInBounds_toArray, List.set_cons_zero, List.set_cons_succ])
      (apply my_pure
       · (simp only [List.getElem?_toArray, List.getElem?_cons_succ, List.getElem?_cons_zero]; rfl)
       · rfl
       · (intro wS hS; go_simp; try exact rfl)
       simp only [Act.put, List.setIfInBounds_toArray, List.set_cons_zero, List.set_cons_succ])
      refine my_end ?_
      refine my_any (rs := [2, 6, 7]) (by kernel_rfl) (by simp) ?_
      (apply my_call
       · (simp only [List.getElem?_toArray, List.getElem?_cons_succ, List.getElem?_cons_zero]; rfl)
       · rfl
       · (intro _; go_simp; first | exact ⟨rfl, rfl⟩ | exact rfl)
       · (refine (Ht2.out T _ (.mk ((KK).get 2 rfl))).mono ?_
          rintro e w101 ⟨rfl, hb1⟩
          have k101 := KK.call hb1
          refine ⟨_, rfl, k101, ?_⟩
          simp only [Act.put, List.setIfInBounds_toArray, List.set_cons_zero, List.set_cons_succ]
          refine my_any (rs := [5, 6, 7]) (by kernel_rfl) (by simp) ?_
          (apply my_call
           · (simp only [List.getElem?_toArray, List.getElem?_cons_succ, List.getElem?_cons_zero]; rfl)
           · rfl
           · (intro _; go_simp; first | exact ⟨rfl, rfl⟩ | exact rfl)
           · (refine (Ht3.out T _ (.mk ((k101).get 2 rfl))).mono ?_
              rintro e w102 ⟨rfl, hb2⟩
              have k102 := k101.call hb2
              refine ⟨_, rfl, k102, ?_⟩
              simp only [Act.put, List.setIfInBounds_toArray, List.set_cons_zero, List.set_cons_succ]
              refine my_any (rs := [6, 7]) (by kernel_rfl) (by simp) ?_
              (apply my_alloc talZ
               · (simp only [List.getElem?_toArray, List.getElem?_cons_succ, List.getElem?_cons_zero]; rfl)
               · rfl
               · rfl
               · exact hi1
               · exact hz1
               · rfl
               · (have k103 := k102.alloc (.cells talZ 46)
                  have lp9_0 := k102.lt 0 rfl
                  have lp9_1 := k102.lt 1 rfl
                  have lp9_2 := k102.lt 2 rfl
                  have bp9 := k102.base
                  refine ⟨(Kn.sub k103 fun x hx => List.mem_cons_of_mem _ (hx)), ?_⟩
                  simp only [Act.put, List.setIfInBounds_toArray, List.set_cons_zero, List.set_cons_succ]
                  clear k102
                  generalize w102.alloc (.cells talZ 46) = w103 at *
                  generalize w102.heap.size = p9 at *
                  refine my_any (rs := [7]) (by kernel_rfl) (by simp) ?_
                  (apply my_alloc talZ
                   · (simp only [List.getElem?_toArray, List.getElem?_cons_succ, List.getElem?_cons_zero]; rfl)
                   · rfl
                   · rfl
                   · exact hi1
                   · exact hz1
                   · rfl
                   · (have k104 := k103.alloc (.cells talZ 46)
                      have lp10_0 := k103.lt 0 rfl
                      have lp10_1 := k103.lt 1 rfl
                      have lp10_2 := k103.lt 2 rfl
                      have lp10_3 := k103.lt 3 rfl
                      have bp10 := k103.base
                      refine ⟨(Kn.sub k104 fun x hx => List.mem_cons_of_mem _ (List.mem_cons_of_mem _ (hx))), ?_⟩
                      simp only [Act.put, List.setIfInBounds_toArray, List.set_cons_zero, List.set_cons_succ]
                      clear k103
                      generalize w103.alloc (.cells talZ 46) = w104 at *
                      generalize w103.heap.size = p10 at *
                      refine my_any (rs := [8]) (by kernel_rfl) (by simp) ?_
                      (apply my_store_row
                       · (simp only [List.getElem?_toArray, List.getElem?_cons_succ, List.getElem?_cons_zero]; rfl)
                       · rfl
                       · rfl
                       · rfl
                       · rfl
                       · rfl
                       · exact (k104.swap).get 0 rfl
                       · rw [t46s, tal_size]
                       · (rw [tal_size]; rfl)
                       · exact tal_one _ _
                       · (have k105 := Kn.put (w' := w104.setRow p9 (tal T lab)) (k104.swap) (by omega) (by simp only [List.mem_cons, List.not_mem_nil, or_false]; rintro y (rfl | rfl | rfl | rfl) <;> (show _ ≠ _; omega)) (ch_setRow _ _ _) (setRow_heap _ _ _ _ _ _ ((k104.swap).get 0 rfl))
                          refine ⟨(Kn.sub k105 fun x hx => List.mem_cons_of_mem _ (List.mem_cons_of_mem _ (hx))), ?_⟩
                          simp only [Act.put, List.setIfInBounds_toArray, List.set_cons_zero, List.set_cons_succ]
                          generalize w104.setRow p9 (tal T lab) = w105 at *
                          refine my_any (rs := [9]) (by kernel_rfl) (by simp) ?_
                          (apply my_store_row
                           · (simp only [List.getElem?_toArray, List.getElem?_cons_succ, List.getElem?_cons_zero]; rfl)
                           · rfl
                           · rfl
                           · rfl
                           · rfl
                           · rfl
                           · exact (k105.swap).get 0 rfl
                           · rw [t46s, tal_size]
                           · (rw [tal_size]; rfl)
                           · exact tal_one _ _
                           · (have k106 := Kn.put (w' := w105.setRow p10 (tal T lac)) (k105.swap) (by omega) (by simp only [List.mem_cons, List.not_mem_nil, or_false]; rintro y (rfl | rfl | rfl | rfl) <;> (show _ ≠ _; omega)) (ch_setRow _ _ _) (setRow_heap _ _ _ _ _ _ ((k105.swap).get 0 rfl))
                              refine ⟨(Kn.sub k106 fun x hx => List.mem_cons_of_mem _ (List.mem_cons_of_mem _ (hx))), ?_⟩
                              simp only [Act.put, List.setIfInBounds_toArray, List.set_cons_zero, List.set_cons_succ]
                              generalize w105.setRow p10 (tal T lac) = w106 at *
                              refine my_done (by kernel_rfl) ?_ _
                              go_wp2_with fail; go_meet; exact ⟨p9, p10, rfl, rfl, k106⟩)
                           skip)
                          exact my_nil)
                       skip)
                      exact my_nil)
                   skip)
                  exact my_nil)
               skip)
              (apply my_alloc talZ
               · (simp only [List.getElem?_toArray, List.getElem?_cons_succ, List.getElem?_cons_zero]; rfl)
               · rfl
               · rfl
               · exact hi1
               · exact hz1
               · rfl
               · (have k107 := k102.alloc (.cells talZ 46)
                  have lp10_0 := k102.lt 0 rfl
                  have lp10_1 := k102.lt 1 rfl
                  have lp10_2 := k102.lt 2 rfl
                  have bp10 := k102.base
                  refine ⟨(Kn.sub k107 fun x hx => List.mem_cons_of_mem _ (hx)), ?_⟩
                  simp only [Act.put, List.setIfInBounds_toArray, List.set_cons_zero, List.set_cons_succ]
                  clear k102
                  generalize w102.alloc (.cells talZ 46) = w107 at *
                  generalize w102.heap.size = p10 at *
                  refine my_any (rs := [6]) (by kernel_rfl) (by simp) ?_
                  (apply my_alloc talZ
                   · (simp only [List.getElem?_toArray, List.getElem?_cons_succ, List.getElem?_cons_zero]; rfl)
                   · rfl
                   · rfl
                   · exact hi1
                   · exact hz1
                   · rfl
                   · (have k108 := k107.alloc (.cells talZ 46)
                      have lp9_0 := k107.lt 0 rfl
                      have lp9_1 := k107.lt 1 rfl
                      have lp9_2 := k107.lt 2 rfl
                      have lp9_3 := k107.lt 3 rfl
                      have bp9 := k107.base
                      refine ⟨(Kn.sub k108 fun x hx => List.mem_cons_of_mem _ (List.mem_cons_of_mem _ (hx))), ?_⟩
                      simp only [Act.put, List.setIfInBounds_toArray, List.set_cons_zero, List.set_cons_succ]
                      clear k107
                      generalize w107.alloc (.cells talZ 46) = w108 at *
                      generalize w107.heap.size = p9 at *
                      refine my_any (rs := [8]) (by kernel_rfl) (by simp) ?_
                      (apply my_store_row
                       · (simp only [List.getElem?_toArray, List.getElem?_cons_succ, List.getElem?_cons_zero]; rfl)
                       · rfl
                       · rfl
                       · rfl
                       · rfl
                       · rfl
                       · exact (k108).get 0 rfl
                       · rw [t46s, tal_size]
                       · (rw [tal_size]; rfl)
                       · exact tal_one _ _
                       · (have k109 := Kn.put (w' := w108.setRow p9 (tal T lab)) (k108) (by omega) (by simp only [List.mem_cons, List.not_mem_nil, or_false]; rintro y (rfl | rfl | rfl | rfl) <;> (show _ ≠ _; omega)) (ch_setRow _ _ _) (setRow_heap _ _ _ _ _ _ ((k108).get 0 rfl))
                          refine ⟨(Kn.sub k109 fun x hx => List.mem_cons_of_mem _ (List.mem_cons_of_mem _ (hx))), ?_⟩
                          simp only [Act.put, List.setIfInBounds_toArray, List.set_cons_zero, List.set_cons_succ]
                          generalize w108.setRow p9 (tal T lab) = w109 at *
                          refine my_any (rs := [9]) (by kernel_rfl) (by simp) ?_
                          (apply my_store_row
                           · (simp only [List.getElem?_toArray, List.getElem?_cons_succ, List.getElem?_cons_zero]; rfl)
                           · rfl
                           · rfl
                           · rfl
                           · rfl
                           · rfl
                           · exact (k109.swap).get 0 rfl
                           · rw [t46s, tal_size]
                           · (rw [tal_size]; rfl)
                           · exact tal_one _ _
                           · (have k110 := Kn.put (w' := w109.setRow p10 (tal T lac)) (k109.swap) (by omega) (by simp only [List.mem_cons, List.not_mem_nil, or_false]; rintro y (rfl | rfl | rfl | rfl) <;> (show _ ≠ _; omega)) (ch_setRow _ _ _) (setRow_heap _ _ _ _ _ _ ((k109.swap).get 0 rfl))
                              refine ⟨(Kn.sub k110 fun x hx => List.mem_cons_of_mem _ (List.mem_cons_of_mem _ (hx))), ?_⟩
                              simp only [Act.put, List.setIfInBounds_toArray, List.set_cons_zero, List.set_cons_succ]
                              generalize w109.setRow p10 (tal T lac) = w110 at *
                              refine my_done (by kernel_rfl) ?_ _
                              go_wp2_with fail; go_meet; exact ⟨p9, p10, rfl, rfl, k110⟩)
                           skip)
                          exact my_nil)
                       skip)
                      exact my_nil)
                   skip)
                  exact my_nil)
               skip)
              exact my_nil)
           skip)
          (apply my_alloc talZ
           · (simp only [List.getElem?_toArray, List.getElem?_cons_succ, List.getElem?_cons_zero]; rfl)
           · rfl
           · rfl
           · exact hi1
           · exact hz1
           · rfl
           · (have k111 := k101.alloc (.cells talZ 46)
              have lp9_0 := k101.lt 0 rfl
              have lp9_1 := k101.lt 1 rfl
              have lp9_2 := k101.lt 2 rfl
              have bp9 := k101.base
              refine ⟨(Kn.sub k111 fun x hx => List.mem_cons_of_mem _ (hx)), ?_⟩
              simp only [Act.put, List.setIfInBounds_toArray, List.set_cons_zero, List.set_cons_succ]
              clear k101
              generalize w101.alloc (.cells talZ 46) = w111 at *
              generalize w101.heap.size = p9 at *
              refine my_any (rs := [5, 7]) (by kernel_rfl) (by simp) ?_
              (apply my_call
               · (simp only [List.getElem?_toArray, List.getElem?_cons_succ, List.getElem?_cons_zero]; rfl)
               · rfl
               · (intro _; go_simp; first | exact ⟨rfl, rfl⟩ | exact rfl)
               · (refine (Ht3.out T _ (.mk (((Kn.sub k111 fun x hx => List.mem_cons_of_mem _ (hx))).get 2 rfl))).mono ?_
                  rintro e w112 ⟨rfl, hb12⟩
                  have k112 := k111.call hb12
                  refine ⟨_, rfl, (Kn.sub k112 fun x hx => List.mem_cons_of_mem _ (hx)), ?_⟩
                  simp only [Act.put, List.setIfInBounds_toArray, List.set_cons_zero, List.set_cons_succ]
                  refine my_any (rs := [7]) (by kernel_rfl) (by simp) ?_
                  (apply my_alloc talZ
                   · (simp only [List.getElem?_toArray, List.getElem?_cons_succ, List.getElem?_cons_zero]; rfl)
                   · rfl
                   · rfl
                   · exact hi1
                   · exact hz1
                   · rfl
                   · (have k113 := k112.alloc (.cells talZ 46)
                      have lp10_0 := k112.lt 0 rfl
                      have lp10_1 := k112.lt 1 rfl
                      have lp10_2 := k112.lt 2 rfl
                      have lp10_3 := k112.lt 3 rfl
                      have bp10 := k112.base
                      refine ⟨(Kn.sub k113 fun x hx => List.mem_cons_of_mem _ (List.mem_cons_of_mem _ (hx))), ?_⟩
                      simp only [Act.put, List.setIfInBounds_toArray, List.set_cons_zero, List.set_cons_succ]
                      clear k112
                      generalize w112.alloc (.cells talZ 46) = w113 at *
                      generalize w112.heap.size = p10 at *
                      refine my_any (rs := [8]) (by kernel_rfl) (by simp) ?_
                      (apply my_store_row
                       · (simp only [List.getElem?_toArray, List.getElem?_cons_succ, List.getElem?_cons_zero]; rfl)
                       · rfl
                       · rfl
                       · rfl
                       · rfl
                       · rfl
                       · exact (k113.swap).get 0 rfl
                       · rw [t46s, tal_size]
                       · (rw [tal_size]; rfl)
                       · exact tal_one _ _
                       · (have k114 := Kn.put (w' := w113.setRow p9 (tal T lab)) (k113.swap) (by omega) (by simp only [List.mem_cons, List.not_mem_nil, or_false]; rintro y (rfl | rfl | rfl | rfl) <;> (show _ ≠ _; omega)) (ch_setRow _ _ _) (setRow_heap _ _ _ _ _ _ ((k113.swap).get 0 rfl))
                          refine ⟨(Kn.sub k114 fun x hx => List.mem_cons_of_mem _ (List.mem_cons_of_mem _ (hx))), ?_⟩
                          simp only [Act.put, List.setIfInBounds_toArray, List.set_cons_zero, List.set_cons_succ]
                          generalize w113.setRow p9 (tal T lab) = w114 at *
                          refine my_any (rs := [9]) (by kernel_rfl) (by simp) ?_
                          (apply my_store_row
                           · (simp only [List.getElem?_toArray, List.getElem?_cons_succ, List.getElem?_cons_zero]; rfl)
                           · rfl
                           · rfl
                           · rfl
                           · rfl
                           · rfl
                           · exact (k114.swap).get 0 rfl
                           · rw [t46s, tal_size]
                           · (rw [tal_size]; rfl)
                           · exact tal_one _ _
                           · (have k115 := Kn.put (w' := w114.setRow p10 (tal T lac)) (k114.swap) (by omega) (by simp only [List.mem_cons, List.not_mem_nil, or_false]; rintro y (rfl | rfl | rfl | rfl) <;> (show _ ≠ _; omega)) (ch_setRow _ _ _) (setRow_heap _ _ _ _ _ _ ((k114.swap).get 0 rfl))
                              refine ⟨(Kn.sub k115 fun x hx => List.mem_cons_of_mem _ (List.mem_cons_of_mem _ (hx))), ?_⟩
                              simp only [Act.put, List.setIfInBounds_toArray, List.set_cons_zero, List.set_cons_succ]
                              generalize w114.setRow p10 (tal T lac) = w115 at *
                              refine my_done (by kernel_rfl) ?_ _
                              go_wp2_with fail; go_meet; exact ⟨p9, p10, rfl, rfl, k115⟩)
                           skip)
                          exact my_nil)
                       skip)
                      exact my_nil)
                   skip)
                  exact my_nil)
               skip)
              (apply my_alloc talZ
               · (simp only [List.getElem?_toArray, List.getElem?_cons_succ, List.getElem?_cons_zero]; rfl)
               · rfl
               · rfl
               · exact hi1
               · exact hz1
               · rfl
               · (have k116 := k111.alloc (.cells talZ 46)
                  have lp10_0 := k111.lt 0 rfl
                  have lp10_1 := k111.lt 1 rfl
                  have lp10_2 := k111.lt 2 rfl
                  have lp10_3 := k111.lt 3 rfl
                  have bp10 := k111.base
                  refine ⟨(Kn.sub k116 fun x hx => List.mem_cons_of_mem _ (List.mem_cons_of_mem _ (hx))), ?_⟩
                  simp only [Act.put, List.setIfInBounds_toArray, List.set_cons_zero, List.set_cons_succ]
                  clear k111
                  generalize w111.alloc (.cells talZ 46) = w116 at *
                  generalize w111.heap.size = p10 at *
                  refine my_any (rs := [5]) (by kernel_rfl) (by simp) ?_
                  (apply my_call
                   · (simp only [List.getElem?_toArray, List.getElem?_cons_succ, List.getElem?_cons_zero]; rfl)
                   · rfl
                   · (intro _; go_simp; first | exact ⟨rfl, rfl⟩ | exact rfl)
                   · (refine (Ht3.out T _ (.mk (((Kn.sub k116 fun x hx => List.mem_cons_of_mem _ (List.mem_cons_of_mem _ (hx)))).get 2 rfl))).mono ?_
                      rintro e w117 ⟨rfl, hb17⟩
                      have k117 := k116.call hb17
                      refine ⟨_, rfl, (Kn.sub k117 fun x hx => List.mem_cons_of_mem _ (List.mem_cons_of_mem _ (hx))), ?_⟩
                      simp only [Act.put, List.setIfInBounds_toArray, List.set_cons_zero, List.set_cons_succ]
                      refine my_any (rs := [8]) (by kernel_rfl) (by simp) ?_
                      (apply my_store_row
                       · (simp only [List.getElem?_toArray, List.getElem?_cons_succ, List.getElem?_cons_zero]; rfl)
                       · rfl
                       · rfl
                       · rfl
                       · rfl
                       · rfl
                       · exact (k117.swap).get 0 rfl
                       · rw [t46s, tal_size]
                       · (rw [tal_size]; rfl)
                       · exact tal_one _ _
                       · (have k118 := Kn.put (w' := w117.setRow p9 (tal T lab)) (k117.swap) (by omega) (by simp only [List.mem_cons, List.not_mem_nil, or_false]; rintro y (rfl | rfl | rfl | rfl) <;> (show _ ≠ _; omega)) (ch_setRow _ _ _) (setRow_heap _ _ _ _ _ _ ((k117.swap).get 0 rfl))
                          refine ⟨(Kn.sub k118 fun x hx => List.mem_cons_of_mem _ (List.mem_cons_of_mem _ (hx))), ?_⟩
                          simp only [Act.put, List.setIfInBounds_toArray, List.set_cons_zero, List.set_cons_succ]
                          generalize w117.setRow p9 (tal T lab) = w118 at *
                          refine my_any (rs := [9]) (by kernel_rfl) (by simp) ?_
                          (apply my_store_row
                           · (simp only [List.getElem?_toArray, List.getElem?_cons_succ, List.getElem?_cons_zero]; rfl)
                           · rfl
                           · rfl
                           · rfl
                           · rfl
                           · rfl
                           · exact (k118.swap).get 0 rfl
                           · rw [t46s, tal_size]
                           · (rw [tal_size]; rfl)
                           · exact tal_one _ _
                           · (have k119 := Kn.put (w' := w118.setRow p10 (tal T lac)) (k118.swap) (by omega) (by simp only [List.mem_cons, List.not_mem_nil, or_false]; rintro y (rfl | rfl | rfl | rfl) <;> (show _ ≠ _; omega)) (ch_setRow _ _ _) (setRow_heap _ _ _ _ _ _ ((k118.swap).get 0 rfl))
                              refine ⟨(Kn.sub k119 fun x hx => List.mem_cons_of_mem _ (List.mem_cons_of_mem _ (hx))), ?_⟩
                              simp only [Act.put, List.setIfInBounds_toArray, List.set_cons_zero, List.set_cons_succ]
                              generalize w118.setRow p10 (tal T lac) = w119 at *
                              refine my_done (by kernel_rfl) ?_ _
                              go_wp2_with fail; go_meet; exact ⟨p9, p10, rfl, rfl, k119⟩)
                           skip)
                          exact my_nil)
                       skip)
                      exact my_nil)
                   skip)
                  exact my_nil)
               skip)
              exact my_nil)
           skip)
          (apply my_alloc talZ
           · (simp only [List.getElem?_toArray, List.getElem?_cons_succ, List.getElem?_cons_zero]; rfl)
           · rfl
           · rfl
           · exact hi1
           · exact hz1
           · rfl
           · (have k120 := k101.alloc (.cells talZ 46)
              have lp10_0 := k101.lt 0 rfl
              have lp10_1 := k101.lt 1 rfl
              have lp10_2 := k101.lt 2 rfl
              have bp10 := k101.base
              refine ⟨(Kn.sub k120 fun x hx => List.mem_cons_of_mem _ (hx)), ?_⟩
              simp only [Act.put, List.setIfInBounds_toArray, List.set_cons_zero, List.set_cons_succ]
              clear k101
              generalize w101.alloc (.cells talZ 46) = w120 at *
              generalize w101.heap.size = p10 at *
              refine my_any (rs := [5, 6]) (by kernel_rfl) (by simp) ?_
              (apply my_call
               · (simp only [List.getElem?_toArray, List.getElem?_cons_succ, List.getElem?_cons_zero]; rfl)
               · rfl
               · (intro _; go_simp; first | exact ⟨rfl, rfl⟩ | exact rfl)
               · (refine (Ht3.out T _ (.mk (((Kn.sub k120 fun x hx => List.mem_cons_of_mem _ (hx))).get 2 rfl))).mono ?_
                  rintro e w121 ⟨rfl, hb21⟩
                  have k121 := k120.call hb21
                  refine ⟨_, rfl, (Kn.sub k121 fun x hx => List.mem_cons_of_mem _ (hx)), ?_⟩
                  simp only [Act.put, List.setIfInBounds_toArray, List.set_cons_zero, List.set_cons_succ]
                  refine my_any (rs := [6]) (by kernel_rfl) (by simp) ?_
                  (apply my_alloc talZ
                   · (simp only [List.getElem?_toArray, List.getElem?_cons_succ, List.getElem?_cons_zero]; rfl)
                   · rfl
                   · rfl
                   · exact hi1
                   · exact hz1
                   · rfl
                   · (have k122 := k121.alloc (.cells talZ 46)
                      have lp9_0 := k121.lt 0 rfl
                      have lp9_1 := k121.lt 1 rfl
                      have lp9_2 := k121.lt 2 rfl
                      have lp9_3 := k121.lt 3 rfl
                      have bp9 := k121.base
                      refine ⟨(Kn.sub k122 fun x hx => List.mem_cons_of_mem _ (List.mem_cons_of_mem _ (hx))), ?_⟩
                      simp only [Act.put, List.setIfInBounds_toArray, List.set_cons_zero, List.set_cons_succ]
                      clear k121
                      generalize w121.alloc (.cells talZ 46) = w122 at *
                      generalize w121.heap.size = p9 at *
                      refine my_any (rs := [8]) (by kernel_rfl) (by simp) ?_
                      (apply my_store_row
                       · (simp only [List.getElem?_toArray, List.getElem?_cons_succ, List.getElem?_cons_zero]; rfl)
                       · rfl
                       · rfl
                       · rfl
                       · rfl
                       · rfl
                       · exact (k122).get 0 rfl
                       · rw [t46s, tal_size]
                       · (rw [tal_size]; rfl)
                       · exact tal_one _ _
                       · (have k123 := Kn.put (w' := w122.setRow p9 (tal T lab)) (k122) (by omega) (by simp only [List.mem_cons, List.not_mem_nil, or_false]; rintro y (rfl | rfl | rfl | rfl) <;> (show _ ≠ _; omega)) (ch_setRow _ _ _) (setRow_heap _ _ _ _ _ _ ((k122).get 0 rfl))
                          refine ⟨(Kn.sub k123 fun x hx => List.mem_cons_of_mem _ (List.mem_cons_of_mem _ (hx))), ?_⟩
                          simp only [Act.put, List.setIfInBounds_toArray, List.set_cons_zero, List.set_cons_succ]
                          generalize w122.setRow p9 (tal T lab) = w123 at *
                          refine my_any (rs := [9]) (by kernel_rfl) (by simp) ?_
                          (apply my_store_row
                           · (simp only [List.getElem?_toArray, List.getElem?_cons_succ, List.getElem?_cons_zero]; rfl)
                           · rfl
                           · rfl
                           · rfl
                           · rfl
                           · rfl
                           · exact (k123.swap).get 0 rfl
                           · rw [t46s, tal_size]
                           · (rw [tal_size]; rfl)
                           · exact tal_one _ _
                           · (have k124 := Kn.put (w' := w123.setRow p10 (tal T lac)) (k123.swap) (by omega) (by simp only [List.mem_cons, List.not_mem_nil, or_false]; rintro y (rfl | rfl | rfl | rfl) <;> (show _ ≠ _; omega)) (ch_setRow _ _ _) (setRow_heap _ _ _ _ _ _ ((k123.swap).get 0 rfl))
                              refine ⟨(Kn.sub k124 fun x hx => List.mem_cons_of_mem _ (List.mem_cons_of_mem _ (hx))), ?_⟩
                              simp only [Act.put, List.setIfInBounds_toArray, List.set_cons_zero, List.set_cons_succ]
                              generalize w123.setRow p10 (tal T lac) = w124 at *
                              refine my_done (by kernel_rfl) ?_ _
                              go_wp2_with fail; go_meet; exact ⟨p9, p10, rfl, rfl, k124⟩)
                           skip)
                          exact my_nil)
                       skip)
                      exact my_nil)
                   skip)
                  exact my_nil)
               skip)
              (apply my_alloc talZ
               · (simp only [List.getElem?_toArray, List.getElem?_cons_succ, List.getElem?_cons_zero]; rfl)
               · rfl
               · rfl
               · exact hi1
               · exact hz1
               · rfl
               · (have k125 := k120.alloc (.cells talZ 46)
                  have lp9_0 := k120.lt 0 rfl
                  have lp9_1 := k120.lt 1 rfl
                  have lp9_2 := k120.lt 2 rfl
                  have lp9_3 := k120.lt 3 rfl
                  have bp9 := k120.base
                  refine ⟨(Kn.sub k125 fun x hx => List.mem_cons_of_mem _ (List.mem_cons_of_mem _ (hx))), ?_⟩
                  simp only [Act.put, List.setIfInBounds_toArray, List.set_cons_zero, List.set_cons_succ]
                  clear k120
                  generalize w120.alloc (.cells talZ 46) = w125 at *
                  generalize w120.heap.size = p9 at *
                  refine my_any (rs := [5]) (by kernel_rfl) (by simp) ?_
                  (apply my_call
                   · (simp only [List.getElem?_toArray, List.getElem?_cons_succ, List.getElem?_cons_zero]; rfl)
                   · rfl
                   · (intro _; go_simp; first | exact ⟨rfl, rfl⟩ | exact rfl)
                   · (refine (Ht3.out T _ (.mk (((Kn.sub k125 fun x hx => List.mem_cons_of_mem _ (List.mem_cons_of_mem _ (hx)))).get 2 rfl))).mono ?_
                      rintro e w126 ⟨rfl, hb26⟩
                      have k126 := k125.call hb26
                      refine ⟨_, rfl, (Kn.sub k126 fun x hx => List.mem_cons_of_mem _ (List.mem_cons_of_mem _ (hx))), ?_⟩
                      simp only [Act.put, List.setIfInBounds_toArray, List.set_cons_zero, List.set_cons_succ]
                      refine my_any (rs := [8]) (by kernel_rfl) (by simp) ?_
                      (apply my_store_row
                       · (simp only [List.getElem?_toArray, List.getElem?_cons_succ, List.getElem?_cons_zero]; rfl)
                       · rfl
                       · rfl
                       · rfl
                       · rfl
                       · rfl
                       · exact (k126).get 0 rfl
                       · rw [t46s, tal_size]
                       · (rw [tal_size]; rfl)
                       · exact tal_one _ _
                       · (have k127 := Kn.put (w' := w126.setRow p9 (tal T lab)) (k126) (by omega) (by simp only [List.mem_cons, List.not_mem_nil, or_false]; rintro y (rfl | rfl | rfl | rfl) <;> (show _ ≠ _; omega)) (ch_setRow _ _ _) (setRow_heap _ _ _ _ _ _ ((k126).get 0 rfl))
                          refine ⟨(Kn.sub k127 fun x hx => List.mem_cons_of_mem _ (List.mem_cons_of_mem _ (hx))), ?_⟩
                          simp only [Act.put, List.setIfInBounds_toArray, List.set_cons_zero, List.set_cons_succ]
                          generalize w126.setRow p9 (tal T lab) = w127 at *
                          refine my_any (rs := [9]) (by kernel_rfl) (by simp) ?_
                          (apply my_store_row
                           · (simp only [List.getElem?_toArray, List.getElem?_cons_succ, List.getElem?_cons_zero]; rfl)
                           · rfl
                           · rfl
                           · rfl
                           · rfl
                           · rfl
                           · exact (k127.swap).get 0 rfl
                           · rw [t46s, tal_size]
                           · (rw [tal_size]; rfl)
                           · exact tal_one _ _
                           · (have k128 := Kn.put (w' := w127.setRow p10 (tal T lac)) (k127.swap) (by omega) (by simp only [List.mem_cons, List.not_mem_nil, or_false]; rintro y (rfl | rfl | rfl | rfl) <;> (show _ ≠ _; omega)) (ch_setRow _ _ _) (setRow_heap _ _ _ _ _ _ ((k127.swap).get 0 rfl))
                              refine ⟨(Kn.sub k128 fun x hx => List.mem_cons_of_mem _ (List.mem_cons_of_mem _ (hx))), ?_⟩
                              simp only [Act.put, List.setIfInBounds_toArray, List.set_cons_zero, List.set_cons_succ]
                              generalize w127.setRow p10 (tal T lac) = w128 at *
                              refine my_done (by kernel_rfl) ?_ _
                              go_wp2_with fail; go_meet; exact ⟨p9, p10, rfl, rfl, k128⟩)
                           skip)
                          exact my_nil)
                       skip)
                      exact my_nil)
                   skip)
                  exact my_nil)
               skip)
              exact my_nil)
           skip)
          exact my_nil)
       skip)
      (apply my_alloc talZ
       · (simp only [List.getElem?_toArray, List.getElem?_cons_succ, List.getElem?_cons_zero]; rfl)
       · rfl
       · rfl
       · exact hi1
       · exact hz1
       · rfl
       · (have k129 := KK.alloc (.cells talZ 46)
          have lp9_0 := KK.lt 0 rfl
          have lp9_1 := KK.lt 1 rfl
          have lp9_2 := KK.lt 2 rfl
          have bp9 := KK.base
          refine ⟨(Kn.sub k129 fun x hx => List.mem_cons_of_mem _ (hx)), ?_⟩
          simp only [Act.put, List.setIfInBounds_toArray, List.set_cons_zero, List.set_cons_succ]
          skip
          generalize w7.alloc (.cells talZ 46) = w129 at *
          generalize w7.heap.size = p9 at *
          refine my_any (rs := [2, 7]) (by kernel_rfl) (by simp) ?_
          (apply my_call
           · (simp only [List.getElem?_toArray, List.getElem?_cons_succ, List.getElem?_cons_zero]; rfl)
           · rfl
           · (intro _; go_simp; first | exact ⟨rfl, rfl⟩ | exact rfl)
           · (refine (Ht2.out T _ (.mk (((Kn.sub k129 fun x hx => List.mem_cons_of_mem _ (hx))).get 2 rfl))).mono ?_
              rintro e w130 ⟨rfl, hb30⟩
              have k130 := k129.call hb30
              refine ⟨_, rfl, (Kn.sub k130 fun x hx => List.mem_cons_of_mem _ (hx)), ?_⟩
              simp only [Act.put, List.setIfInBounds_toArray, List.set_cons_zero, List.set_cons_succ]
              refine my_any (rs := [5, 7]) (by kernel_rfl) (by simp) ?_
              (apply my_call
               · (simp only [List.getElem?_toArray, List.getElem?_cons_succ, List.getElem?_cons_zero]; rfl)
               · rfl
               · (intro _; go_simp; first | exact ⟨rfl, rfl⟩ | exact rfl)
               · (refine (Ht3.out T _ (.mk (((Kn.sub k130 fun x hx => List.mem_cons_of_mem _ (hx))).get 2 rfl))).mono ?_
                  rintro e w131 ⟨rfl, hb31⟩
                  have k131 := k130.call hb31
                  refine ⟨_, rfl, (Kn.sub k131 fun x hx => List.mem_cons_of_mem _ (hx)), ?_⟩
                  simp only [Act.put, List.setIfInBounds_toArray, List.set_cons_zero, List.set_cons_succ]
                  refine my_any (rs := [7]) (by kernel_rfl) (by simp) ?_
                  (apply my_alloc talZ
                   · (simp only [List.getElem?_toArray, List.getElem?_cons_succ, List.getElem?_cons_zero]; rfl)
                   · rfl
                   · rfl
                   · exact hi1
                   · exact hz1
                   · rfl
                   · (have k132 := k131.alloc (.cells talZ 46)
                      have lp10_0 := k131.lt 0 rfl
                      have lp10_1 := k131.lt 1 rfl
                      have lp10_2 := k131.lt 2 rfl
                      have lp10_3 := k131.lt 3 rfl
                      have bp10 := k131.base
                      refine ⟨(Kn.sub k132 fun x hx => List.mem_cons_of_mem _ (List.mem_cons_of_mem _ (hx))), ?_⟩
                      simp only [Act.put, List.setIfInBounds_toArray, List.set_cons_zero, List.set_cons_succ]
                      clear k131
                      generalize w131.alloc (.cells talZ 46) = w132 at *
                      generalize w131.heap.size = p10 at *
                      refine my_any (rs := [8]) (by kernel_rfl) (by simp) ?_
                      (apply my_store_row
                       · (simp only [List.getElem?_toArray, List.getElem?_cons_succ, List.getElem?_cons_zero]; rfl)
                       · rfl
                       · rfl
                       · rfl
                       · rfl
                       · rfl
                       · exact (k132.swap).get 0 rfl
                       · rw [t46s, tal_size]
                       · (rw [tal_size]; rfl)
                       · exact tal_one _ _
                       · (have k133 := Kn.put (w' := w132.setRow p9 (tal T lab)) (k132.swap) (by omega) (by simp only [List.mem_cons, List.not_mem_nil, or_false]; rintro y (rfl | rfl | rfl | rfl) <;> (show _ ≠ _; omega)) (ch_setRow _ _ _) (setRow_heap _ _ _ _ _ _ ((k132.swap).get 0 rfl))
                          refine ⟨(Kn.sub k133 fun x hx => List.mem_cons_of_mem _ (List.mem_cons_of_mem _ (hx))), ?_⟩
                          simp only [Act.put, List.setIfInBounds_toArray, List.set_cons_zero, List.set_cons_succ]
                          generalize w132.setRow p9 (tal T lab) = w133 at *
                          refine my_any (rs := [9]) (by kernel_rfl) (by simp) ?_
                          (apply my_store_row
                           · (simp only [List.getElem?_toArray, List.getElem?_cons_succ, List.getElem?_cons_zero]; rfl)
                           · rfl
                           · rfl
                           · rfl
                           · rfl
                           · rfl
                           · exact (k133.swap).get 0 rfl
                           · rw [t46s, tal_size]
                           · (rw [tal_size]; rfl)
                           · exact tal_one _ _
                           · (have k134 := Kn.put (w' := w133.setRow p10 (tal T lac)) (k133.swap) (by omega) (by simp only [List.mem_cons, List.not_mem_nil, or_false]; rintro y (rfl | rfl | rfl | rfl) <;> (show _ ≠ _; omega)) (ch_setRow _ _ _) (setRow_heap _ _ _ _ _ _ ((k133.swap).get 0 rfl))
                              refine ⟨(Kn.sub k134 fun x hx => List.mem_cons_of_mem _ (List.mem_cons_of_mem _ (hx))), ?_⟩
                              simp only [Act.put, List.setIfInBounds_toArray, List.set_cons_zero, List.set_cons_succ]
                              generalize w133.setRow p10 (tal T lac) = w134 at *
                              refine my_done (by kernel_rfl) ?_ _
                              go_wp2_with fail; go_meet; exact ⟨p9, p10, rfl, rfl, k134⟩)
                           skip)
                          exact my_nil)
                       skip)
                      exact my_nil)
                   skip)
                  exact my_nil)
               skip)
              (apply my_alloc talZ
               · (simp only [List.getElem?_toArray, List.getElem?_cons_succ, List.getElem?_cons_zero]; rfl)
               · rfl
               · rfl
               · exact hi1
               · exact hz1
               · rfl
               · (have k135 := k130.alloc (.cells talZ 46)
                  have lp10_0 := k130.lt 0 rfl
                  have lp10_1 := k130.lt 1 rfl
                  have lp10_2 := k130.lt 2 rfl
                  have lp10_3 := k130.lt 3 rfl
                  have bp10 := k130.base
                  refine ⟨(Kn.sub k135 fun x hx => List.mem_cons_of_mem _ (List.mem_cons_of_mem _ (hx))), ?_⟩
                  simp only [Act.put, List.setIfInBounds_toArray, List.set_cons_zero, List.set_cons_succ]
                  clear k130
                  generalize w130.alloc (.cells talZ 46) = w135 at *
                  generalize w130.heap.size = p10 at *
                  refine my_any (rs := [5]) (by kernel_rfl) (by simp) ?_
                  (apply my_call
                   · (simp only [List.getElem?_toArray, List.getElem?_cons_succ, List.getElem?_cons_zero]; rfl)
                   · rfl
                   · (intro _; go_simp; first | exact ⟨rfl, rfl⟩ | exact rfl)
                   · (refine (Ht3.out T _ (.mk (((Kn.sub k135 fun x hx => List.mem_cons_of_mem _ (List.mem_cons_of_mem _ (hx)))).get 2 rfl))).mono ?_
                      rintro e w136 ⟨rfl, hb36⟩
                      have k136 := k135.call hb36
                      refine ⟨_, rfl, (Kn.sub k136 fun x hx => List.mem_cons_of_mem _ (List.mem_cons_of_mem _ (hx))), ?_⟩
                      simp only [Act.put, List.setIfInBounds_toArray, List.set_cons_zero, List.set_cons_succ]
                      refine my_any (rs := [8]) (by kernel_rfl) (by simp) ?_
                      (apply my_store_row
                       · (simp only [List.getElem?_toArray, List.getElem?_cons_succ, List.getElem?_cons_zero]; rfl)
                       · rfl
                       · rfl
                       · rfl
                       · rfl
                       · rfl
                       · exact (k136.swap).get 0 rfl
                       · rw [t46s, tal_size]
                       · (rw [tal_size]; rfl)
                       · exact tal_one _ _
                       · (have k137 := Kn.put (w' := w136.setRow p9 (tal T lab)) (k136.swap) (by omega) (by simp only [List.mem_cons, List.not_mem_nil, or_false]; rintro y (rfl | rfl | rfl | rfl) <;> (show _ ≠ _; omega)) (ch_setRow _ _ _) (setRow_heap _ _ _ _ _ _ ((k136.swap).get 0 rfl))
                          refine ⟨(Kn.sub k137 fun x hx => List.mem_cons_of_mem _ (List.mem_cons_of_mem _ (hx))), ?_⟩
                          simp only [Act.put, List.setIfInBounds_toArray, List.set_cons_zero, List.set_cons_succ]
                          generalize w136.setRow p9 (tal T lab) = w137 at *
                          refine my_any (rs := [9]) (by kernel_rfl) (by simp) ?_
                          (apply my_store_row
                           · (simp only [List.getElem?_toArray, List.getElem?_cons_succ, List.getElem?_cons_zero]; rfl)
                           · rfl
                           · rfl
                           · rfl
                           · rfl
                           · rfl
                           · exact (k137.swap).get 0 rfl
                           · rw [t46s, tal_size]
                           · (rw [tal_size]; rfl)
                           · exact tal_one _ _
                           · (have k138 := Kn.put (w' := w137.setRow p10 (tal T lac)) (k137.swap) (by omega) (by simp only [List.mem_cons, List.not_mem_nil, or_false]; rintro y (rfl | rfl | rfl | rfl) <;> (show _ ≠ _; omega)) (ch_setRow _ _ _) (setRow_heap _ _ _ _ _ _ ((k137.swap).get 0 rfl))
                              refine ⟨(Kn.sub k138 fun x hx => List.mem_cons_of_mem _ (List.mem_cons_of_mem _ (hx))), ?_⟩
                              simp only [Act.put, List.setIfInBounds_toArray, List.set_cons_zero, List.set_cons_succ]
                              generalize w137.setRow p10 (tal T lac) = w138 at *
                              refine my_done (by kernel_rfl) ?_ _
                              go_wp2_with fail; go_meet; exact ⟨p9, p10, rfl, rfl, k138⟩)
                           skip)
                          exact my_nil)
                       skip)
                      exact my_nil)
                   skip)
                  exact my_nil)
               skip)
              exact my_nil)
           skip)
          (apply my_alloc talZ
           · (simp only [List.getElem?_toArray, List.getElem?_cons_succ, List.getElem?_cons_zero]; rfl)
           · rfl
           · rfl
           · exact hi1
           · exact hz1
           · rfl
           · (have k139 := k129.alloc (.cells talZ 46)
              have lp10_0 := k129.lt 0 rfl
              have lp10_1 := k129.lt 1 rfl
              have lp10_2 := k129.lt 2 rfl
              have lp10_3 := k129.lt 3 rfl
              have bp10 := k129.base
              refine ⟨(Kn.sub k139 fun x hx => List.mem_cons_of_mem _ (List.mem_cons_of_mem _ (hx))), ?_⟩
              simp only [Act.put, List.setIfInBounds_toArray, List.set_cons_zero, List.set_cons_succ]
              clear k129
              generalize w129.alloc (.cells talZ 46) = w139 at *
              generalize w129.heap.size = p10 at *
              refine my_any (rs := [2]) (by kernel_rfl) (by simp) ?_
              (apply my_call
               · (simp only [List.getElem?_toArray, List.getElem?_cons_succ, List.getElem?_cons_zero]; rfl)
               · rfl
               · (intro _; go_simp; first | exact ⟨rfl, rfl⟩ | exact rfl)
               · (refine (Ht2.out T _ (.mk (((Kn.sub k139 fun x hx => List.mem_cons_of_mem _ (List.mem_cons_of_mem _ (hx)))).get 2 rfl))).mono ?_
                  rintro e w140 ⟨rfl, hb40⟩
                  have k140 := k139.call hb40
                  refine ⟨_, rfl, (Kn.sub k140 fun x hx => List.mem_cons_of_mem _ (List.mem_cons_of_mem _ (hx))), ?_⟩
                  simp only [Act.put, List.setIfInBounds_toArray, List.set_cons_zero, List.set_cons_succ]
                  refine my_any (rs := [5]) (by kernel_rfl) (by simp) ?_
                  (apply my_call
                   · (simp only [List.getElem?_toArray, List.getElem?_cons_succ, List.getElem?_cons_zero]; rfl)
                   · rfl
                   · (intro _; go_simp; first | exact ⟨rfl, rfl⟩ | exact rfl)
                   · (refine (Ht3.out T _ (.mk (((Kn.sub k140 fun x hx => List.mem_cons_of_mem _ (List.mem_cons_of_mem _ (hx)))).get 2 rfl))).mono ?_
                      rintro e w141 ⟨rfl, hb41⟩
                      have k141 := k140.call hb41
                      refine ⟨_, rfl, (Kn.sub k141 fun x hx => List.mem_cons_of_mem _ (List.mem_cons_of_mem _ (hx))), ?_⟩
                      simp only [Act.put, List.setIfInBounds_toArray, List.set_cons_zero, List.set_cons_succ]
                      refine my_any (rs := [8]) (by kernel_rfl) (by simp) ?_
                      (apply my_store_row
                       · (simp only [List.getElem?_toArray, List.getElem?_cons_succ, List.getElem?_cons_zero]; rfl)
                       · rfl
                       · rfl
                       · rfl
                       · rfl
                       · rfl
                       · exact (k141.swap).get 0 rfl
                       · rw [t46s, tal_size]
                       · (rw [tal_size]; rfl)
                       · exact tal_one _ _
                       · (have k142 := Kn.put (w' := w141.setRow p9 (tal T lab)) (k141.swap) (by omega) (by simp only [List.mem_cons, List.not_mem_nil, or_false]; rintro y (rfl | rfl | rfl | rfl) <;> (show _ ≠ _; omega)) (ch_setRow _ _ _) (setRow_heap _ _ _ _ _ _ ((k141.swap).get 0 rfl))
                          refine ⟨(Kn.sub k142 fun x hx => List.mem_cons_of_mem _ (List.mem_cons_of_mem _ (hx))), ?_⟩
                          simp only [Act.put, List.setIfInBounds_toArray, List.set_cons_zero, List.set_cons_succ]
                          generalize w141.setRow p9 (tal T lab) = w142 at *
                          refine my_any (rs := [9]) (by kernel_rfl) (by simp) ?_
                          (apply my_store_row
                           · (simp only [List.getElem?_toArray, List.getElem?_cons_succ, List.getElem?_cons_zero]; rfl)
                           · rfl
                           · rfl
                           · rfl
                           · rfl
                           · rfl
                           · exact (k142.swap).get 0 rfl
                           · rw [t46s, tal_size]
                           · (rw [tal_size]; rfl)
                           · exact tal_one _ _
                           · (have k143 := Kn.put (w' := w142.setRow p10 (tal T lac)) (k142.swap) (by omega) (by simp only [List.mem_cons, List.not_mem_nil, or_false]; rintro y (rfl | rfl | rfl | rfl) <;> (show _ ≠ _; omega)) (ch_setRow _ _ _) (setRow_heap _ _ _ _ _ _ ((k142.swap).get 0 rfl))
                              refine ⟨(Kn.sub k143 fun x hx => List.mem_cons_of_mem _ (List.mem_cons_of_mem _ (hx))), ?_⟩
                              simp only [Act.put, List.setIfInBounds_toArray, List.set_cons_zero, List.set_cons_succ]
                              generalize w142.setRow p10 (tal T lac) = w143 at *
                              refine my_done (by kernel_rfl) ?_ _
                              go_wp2_with fail; go_meet; exact ⟨p9, p10, rfl, rfl, k143⟩)
                           skip)
                          exact my_nil)
                       skip)
                      exact my_nil)
                   skip)
                  exact my_nil)
               skip)
              exact my_nil)
           skip)
          exact my_nil)
       skip)
      (apply my_alloc talZ
       · (simp only [List.getElem?_toArray, List.getElem?_cons_succ, List.getElem?_cons_zero]; rfl)
       · rfl
       · rfl
       · exact hi1
       · exact hz1
       · rfl
       · (have k144 := KK.alloc (.cells talZ 46)
          have lp10_0 := KK.lt 0 rfl
          have lp10_1 := KK.lt 1 rfl
          have lp10_2 := KK.lt 2 rfl
          have bp10 := KK.base
          refine ⟨(Kn.sub k144 fun x hx => List.mem_cons_of_mem _ (hx)), ?_⟩
          simp only [Act.put, List.setIfInBounds_toArray, List.set_cons_zero, List.set_cons_succ]
          skip
          generalize w7.alloc (.cells talZ 46) = w144 at *
          generalize w7.heap.size = p10 at *
          refine my_any (rs := [2, 6]) (by kernel_rfl) (by simp) ?_
          (apply my_call
           · (simp only [List.getElem?_toArray, List.getElem?_cons_succ, List.getElem?_cons_zero]; rfl)
           · rfl
           · (intro _; go_simp; first | exact ⟨rfl, rfl⟩ | exact rfl)
           · (refine (Ht2.out T _ (.mk (((Kn.sub k144 fun x hx => List.mem_cons_of_mem _ (hx))).get 2 rfl))).mono ?_
              rintro e w145 ⟨rfl, hb45⟩
              have k145 := k144.call hb45
              refine ⟨_, rfl, (Kn.sub k145 fun x hx => List.mem_cons_of_mem _ (hx)), ?_⟩
              simp only [Act.put, List.setIfInBounds_toArray, List.set_cons_zero, List.set_cons_succ]
              refine my_any (rs := [5, 6]) (by kernel_rfl) (by simp) ?_
              (apply my_call
               · (simp only [List.getElem?_toArray, List.getElem?_cons_succ, List.getElem?_cons_zero]; rfl)
               · rfl
               · (intro _; go_simp; first | exact ⟨rfl, rfl⟩ | exact rfl)
               · (refine (Ht3.out T _ (.mk (((Kn.sub k145 fun x hx => List.mem_cons_of_mem _ (hx))).get 2 rfl))).mono ?_
                  rintro e w146 ⟨rfl, hb46⟩
                  have k146 := k145.call hb46
                  refine ⟨_, rfl, (Kn.sub k146 fun x hx => List.mem_cons_of_mem _ (hx)), ?_⟩
                  simp only [Act.put, List.setIfInBounds_toArray, List.set_cons_zero, List.set_cons_succ]
                  refine my_any (rs := [6]) (by kernel_rfl) (by simp) ?_
                  (apply my_alloc talZ
                   · (simp only [List.getElem?_toArray, List.getElem?_cons_succ, List.getElem?_cons_zero]; rfl)
                   · rfl
                   · rfl
                   · exact hi1
                   · exact hz1
                   · rfl
                   · (have k147 := k146.alloc (.cells talZ 46)
                      have lp9_0 := k146.lt 0 rfl
                      have lp9_1 := k146.lt 1 rfl
                      have lp9_2 := k146.lt 2 rfl
                      have lp9_3 := k146.lt 3 rfl
                      have bp9 := k146.base
                      refine ⟨(Kn.sub k147 fun x hx => List.mem_cons_of_mem _ (List.mem_cons_of_mem _ (hx))), ?_⟩
                      simp only [Act.put, List.setIfInBounds_toArray, List.set_cons_zero, List.set_cons_succ]
                      clear k146
                      generalize w146.alloc (.cells talZ 46) = w147 at *
                      generalize w146.heap.size = p9 at *
                      refine my_any (rs := [8]) (by kernel_rfl) (by simp) ?_
                      (apply my_store_row
                       · (simp only [List.getElem?_toArray, List.getElem?_cons_succ, List.getElem?_cons_zero]; rfl)
                       · rfl
                       · rfl
                       · rfl
                       · rfl
                       · rfl
                       · exact (k147).get 0 rfl
                       · rw [t46s, tal_size]
                       · (rw [tal_size]; rfl)
                       · exact tal_one _ _
                       · (have k148 := Kn.put (w' := w147.setRow p9 (tal T lab)) (k147) (by omega) (by simp only [List.mem_cons, List.not_mem_nil, or_false]; rintro y (rfl | rfl | rfl | rfl) <;> (show _ ≠ _; omega)) (ch_setRow _ _ _) (setRow_heap _ _ _ _ _ _ ((k147).get 0 rfl))
                          refine ⟨(Kn.sub k148 fun x hx => List.mem_cons_of_mem _ (List.mem_cons_of_mem _ (hx))), ?_⟩
                          simp only [Act.put, List.setIfInBounds_toArray, List.set_cons_zero, List.set_cons_succ]
                          generalize w147.setRow p9 (tal T lab) = w148 at *
                          refine my_any (rs := [9]) (by kernel_rfl) (by simp) ?_
                          (apply my_store_row
                           · (simp only [List.getElem?_toArray, List.getElem?_cons_succ, List.getElem?_cons_zero]; rfl)
                           · rfl
                           · rfl
                           · rfl
                           · rfl
                           · rfl
                           · exact (k148.swap).get 0 rfl
                           · rw [t46s, tal_size]
                           · (rw [tal_size]; rfl)
                           · exact tal_one _ _
                           · (have k149 := Kn.put (w' := w148.setRow p10 (tal T lac)) (k148.swap) (by omega) (by simp only [List.mem_cons, List.not_mem_nil, or_false]; rintro y (rfl | rfl | rfl | rfl) <;> (show _ ≠ _; omega)) (ch_setRow _ _ _) (setRow_heap _ _ _ _ _ _ ((k148.swap).get 0 rfl))
                              refine ⟨(Kn.sub k149 fun x hx => List.mem_cons_of_mem _ (List.mem_cons_of_mem _ (hx))), ?_⟩
                              simp only [Act.put, List.setIfInBounds_toArray, List.set_cons_zero, List.set_cons_succ]
                              generalize w148.setRow p10 (tal T lac) = w149 at *
                              refine my_done (by kernel_rfl) ?_ _
                              go_wp2_with fail; go_meet; exact ⟨p9, p10, rfl, rfl, k149⟩)
                           skip)
                          exact my_nil)
                       skip)
                      exact my_nil)
                   skip)
                  exact my_nil)
               skip)
              (apply my_alloc talZ
               · (simp only [List.getElem?_toArray, List.getElem?_cons_succ, List.getElem?_cons_zero]; rfl)
               · rfl
               · rfl
               · exact hi1
               · exact hz1
               · rfl
               · (have k150 := k145.alloc (.cells talZ 46)
                  have lp9_0 := k145.lt 0 rfl
                  have lp9_1 := k145.lt 1 rfl
                  have lp9_2 := k145.lt 2 rfl
                  have lp9_3 := k145.lt 3 rfl
                  have bp9 := k145.base
                  refine ⟨(Kn.sub k150 fun x hx => List.mem_cons_of_mem _ (List.mem_cons_of_mem _ (hx))), ?_⟩
                  simp only [Act.put, List.setIfInBounds_toArray, List.set_cons_zero, List.set_cons_succ]
                  clear k145
                  generalize w145.alloc (.cells talZ 46) = w150 at *
                  generalize w145.heap.size = p9 at *
                  refine my_any (rs := [5]) (by kernel_rfl) (by simp) ?_
                  (apply my_call
                   · (simp only [List.getElem?_toArray, List.getElem?_cons_succ, List.getElem?_cons_zero]; rfl)
                   · rfl
                   · (intro _; go_simp; first | exact ⟨rfl, rfl⟩ | exact rfl)
                   · (refine (Ht3.out T _ (.mk (((Kn.sub k150 fun x hx => List.mem_cons_of_mem _ (List.mem_cons_of_mem _ (hx)))).get 2 rfl))).mono ?_
                      rintro e w151 ⟨rfl, hb51⟩
                      have k151 := k150.call hb51
                      refine ⟨_, rfl, (Kn.sub k151 fun x hx => List.mem_cons_of_mem _ (List.mem_cons_of_mem _ (hx))), ?_⟩
                      simp only [Act.put, List.setIfInBounds_toArray, List.set_cons_zero, List.set_cons_succ]
                      refine my_any (rs := [8]) (by kernel_rfl) (by simp) ?_
                      (apply my_store_row
                       · (simp only [List.getElem?_toArray, List.getElem?_cons_succ, List.getElem?_cons_zero]; rfl)
                       · rfl
                       · rfl
                       · rfl
                       · rfl
                       · rfl
                       · exact (k151).get 0 rfl
                       · rw [t46s, tal_size]
                       · (rw [tal_size]; rfl)
                       · exact tal_one _ _
                       · (have k152 := Kn.put (w' := w151.setRow p9 (tal T lab)) (k151) (by omega) (by simp only [List.mem_cons, List.not_mem_nil, or_false]; rintro y (rfl | rfl | rfl | rfl) <;> (show _ ≠ _; omega)) (ch_setRow _ _ _) (setRow_heap _ _ _ _ _ _ ((k151).get 0 rfl))
                          refine ⟨(Kn.sub k152 fun x hx => List.mem_cons_of_mem _ (List.mem_cons_of_mem _ (hx))), ?_⟩
                          simp only [Act.put, List.setIfInBounds_toArray, List.set_cons_zero, List.set_cons_succ]
                          generalize w151.setRow p9 (tal T lab) = w152 at *
                          refine my_any (rs := [9]) (by kernel_rfl) (by simp) ?_
                          (apply my_store_row
                           · (simp only [List.getElem?_toArray, List.getElem?_cons_succ, List.getElem?_cons_zero]; rfl)
                           · rfl
                           · rfl
                           · rfl
                           · rfl
                           · rfl
                           · exact (k152.swap).get 0 rfl
                           · rw [t46s, tal_size]
                           · (rw [tal_size]; rfl)
                           · exact tal_one _ _
                           · (have k153 := Kn.put (w' := w152.setRow p10 (tal T lac)) (k152.swap) (by omega) (by simp only [List.mem_cons, List.not_mem_nil, or_false]; rintro y (rfl | rfl | rfl | rfl) <;> (show _ ≠ _; omega)) (ch_setRow _ _ _) (setRow_heap _ _ _ _ _ _ ((k152.swap).get 0 rfl))
                              refine ⟨(Kn.sub k153 fun x hx => List.mem_cons_of_mem _ (List.mem_cons_of_mem _ (hx))), ?_⟩
                              simp only [Act.put, List.setIfInBounds_toArray, List.set_cons_zero, List.set_cons_succ]
                              generalize w152.setRow p10 (tal T lac) = w153 at *
                              refine my_done (by kernel_rfl) ?_ _
                              go_wp2_with fail; go_meet; exact ⟨p9, p10, rfl, rfl, k153⟩)
                           skip)
                          exact my_nil)
                       skip)
                      exact my_nil)
                   skip)
                  exact my_nil)
               skip)
              exact my_nil)
           skip)
          (apply my_alloc talZ
           · (simp only [List.getElem?_toArray, List.getElem?_cons_succ, List.getElem?_cons_zero]; rfl)
           · rfl
           · rfl
           · exact hi1
           · exact hz1
           · rfl
           · (have k154 := k144.alloc (.cells talZ 46)
              have lp9_0 := k144.lt 0 rfl
              have lp9_1 := k144.lt 1 rfl
              have lp9_2 := k144.lt 2 rfl
              have lp9_3 := k144.lt 3 rfl
              have bp9 := k144.base
              refine ⟨(Kn.sub k154 fun x hx => List.mem_cons_of_mem _ (List.mem_cons_of_mem _ (hx))), ?_⟩
              simp only [Act.put, List.setIfInBounds_toArray, List.set_cons_zero, List.set_cons_succ]
              clear k144
              generalize w144.alloc (.cells talZ 46) = w154 at *
              generalize w144.heap.size = p9 at *
              refine my_any (rs := [2]) (by kernel_rfl) (by simp) ?_
              (apply my_call
               · (simp only [List.getElem?_toArray, List.getElem?_cons_succ, List.getElem?_cons_zero]; rfl)
               · rfl
               · (intro _; go_simp; first | exact ⟨rfl, rfl⟩ | exact rfl)
               · (refine (Ht2.out T _ (.mk (((Kn.sub k154 fun x hx => List.mem_cons_of_mem _ (List.mem_cons_of_mem _ (hx)))).get 2 rfl))).mono ?_
                  rintro e w155 ⟨rfl, hb55⟩
                  have k155 := k154.call hb55
                  refine ⟨_, rfl, (Kn.sub k155 fun x hx => List.mem_cons_of_mem _ (List.mem_cons_of_mem _ (hx))), ?_⟩
                  simp only [Act.put, List.setIfInBounds_toArray, List.set_cons_zero, List.set_cons_succ]
                  refine my_any (rs := [5]) (by kernel_rfl) (by simp) ?_
                  (apply my_call
                   · (simp only [List.getElem?_toArray, List.getElem?_cons_succ, List.getElem?_cons_zero]; rfl)
                   · rfl
                   · (intro _; go_simp; first | exact ⟨rfl, rfl⟩ | exact rfl)
                   · (refine (Ht3.out T _ (.mk (((Kn.sub k155 fun x hx => List.mem_cons_of_mem _ (List.mem_cons_of_mem _ (hx)))).get 2 rfl))).mono ?_
                      rintro e w156 ⟨rfl, hb56⟩
                      have k156 := k155.call hb56
                      refine ⟨_, rfl, (Kn.sub k156 fun x hx => List.mem_cons_of_mem _ (List.mem_cons_of_mem _ (hx))), ?_⟩
                      simp only [Act.put, List.setIfInBounds_toArray, List.set_cons_zero, List.set_cons_succ]
                      refine my_any (rs := [8]) (by kernel_rfl) (by simp) ?_
                      (apply my_store_row
                       · (simp only [List.getElem?_toArray, List.getElem?_cons_succ, List.getElem?_cons_zero]; rfl)
                       · rfl
                       · rfl
                       · rfl
                       · rfl
                       · rfl
                       · exact (k156).get 0 rfl
                       · rw [t46s, tal_size]
                       · (rw [tal_size]; rfl)
                       · exact tal_one _ _
                       · (have k157 := Kn.put (w' := w156.setRow p9 (tal T lab)) (k156) (by omega) (by simp only [List.mem_cons, List.not_mem_nil, or_false]; rintro y (rfl | rfl | rfl | rfl) <;> (show _ ≠ _; omega)) (ch_setRow _ _ _) (setRow_heap _ _ _ _ _ _ ((k156).get 0 rfl))
                          refine ⟨(Kn.sub k157 fun x hx => List.mem_cons_of_mem _ (List.mem_cons_of_mem _ (hx))), ?_⟩
                          simp only [Act.put, List.setIfInBounds_toArray, List.set_cons_zero, List.set_cons_succ]
                          generalize w156.setRow p9 (tal T lab) = w157 at *
                          refine my_any (rs := [9]) (by kernel_rfl) (by simp) ?_
                          (apply my_store_row
                           · (simp only [List.getElem?_toArray, List.getElem?_cons_succ, List.getElem?_cons_zero]; rfl)
                           · rfl
                           · rfl
                           · rfl
                           · rfl
                           · rfl
                           · exact (k157.swap).get 0 rfl
                           · rw [t46s, tal_size]
                           · (rw [tal_size]; rfl)
                           · exact tal_one _ _
                           · (have k158 := Kn.put (w' := w157.setRow p10 (tal T lac)) (k157.swap) (by omega) (by simp only [List.mem_cons, List.not_mem_nil, or_false]; rintro y (rfl | rfl | rfl | rfl) <;> (show _ ≠ _; omega)) (ch_setRow _ _ _) (setRow_heap _ _ _ _ _ _ ((k157.swap).get 0 rfl))
                              refine ⟨(Kn.sub k158 fun x hx => List.mem_cons_of_mem _ (List.mem_cons_of_mem _ (hx))), ?_⟩
                              simp only [Act.put, List.setIfInBounds_toArray, List.set_cons_zero, List.set_cons_succ]
                              generalize w157.setRow p10 (tal T lac) = w158 at *
                              refine my_done (by kernel_rfl) ?_ _
                              go_wp2_with fail; go_meet; exact ⟨p9, p10, rfl, rfl, k158⟩)
                           skip)
                          exact my_nil)
                       skip)
                      exact my_nil)
                   skip)
                  exact my_nil)
               skip)
              exact my_nil)
           skip)
          exact my_nil)
       skip)
      exact my_nil
    case rest =>
      obtain ⟨p9, p10, rfl, rfl, HK⟩ := hcut
      go_wp2_with (refine wpList_load_row rfl 46 _ rfl p9 rfl _ _ _ _ (HK.out.get 1 rfl) Try.underlying46 rfl (by rw [t46s, tal_size]) ?_)
      refine (Ht4.out T _ (.mk (HK.out.get 4 rfl))).mono ?_
      rintro e w20 ⟨rfl, hb20⟩
      have k20 := HK.out.call hb20
      clear HK hb20
      go_wp2_with (first | refine kl_alloc rfl 46 rfl talZ i1 hi1 _ hz1 rfl ?_ | refine kl_store_new rfl 46 _ _ rfl (tal T labc) rfl rfl _ _ (by rw [t46s, tal_size]) (by rw [tal_size]; rfl) (tal_one _ _) ?_)
      have k21 := k20.alloc (.cells (tal T labc) 46)
      generalize w20.alloc (.cells (tal T labc) 46) = w21 at *
      generalize w20.heap.size = p11 at *
      have K := Lib.hid k21
      clear k20 k21
      have qa := eql_d_run Da Da true (deq_self _)
      have qb := eql_d_run Db Db true (deq_self _)
      have qc := eql_d_run Dc Dc true (deq_self _)
      have qd := eql_d_run Dd Dd true (deq_self _)
      have hgd := eqGuard_d
      refine wp_region_abs w.heap.size w [(p11, .cells (tal T labc) 46), (p10, .cells (tal T lac) 46), (p9, .cells (tal T lab) 46), (p8, .cells (dArr Da) 50), (p7, .cells (tal T la) 46), (T, .cells (tabArr 64) 95)] ((true, 0) :: (true, 1) :: (true, 2) :: (true, 3) :: (true, 4) :: (true, 5) :: (true, 6) :: (false, 7) :: (true, 8) :: (true, 9) :: (true, 10) :: (true, 11) :: (true, 12) :: (true, 13) :: (true, 14) :: (true, 15) :: (true, 16) :: (false, 17) :: (true, 18) :: (true, 19) :: (true, 20) :: (true, 21) :: (true, 22) :: (true, 23) :: (true, 24) :: (true, 25) :: (true, 26) :: (false, 27) :: (true, 28) :: (true, 29) :: (true, 30) :: (true, 31) :: (true, 32) :: (true, 33) :: (true, 34) :: (true, 35) :: (true, 36) :: (false, 37) :: (true, 38) :: (true, 39) :: (true, 40) :: (true, 41) :: (true, 42) :: (true, 43) :: (true, 44) :: (true, 45) :: (true, 46) :: (true, 47) :: (true, 48) :: (true, 49) :: (true, 50) :: (true, 51) :: (true, 52) :: (true, 53) :: (true, 54) :: (true, 55) :: (true, 56) :: (true, 57) :: (true, 58) :: (true, 59) :: (true, 60) :: (false, 61) :: []) (by kernel_rfl) (by kernel_rfl) K.out.drew ?_
      clear K
      (apply ab_pure
       · (simp only [List.getElem?_toArray, List.getElem?_cons_succ, List.getElem?_cons_zero]; rfl)
       · rfl
       · (intro wS hS; exact mx_load_row 46 _ rfl _ rfl _ _ _ _ (hS.get 4 rfl) Try.underlying46 rfl (by rw [t46s, tal_size]))
       simp only [Act.put, List.setIfInBounds_toArray, List.set_cons_zero, List.set_cons_succ])
      (apply ab_call
       · (simp only [List.getElem?_toArray, List.getElem?_cons_succ, List.getElem?_cons_zero]; rfl)
       · rfl
       · (intro _; go_simp; first | exact ⟨rfl, rfl⟩ | exact rfl)
       · (intro wS hS; exact Hs1.out T _ (.mk (hS.get 5 rfl)))
       simp only [Act.put, List.setIfInBounds_toArray, List.set_cons_zero, List.set_cons_succ])
      (apply ab_pure
       · (simp only [List.getElem?_toArray, List.getElem?_cons_succ, List.getElem?_cons_zero]; rfl)
       · rfl
       · (intro wS hS; exact mx_load_row 50 _ rfl _ rfl _ _ _ _ (hS.get 3 rfl) Try.underlying50 rfl (by rw [d32s, dArr_size]))
       simp only [Act.put, List.setIfInBounds_toArray, List.set_cons_zero, List.set_cons_succ])
      (apply ab_pure (v := .bool true)
       · (simp only [List.getElem?_toArray, List.getElem?_cons_succ, List.getElem?_cons_zero]; rfl)
       · rfl
       · (intro wS hS; go_simp; done)
       simp only [Act.put, List.setIfInBounds_toArray, List.set_cons_zero, List.set_cons_succ])
      (apply ab_pure
       · (simp only [List.getElem?_toArray, List.getElem?_cons_succ, List.getElem?_cons_zero]; rfl)
       · rfl
       · (intro wS hS; go_simp; try exact rfl)
       simp only [Act.put, List.setIfInBounds_toArray, List.set_cons_zero, List.set_cons_succ])
      (apply ab_pure
       · (simp only [List.getElem?_toArray, List.getElem?_cons_succ, List.getElem?_cons_zero]; rfl)
       · rfl
       · (intro wS hS; exact mx_load_row 50 _ rfl _ rfl _ _ _ _ (hS.get 3 rfl) Try.underlying50 rfl (by rw [d32s, dArr_size]))
       simp only [Act.put, List.setIfInBounds_toArray, List.set_cons_zero, List.set_cons_succ])
      (apply ab_pure
       · (simp only [List.getElem?_toArray, List.getElem?_cons_succ, List.getElem?_cons_zero]; rfl)
       · rfl
       · (intro wS hS; go_simp; try exact rfl)
       simp only [Act.put, List.setIfInBounds_toArray, List.set_cons_zero, List.set_cons_succ])
      (apply ab_loud
       · (simp only [List.getElem?_toArray, List.getElem?_cons_succ, List.getElem?_cons_zero]; rfl)
       · rfl
       intro wS hS
       go_wp2_with fail)
      refine ab_on _ (fun x hx => List.mem_cons_of_mem _ hx) (hS.alloc _) ?_
      clear hS
      generalize wS.heap.size = pb1 at *
      clear wS
      (apply ab_call
       · (simp only [List.getElem?_toArray, List.getElem?_cons_succ, List.getElem?_cons_zero]; rfl)
       · rfl
       · (intro _; go_simp; first | exact ⟨rfl, rfl⟩ | exact rfl)
       · (intro wS hS; exact Ho1.out _ _ (hS.get 0 rfl))
       simp only [Act.put, List.setIfInBounds_toArray, List.set_cons_zero, List.set_cons_succ])
      (apply ab_pure (v := .bool true)
       · (simp only [List.getElem?_toArray, List.getElem?_cons_succ, List.getElem?_cons_zero]; rfl)
       · rfl
       · (intro wS hS; go_simp; done)
       simp only [Act.put, List.setIfInBounds_toArray, List.set_cons_zero, List.set_cons_succ])
      (apply ab_pure
       · (simp only [List.getElem?_toArray, List.getElem?_cons_succ, List.getElem?_cons_zero]; rfl)
       · rfl
       · (intro wS hS; go_simp; try exact rfl)
       simp only [Act.put, List.setIfInBounds_toArray, List.set_cons_zero, List.set_cons_succ])
      (apply ab_pure
       · (simp only [List.getElem?_toArray, List.getElem?_cons_succ, List.getElem?_cons_zero]; rfl)
       · rfl
       · (intro wS hS; go_simp; try exact rfl)
       simp only [Act.put, List.setIfInBounds_toArray, List.set_cons_zero, List.set_cons_succ])
      (apply ab_pure
       · (simp only [List.getElem?_toArray, List.getElem?_cons_succ, List.getElem?_cons_zero]; rfl)
       · rfl
       · (intro wS hS; exact mx_load_row 46 _ rfl _ rfl _ _ _ _ (hS.get 3 rfl) Try.underlying46 rfl (by rw [t46s, tal_size]))
       simp only [Act.put, List.setIfInBounds_toArray, List.set_cons_zero, List.set_cons_succ])
      (apply ab_call
       · (simp only [List.getElem?_toArray, List.getElem?_cons_succ, List.getElem?_cons_zero]; rfl)
       · rfl
       · (intro _; go_simp; first | exact ⟨rfl, rfl⟩ | exact rfl)
       · (intro wS hS; exact Hs2.out T _ (.mk (hS.get 6 rfl)))
       simp only [Act.put, List.setIfInBounds_toArray, List.set_cons_zero, List.set_cons_succ])
      (apply ab_pure
       · (simp only [List.getElem?_toArray, List.getElem?_cons_succ, List.getElem?_cons_zero]; rfl)
       · rfl
       · (intro wS hS; go_simp; try exact rfl)
       simp only [Act.put, List.setIfInBounds_toArray, List.set_cons_zero, List.set_cons_succ])
      (apply ab_pure
       · (simp only [List.getElem?_toArray, List.getElem?_cons_succ, List.getElem?_cons_zero]; rfl)
       · rfl
       · (intro wS hS; go_simp; try exact rfl)
       simp only [Act.put, List.setIfInBounds_toArray, List.set_cons_zero, List.set_cons_succ])
      (apply ab_pure
       · (simp only [List.getElem?_toArray, List.getElem?_cons_succ, List.getElem?_cons_zero]; rfl)
       · rfl
       · (intro wS hS; go_simp; try exact rfl)
       simp only [Act.put, List.setIfInBounds_toArray, List.set_cons_zero, List.set_cons_succ])
      (apply ab_loud
       · (simp only [List.getElem?_toArray, List.getElem?_cons_succ, List.getElem?_cons_zero]; rfl)
       · rfl
       intro wS hS
       go_wp2_with fail)
      refine ab_on _ (fun x hx => List.mem_cons_of_mem _ hx) (hS.alloc _) ?_
      clear hS
      generalize wS.heap.size = pb2 at *
      clear wS
      (apply ab_call
       · (simp only [List.getElem?_toArray, List.getElem?_cons_succ, List.getElem?_cons_zero]; rfl)
       · rfl
       · (intro _; go_simp; first | exact ⟨rfl, rfl⟩ | exact rfl)
       · (intro wS hS; exact Ho2.out _ _ (hS.get 0 rfl))
       simp only [Act.put, List.setIfInBounds_toArray, List.set_cons_zero, List.set_cons_succ])
      (apply ab_pure (v := .bool true)
       · (simp only [List.getElem?_toArray, List.getElem?_cons_succ, List.getElem?_cons_zero]; rfl)
       · rfl
       · (intro wS hS; go_simp; done)
       simp only [Act.put, List.setIfInBounds_toArray, List.set_cons_zero, List.set_cons_succ])
      (apply ab_pure
       · (simp only [List.getElem?_toArray, List.getElem?_cons_succ, List.getElem?_cons_zero]; rfl)
       · rfl
       · (intro wS hS; go_simp; try exact rfl)
       simp only [Act.put, List.setIfInBounds_toArray, List.set_cons_zero, List.set_cons_succ])
      (apply ab_pure
       · (simp only [List.getElem?_toArray, List.getElem?_cons_succ, List.getElem?_cons_zero]; rfl)
       · rfl
       · (intro wS hS; go_simp; try exact rfl)
       simp only [Act.put, List.setIfInBounds_toArray, List.set_cons_zero, List.set_cons_succ])
      (apply ab_pure
       · (simp only [List.getElem?_toArray, List.getElem?_cons_succ, List.getElem?_cons_zero]; rfl)
       · rfl
       · (intro wS hS; exact mx_load_row 46 _ rfl _ rfl _ _ _ _ (hS.get 3 rfl) Try.underlying46 rfl (by rw [t46s, tal_size]))
       simp only [Act.put, List.setIfInBounds_toArray, List.set_cons_zero, List.set_cons_succ])
      (apply ab_call
       · (simp only [List.getElem?_toArray, List.getElem?_cons_succ, List.getElem?_cons_zero]; rfl)
       · rfl
       · (intro _; go_simp; first | exact ⟨rfl, rfl⟩ | exact rfl)
       · (intro wS hS; exact Hs3.out T _ (.mk (hS.get 7 rfl)))
       simp only [Act.put, List.setIfInBounds_toArray, List.set_cons_zero, List.set_cons_succ])
      (apply ab_pure
       · (simp only [List.getElem?_toArray, List.getElem?_cons_succ, List.getElem?_cons_zero]; rfl)
       · rfl
       · (intro wS hS; go_simp; try exact rfl)
       simp only [Act.put, List.setIfInBounds_toArray, List.set_cons_zero, List.set_cons_succ])
      (apply ab_pure
       · (simp only [List.getElem?_toArray, List.getElem?_cons_succ, List.getElem?_cons_zero]; rfl)
       · rfl
       · (intro wS hS; go_simp; try exact rfl)
       simp only [Act.put, List.setIfInBounds_toArray, List.set_cons_zero, List.set_cons_succ])
      (apply ab_pure
       · (simp only [List.getElem?_toArray, List.getElem?_cons_succ, List.getElem?_cons_zero]; rfl)
       · rfl
       · (intro wS hS; go_simp; try exact rfl)
       simp only [Act.put, List.setIfInBounds_toArray, List.set_cons_zero, List.set_cons_succ])
      (apply ab_loud
       · (simp only [List.getElem?_toArray, List.getElem?_cons_succ, List.getElem?_cons_zero]; rfl)
       · rfl
       intro wS hS
       go_wp2_with fail)
      refine ab_on _ (fun x hx => List.mem_cons_of_mem _ hx) (hS.alloc _) ?_
      clear hS
      generalize wS.heap.size = pb3 at *
      clear wS
      (apply ab_call
       · (simp only [List.getElem?_toArray, List.getElem?_cons_succ, List.getElem?_cons_zero]; rfl)
       · rfl
       · (intro _; go_simp; first | exact ⟨rfl, rfl⟩ | exact rfl)
       · (intro wS hS; exact Ho3.out _ _ (hS.get 0 rfl))
       simp only [Act.put, List.setIfInBounds_toArray, List.set_cons_zero, List.set_cons_succ])
      (apply ab_pure (v := .bool true)
       · (simp only [List.getElem?_toArray, List.getElem?_cons_succ, List.getElem?_cons_zero]; rfl)
       · rfl
       · (intro wS hS; go_simp; done)
       simp only [Act.put, List.setIfInBounds_toArray, List.set_cons_zero, List.set_cons_succ])
      (apply ab_pure
       · (simp only [List.getElem?_toArray, List.getElem?_cons_succ, List.getElem?_cons_zero]; rfl)
       · rfl
       · (intro wS hS; go_simp; try exact rfl)
       simp only [Act.put, List.setIfInBounds_toArray, List.set_cons_zero, List.set_cons_succ])
      (apply ab_pure
       · (simp only [List.getElem?_toArray, List.getElem?_cons_succ, List.getElem?_cons_zero]; rfl)
       · rfl
       · (intro wS hS; go_simp; try exact rfl)
       simp only [Act.put, List.setIfInBounds_toArray, List.set_cons_zero, List.set_cons_succ])
      (apply ab_pure
       · (simp only [List.getElem?_toArray, List.getElem?_cons_succ, List.getElem?_cons_zero]; rfl)
       · rfl
       · (intro wS hS; exact mx_load_row 46 _ rfl _ rfl _ _ _ _ (hS.get 3 rfl) Try.underlying46 rfl (by rw [t46s, tal_size]))
       simp only [Act.put, List.setIfInBounds_toArray, List.set_cons_zero, List.set_cons_succ])
      (apply ab_call
       · (simp only [List.getElem?_toArray, List.getElem?_cons_succ, List.getElem?_cons_zero]; rfl)
       · rfl
       · (intro _; go_simp; first | exact ⟨rfl, rfl⟩ | exact rfl)
       · (intro wS hS; exact Hs4.out T _ (.mk (hS.get 8 rfl)))
       simp only [Act.put, List.setIfInBounds_toArray, List.set_cons_zero, List.set_cons_succ])
      (apply ab_pure
       · (simp only [List.getElem?_toArray, List.getElem?_cons_succ, List.getElem?_cons_zero]; rfl)
       · rfl
       · (intro wS hS; go_simp; try exact rfl)
       simp only [Act.put, List.setIfInBounds_toArray, List.set_cons_zero, List.set_cons_succ])
      (apply ab_pure
       · (simp only [List.getElem?_toArray, List.getElem?_cons_succ, List.getElem?_cons_zero]; rfl)
       · rfl
       · (intro wS hS; go_simp; try exact rfl)
       simp only [Act.put, List.setIfInBounds_toArray, List.set_cons_zero, List.set_cons_succ])
      (apply ab_pure
       · (simp only [List.getElem?_toArray, List.getElem?_cons_succ, List.getElem?_cons_zero]; rfl)
       · rfl
       · (intro wS hS; go_simp; try exact rfl)
       simp only [Act.put, List.setIfInBounds_toArray, List.set_cons_zero, List.set_cons_succ])
      (apply ab_loud
       · (simp only [List.getElem?_toArray, List.getElem?_cons_succ, List.getElem?_cons_zero]; rfl)
       · rfl
       intro wS hS
       go_wp2_with fail)
      refine ab_on _ (fun x hx => List.mem_cons_of_mem _ hx) (hS.alloc _) ?_
      clear hS
      generalize wS.heap.size = pb4 at *
      clear wS
      (apply ab_call
       · (simp only [List.getElem?_toArray, List.getElem?_cons_succ, List.getElem?_cons_zero]; rfl)
       · rfl
       · (intro _; go_simp; first | exact ⟨rfl, rfl⟩ | exact rfl)
       · (intro wS hS; exact Ho4.out _ _ (hS.get 0 rfl))
       simp only [Act.put, List.setIfInBounds_toArray, List.set_cons_zero, List.set_cons_succ])
      (apply ab_pure (v := .bool true)
       · (simp only [List.getElem?_toArray, List.getElem?_cons_succ, List.getElem?_cons_zero]; rfl)
       · rfl
       · (intro wS hS; go_simp; done)
       simp only [Act.put, List.setIfInBounds_toArray, List.set_cons_zero, List.set_cons_succ])
      (apply ab_pure
       · (simp only [List.getElem?_toArray, List.getElem?_cons_succ, List.getElem?_cons_zero]; rfl)
       · rfl
       · (intro wS hS; go_simp; try exact rfl)
       simp only [Act.put, List.setIfInBounds_toArray, List.set_cons_zero, List.set_cons_succ])
      (apply ab_pure
       · (simp only [List.getElem?_toArray, List.getElem?_cons_succ, List.getElem?_cons_zero]; rfl)
       · rfl
       · (intro wS hS; go_simp; try exact rfl)
       simp only [Act.put, List.setIfInBounds_toArray, List.set_cons_zero, List.set_cons_succ])
      (apply ab_pure
       · (simp only [List.getElem?_toArray, List.getElem?_cons_succ, List.getElem?_cons_zero]; rfl)
       · rfl
       · (intro wS hS; exact mx_load_row 46 _ rfl _ rfl _ _ _ _ (hS.get 8 rfl) Try.underlying46 rfl (by rw [t46s, tal_size]))
       simp only [Act.put, List.setIfInBounds_toArray, List.set_cons_zero, List.set_cons_succ])
      (apply ab_call
       · (simp only [List.getElem?_toArray, List.getElem?_cons_succ, List.getElem?_cons_zero]; rfl)
       · rfl
       · (intro _; go_simp; first | exact ⟨rfl, rfl⟩ | exact rfl)
       · (intro wS hS; exact Hn1.out T _)
       simp only [Act.put, List.setIfInBounds_toArray, List.set_cons_zero, List.set_cons_succ])
      (apply ab_pure
       · (simp only [List.getElem?_toArray, List.getElem?_cons_succ, List.getElem?_cons_zero]; rfl)
       · rfl
       · (intro wS hS; go_simp; try exact rfl)
       simp only [Act.put, List.setIfInBounds_toArray, List.set_cons_zero, List.set_cons_succ])
      (apply ab_pure
       · (simp only [List.getElem?_toArray, List.getElem?_cons_succ, List.getElem?_cons_zero]; rfl)
       · rfl
       · (intro wS hS; go_simp; try exact rfl)
       simp only [Act.put, List.setIfInBounds_toArray, List.set_cons_zero, List.set_cons_succ])
      (apply ab_pure (v := .bool true)
       · (simp only [List.getElem?_toArray, List.getElem?_cons_succ, List.getElem?_cons_zero]; rfl)
       · rfl
       · (intro wS hS; go_simp; done)
       simp only [Act.put, List.setIfInBounds_toArray, List.set_cons_zero, List.set_cons_succ])
      (apply ab_pure
       · (simp only [List.getElem?_toArray, List.getElem?_cons_succ, List.getElem?_cons_zero]; rfl)
       · rfl
       · (intro wS hS; go_simp; try exact rfl)
       simp only [Act.put, List.setIfInBounds_toArray, List.set_cons_zero, List.set_cons_succ])
      (apply ab_pure
       · (simp only [List.getElem?_toArray, List.getElem?_cons_succ, List.getElem?_cons_zero]; rfl)
       · rfl
       · (intro wS hS; go_simp; try exact rfl)
       simp only [Act.put, List.setIfInBounds_toArray, List.set_cons_zero, List.set_cons_succ])
      (apply ab_pure
       · (simp only [List.getElem?_toArray, List.getElem?_cons_succ, List.getElem?_cons_zero]; rfl)
       · rfl
       · (intro wS hS; exact mx_load_row 46 _ rfl _ rfl _ _ _ _ (hS.get 4 rfl) Try.underlying46 rfl (by rw [t46s, tal_size]))
       simp only [Act.put, List.setIfInBounds_toArray, List.set_cons_zero, List.set_cons_succ])
      (apply ab_call
       · (simp only [List.getElem?_toArray, List.getElem?_cons_succ, List.getElem?_cons_zero]; rfl)
       · rfl
       · (intro _; go_simp; first | exact ⟨rfl, rfl⟩ | exact rfl)
       · (intro wS hS; exact Hn4.out T _)
       simp only [Act.put, List.setIfInBounds_toArray, List.set_cons_zero, List.set_cons_succ])
      (apply ab_pure
       · (simp only [List.getElem?_toArray, List.getElem?_cons_succ, List.getElem?_cons_zero]; rfl)
       · rfl
       · (intro wS hS; go_simp; try exact rfl)
       simp only [Act.put, List.setIfInBounds_toArray, List.set_cons_zero, List.set_cons_succ])
      (apply ab_pure
       · (simp only [List.getElem?_toArray, List.getElem?_cons_succ, List.getElem?_cons_zero]; rfl)
       · rfl
       · (intro wS hS; go_simp; try exact rfl)
       simp only [Act.put, List.setIfInBounds_toArray, List.set_cons_zero, List.set_cons_succ])
      (apply ab_pure
       · (simp only [List.getElem?_toArray, List.getElem?_cons_succ, List.getElem?_cons_zero]; rfl)
       · rfl
       · (intro wS hS; go_simp; try exact rfl)
       simp only [Act.put, List.setIfInBounds_toArray, List.set_cons_zero, List.set_cons_succ])
      (apply ab_pure
       · (simp only [List.getElem?_toArray, List.getElem?_cons_succ, List.getElem?_cons_zero]; rfl)
       · rfl
       · (intro wS hS; go_simp; try exact rfl)
       simp only [Act.put, List.setIfInBounds_toArray, List.set_cons_zero, List.set_cons_succ])
      (apply ab_pure
       · (simp only [List.getElem?_toArray, List.getElem?_cons_succ, List.getElem?_cons_zero]; rfl)
       · rfl
       · (intro wS hS; go_simp; try exact rfl)
       simp only [Act.put, List.setIfInBounds_toArray, List.set_cons_zero, List.set_cons_succ])
      (apply ab_pure
       · (simp only [List.getElem?_toArray, List.getElem?_cons_succ, List.getElem?_cons_zero]; rfl)
       · rfl
       · (intro wS hS; go_simp; try exact rfl)
       simp only [Act.put, List.setIfInBounds_toArray, List.set_cons_zero, List.set_cons_succ])
      (apply ab_pure
       · (simp only [List.getElem?_toArray, List.getElem?_cons_succ, List.getElem?_cons_zero]; rfl)
       · rfl
       · (intro wS hS; go_simp; try exact rfl)
       simp only [Act.put, List.setIfInBounds_toArray, List.set_cons_zero, List.set_cons_succ])
      (apply ab_pure
       · (simp only [List.getElem?_toArray, List.getElem?_cons_succ, List.getElem?_cons_zero]; rfl)
       · rfl
       · (intro wS hS; go_simp; try exact rfl)
       simp only [Act.put, List.setIfInBounds_toArray, List.set_cons_zero, List.set_cons_succ])
      (apply ab_pure (v := .bool true)
       · (simp only [List.getElem?_toArray, List.getElem?_cons_succ, List.getElem?_cons_zero]; rfl)
       · rfl
       · (intro wS hS; go_simp; done)
       simp only [Act.put, List.setIfInBounds_toArray, List.set_cons_zero, List.set_cons_succ])
      (apply ab_pure
       · (simp only [List.getElem?_toArray, List.getElem?_cons_succ, List.getElem?_cons_zero]; rfl)
       · rfl
       · (intro wS hS; go_simp; try exact rfl)
       simp only [Act.put, List.setIfInBounds_toArray, List.set_cons_zero, List.set_cons_succ])
      (apply ab_loud
       · (simp only [List.getElem?_toArray, List.getElem?_cons_succ, List.getElem?_cons_zero]; rfl)
       · rfl
       intro wS hS
       go_wp2_with fail)
      refine ab_on _ (fun x hx => hx) hS (ab_end ?_)
      intro wE hE
      clear hS
      go_wp2_with fail
      go_ret
      exact ⟨rfl, hE.below⟩
  · have small : ∀ (w1 : World), Below w.heap.size w w1 → True := fun _ _ => trivial
    by_cases ha : a.size ≤ 1000
    · have g1 : ¬ (1000 < a.size) := by omega
      by_cases hb : b.size ≤ 1000
      · have g2 : ¬ (1000 < b.size) := by omega
        have g3 : 1000 < c.size := by omega
        clear h
        go_enter Try.func7, Try.ntmps7
        go_wp2_with fail
        refine (awake02 _).mono ?_
        rintro e w1 ⟨rfl, hb1⟩
        go_wp2_with fail
        go_ret
        exact ⟨rfl, hb1⟩
      · have g2 : 1000 < b.size := by omega
        clear h
        go_enter Try.func7, Try.ntmps7
        go_wp2_with fail
        refine (awake02 _).mono ?_
        rintro e w1 ⟨rfl, hb1⟩
        go_wp2_with fail
        go_ret
        exact ⟨rfl, hb1⟩
    · have g1 : 1000 < a.size := by omega
      clear h
      go_enter Try.func7, Try.ntmps7
      go_wp2_with fail
      refine (awake02 _).mono ?_
      rintro e w1 ⟨rfl, hb1⟩
      go_wp2_with fail
      go_ret
      exact ⟨rfl, hb1⟩
end Go.Proofs.Ytgdjfijkbemkeaa
