/-
  Walks: the reference's Of (layer 05).
-/
import Derived.Test.YtgdjfijkbemkeaaEtF
namespace Go.Proofs.Ytgdjfijkbemkeaa
open Go.RowKit
set_option maxHeartbeats 2000000
set_option maxRecDepth 20000
set_option linter.unusedVariables false
attribute [local irreducible] dArr

theorem refOf5 (s : ByteArray) (hs : s.size ≤ 10000) (w : World) :
    Calls Try.prog 43 #[.string s] w fun e w' => e = .returned (.agg (dArr (Em.mark s.data.toList))) ∧ Below w.heap.size w w' := by
  obtain ⟨i0, hi0, hz0, hs0, hb0⟩ := d32b
  obtain ⟨l, hl⟩ : ∃ l, l = s.data.toList := ⟨_, rfl⟩
  have hsl : s = ⟨l.toArray⟩ := by rw [hl]
  have hll : l.length = s.size := by rw [hl]; rfl
  obtain ⟨D, hD⟩ : ∃ D, D = Em.mark l := ⟨_, rfl⟩
  have hcut := fun w => refCut s (by omega) w
  have hof := fun w => refOf s (by omega) w
  rw [← hl] at hcut hof ⊢
  rw [← hD]
  by_cases h16 : s.size ≤ 16
  · have hD2 : D = Sm.digest l := by rw [hD]; unfold Em.mark; rw [if_pos (by omega)]
    rw [← hD2] at hof
    have Hhof := Lib.hid hof
    have HhD2 := Lib.hid hD2
    have HhD := Lib.hid hD
    have Hhll := Lib.hid hll
    have Hhsl := Lib.hid hsl
    have Hhl := Lib.hid hl
    clear hof hD2 hD hll hsl hl
    clear hcut
    go_enter Try.func43, Try.ntmps43
    go_wp2_with (refine kl_alloc rfl 50 rfl (dArr []) i0 hi0 _ hz0 rfl ?_)
    have k2 := (Kn.start w).alloc (.cells (dArr []) 50)
    refine (Hhof.out _).mono ?_
    rintro e w3 ⟨rfl, hb3⟩
    have k3 := k2.call hb3
    have HRES := setRow_heap w3 w.heap.size _ (dArr D) _ _ (k3.get 0 rfl)
    have HBR := below_setRow (g := w.heap.size) k3.below (by omega) (dArr D)
    have K3 := Lib.hid (k3.get 0 rfl)
    have HRES' := Lib.hid HRES
    clear k2 k3 hb3 HRES
    go_wp2_with (refine wpList_store_row rfl 50 _ _ rfl w.heap.size (dArr D) rfl rfl _ _ K3.out (by rw [d32s, dArr_size]) (by rw [dArr_size, dArr_size]) (dArr_one _) ?_)
    refine bodyPost_ret (results_cell_row rfl _ _ _ _ _ _ _ rfl HRES'.out Try.underlying50 rfl (by rw [d32s, dArr_size])) rfl ⟨rfl, HBR⟩
  · have hD2 : D = Em.comp ((Em.parts l).map Sm.digest) := by rw [hD]; unfold Em.mark; rw [if_neg (by omega)]
    have hnp : (Em.parts l).length ≤ 1000 := by unfold Em.parts; rw [Em.partsTo_length]; unfold Em.np; omega
    have hpp : ∀ p ∈ Em.parts l, p.length ≤ 1000000 := by
      intro p hp
      unfold Em.parts at hp
      rw [show Em.partsTo l (Em.np l.length) = (List.range (Em.np l.length)).map (Em.part l) from by with_unfolding_all rfl] at hp
      obtain ⟨i, _, rfl⟩ := List.mem_map.1 hp
      have := Em.part_length l i
      omega
    have hco := fun v w h => refComp v ((Em.parts l).map Sm.digest) (by rw [List.length_map]; exact hnp) (by
      intro d hd; obtain ⟨p, _, rfl⟩ := List.mem_map.1 hd; exact digest_length p) w h
    rw [← hD2] at hco
    obtain ⟨ps, hps⟩ : ∃ ps, ps = Em.parts l := ⟨_, rfl⟩
    rw [← hps] at hcut hco hpp hnp
    have Hhco := Lib.hid hco
    have Hhcut := Lib.hid hcut
    have Hhpp := Lib.hid hpp
    have Hhnp := Lib.hid hnp
    have Hhps := Lib.hid hps
    have HhD2 := Lib.hid hD2
    have HhD := Lib.hid hD
    have Hhll := Lib.hid hll
    have Hhsl := Lib.hid hsl
    have Hhl := Lib.hid hl
    clear hco hcut hpp hnp hps hD2 hD hll hsl hl
    clear hof
    go_enter Try.func43, Try.ntmps43
    go_wp2_with (refine kl_alloc rfl 50 rfl (dArr []) i0 hi0 _ hz0 rfl ?_)
    have k1 := (Kn.start w).alloc (.cells (dArr []) 50)
    generalize w.alloc (.cells (dArr []) 50) = w1 at *
    refine (Hhcut.out _).mono ?_
    rintro e w2 ⟨v2, n2, rfl, hr2, hb2⟩
    have k2 := k1.call hb2
    have hn2 : n2 ≤ 1000 := by have := hr2.1; have := Hhnp.out; simp only [pv, List.length_map] at *; omega
    clear hb2 k1
    obtain ⟨A, c, rfl⟩ := hr2.slice
    have Hhr2 := Lib.hid hr2
    have Hk2 := Lib.hid k2
    clear hr2 k2
    go_wp2_with fail
    have hnl : n2 = ps.length := by rw [← Hhr2.out.1]; simp [pv]
    have hB := Hk2.out.base
    have Hhnl := Lib.hid hnl
    clear hnl
    go_loopw [3, 5] (fun ov iv wr => ∃ i : Nat, i ≤ n2 ∧ iv = .int .i64 (i : Int) ∧ Hid (wr.ownsRow w2.heap.size 50 32 ov i (dcs ((ps.take i).map Sm.digest))) ∧ Below w2.heap.size w2 wr) (fun _ iv _ => n2 - (intOf iv).toNat)
    case atStart => exact ⟨0, by omega, rfl, by show World.ownsRow _ _ _ _ _ _ _; exact World.ownsRow_nil _ _ _ _, Below.refl _ _⟩
    case round =>
      obtain ⟨i, hi, rfl, HO, hb⟩ := hrel
      by_cases hin : i < n2
      · obtain ⟨b, off, hA, hcn, hbl, hcell⟩ := Hhr2.out.at_ hin
        have hil : i < ps.length := by rw [← Hhnl.out]; exact hin
        have hx := hcell i (.string ⟨ps[i].toArray⟩) (by unfold pv; rw [List.getElem?_map, List.getElem?_eq_getElem hil]; rfl)
        have htk : dcs ((ps.take (i + 1)).map Sm.digest) = dcs ((ps.take i).map Sm.digest) ++ (dArr (Sm.digest ps[i])).toList := by
          rw [List.take_succ_eq_append_getElem hil, List.map_append, dcs_append]; simp [dcs]
        have hpl := Hhpp.out _ (List.getElem_mem hil)
        generalize ps[i] = x at *
        have hxr : wr.cell? ⟨b, off + i, none⟩ = some (.string ⟨x.toArray⟩) := by rw [Below.cell hb hbl]; exact hx
        subst hA
        clear hx hcell hil
        have hbi : (0 : Int) ≤ i := by omega
        have hbn : (i : Int) < n2 := by omega
        have hbs := hb.size
        have Hhtk := Lib.hid htk
        clear htk
        go_wp2_with fail
        have hrf := refOf ⟨x.toArray⟩ (by show x.toArray.size ≤ _; simpa using hpl) wr
        rw [show (⟨x.toArray⟩ : ByteArray).data.toList = x from by simp] at hrf
        refine hrf.mono ?_
        clear hrf
        rintro e w4 ⟨rfl, hb5⟩
        have hO4 : Hid (w4.ownsRow w2.heap.size 50 32 u3 i (dcs ((ps.take i).map Sm.digest))) := own_below HO.out hb5
        have hb6 := hb.trans (hb5.mono hbs)
        have hbs4 := hb6.size
        go_wp2_with (first | refine kl_build1 rfl 62 50 _ rfl (dArr (Sm.digest x)) rfl i0 (.agg (dArr [])) Try.underlying62 hi0 hz0 (by rw [hs0, dArr_size]) (by rw [dArr_size]; omega) (by rw [dArr_size]; omega) ?_ | (at_builtin; refine kl_append1 rfl _ _ 62 rfl w2.heap.size 50 i0 (.agg (dArr [])) 32 32 Try.underlying62 hi0 hz0 hs0 hb0 zcells (by decide) _ i _ rfl hO4.out 1 (dArr (Sm.digest x)) rfl (dArr_size _) (dArr_ones (Sm.digest x)) (by omega) (by omega) hbs4 ?_; intro v' w' hown' hbel hsz' _))
        refine ⟨⟨i + 1, by omega, by go_num, ?_, hb6.trans hbel⟩, by simp [intOf]; omega⟩
        show World.ownsRow _ _ _ _ _ _ _
        rw [Hhtk.out]; exact hown'
      · obtain rfl : i = n2 := by omega
        obtain ⟨X, hX⟩ : ∃ X, X = ps.map Sm.digest := ⟨_, rfl⟩
        have hq : (ps.take i).map Sm.digest = X := by rw [hX, Hhnl.out, List.take_length]
        rw [hq] at HO
        have hXl : X.length = i := by rw [hX, List.length_map, Hhnl.out]
        have HO2 := HO.out
        rw [← hXl] at HO2
        have hco := Hhco.out _ _ (by rw [← hX]; exact rdD_of_own HO2)
        have k3 := Lib.hid (Hk2.out.call hb)
        have HCO := Lib.hid hco
        clear hq HO HO2 hXl hX hco
        go_wp2_with fail
        refine HCO.out.mono ?_
        rintro e w4 ⟨rfl, hb4⟩
        have k4 := k3.out.call hb4
        have HRES := setRow_heap w4 w.heap.size _ (dArr D) _ _ (k4.get 0 rfl)
        have HBR := below_setRow (g := w.heap.size) k4.below (by omega) (dArr D)
        have K3 := Lib.hid (k4.get 0 rfl)
        have HRES' := Lib.hid HRES
        clear k3 k4 hb4 HRES
        go_wp2_with (refine wpList_store_row rfl 50 _ _ rfl w.heap.size (dArr D) rfl rfl _ _ K3.out (by rw [d32s, dArr_size]) (by rw [dArr_size, dArr_size]) (dArr_one _) ?_)
        refine bodyPost_ret (results_cell_row rfl _ _ _ _ _ _ _ rfl HRES'.out Try.underlying50 rfl (by rw [d32s, dArr_size])) rfl ⟨rfl, HBR⟩
end Go.Proofs.Ytgdjfijkbemkeaa
