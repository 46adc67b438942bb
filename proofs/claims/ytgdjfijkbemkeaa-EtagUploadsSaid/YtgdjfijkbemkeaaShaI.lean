/-
  Walk: the reference's Of.
-/
import Derived.Test.YtgdjfijkbemkeaaShaI1
import Derived.Test.YtgdjfijkbemkeaaShaI2
import Derived.Test.YtgdjfijkbemkeaaShaI3
import Derived.Test.YtgdjfijkbemkeaaShaI4
namespace Go.Proofs.Ytgdjfijkbemkeaa
open Go.RowKit
set_option maxHeartbeats 8000000
set_option maxRecDepth 100000
set_option linter.unusedVariables false

theorem refOf (s : ByteArray) (hs : s.size ≤ 1000000) (w : World) :
    Calls Try.prog 30 #[.string s] w fun e w' => e = .returned (.agg (dArr (Sm.digest s.data.toList))) ∧ Below w.heap.size w w' := by
  obtain ⟨i0, hi0, hz0, hs0⟩ := d32
  obtain ⟨i1, hi1, hz1, hs1⟩ := w64
  obtain ⟨i2, hi2, hz2, hs2⟩ := s8z
  have hpad := fun w => padded s (by omega) w
  obtain ⟨p, hp⟩ : ∃ p : ByteArray, p = ⟨(s.data.toList ++ Sm.padB s.data.toList).toArray⟩ := ⟨_, rfl⟩
  rw [← hp] at hpad
  obtain ⟨D, hD⟩ : ∃ D, D = Sm.digest s.data.toList := ⟨_, rfl⟩
  rw [← hD]
  have HPAD := Lib.hid hpad
  have HP := Lib.hid hp
  have HD := Lib.hid hD
  clear hpad hp hD
  go_enter Try.func30, Try.ntmps30
  go_wp2_with (refine kl_alloc rfl 50 rfl (dArr []) i0 hi0 _ hz0 rfl ?_)
  refine (HPAD.out _).mono ?_
  rintro e w1 ⟨rfl, hb1⟩
  have d1 := Below.keep hb1 (heap_alloc_new w (.cells (dArr []) 50)) (by rw [size_alloc]; omega)
  have b1 : Below w.heap.size w w1 := ((Below.refl _ _).alloc (Nat.le_refl _) _).trans (hb1.mono (by rw [size_alloc]; omega))
  have D1 := Lib.hid d1
  clear hb1 d1
  go_wp2_with fail
  refine (refTaken _).mono ?_
  rintro e w2 ⟨rfl, hb2⟩
  have d2 := Below.keep hb2 D1.out (lt_of_block D1.out)
  have b2 := b1.trans (hb2.mono b1.size)
  have hl2 := lt_of_block d2
  have k1 := setRow_heap _ w2.heap.size _ (wArr Sm.kT) _ _ (heap_alloc_new w2 (.cells (wArr []) 93))
  have d3 := (setRow_other (w2.alloc (.cells (wArr []) 93)) w2.heap.size w.heap.size (wArr Sm.kT) (by omega)).trans (blk_old _ _ d2)
  have b3 := below_setRow (g := w2.heap.size) (b2.alloc b2.size (.cells (wArr []) 93)) b2.size (wArr Sm.kT)
  have K0 := Lib.hid (heap_alloc_new w2 (.cells (wArr []) 93))
  have K1 := Lib.hid k1
  have D3 := Lib.hid d3
  clear hb2 d2 k1 d3 b1 D1
  go_wp2_with (first | refine kl_alloc rfl 93 rfl (wArr []) i1 hi1 _ hz1 rfl ?_ | refine kl_alloc rfl 44 rfl (stA ⟨0, 0, 0, 0, 0, 0, 0, 0⟩) i2 hi2 _ hz2 rfl ?_ | refine wpList_store_row rfl 93 _ _ rfl w2.heap.size (wArr Sm.kT) rfl rfl _ _ K0.out (by rw [w64s, wArr_size]) (by rw [wArr_size, wArr_size]) (wArr_one _) ?_ | refine wpList_store_row rfl 44 _ _ rfl _ (stA Sm.st0) rfl rfl _ _ (heap_alloc_new _ _) (by rw [s8s]; rfl) rfl (stA_one _) ?_)
  obtain ⟨w3, hw3⟩ : ∃ x, x = (w2.alloc (.cells (wArr []) 93)).setRow w2.heap.size (wArr Sm.kT) := ⟨_, rfl⟩
  have hs3 : w3.heap.size = w2.heap.size + 1 := by rw [hw3, size_setRow, size_alloc]
  rw [← hw3] at D3 K1 b3 ⊢
  have h4 := setRow_heap _ (w2.heap.size + 1) _ (stA Sm.st0) _ _ (by rw [← hs3]; exact heap_alloc_new w3 (.cells (stA ⟨0, 0, 0, 0, 0, 0, 0, 0⟩) 44))
  have d4 := (setRow_other (w3.alloc (.cells (stA ⟨0, 0, 0, 0, 0, 0, 0, 0⟩) 44)) (w2.heap.size + 1) w.heap.size (stA Sm.st0) (by omega)).trans (blk_old _ _ D3.out)
  have k4 := (setRow_other (w3.alloc (.cells (stA ⟨0, 0, 0, 0, 0, 0, 0, 0⟩) 44)) (w2.heap.size + 1) w2.heap.size (stA Sm.st0) (by omega)).trans (blk_old _ _ K1.out)
  have b4 := below_setRow (g := w2.heap.size + 1) (b3.alloc b3.size (.cells (stA ⟨0, 0, 0, 0, 0, 0, 0, 0⟩) 44)) (by have := b2.size; omega) (stA Sm.st0)
  have hs4 : ((w3.alloc (.cells (stA ⟨0, 0, 0, 0, 0, 0, 0, 0⟩) 44)).setRow (w2.heap.size + 1) (stA Sm.st0)).heap.size = w2.heap.size + 2 := by rw [size_setRow, size_alloc, hs3]
  generalize (w3.alloc (.cells (stA ⟨0, 0, 0, 0, 0, 0, 0, 0⟩) 44)).setRow (w2.heap.size + 1) (stA Sm.st0) = w4 at *
  have H4 := Lib.hid h4
  have D4 := Lib.hid d4
  have K4 := Lib.hid k4
  have hw2 := b2.size
  clear h4 d4 k4 hw3 hs3 K0 K1 D3 b3 b2 hl2
  generalize w2.heap.size = kb at *
  -- the text
  obtain ⟨L, hL⟩ : ∃ L, L = p.data.toList := ⟨_, rfl⟩
  have hLm : L.length = p.size := by rw [hL]; rfl
  have hM : ∃ B, p.size = 64 * B ∧ B ≤ 100000 := by
    have h : p.size = s.data.toList.length + (Sm.padB s.data.toList).length := by rw [← hLm, hL, HP.out]; simp
    have h2 : (Sm.padB s.data.toList).length = 1 + ((119 - s.data.toList.length % 64) % 64 + 8) := by
      unfold Sm.padB; simp only [List.length_append, List.length_replicate, beput_length, List.length_cons, List.length_nil]
    have h3 : s.data.toList.length = s.size := rfl
    rw [h2, h3] at h
    exact ⟨p.size / 64, by omega, by omega⟩
  have hD2 : D = Sm.digTo (Sm.feedAll Sm.st0 L).1 8 := by
    rw [HD.out, hL, HP.out]; rfl
  obtain ⟨B, hB, hB2⟩ := hM
  obtain ⟨M, hMM⟩ : ∃ M, M = p.size := ⟨_, rfl⟩
  rw [← hMM] at hB hLm
  have hMp := hMM.symm
  have HL := Lib.hid hL
  have HLM := Lib.hid hLm
  have HB := Lib.hid hB
  have HD2 := Lib.hid hD2
  have hM2 : M ≤ 6400000 := by omega
  clear hL hLm hD2 hB hMM HP HD HPAD
  go_loopw [6] (fun av wr => ∃ (m : Nat) (S : Sm.St), m ≤ B ∧ av = .int .i64 ((64 * m : Nat) : Int) ∧ Hid S.ok ∧ Hid (Sm.feedAll S (L.drop (64 * m)) = Sm.feedAll Sm.st0 L) ∧
      Hid (wr.heap[kb]? = some (.cells (wArr Sm.kT) 93 (0, 0))) ∧ Hid (wr.heap[kb + 1]? = some (.cells (stA S) 44 (0, 0))) ∧
      Hid (wr.heap[w.heap.size]? = some (.cells (dArr []) 50 (0, 0))) ∧ Below w.heap.size w wr) (fun av _ => M - (intOf av).toNat)
  case atStart => exact ⟨0, Sm.st0, by omega, rfl, Sm.st0_ok, by rw [Nat.mul_zero, List.drop_zero]; rfl, K4, H4, D4, b4⟩
  case round =>
    obtain ⟨m, S, hm, rfl, HS, HF, GK, GH, GD, hb⟩ := hrel
    by_cases hmB : m < B
    · obtain ⟨bl, hbl⟩ : ∃ bl, bl = (L.drop (64 * m)).take 64 := ⟨_, rfl⟩
      have hLM := HLM.out
      have hBB := HB.out
      have hdl : (L.drop (64 * m)).length = M - 64 * m := by rw [List.length_drop, hLM]
      have hbll : bl.length = 64 := by rw [hbl, List.length_take, hdl]; omega
      have hcomp : Sm.feedAll (Sm.comp S bl) (L.drop (64 * (m + 1))) = Sm.feedAll Sm.st0 L := by
        have h := Sm.feedAll_long S (L.drop (64 * m)) (by rw [hdl]; omega)
        rw [HF.out, ← hbl, List.drop_drop, show 64 * m + 64 = 64 * (m + 1) by omega] at h
        exact h.symm
      have hidx : ∀ t, t < 64 → p[64 * m + t]? = some (bl.getD t 0) := fun t ht => by
        have h1 : 64 * m + t < p.size := by omega
        rw [getElem?_pos p (64 * m + t) h1]
        have h2 : bl[t]? = L[64 * m + t]? := by
          rw [hbl, List.getElem?_take_of_lt ht, List.getElem?_drop]
        have h3 : L[64 * m + t]? = some p[64 * m + t] := by
          rw [HL.out, List.getElem?_eq_getElem (by show 64 * m + t < p.size; exact h1)]; rfl
        rw [List.getD_eq_getElem?_getD, h2, h3]; rfl
      have hq : ∃ q, q = 64 * m := ⟨_, rfl⟩
      obtain ⟨q, hq⟩ := hq
      rw [← hq] at hidx ⊢
      have hqM : (q : Int) < (M : Int) := by omega
      have hq2 : q ≤ 6400000 := by omega
      have HCOMP := Lib.hid hcomp
      have HIDX := Lib.hid hidx
      have HBLL := Lib.hid hbll
      have HQ := Lib.hid hq
      clear hbl hLM hBB hdl hbll hcomp hidx hq HF HL HLM H4 D4 K4
      obtain ⟨wz, hwz⟩ : ∃ x : World, x = wr := ⟨_, rfl⟩
      subst hwz
      have hgk := lt_of_block GH.out
      obtain ⟨j0, hj0, hzz0, hzz1, hzz2⟩ := info_parts info_u32
      go_wp2_with fail
      refine refLoop16 p q bl wz j0 hj0 hzz0 hzz1 hzz2 HIDX HBLL hq2 _ ?_
      intro p7 p8 p37 p38 p39 p40 p41 p42 p43 p44 p45 p46 p47 p48 p49 p50 p51 p52 p53 p54 p55 p56 p57 p58 p59 p60 p61 p62 p63 p64 p65 p66 p67 p68 p69 p70 p71 p72 p73 p74 p75 p76 p77 p78 p79 p80 wa hF
      obtain ⟨HO16, hbz⟩ := hF
      go_wp2_with fail
      refine refLoop48 p7 bl wz wa j0 hj0 hzz0 hzz1 hzz2 HO16 hbz _ ?_
      intro q7 q9 q10 q11 q81 q82 q83 q84 q85 q86 q87 q88 q89 q90 q91 q92 q93 q94 q95 q96 q97 q98 q99 q100 q101 q102 q103 q104 q105 q106 q107 q108 q109 q110 q111 q112 q113 q114 q115 q116 q117 q118 q119 q120 q121 q122 q123 q124 q125 q126 q127 q128 q129 q130 q131 q132 q133 q134 q135 q136 q137 q138 q139 q140 q141 q142 wr hF
      obtain ⟨HO64, hbz2⟩ := hF
      clear HO16 hbz
      obtain ⟨ap, ac, rfl, hac, hcells⟩ := owns_read HO64.out
      obtain ⟨ab, rfl, hab1, hab2, hcl⟩ : ∃ b, ap = some ⟨b, 0, none⟩ ∧ wz.heap.size ≤ b ∧ b < wr.heap.size ∧ ∀ t u, (u32s (Sm.sched bl 64))[t]? = some u → wr.cell? ⟨b, t, none⟩ = some u := by
        rcases hcells with h | h
        · omega
        · exact h
      have hcell : ∀ t, t < 64 → wr.cell? ⟨ab, t, none⟩ = some (.int .u32 (((Sm.sched bl 64).getD t 0 : Nat) : Int)) := fun t ht => by
        refine hcl t _ ?_
        rw [u32s, List.getElem?_map, List.getD_eq_getElem?_getD, List.getElem?_eq_getElem (by rw [Sm.sched_length]; exact ht)]; rfl
      have HWL := Lib.hid (sched_getD_lt bl 64)
      have HCELL := Lib.hid hcell
      have hcmp : Sm.comp S bl = S.add (Sm.rnds S Sm.kT (Sm.sched bl 64) 64) := rfl
      rw [hcmp] at HCOMP
      generalize Sm.sched bl 64 = W at *
      have gk := Below.keep hbz2 GK.out (lt_of_block GK.out)
      have gh := Below.keep hbz2 GH.out (lt_of_block GH.out)
      have gd := Below.keep hbz2 GD.out (lt_of_block GD.out)
      have hbr : Below w.heap.size w wr := hb.trans (hbz2.mono hb.size)
      have hwz : w.heap.size ≤ wz.heap.size := hb.size
      have c0 : wr.cell? ⟨kb + 1, 0, none⟩ = some (.int .u32 (S.a : Int)) := by rw [cell_of_row _ _ _ _ _ _ gh]; rfl
      have c1 : wr.cell? ⟨kb + 1, 1, none⟩ = some (.int .u32 (S.b : Int)) := by rw [cell_of_row _ _ _ _ _ _ gh]; rfl
      have c2 : wr.cell? ⟨kb + 1, 2, none⟩ = some (.int .u32 (S.c : Int)) := by rw [cell_of_row _ _ _ _ _ _ gh]; rfl
      have c3 : wr.cell? ⟨kb + 1, 3, none⟩ = some (.int .u32 (S.d : Int)) := by rw [cell_of_row _ _ _ _ _ _ gh]; rfl
      have c4 : wr.cell? ⟨kb + 1, 4, none⟩ = some (.int .u32 (S.e : Int)) := by rw [cell_of_row _ _ _ _ _ _ gh]; rfl
      have c5 : wr.cell? ⟨kb + 1, 5, none⟩ = some (.int .u32 (S.f : Int)) := by rw [cell_of_row _ _ _ _ _ _ gh]; rfl
      have c6 : wr.cell? ⟨kb + 1, 6, none⟩ = some (.int .u32 (S.g : Int)) := by rw [cell_of_row _ _ _ _ _ _ gh]; rfl
      have c7 : wr.cell? ⟨kb + 1, 7, none⟩ = some (.int .u32 (S.h : Int)) := by rw [cell_of_row _ _ _ _ _ _ gh]; rfl
      have GK2 := Lib.hid gk
      have GH2 := Lib.hid gh
      have GD2 := Lib.hid gd
      clear gk gh gd hcells hcell hcl hcmp hbz2 HO64 GK GH GD hac
      go_wp2_with fail
      refine wp_region_still_lit (by kernel_rfl) (by kernel_rfl) ?_
      repeat still_step
      refine wpStill_nil ?_
      change Exit.then _ _ Exit.normal _ wr.drew
      have HC1 : Hid (∀ t, t < 64 → wr.drew.cell? ⟨ab, t, none⟩ = some (.int .u32 ((W.getD t 0 : Nat) : Int))) := HCELL.out
      have GK3 : Hid (wr.drew.heap[kb]? = some (.cells (wArr Sm.kT) 93 (0, 0))) := GK2.out
      have GH3 : Hid (wr.drew.heap[kb + 1]? = some (.cells (stA S) 44 (0, 0))) := GH2.out
      have GD3 : Hid (wr.drew.heap[w.heap.size]? = some (.cells (dArr []) 50 (0, 0))) := GD2.out
      have hb3 : Below w.heap.size w wr.drew := hbr.drew
      have hab3 : ab < wr.drew.heap.size := hab2
      clear HCELL GK2 GH2 GD2 hbr hab2 c0 c1 c2 c3 c4 c5 c6 c7
      generalize wr.drew = w8 at *
      go_wp2_with fail
      refine refLoop64 S W kb ab ac w.heap.size w w8 HS HWL HC1 GK3 GH3 GD3 hb3 _ ?_
      intro r20 r21 r22 r159 r160 r161 r162 r163 r164 r165 r166 r167 r168 r169 r170 r171 r172 r173 r174 r175 r176 r177 r178 r179 r180 r181 r182 r183 r184 r185 r186 r187 r188 r189 r190 r191 r192 r193 r194 r195 r196 r197 r198 r199 r200 r201 r202 r203 r204 r205 r206 r207 r208 r209 r210 r211 r212 r213 r214 r215 r216 r217 r218 r219 r220 r221 r222 a b c d e f g z wr hF
      obtain ⟨HR, GK, GH, GD, hb⟩ := hF
      clear HC1 GK3 GH3 GD3 hb3 hab3
      obtain ⟨R, hR⟩ : ∃ R : Sm.St, R = ⟨a, b, c, d, e, f, g, z⟩ := ⟨_, rfl⟩
      have hRok : R.ok := by
        have h := Sm.rnds_ok S Sm.kT W HS.out 64
        rw [HR.out, ← hR] at h; exact h
      have hcm := HCOMP.out
      rw [HR.out, ← hR] at hcm
      have hkv := lt_of_block GH.out
      have HROK := Lib.hid hRok
      have HCM := Lib.hid hcm
      clear hRok hcm HR HCOMP HWL
      go_wp2_with (first | refine kl_alloc rfl 44 rfl (stA ⟨0, 0, 0, 0, 0, 0, 0, 0⟩) i2 hi2 _ hz2 rfl ?_ | refine wpList_store_row rfl 44 _ _ rfl _ (stA ⟨a, b, c, d, e, f, g, z⟩) rfl rfl _ _ (heap_alloc_new _ _) (by rw [s8s]; rfl) rfl (stA_one _) ?_)
      rw [← hR]
      clear hR
      have n1 := heap_alloc_new wr (.cells (stA ⟨0, 0, 0, 0, 0, 0, 0, 0⟩) 44)
      have n2 := setRow_heap _ wr.heap.size _ (stA R) _ _ n1
      have n3 := (setRow_other (wr.alloc (.cells (stA ⟨0, 0, 0, 0, 0, 0, 0, 0⟩) 44)) wr.heap.size kb (stA R) (by omega)).trans (blk_old _ _ GK.out)
      have n4 := (setRow_other (wr.alloc (.cells (stA ⟨0, 0, 0, 0, 0, 0, 0, 0⟩) 44)) wr.heap.size (kb + 1) (stA R) (by omega)).trans (blk_old _ _ GH.out)
      have n5 := (setRow_other (wr.alloc (.cells (stA ⟨0, 0, 0, 0, 0, 0, 0, 0⟩) 44)) wr.heap.size w.heap.size (stA R) (by omega)).trans (blk_old _ _ GD.out)
      have n6 := below_setRow (g := wr.heap.size) (hb.alloc hb.size (.cells (stA ⟨0, 0, 0, 0, 0, 0, 0, 0⟩) 44)) hb.size (stA R)
      generalize (wr.alloc (.cells (stA ⟨0, 0, 0, 0, 0, 0, 0, 0⟩) 44)).setRow wr.heap.size (stA R) = w10 at *
      clear GK GH GD hb n1
      generalize wr.heap.size = vb at *
      have Hn2 := Lib.hid n2
      have Hn3 := Lib.hid n3
      have Hn4 := Lib.hid n4
      have Hn5 := Lib.hid n5
      clear n2 n3 n4 n5
      go_wp2_with fail
      refine refLoop8 S R kb vb w.heap.size w w10 HS HROK hkv hw2 Hn4 Hn2 Hn3 Hn5 n6 _ ?_
      intro s24 s232 s233 s234 s235 s236 s237 s238 s239 s240 s241 s242 s243 s244 wr hF
      obtain ⟨GH, GK, GD, hb⟩ := hF
      clear Hn4 Hn2 Hn3 Hn5 n6
      go_wp2_with fail
      go_roundw
      case rel => exact ⟨m + 1, S.add R, by omega, by rw [show ((64 * (m + 1) : Nat) : Int) = (q : Int) + 64 by have := HQ.out; omega], Sm.add_ok _ _, HCM.out, GK, GH, GD, hb⟩
      case measure => simp [intOf]; omega
    · as_aux_lemma =>
      obtain rfl : m = B := by omega
      have hS : Sm.feedAll S [] = (S, []) := Sm.feedAll_short S [] (by decide)
      have hdr : L.drop (64 * m) = [] := List.drop_of_length_le (by rw [HLM.out, HB.out]; exact Nat.le_refl _)
      have hDS : D = Sm.digTo S 8 := by rw [HD2.out, ← HF.out, hdr, hS]
      have hlt : ¬ (((64 * m : Nat) : Int) < (M : Int)) := by have := HB.out; omega
      have HDS := Lib.hid hDS
      obtain ⟨q, hq⟩ : ∃ q, q = 64 * m := ⟨_, rfl⟩
      rw [← hq] at hlt ⊢
      clear hS hdr hDS hq
      go_wp2_with (refine kl_alloc rfl 50 rfl (dArr []) i0 hi0 _ hz0 rfl ?_)
      have hgr := lt_of_block GH.out
      have hgd := lt_of_block GD.out
      have q1 := heap_alloc_new wr (.cells (dArr []) 50)
      have q2 := blk_old _ (.cells (dArr []) 50) GH.out
      have q3 := blk_old _ (.cells (dArr []) 50) GD.out
      have q4 := hb.alloc hb.size (.cells (dArr []) 50)
      have hbs := hb.size
      generalize wr.alloc (.cells (dArr []) 50) = w5 at *
      generalize wr.heap.size = ob at *
      have Q1 := Lib.hid q1
      have Q2 := Lib.hid q2
      have Q3 := Lib.hid q3
      clear q1 q2 q3 GH GK GD hb H4 D4 K4 b4 HF
      obtain ⟨DT, hDT⟩ : ∃ DT, DT = Sm.digTo S 8 := ⟨_, rfl⟩
      have hget : ∀ i, i < 32 → DT[i]? = some (UInt8.ofNat (S.get (i / 4) / 256 ^ (3 - i % 4) % 256)) := fun i hi => by
        rw [hDT]; exact Sm.digTo_get S 8 i hi
      have HGET := Lib.hid hget
      have hdl : DT.length = 32 := by rw [hDT, Sm.digTo_length]
      rw [← hDT] at HDS
      have HDL := Lib.hid hdl
      clear hget hdl hDT
      go_loopw [26] (fun c wr => ∃ i : Nat, i ≤ 32 ∧ c = .int .i64 (i : Int) ∧ Hid (wr.heap[ob]? = some (.cells (dArr (DT.take i)) 50 (0, 0))) ∧ Hid (wr.heap[kb + 1]? = some (.cells (stA S) 44 (0, 0))) ∧
          Hid (wr.heap[w.heap.size]? = some (.cells (dArr []) 50 (0, 0))) ∧ Below w.heap.size w wr) (fun c _ => 32 - (intOf c).toNat)
      case atStart => exact ⟨0, by omega, rfl, Q1.out, Q2.out, Q3.out, q4⟩
      case round =>
        obtain ⟨i, hi, rfl, G1, G2, G3, hb⟩ := hrel
        by_cases hi32 : i < 32
        · have hck : wr.cell? ⟨kb + 1, i / 4, none⟩ = some (.int .u32 ((S.get (i / 4) : Nat) : Int)) := by
            rw [cell_of_row _ _ _ _ _ _ G2.out, stA_get _ _ (by omega)]
          have hlx := Sm.get_lt S HS.out (i / 4)
          have hg := HGET.out i hi32
          have hpw : (256 : Nat) ^ (3 - i % 4) = 2 ^ (24 - 8 * (i % 4)) := by
            rw [show (256 : Nat) = 2 ^ 8 from rfl, ← Nat.pow_mul, show 8 * (3 - i % 4) = 24 - 8 * (i % 4) by omega]
          rw [hpw] at hg
          generalize S.get (i / 4) = x at *
          obtain ⟨a4, ha4⟩ : ∃ a, a = i / 4 := ⟨_, rfl⟩
          rw [← ha4] at hck
          have i1 : (i : Int).tdiv 4 = (a4 : Int) := by rw [Int.tdiv_eq_ediv_of_nonneg (by omega)]; omega
          obtain ⟨r4, hr4⟩ : ∃ a, a = i % 4 := ⟨_, rfl⟩
          have i2 : (i : Int).tmod 4 = (r4 : Int) := by rw [Int.tmod_eq_emod_of_nonneg (by omega)]; omega
          have i3 : IntKind.i64.wrap (8 * (r4 : Int)) = 8 * (r4 : Int) := by rw [IntKind.wrap_i64]; omega
          obtain ⟨e, he⟩ : ∃ e, e = 24 - 8 * (i % 4) := ⟨_, rfl⟩
          have i4 : IntKind.i64.wrap (24 - 8 * (r4 : Int)) = (e : Int) := by rw [IntKind.wrap_i64]; omega
          have i5 : IntKind.u64.wrap (e : Int) = (e : Int) := by rw [IntKind.wrap_u64]; omega
          rw [← he] at hg
          have hdv : (x : Int) / 2 ^ e = ((x / 2 ^ e : Nat) : Int) := by rw [Int.natCast_ediv, Int.natCast_pow]; rfl
          have ha8 : a4 < 8 := by omega
          have he24 : e ≤ 24 := by omega
          generalize x / 2 ^ e = y at *
          have hyw : IntKind.u8.wrap (y : Int) = ((UInt8.ofNat (y % 256)).toNat : Int) := by
            rw [IntKind.wrap_u8, UInt8.toNat_ofNat']; omega
          have htk : DT.take (i + 1) = DT.take i ++ [UInt8.ofNat (y % 256)] := by rw [List.take_add_one, hg]; rfl
          have hfo := frozen_of_row _ _ i _ _ G1.out
          have hco : wr.cell? ⟨ob, i, none⟩ = some (.int .u8 (((DT.take i).getD i 0).toNat : Int)) := by rw [cell_of_row _ _ _ _ _ _ G1.out, dArr_get _ _ hi32]
          have hset : ∀ v : Int, v = ((UInt8.ofNat (y % 256)).toNat : Int) → (wr.setCell ⟨ob, i, none⟩ (.int .u8 v)).heap[ob]? = some (.cells (dArr (DT.take (i + 1))) 50 (0, 0)) := fun v hv => by
            have h := dArr_put (DT.take i) (UInt8.ofNat (y % 256)) (by rw [List.length_take, HDL.out]; omega)
            rw [List.length_take, HDL.out, Nat.min_eq_left (by omega)] at h
            rw [heap_setCell_same _ _ _ _ _ _ G1.out, hv, h, htk]
          have hs2 : ∀ v, (wr.setCell ⟨ob, i, none⟩ v).heap[kb + 1]? = some (.cells (stA S) 44 (0, 0)) := fun v => by
            rw [heap_setCell_other _ _ _ _ (by show kb + 1 ≠ ob; omega)]; exact G2.out
          have hs3 : ∀ v, (wr.setCell ⟨ob, i, none⟩ v).heap[w.heap.size]? = some (.cells (dArr []) 50 (0, 0)) := fun v => by
            rw [heap_setCell_other _ _ _ _ (by show w.heap.size ≠ ob; omega)]; exact G3.out
          have E1 := Lib.hid hset
          have E2 := Lib.hid hs2
          have E3 := Lib.hid hs3
          have HYW := Lib.hid (show (y : Int) % 256 = ((UInt8.ofNat (y % 256)).toNat : Int) by rw [UInt8.toNat_ofNat']; omega)
          generalize ((DT.take i).getD i 0).toNat = oldv at *
          clear hyw htk hset hs2 hs3 ha4 hr4 he hg hpw G1 G2 G3
          go_wp2_with fail
          go_roundw
          case rel => exact ⟨i + 1, by omega, by go_num, E1.out _ HYW.out, E2.out _, E3.out _, hb.setCell (by show w.heap.size ≤ ob; omega) _⟩
          case measure => simp [intOf]; omega
        · obtain rfl : i = 32 := by omega
          have hDT : DT.take 32 = D := by rw [HDS.out]; exact List.take_of_length_le (by rw [HDL.out]; exact Nat.le_refl _)
          rw [hDT] at G1
          have HRES := setRow_heap _ w.heap.size _ (dArr D) _ _ G3.out
          have HBR := below_setRow (g := w.heap.size) hb (Nat.le_refl _) (dArr D)
          have HRES' := Lib.hid HRES
          clear HRES hDT
          go_wp2_with (first | refine wpList_load_row rfl 50 _ rfl ob rfl _ _ _ _ G1.out Try.underlying50 rfl (by rw [d32s, dArr_size]) ?_ | refine wpList_store_row rfl 50 _ _ rfl w.heap.size (dArr D) rfl rfl _ _ G3.out (by rw [d32s, dArr_size]) (by rw [dArr_size, dArr_size]) (dArr_one _) ?_)
          refine bodyPost_ret (results_cell_row rfl _ _ _ _ _ _ _ rfl HRES'.out Try.underlying50 rfl (by rw [d32s, dArr_size])) rfl ⟨rfl, HBR⟩
end Go.Proofs.Ytgdjfijkbemkeaa
