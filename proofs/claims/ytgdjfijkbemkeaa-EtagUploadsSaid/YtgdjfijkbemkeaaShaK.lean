/-
  Walks: the reference's digit, Hex, value, Unhex.
-/
import Derived.Test.YtgdjfijkbemkeaaShaH
namespace Go.Proofs.Ytgdjfijkbemkeaa
open Go.RowKit
set_option maxHeartbeats 1000000
set_option maxRecDepth 20000
set_option linter.unusedVariables false

theorem refDigit (n : Nat) (hn : n < 16) (w : World) :
    Calls Try.prog 70 #[.int .u8 (n : Int)] w fun e w' => e = .returned (.int .u8 ((Sm.dig n).toNat : Int)) ∧ w' = w := by
  by_cases h : n < 10
  · have hd : ((Sm.dig n).toNat : Int) = 48 + (n : Int) := by unfold Sm.dig; rw [if_pos h, UInt8.toNat_ofNat']; omega
    rw [hd]
    clear hd
    go_enter Try.func70, Try.ntmps70
    go_wp2
    go_ret
    exact ⟨rfl, rfl⟩
  · have hd : ((Sm.dig n).toNat : Int) = 87 + (n : Int) := by unfold Sm.dig; rw [if_neg h, UInt8.toNat_ofNat']; omega
    rw [hd]
    clear hd
    go_enter Try.func70, Try.ntmps70
    go_wp2
    go_ret
    exact ⟨rfl, rfl⟩

theorem refValue (c : UInt8) (w : World) :
    Calls Try.prog 66 #[.int .u8 (c.toNat : Int)] w fun e w' => e = .returned (.int .u8 (Sm.vl c : Int)) ∧ w' = w := by
  obtain ⟨v, hv⟩ : ∃ v, v = Sm.vl c := ⟨_, rfl⟩
  rw [← hv]
  unfold Sm.vl at hv
  have hc := c.toNat_lt
  generalize c.toNat = n at *
  by_cases h1 : 48 ≤ n
  · by_cases h2 : n ≤ 57
    · rw [if_pos ⟨h1, h2⟩] at hv
      have hv2 : (v : Int) = (n : Int) - 48 := by omega
      rw [hv2]
      clear hv hv2
      go_enter Try.func66, Try.ntmps66
      go_wp2
      go_ret
      exact ⟨rfl, rfl⟩
    · rw [if_neg (by omega)] at hv
      by_cases h3 : 97 ≤ n
      · by_cases h4 : n ≤ 102
        · rw [if_pos ⟨h3, h4⟩] at hv
          have hv2 : (v : Int) = (n : Int) - 87 := by omega
          rw [hv2]
          clear hv hv2
          go_enter Try.func66, Try.ntmps66
          go_wp2
          go_ret
          exact ⟨rfl, rfl⟩
        · rw [if_neg (by omega)] at hv
          subst hv
          go_enter Try.func66, Try.ntmps66
          go_wp2
          go_ret
          exact ⟨rfl, rfl⟩
      · rw [if_neg (by omega)] at hv
        subst hv
        go_enter Try.func66, Try.ntmps66
        go_wp2
        go_ret
        exact ⟨rfl, rfl⟩
  · rw [if_neg (by omega), if_neg (by omega)] at hv
    subst hv
    have h3 : ¬ 97 ≤ n := by omega
    go_enter Try.func66, Try.ntmps66
    go_wp2
    go_ret
    exact ⟨rfl, rfl⟩

theorem refHex (D : List UInt8) (w : World) :
    Calls Try.prog 37 #[.agg (dArr D)] w fun e w' => e = .returned (.string ⟨(Sm.hex D).toArray⟩) ∧ Below w.heap.size w w' := by
  rw [Sm.hex_eq]
  obtain ⟨R, hR⟩ : ∃ R : ByteArray, R = ⟨(Sm.hexTo D 32).toArray⟩ := ⟨_, rfl⟩
  rw [← hR]
  have HRR := Lib.hid hR
  clear hR
  have hD1 := heap_alloc_new w (.cells (dArr D) 50)
  have hb0 : Below w.heap.size w (w.alloc (.cells (dArr D) 50)) := (Below.refl _ _).alloc (Nat.le_refl _) _
  have HD1 := Lib.hid hD1
  clear hD1
  go_enter Try.func37, Try.ntmps37
  go_wp2_with fail
  generalize w.alloc (.cells (dArr D) 50) = w1 at *
  go_loopw [3, 4] (fun sv c wr => ∃ (k : Nat) (t : ByteArray), k ≤ 32 ∧ c = .int .i64 (k : Int) ∧ sv = .string t ∧ Hid (t.data.toList = Sm.hexTo D k) ∧ Hid (wr.heap[w.heap.size]? = some (.cells (dArr D) 50 (0, 0))) ∧ Below w.heap.size w wr) (fun _ c _ => 32 - (intOf c).toNat)
  case atStart => exact ⟨0, ⟨#[]⟩, by omega, rfl, rfl, by rw [Sm.hexTo_zero]; rfl, HD1.out, hb0⟩
  case round =>
    obtain ⟨k, t, hk, rfl, rfl, HT, G, hb⟩ := hrel
    by_cases hlt : k < 32
    · have hcell : wr.cell? ⟨w.heap.size, k, none⟩ = some (.int .u8 ((D.getD k 0).toNat : Int)) := by
        rw [cell_of_row _ _ _ _ _ _ G.out, dArr_get _ _ hlt]
      have hlen := Sm.hexTo_length D k
      rw [← HT.out] at hlen
      have hts : t.size = 2 * k := hlen
      have hsuc := Sm.hexTo_succ D k
      have hc := (D.getD k 0).toNat_lt
      generalize (D.getD k 0).toNat = c at *
      obtain ⟨y1, hy1⟩ : ∃ y, y = c / 16 := ⟨_, rfl⟩
      obtain ⟨y2, hy2⟩ : ∃ y, y = c % 16 := ⟨_, rfl⟩
      have e1 : (c : Int) / 16 = (y1 : Int) := by omega
      have e2 : (c : Int).tmod 16 = (y2 : Int) := by rw [Int.tmod_eq_emod_of_nonneg (by omega)]; omega
      have e3 : IntKind.u8.wrap (y1 : Int) = (y1 : Int) := by rw [IntKind.wrap_u8]; omega
      have e4 : IntKind.u8.wrap (y2 : Int) = (y2 : Int) := by rw [IntKind.wrap_u8]; omega
      have t1 := fun wx => refDigit y1 (by omega) wx
      have t2 := fun wx => refDigit y2 (by omega) wx
      rw [← hy1, ← hy2] at hsuc
      generalize Sm.dig y1 = x1 at *
      generalize Sm.dig y2 = x2 at *
      obtain ⟨t3, ht3⟩ : ∃ y : ByteArray, y = t ++ ⟨#[x1, x2]⟩ := ⟨_, rfl⟩
      have ht3l : t3.data.toList = Sm.hexTo D (k + 1) := by rw [ht3, hsuc, ← HT.out]; simp
      have hn2 : ¬ 9223372036854775807 < 2 * k + 2 := by omega
      have Ht1 := Lib.hid t1
      have Ht2 := Lib.hid t2
      have Hht3 := Lib.hid ht3
      have Hht3l := Lib.hid ht3l
      clear t1 t2 ht3 ht3l
      clear hlen hsuc hy1 hy2
      go_wp2_with fail
      refine wp_region_ptail (fun w' => w' = wr.drew) 10 (by kernel_rfl) (by kernel_rfl) rfl rfl (.string t) (fun _ => rfl) ?_
      simp only [List.take_succ_cons, List.take_zero, List.drop_succ_cons, List.drop_zero]
      (refine wpQuiet_step (fun Kq hKq => ?_)
       refine qt_want rfl ?_
       apply Exists.intro
       refine ⟨fun _ hw => ?_, ?_⟩
       · (unfold Oper.quietAt; go_simp; try exact rfl)
       go_simp
       refine hKq _ ?_
       clear hKq Kq)
      (refine wpQuiet_step (fun Kq hKq => ?_)
       refine qt_want rfl ?_
       apply Exists.intro
       refine ⟨fun _ hw => ?_, ?_⟩
       · (unfold Oper.quietAt; go_simp; try exact rfl)
       go_simp
       refine hKq _ ?_
       clear hKq Kq)
      (refine wpQuiet_step (fun Kq hKq => ?_)
       refine qt_want rfl ?_
       apply Exists.intro
       refine ⟨fun _ hw => ?_, ?_⟩
       · (unfold Oper.quietAt; go_simp; try exact rfl)
       go_simp
       refine hKq _ ?_
       clear hKq Kq)
      (refine wpQuiet_step (fun Kq hKq => ?_)
       refine qt_want rfl ?_
       apply Exists.intro
       refine ⟨fun _ hw => ?_, ?_⟩
       · (unfold Oper.quietAt; go_simp; try exact rfl)
       go_simp
       refine hKq _ ?_
       clear hKq Kq)
      (refine wpQuiet_step (fun Kq hKq => ?_)
       refine qt_called rfl (fun _ => by go_simp; first | exact ⟨rfl, rfl⟩ | exact rfl) ?_
       apply Exists.intro
       refine ⟨fun _ hw => ?_, ?_⟩
       · (refine (Ht1.out _).mono ?_; rintro e w' ⟨rfl, rfl⟩; exact ⟨rfl, hw⟩)
       go_simp
       refine hKq _ ?_
       clear hKq Kq)
      (refine wpQuiet_step (fun Kq hKq => ?_)
       refine qt_want rfl ?_
       apply Exists.intro
       refine ⟨fun _ hw => ?_, ?_⟩
       · (unfold Oper.quietAt; go_simp; try exact rfl)
       go_simp
       refine hKq _ ?_
       clear hKq Kq)
      (refine wpQuiet_step (fun Kq hKq => ?_)
       refine qt_want rfl ?_
       apply Exists.intro
       refine ⟨fun _ hw => ?_, ?_⟩
       · (unfold Oper.quietAt; go_simp; try exact rfl)
       go_simp
       refine hKq _ ?_
       clear hKq Kq)
      (refine wpQuiet_step (fun Kq hKq => ?_)
       refine qt_want rfl ?_
       apply Exists.intro
       refine ⟨fun _ hw => ?_, ?_⟩
       · (unfold Oper.quietAt; go_simp; try exact rfl)
       go_simp
       refine hKq _ ?_
       clear hKq Kq)
      (refine wpQuiet_step (fun Kq hKq => ?_)
       refine qt_want rfl ?_
       apply Exists.intro
       refine ⟨fun _ hw => ?_, ?_⟩
       · (unfold Oper.quietAt; go_simp; try exact rfl)
       go_simp
       refine hKq _ ?_
       clear hKq Kq)
      (refine wpQuiet_step (fun Kq hKq => ?_)
       refine qt_called rfl (fun _ => by go_simp; first | exact ⟨rfl, rfl⟩ | exact rfl) ?_
       apply Exists.intro
       refine ⟨fun _ hw => ?_, ?_⟩
       · (refine (Ht2.out _).mono ?_; rintro e w' ⟨rfl, rfl⟩; exact ⟨rfl, hw⟩)
       go_simp
       refine hKq _ ?_
       clear hKq Kq)
      refine wpQuiet_nil ?_
      rintro w' rfl
      have G2 : Hid (wr.drew.heap[w.heap.size]? = some (.cells (dArr D) 50 (0, 0))) := G.out
      have hb2 : Below w.heap.size w wr.drew := hb.drew
      clear G hb hcell
      generalize wr.drew = w2 at *
      go_wp2_with (refine kl_string rfl 91 9 5 _ rfl Try.underlying91 Try.underlying5 Try.underlying9 _ _ _ _ rfl [x1, x2] rfl (fun j u hj => by
        rw [Nat.zero_add, cell_of_row _ _ _ _ _ _ (heap_alloc_new _ _)]
        match j, hj with
        | 0, hj => cases hj; rfl
        | 1, hj => cases hj; rfl) ?_)
      try rw [← Hht3.out]
      try refine NoPanic.normal ?_
      go_wp2_with fail
      go_roundw
      case rel => exact ⟨k + 1, t3, by omega, by go_num, rfl, Hht3l.out, blk_old _ _ G2.out, hb2.alloc hb2.size _⟩
      case measure => simp [intOf]; omega
    · obtain rfl : k = 32 := by omega
      have hRt : R = t := by
        have h : R.data.toList = t.data.toList := by rw [HRR.out, HT.out]
        cases R; cases t; simp only at h; congr 1; exact Array.toList_inj.mp h
      have HRT := Lib.hid hRt
      clear hRt
      go_wp2_with fail
      go_ret
      exact ⟨by rw [HRT.out]; rfl, hb⟩

theorem refUnhex (s : ByteArray) (w : World) :
    Calls Try.prog 32 #[.string s] w fun e w' => e = .returned (.tuple #[.agg (dArr (Sm.unD s.data.toList)), .int .i64 (Sm.unE s.data.toList : Nat)]) ∧ Below w.heap.size w w' := by
  obtain ⟨i0, hi0, hz0, hs0⟩ := d32
  have hsl : s.data.toList.length = s.size := rfl
  have hD1 := heap_alloc_new w (.cells (dArr []) 50)
  have hD2 := blk_old _ (.cells (dArr []) 50) hD1
  have hD3 := heap_alloc2_new w (.cells (dArr []) 50) (.cells (dArr []) 50)
  have hB : Below w.heap.size w ((w.alloc (.cells (dArr []) 50)).alloc (.cells (dArr []) 50)) := ((Below.refl _ _).alloc (Nat.le_refl _) _).alloc (by rw [size_alloc]; omega) _
  have HhD2 := Lib.hid hD2
  have HhD3 := Lib.hid hD3
  clear hD2 hD3
  clear hD1
  by_cases h64 : s.size = 64
  · have hsz : ((s.size : Int) != 64) = false := by simp; omega
    have hlen64 : s.data.toList.length = 64 := by rw [hsl]; exact h64
    obtain ⟨l, hll⟩ : ∃ l, l = s.data.toList := ⟨_, rfl⟩
    rw [← hll] at hlen64 ⊢
    have hget : ∀ j, j < 64 → s[j]? = some (l.getD j 0) := fun j hj => by
      rw [hll, getElem?_pos s j (by omega)]
      have : j < s.data.toList.length := by rw [← hll]; omega
      rw [List.getD_eq_getElem?_getD, List.getElem?_eq_getElem this]
      rfl
    have Hhget := Lib.hid hget
    have Hhlen64 := Lib.hid hlen64
    clear hget hlen64
    clear hll hsl
    obtain ⟨D, hD⟩ : ∃ D, D = Sm.unD l := ⟨_, rfl⟩
    obtain ⟨E, hE⟩ : ∃ E, E = Sm.unE l := ⟨_, rfl⟩
    rw [← hD, ← hE]
    have HhD := Lib.hid hD
    have HhE := Lib.hid hE
    clear hD hE
    have hszi : ¬ ((s.size : Int) ≠ 64) := by omega
    go_enter Try.func32, Try.ntmps32
    go_wp2_with (refine kl_alloc rfl 50 rfl (dArr []) i0 hi0 _ hz0 rfl ?_)
    generalize (w.alloc (.cells (dArr []) 50)).alloc (.cells (dArr []) 50) = w1 at *
    go_loopw [5] (fun c wr => ∃ (k : Nat) (d : List UInt8), k ≤ 32 ∧ c = .int .i64 (k : Int) ∧ Hid (Sm.unTo l k = some d) ∧ Hid (wr.heap[w.heap.size]? = some (.cells (dArr []) 50 (0, 0))) ∧
        Hid (wr.heap[w.heap.size + 1]? = some (.cells (dArr d) 50 (0, 0))) ∧ Below w.heap.size w wr) (fun c _ => 32 - (intOf c).toNat)
    case atStart => exact ⟨0, [], by omega, rfl, Sm.unTo_zero l, HhD2.out, HhD3.out, hB⟩
    case round =>
      obtain ⟨k, d, hk, rfl, HU, G1, G2, hb⟩ := hrel
      by_cases hlt : k < 32
      · have g1 := Hhget.out (2 * k) (by omega)
        have g2 := Hhget.out (2 * k + 1) (by omega)
        have hs := Sm.unTo_succ l k
        rw [HU.out] at hs
        simp only [Option.bind_some] at hs
        have hdl := Sm.unTo_length l k d HU.out
        generalize l.getD (2 * k) 0 = c1 at *
        generalize l.getD (2 * k + 1) 0 = c2 at *
        have t1 := fun wx => refValue c1 wx
        have t2 := fun wx => refValue c2 wx
        have v1 := Sm.vl_le c1
        have v2 := Sm.vl_le c2
        generalize Sm.vl c1 = x at *
        generalize Sm.vl c2 = y at *
        obtain ⟨j, hj⟩ : ∃ j, j = 2 * k := ⟨_, rfl⟩
        rw [← hj] at g1 g2
        have hj2 : j ≤ 62 := by omega
        have hjw : IntKind.i64.wrap (2 * (k : Int)) = (j : Int) := by rw [IntKind.wrap_i64]; omega
        have hu := run_underlying Try.underlying9
        have r1 : ∀ wx, (Instr.index 9 (.string s) (.int .i64 (j : Int))).run Try.prog wx = .ok (.int .u8 (c1.toNat : Int)) wx := fun wx => by
          simp [Instr.index, asIntOf, hu, g1]
        have r2 : ∀ wx, (Instr.index 9 (.string s) (.int .i64 ((j : Int) + 1))).run Try.prog wx = .ok (.int .u8 (c2.toNat : Int)) wx := fun wx => by
          have h0 : 0 ≤ (j : Int) + 1 := by omega
          have h1 : ((j : Int) + 1).toNat = j + 1 := by omega
          simp [Instr.index, asIntOf, hu, h0, h1, g2]
        have hjw2 : IntKind.i64.wrap ((j : Int) + 1) = (j : Int) + 1 := by rw [IntKind.wrap_i64]; omega
        have Ht1 := Lib.hid t1
        have Ht2 := Lib.hid t2
        have Hhs := Lib.hid hs
        have Hhdl := Lib.hid hdl
        clear t1 t2 hs hdl
        clear g1 g2 hj hu
        go_wp2_with fail
        refine wp_region_still_lit (by kernel_rfl) (by kernel_rfl) ?_
        repeat still_step
        still_call (Ht1.out _)
        repeat still_step
        still_call (Ht2.out _)
        repeat still_step
        refine wpStill_nil ?_
        change Exit.then _ _ Exit.normal _ wr.drew
        have J1 : Hid (wr.drew.heap[w.heap.size]? = some (.cells (dArr []) 50 (0, 0))) := G1.out
        have J2 : Hid (wr.drew.heap[w.heap.size + 1]? = some (.cells (dArr d) 50 (0, 0))) := G2.out
        have jb : Below w.heap.size w wr.drew := hb.drew
        clear G1 G2 hb r1 r2
        generalize wr.drew = w2 at *
        by_cases hbad : x = 16 ∨ y = 16
        · have hun : Sm.unTo l 32 = none := by
            have h := Hhs.out
            rw [if_pos hbad] at h
            have h2 := Sm.unTo_none l (k + 1) h (31 - k)
            rw [show k + 1 + (31 - k) = 32 by omega] at h2
            exact h2
          have e1 : D = [] := by rw [HhD.out]; unfold Sm.unD; rw [if_pos Hhlen64.out, hun]; rfl
          have e2 : E = 2 := by rw [HhE.out]; unfold Sm.unE; rw [if_pos Hhlen64.out, hun]; rfl
          have HRES := setRow_heap _ w.heap.size _ (dArr []) _ _ J1.out
          have HBR := below_setRow (g := w.heap.size) jb (Nat.le_refl _) (dArr [])
          have HRES' := Lib.hid HRES
          have He1 := Lib.hid e1
          have He2 := Lib.hid e2
          clear e1 e2
          clear hun HRES
          have hb1 : (decide ((x : Int) = 16) || decide ((y : Int) = 16)) = true := by
            rcases hbad with h | h
            · subst h; rfl
            · subst h; simp
          by_cases hx16 : x = 16
          · subst hx16
            go_wp2_with (first | refine kl_build0 rfl 50 rfl 32 5 Try.underlying50 (by kernel_rfl) i0 hi0 (dArr []) hz0 ?_ | refine wpList_store_row rfl 50 _ _ rfl w.heap.size (dArr []) rfl rfl _ _ J1.out (by rw [d32s, dArr_size]) (by rw [dArr_size]) (dArr_one _) ?_)
            all_goals refine bodyPost_ret (results_row_tmp rfl _ _ _ _ _ _ _ rfl HRES'.out Try.underlying50 rfl (by rw [d32s, dArr_size])) rfl ⟨by rw [He1.out, He2.out]; rfl, HBR⟩
          · have hy16 : y = 16 := by omega
            subst hy16
            have hxb : ((x : Int) == 16) = false := by simp; omega
            have hxn : ¬ (x : Int) = 16 := by omega
            go_wp2_with (first | refine kl_build0 rfl 50 rfl 32 5 Try.underlying50 (by kernel_rfl) i0 hi0 (dArr []) hz0 ?_ | refine wpList_store_row rfl 50 _ _ rfl w.heap.size (dArr []) rfl rfl _ _ J1.out (by rw [d32s, dArr_size]) (by rw [dArr_size]) (dArr_one _) ?_)
            all_goals refine bodyPost_ret (results_row_tmp rfl _ _ _ _ _ _ _ rfl HRES'.out Try.underlying50 rfl (by rw [d32s, dArr_size])) rfl ⟨by rw [He1.out, He2.out]; rfl, HBR⟩
        · have hx : x < 16 := by omega
          have hy : y < 16 := by omega
          have hck : w2.cell? ⟨w.heap.size + 1, k, none⟩ = some (.int .u8 ((d.getD k 0).toNat : Int)) := by rw [cell_of_row _ _ _ _ _ _ J2.out, dArr_get _ _ hlt]
          have hfk := frozen_of_row _ _ k _ _ J2.out
          have hxb : ((x : Int) == 16) = false := by simp; omega
          have hyb : ((y : Int) == 16) = false := by simp; omega
          have hxn : ¬ (x : Int) = 16 := by omega
          have hyn : ¬ (y : Int) = 16 := by omega
          have hs2 : Sm.unTo l (k + 1) = some (d ++ [UInt8.ofNat (x * 16 + y)]) := by rw [Hhs.out, if_neg hbad]
          have hst : ∀ v : Int, v = ((UInt8.ofNat (x * 16 + y)).toNat : Int) → (w2.setCell ⟨w.heap.size + 1, k, none⟩ (.int .u8 v)).heap[w.heap.size + 1]? = some (.cells (dArr (d ++ [UInt8.ofNat (x * 16 + y)])) 50 (0, 0)) := fun v hv => by
            have h := dArr_put d (UInt8.ofNat (x * 16 + y)) (by rw [Hhdl.out]; exact hlt)
            rw [Hhdl.out] at h
            rw [heap_setCell_same _ _ _ _ _ _ J2.out, hv, h]
          have hst2 : ∀ v : Value, (w2.setCell ⟨w.heap.size + 1, k, none⟩ v).heap[w.heap.size]? = some (.cells (dArr []) 50 (0, 0)) := fun v => by
            rw [heap_setCell_other _ _ _ _ (by show w.heap.size ≠ w.heap.size + 1; omega)]; exact J1.out
          have hnum : (x : Int) * 16 + y = ((UInt8.ofNat (x * 16 + y)).toNat : Int) := by rw [UInt8.toNat_ofNat']; omega
          have Hhs2 := Lib.hid hs2
          have Hhst := Lib.hid hst
          have Hhst2 := Lib.hid hst2
          have Hhnum := Lib.hid hnum
          clear hs2 hst hst2 hnum
          go_wp2_with fail
          go_roundw
          case rel => exact ⟨k + 1, _, by omega, by go_num, Hhs2.out, Hhst2.out _, Hhst.out _ Hhnum.out, jb.setCell (by show w.heap.size ≤ w.heap.size + 1; omega) _⟩
          case measure => simp [intOf]; omega
      · obtain rfl : k = 32 := by omega
        have e1 : D = d := by rw [HhD.out]; unfold Sm.unD; rw [if_pos Hhlen64.out, HU.out]; rfl
        have e2 : E = 0 := by rw [HhE.out]; unfold Sm.unE; rw [if_pos Hhlen64.out, HU.out]; rfl
        have HRES := setRow_heap _ w.heap.size _ (dArr d) _ _ G1.out
        have HBR := below_setRow (g := w.heap.size) hb (Nat.le_refl _) (dArr d)
        have HRES' := Lib.hid HRES
        have He1 := Lib.hid e1
        have He2 := Lib.hid e2
        clear e1 e2
        clear HRES
        go_wp2_with (first | refine wpList_load_row rfl 50 _ rfl (w.heap.size + 1) rfl _ _ _ _ G2.out Try.underlying50 rfl (by rw [d32s, dArr_size]) ?_ | refine wpList_store_row rfl 50 _ _ rfl w.heap.size (dArr d) rfl rfl _ _ G1.out (by rw [d32s, dArr_size]) (by rw [dArr_size, dArr_size]) (dArr_one _) ?_)
        refine bodyPost_ret (results_row_tmp rfl _ _ _ _ _ _ _ rfl HRES'.out Try.underlying50 rfl (by rw [d32s, dArr_size])) rfl ⟨by rw [He1.out, He2.out]; rfl, HBR⟩
  · have e1 : Sm.unD s.data.toList = [] := by unfold Sm.unD; rw [if_neg (by rw [hsl]; exact h64)]
    have e2 : Sm.unE s.data.toList = 2 := by unfold Sm.unE; rw [if_neg (by rw [hsl]; exact h64)]
    rw [e1, e2]
    clear e1 e2
    have hne : ((s.size : Int) != 64) = true := by simp; omega
    have hni : ¬ ((s.size : Int) = 64) := by omega
    have HRES := setRow_heap _ w.heap.size _ (dArr []) _ _ HhD2.out
    have HBR := below_setRow (g := w.heap.size) hB (Nat.le_refl _) (dArr [])
    have HRES' := Lib.hid HRES
    clear HRES hsl h64
    go_enter Try.func32, Try.ntmps32
    go_wp2_with (first | refine kl_alloc rfl 50 rfl (dArr []) i0 hi0 _ hz0 rfl ?_ | refine wpList_load_row rfl 50 _ rfl (w.heap.size + 1) rfl _ _ _ _ HhD3.out Try.underlying50 rfl (by rw [d32s, dArr_size]) ?_ | refine wpList_store_row rfl 50 _ _ rfl w.heap.size (dArr []) rfl rfl _ _ HhD2.out (by rw [d32s, dArr_size]) (by rw [dArr_size]) (dArr_one _) ?_)
    refine bodyPost_ret (results_row_tmp rfl _ _ _ _ _ _ _ rfl HRES'.out Try.underlying50 rfl (by rw [d32s, dArr_size])) rfl ⟨rfl, HBR⟩
end Go.Proofs.Ytgdjfijkbemkeaa
