/-
  Walks: Add, Len.
-/
import Derived.Test.YtgdjfijkbemkeaaShaZ
import Derived.Test.YtgdjfijkbemkeaaShaP
import Derived.Test.YtgdjfijkbemkeaaShelf
namespace Go.Proofs.Ytgdjfijkbemkeaa
open Go.RowKit
set_option maxHeartbeats 1000000
set_option maxRecDepth 20000
set_option linter.unusedVariables false

/-- the first cells of a tally, all naught -/
def talZ : Array Value := #[.pointer none, .int .u32 0, .int .u32 0, .int .u32 0, .int .u32 0, .int .u32 0, .int .u32 0, .int .u32 0, .int .u32 0, .string ⟨#[]⟩, .int .i64 0]
def strSize : Option Value → Nat
  | some (.string s) => s.size
  | _ => 0

theorem sclone (s : ByteArray) (w : World) (hlim : s.size ≤ 281474976710656) :
    Calls Try.prog 61 #[.string s] w fun e w' => e = .returned (.string s) ∧ Below w.heap.size w w' := by
  have c := Try.stringslite_Clone s w hlim
  go_enter Try.func61, Try.ntmps61
  go_wp2_with fail
  refine c.mono ?_; rintro e w1 ⟨rfl, hb⟩
  go_wp2
  go_ret
  exact ⟨rfl, hb⟩

theorem add1 (T : Nat) (l : List UInt8) (s : ByteArray) (w : World) (hl : l.length + s.size ≤ 1099511627776)
    (h2 : w.heap[T]? = some (.cells (tabArr 64) 95 (0, 0))) :
    Calls Try.prog 29 #[.agg (talA T (Sm.stOf l) ⟨(Sm.restOf l).toArray⟩ (l.length : Nat)), .string s] w fun e w' =>
      e = .returned (.agg (talA T (Sm.stOf (l ++ s.data.toList)) ⟨(Sm.restOf (l ++ s.data.toList)).toArray⟩ ((l.length + s.size : Nat) : Int))) ∧ Below w.heap.size w w' := by
  have hS := Sm.stOf_ok l
  have hr := Sm.restOf_length l
  have hfeed := Sm.of_append l s.data.toList
  obtain ⟨rest, hrest⟩ : ∃ r : ByteArray, r = ⟨(Sm.restOf l).toArray⟩ := ⟨_, rfl⟩
  rw [← hrest]
  have hrl : Sm.restOf l = rest.data.toList := by rw [hrest]
  have hrz : rest.size = l.length % 64 := by rw [← hr, hrl]; rfl
  rw [hrl] at hfeed
  generalize Sm.stOf l = S at *
  obtain ⟨n, hn⟩ : ∃ n, n = l.length := ⟨_, rfl⟩
  rw [← hn] at hrz hl ⊢
  obtain ⟨m, hm⟩ : ∃ m, m = n + s.size := ⟨_, rfl⟩
  rw [← hm] at hl ⊢
  obtain ⟨S2, hS2⟩ : ∃ x, x = Sm.stOf (l ++ s.data.toList) := ⟨_, rfl⟩
  obtain ⟨r2, hr2⟩ : ∃ x : ByteArray, x = ⟨(Sm.restOf (l ++ s.data.toList)).toArray⟩ := ⟨_, rfl⟩
  have hr2' : Sm.restOf (l ++ s.data.toList) = r2.data.toList := by rw [hr2]
  rw [← hS2, hr2'] at hfeed
  rw [← hS2, ← hr2]
  have hwrap : IntKind.i64.wrap ((n : Int) + s.size) = (m : Int) := by rw [IntKind.wrap_i64]; omega
  have e10 : (talA T S rest (n : Int))[10]? = some (.int .i64 (n : Int)) := rfl
  have e9 : (talA T S rest (n : Int))[9]? = some (.string rest) := rfl
  have hsum : rest.size + s.size ≤ 1099511627776 := by omega
  have hnot : ¬ 9223372036854775807 < rest.size + s.size := by omega
  have HN := Lib.hid hn
  have HM := Lib.hid hm
  have HR := Lib.hid hrz
  clear hn hm hrz
  have HF := Lib.hid hfeed
  have HS := Lib.hid hS
  have hT := lt_of_block h2
  have H2 := Lib.hid h2
  have hdata : (rest ++ s).data.toList = rest.data.toList ++ s.data.toList := by simp
  have hsize : (rest ++ s).size = rest.size + s.size := ByteArray.size_append
  obtain ⟨rs, hrs⟩ : ∃ x, x = rest ++ s := ⟨_, rfl⟩
  rw [← hrs] at hdata hsize
  have HD := Lib.hid hdata
  have HZ := Lib.hid hsize
  have HRS := Lib.hid hrs
  clear hfeed hS h2 hr hrest hrl hS2 hr2 hr2' hdata hsize hrs
  go_enter Try.func29, Try.ntmps29
  go_wp2_with fail
  rw [← HRS.out]
  obtain ⟨wq, hwq⟩ : ∃ x : World, x = (w.alloc (.cells (talA T S rs (m : Int)) 46)).alloc (.cells talZ 46) := ⟨_, rfl⟩
  have hq1 : wq.heap[w.heap.size]? = some (.cells (talA T S rs (m : Int)) 46 (0, 0)) := by
    rw [hwq]; exact blk_old _ _ (heap_alloc_new _ _)
  have hq2 : wq.heap[w.heap.size + 1]? = some (.cells talZ 46 (0, 0)) := by
    rw [hwq, ← size_alloc w (.cells (talA T S rs (m : Int)) 46)]; exact heap_alloc_new _ _
  have hq3 : Below w.heap.size w wq := by
    rw [hwq]; exact ((Below.refl _ _).alloc (Nat.le_refl _) _).alloc (by rw [size_alloc]; omega) _
  change Code.wp _ _ _ _ ((w.alloc (.cells (talA T S rs (m : Int)) 46)).alloc (.cells talZ 46))
  rw [← hwq]
  have hl0 : rs.size ≤ 1099511627776 := by have := HZ.out; omega
  have hfd : Sm.feedAll S rs.data.toList = (S2, r2.data.toList) := by rw [HD.out]; exact HF.out
  have HFD := Lib.hid hfd
  have HQ1 := Lib.hid hq1
  have HQ2 := Lib.hid hq2
  clear hwq hq1 hq2 hfd
  go_loopw [] (fun wr => ∃ (S1 : Sm.St) (r1 : ByteArray), r1.size ≤ 1099511627776 ∧ Hid S1.ok ∧ Hid (Sm.feedAll S1 r1.data.toList = (S2, r2.data.toList)) ∧
      Hid (wr.heap[w.heap.size]? = some (.cells (talA T S1 r1 (m : Int)) 46 (0, 0))) ∧ Hid (wr.heap[w.heap.size + 1]? = some (.cells talZ 46 (0, 0))) ∧ Below w.heap.size w wr)
      (fun wr => strSize (wr.cell? ⟨w.heap.size, 9, none⟩))
  case atStart => exact ⟨S, rs, hl0, HS, HFD, HQ1, HQ2, hq3⟩
  case round =>
    obtain ⟨S1, r1, hr1, HS1, HF1, G1, G2, hb⟩ := hrel
    have c9 : wr.cell? ⟨w.heap.size, 9, none⟩ = some (.string r1) := by rw [cell_of_row _ _ _ _ _ _ G1.out]; rfl
    by_cases h64 : r1.size < 64
    · have f9 := frozen_of_row _ _ 9 _ _ G1.out
      have cl := sclone r1 wr (by omega)
      have hsh := Sm.feedAll_short S1 r1.data.toList h64
      rw [HF1.out] at hsh
      have HSH := Lib.hid hsh
      have CL := Lib.hid cl
      have hg := lt_of_block G1.out
      have hg2 := lt_of_block G2.out
      clear cl hsh
      go_wp2_with fail
      refine CL.out.mono ?_
      rintro e w2 ⟨rfl, kb⟩
      have K1 := Lib.hid (Below.keep kb G1.out hg)
      have K2 := Lib.hid (Below.keep kb G2.out hg2)
      have f9 := frozen_of_row _ _ 9 _ _ K1.out
      have c9 : w2.cell? ⟨w.heap.size, 9, none⟩ = some (.string r1) := by rw [cell_of_row _ _ _ _ _ _ K1.out]; rfl
      have hj : (w2.setCell ⟨w.heap.size, 9, none⟩ (.string r1)).heap[w.heap.size]? = some (.cells (talA T S1 r1 (m : Int)) 46 (0, 0)) := by
        rw [heap_setCell_same _ _ _ _ _ _ K1.out]; rfl
      have hj2 : (w2.setCell ⟨w.heap.size, 9, none⟩ (.string r1)).heap[w.heap.size + 1]? = some (.cells talZ 46 (0, 0)) := by
        rw [heap_setCell_other _ _ _ _ (by show w.heap.size + 1 ≠ w.heap.size; omega)]; exact K2.out
      have J1 := Lib.hid hj
      have hbj : Below w.heap.size w (w2.setCell ⟨w.heap.size, 9, none⟩ (.string r1)) := (hb.trans (kb.mono hb.size)).setCell (Nat.le_refl _) _
      have HRES := setRow_heap _ (w.heap.size + 1) _ (talA T S1 r1 (m : Int)) _ _ hj2
      have HBR := below_setRow (g := w.heap.size + 1) hbj (by omega) (talA T S1 r1 (m : Int))
      have J2 := Lib.hid hj2
      have HRES' := Lib.hid HRES
      clear hj hj2 HRES
      have hS12 : S1 = S2 ∧ r1 = r2 := by
        have h := HSH.out
        simp only [Prod.mk.injEq] at h
        exact ⟨h.1.symm, by cases r1; cases r2; simp only at h; congr 1; exact (Array.toList_inj.mp h.2).symm⟩
      have H12 := Lib.hid hS12
      clear hS12
      go_wp2_with (first | refine wpList_load_row rfl 46 _ rfl w.heap.size rfl _ _ _ _ J1.out Try.underlying46 rfl (by rw [info_tally]; rfl) ?_ | refine wpList_store_row rfl 46 _ _ rfl (w.heap.size + 1) (talA T S1 r1 (m : Int)) rfl rfl _ _ J2.out (by rw [info_tally]; rfl) rfl (talA_one _ _ _ _) ?_)
      rw [← H12.out.1, ← H12.out.2]
      refine bodyPost_ret (results_cell_row rfl _ _ _ _ _ _ _ rfl HRES'.out Try.underlying46 rfl (by rw [info_tally]; rfl)) rfl ⟨rfl, HBR⟩
    · have hge : 64 ≤ r1.size := by omega
      have hes : (r1.extract 0 64).size = 64 := by rw [ByteArray.size_extract]; omega
      have hne : w.heap.size ≠ T := by omega
      have bl := block1 w.heap.size T S1 r1 (m : Int) (r1.extract 0 64) hes HS1.out hne wr G1.out (Below.keep hb H2.out hT)
      have hle : (r1.extract 0 64).data.toList = r1.data.toList.take 64 := by rw [Lib.extract_data]; simp
      have hle2 : (r1.extract 64 r1.size).data.toList = r1.data.toList.drop 64 := by
        rw [Lib.extract_data, List.take_of_length_le]
        rw [List.length_drop]; exact Nat.le_refl _
      have hz2 : (r1.extract 64 r1.size).size = r1.size - 64 := by rw [ByteArray.size_extract]; omega
      have hlong := Sm.feedAll_long S1 r1.data.toList hge
      rw [HF1.out, ← hle, ← hle2] at hlong
      have hcok := Sm.comp_ok S1 (r1.extract 0 64).data.toList
      change Calls _ _ _ _ (fun e w' => _ ∧ w'.heap[w.heap.size]? = some (.cells (talA T (Sm.comp S1 (r1.extract 0 64).data.toList) r1 (m : Int)) _ _) ∧ _) at bl
      generalize Sm.comp S1 (r1.extract 0 64).data.toList = S3 at *
      have HLG := Lib.hid hlong
      have HOK := Lib.hid hcok
      have BL := Lib.hid bl
      have HZ2 := Lib.hid hz2
      clear hes hle hle2 hz2 hlong hcok bl
      go_wp2_with fail
      refine BL.out.mono ?_
      rintro e w2 ⟨rfl, k1, kc⟩
      have hz0 : strSize (wr.cell? ⟨w.heap.size, 9, none⟩) = r1.size := by rw [cell_of_row _ _ _ _ _ _ G1.out]; rfl
      have Z0 := Lib.hid hz0
      clear hz0
      have K1 := Lib.hid k1
      have K2 := Lib.hid (kc.keep G2.out (by simp))
      have hb2 := Ch.below hb kc hb.size (by simp)
      have c9 : w2.cell? ⟨w.heap.size, 9, none⟩ = some (.string r1) := by rw [cell_of_row _ _ _ _ _ _ k1]; rfl
      have f9 := frozen_of_row _ _ 9 _ _ k1
      have hset : ∀ v : ByteArray, (w2.setCell ⟨w.heap.size, 9, none⟩ (.string v)).heap[w.heap.size]? = some (.cells (talA T S3 v (m : Int)) 46 (0, 0)) := fun v => by
        rw [heap_setCell_same _ _ _ _ _ _ K1.out]; rfl
      have hset2 : ∀ v : Value, (w2.setCell ⟨w.heap.size, 9, none⟩ v).heap[w.heap.size + 1]? = some (.cells talZ 46 (0, 0)) := fun v => by
        rw [heap_setCell_other _ _ _ _ (by show w.heap.size + 1 ≠ w.heap.size; omega)]; exact K2.out
      have hset3 : ∀ v : ByteArray, strSize ((w2.setCell ⟨w.heap.size, 9, none⟩ (.string v)).cell? ⟨w.heap.size, 9, none⟩) = v.size := fun v => by
        rw [cell_of_row _ _ _ _ _ _ (hset v)]; rfl
      have E1 := Lib.hid hset
      have E2 := Lib.hid hset2
      have E3 := Lib.hid hset3
      clear k1 kc hset hset2 hset3
      go_wp2
      go_roundw
      case rel => exact ⟨S3, _, by have := HZ2.out; omega, HOK, HLG.out.symm, E1.out _, E2.out _, hb2.setCell (Nat.le_refl _) _⟩
      case measure => rw [E3.out, HZ2.out, Z0.out]; omega

theorem talLen (T : Nat) (S : Sm.St) (r : ByteArray) (n : Int) (w : World) :
    Calls Try.prog 35 #[.agg (talA T S r n)] w fun e w' => e = .returned (.int .i64 n) ∧ Below w.heap.size w w' := by
  have e10 : (talA T S r n)[10]? = some (.int .i64 n) := rfl
  go_enter Try.func35, Try.ntmps35
  go_wp2
  go_ret
  exact ⟨rfl, (Below.refl _ _).alloc (Nat.le_refl _) _⟩
end Go.Proofs.Ytgdjfijkbemkeaa
