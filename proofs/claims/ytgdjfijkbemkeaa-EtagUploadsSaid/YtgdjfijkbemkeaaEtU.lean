/-
  Walks: an upload of parts, made and put into.
-/
import Derived.Test.YtgdjfijkbemkeaaEtN
import Derived.Test.YtgdjfijkbemkeaaEtE
import Derived.Test.YtgdjfijkbemkeaaShaG
namespace Go.Proofs.Ytgdjfijkbemkeaa
open Go.RowKit
set_option maxHeartbeats 2000000
set_option maxRecDepth 20000
set_option linter.unusedVariables false
attribute [local irreducible] dArr

theorem results_tmp_row_tmp {P : Program} {fn : Func} {p q u : Tmp} {ty : TypeId} (h : fn.results = #[.tmp q, .cell p ty, .tmp u]) (tmps : Array Value) (w : World) (g : Nat) (t : TypeId) (cs : Array Value) (fr : Nat × Nat) (d : TypeDesc)
    (hp : tmps.getD p undef = .pointer (some ⟨g, 0, none⟩)) (hg : w.heap[g]? = some (.cells cs t fr))
    (hu : P.underlying ty = some d) (hd : (match d with | .struct _ | .array _ _ => true | _ => false) = true) (hi : (P.info? ty).map (·.size) = some cs.size) :
    (results fn tmps).run P w = .ok (.tuple #[tmps.getD q undef, .agg cs, tmps.getD u undef]) w := by
  have hp' : tmps[p]?.getD undef = .pointer (some ⟨g, 0, none⟩) := by simpa using hp
  simp [results, h, hp', asAddr, run_loadVar_row w g t ty cs fr d hg hu hd hi]

/-- an upload in a world: its block g, its map's block m -/
def UpAt (U : Um.Up) (g m n : Nat) (w : World) : Prop :=
  w.heap[g]? = some (.cells #[.map (some m)] 117) ∧ ∃ D, w.ownsMap Try.prog 3 (plainElem (H := Unit) Try.prog 9) m n D ∧ Um.UpD D U
theorem keyedInt : Maps.Keyed Try.prog 3 := Maps.int_keyed Try.underlying3
theorem UpAt.below {U : Um.Up} {g m n B : Nat} {w w' : World} (h : UpAt U g m n w) (hb : Below B w w') (hg : g < B) (hm : m < B) : UpAt U g m n w' := by
  obtain ⟨h1, D, ⟨es, clock, h2, h3⟩, hD⟩ := h
  exact ⟨Below.keep hb h1 hg, D, ⟨es, clock, Below.keep hb h2 hm, h3⟩, hD⟩
theorem UpAt.lt {U : Um.Up} {g m n : Nat} {w : World} (h : UpAt U g m n w) : g < w.heap.size ∧ m < w.heap.size ∧ g ≠ m := by
  obtain ⟨h1, D, ⟨es, clock, h2, h3⟩, hD⟩ := h
  refine ⟨lt_of_block h1, lt_of_block h2, fun e => ?_⟩
  subst e
  rw [h1] at h2
  cases h2

theorem etagNew (w : World) :
    Calls Try.prog 48 #[] w fun e w' => ∃ g m, e = .returned (.pointer (some ⟨g, 0, none⟩)) ∧ UpAt Um.none0 g m 0 w' ∧ w.heap.size ≤ g ∧ w.heap.size ≤ m ∧ Below w.heap.size w w' := by
  have hmm := @run_makeMap Try.prog
  go_enter Try.func48, Try.ntmps48
  go_wp2_with fail
  go_ret
  refine ⟨_, _, rfl, ⟨by rw [← size_alloc w (.map #[] 0)]; exact heap_alloc_new _ _, _, ?_, Um.UpD.start⟩, ?_, Nat.le_refl _, ?_⟩
  · exact (World.ownsMap_made w _ _ _).alloc _
  · omega
  · exact ((Below.refl _ _).alloc (Nat.le_refl _) _).alloc (by rw [size_alloc]; omega) _

theorem doneNone (x : Int) (w : World) :
    Calls Try.prog 73 #[.int .i64 x] w fun e w' => e = .returned (.tuple #[.string ⟨#[]⟩, .agg (dArr []), .int .i64 x]) ∧ Below w.heap.size w w' := by
  obtain ⟨i0, hi0, hz0, hs0⟩ := d32
  go_enter Try.func73, Try.ntmps73
  go_wp2_with (first | refine kl_alloc rfl 50 rfl (dArr []) i0 hi0 _ hz0 rfl ?_ | refine kl_build0 rfl 50 rfl 32 5 Try.underlying50 (by kernel_rfl) i0 hi0 (dArr []) hz0 ?_ | refine kl_store_new rfl 50 _ _ rfl (dArr []) rfl rfl _ _ (by rw [d32s, dArr_size]) (by rw [dArr_size]) (dArr_one _) ?_)
  refine bodyPost_ret (results_tmp_row_tmp rfl _ _ _ _ _ _ _ rfl (heap_alloc_new _ _) Try.underlying50 rfl (by rw [d32s, dArr_size])) rfl ⟨rfl, (Below.refl _ _).alloc (Nat.le_refl _) _⟩

theorem wf64 (x : Int) (h0 : -9223372036854775808 ≤ x) (h1 : x ≤ 9223372036854775807) : (Lit.int .i64 x).wf = true := by
  have e0 : IntKind.i64.min = -9223372036854775808 := by decide
  have e1 : IntKind.i64.max = 9223372036854775807 := by decide
  unfold Lit.wf
  simp only [e0, e1, Bool.and_eq_true, decide_eq_true_eq]
  omega
theorem Ch.ofGrown {w w' : World} {m : Nat} (h : w.grownBy w' (some m)) : Ch w w' [m] :=
  ⟨h.os, h.tape, h.output, h.size, fun i hi hn => h.block i hi (fun e => hn (by simp at e; simp [e]))⟩
theorem putE_cases {n : Int} {s : ByteArray} {l : List UInt8} (hll : l.length = s.size) (hE : ¬ Um.putE n l = 0) :
    n < 1 ∨ (1 ≤ n ∧ 64 < n) ∨ (1 ≤ n ∧ n ≤ 64 ∧ 16 < s.size) ∨ (1 ≤ n ∧ n ≤ 64 ∧ s.size = 0) := by
  rcases Int.lt_or_le n 1 with h | h
  · exact .inl h
  · rcases Int.lt_or_le 64 n with h2 | h2
    · exact .inr (.inl ⟨h, h2⟩)
    · rcases Nat.lt_or_ge 16 s.size with h3 | h3
      · exact .inr (.inr (.inl ⟨h, h2, h3⟩))
      · refine .inr (.inr (.inr ⟨h, h2, ?_⟩))
        rcases Nat.eq_zero_or_pos s.size with h4 | h4
        · exact h4
        · exact absurd (by unfold Um.putE; rw [if_neg (by omega), if_neg (by omega), if_neg (by intro e; rw [e] at hll; simp at hll; omega)]) hE

theorem etagPut (U : Um.Up) (hU : Um.Good U) (g m k : Nat) (hk : k < 1000000) (n : Int) (hn0 : -9223372036854775808 ≤ n) (hn1 : n ≤ 9223372036854775807) (s : ByteArray) (hs : s.size ≤ 1000000) (w : World) (h : UpAt U g m k w) :
    Calls Try.prog 49 #[.pointer (some ⟨g, 0, none⟩), .int .i64 n, .string s] w fun e w' =>
      e = .returned (.tuple #[.agg (dArr (Um.putD n s.data.toList)), .int .i64 (Um.putE n s.data.toList : Nat)]) ∧ UpAt (Um.putU U n s.data.toList) g m (k + 1) w' ∧ Ch w w' [m] := by
  obtain ⟨i0, hi0, hz0, hs0⟩ := d32
  obtain ⟨hg, hm, hgm⟩ := h.lt
  obtain ⟨l, hl⟩ : ∃ l, l = s.data.toList := ⟨_, rfl⟩
  have hsl : s = ⟨l.toArray⟩ := by rw [hl]
  have hll : l.length = s.size := by rw [hl]; rfl
  rw [← hl]
  have hup : ∀ w', Ch w w' [] → UpAt U g m (k + 1) w' := fun w' hc => by
    obtain ⟨h1, D, h2, hD⟩ := h
    obtain ⟨es, clock, hb, h3⟩ := h2.mono (Nat.le_succ k)
    exact ⟨hc.keep h1 (by simp), D, ⟨es, clock, hc.keep hb (by simp), h3⟩, hD⟩
  have hwm : ∀ w', Ch w w' [] → Ch w w' [m] := fun w' hc => hc.mono (fun _ h => by cases h)
  by_cases hE : Um.putE n l = 0
  · obtain ⟨g1, g2, g3, g4⟩ := Um.putE_ok hE
    obtain ⟨D, hD⟩ : ∃ D, D = Sm.digest l := ⟨_, rfl⟩
    have e1 : Um.putD n l = D := by unfold Um.putD; rw [if_pos hE, hD]
    have e2 : Um.putU U n l = Um.put U n.toNat l := by unfold Um.putU; rw [if_pos hE]
    rw [e1, e2, hE]
    obtain ⟨j, rfl⟩ : ∃ j : Nat, n = j := ⟨n.toNat, by omega⟩
    rw [Int.toNat_natCast]
    have hs1 : ¬ s.size = 0 := by intro h0; exact g4 (List.length_eq_zero_iff.1 (by omega))
    have hne : s.toList.isEmpty = false := by rw [ByteArray.toList_eq, ← hl]; simpa using g4
    have hs16 : s.size ≤ 16 := by omega
    have hof := fun b c w t fr h => ofOne b c l (by omega) w t fr h
    rw [← hD, ← hsl] at hof
    obtain ⟨hg1, D0, hown, hDU⟩ := h
    have hpl : plainElem (H := Unit) Try.prog 9 (.string s) = some (.lit (.string l), []) := by
      rw [hl]; exact plainElem_string Try.underlying9 (by unfold maxLen; omega)
    have hDU2 := hDU.put (n := j) (by omega) (by omega) g4
    have hown0 := hown.alloc (.cells (dArr []) 50)
    have hb0 := blk_old w (.cells (dArr []) 50) hg1
    have hnw := heap_alloc_new w (.cells (dArr []) 50)
    have hc0 : Ch w (w.alloc (.cells (dArr []) 50)) [m] := (Ch.refl w _).alloc _
    have hz := size_alloc w (.cells (dArr []) 50)
    have hcell : w.cell? ⟨g, 0, none⟩ = some (.map (some m)) := by rw [cell_of_row _ _ _ _ _ _ hg1]; rfl
    have hkey : keyOf Try.prog 3 (.int .i64 (j : Int)) = some (.int .i64 (j : Int)) := Maps.keyOf_int_mk Try.underlying3 (wf64 _ (by omega) (by omega))
    have Hhof := Lib.hid hof
    have HhD := Lib.hid hD
    have Hhll := Lib.hid hll
    have Hhsl := Lib.hid hsl
    have Hhl := Lib.hid hl
    have HhDU := Lib.hid hDU
    have HhDU2 := Lib.hid hDU2
    have Hg4 := Lib.hid g4
    have Hhnw := Lib.hid hnw
    have Hhc0 := Lib.hid hc0
    have Hhz := Lib.hid hz
    clear hof hD hll hsl hl hDU hDU2 g4 hnw hc0 hz
    clear hown hg1 hup hwm
    go_enter Try.func49, Try.ntmps49
    go_wp2_with (first | refine kl_alloc rfl 50 rfl (dArr []) i0 hi0 _ hz0 rfl ?_ | (at_mapUpdate; refine wpList_mapUpdate_own _ rfl _ _ _ 115 rfl 3 9 keyedInt Try.underlying115 _ m k D0 rfl hown0 (by unfold maxLen; omega) _ _ (.int .i64 (j : Int)) rfl rfl hkey _ [] hpl ?_; intro w1 hown1 hgrow1))
    have hc1 : Ch w w1 [m] := Hhc0.out.trans (Ch.ofGrown hgrow1)
    have hn1 : w1.heap[w.heap.size]? = some (.cells (dArr []) 50) := (Ch.ofGrown hgrow1).keep Hhnw.out (by simp; omega)
    have hg2 : w1.heap[g]? = some (.cells #[.map (some m)] 117) := (Ch.ofGrown hgrow1).keep hb0 (by simp; exact hgm)
    have hs1' := hc1.size
    have hl1 := lt_of_block hn1
    refine (Hhof.out _ 1 _ _ _ (heap_alloc_new _ _)).mono ?_
    rintro e w4 ⟨rfl, hb4⟩
    rw [size_alloc] at hb4
    have hb5 : Below w1.heap.size w1 w4 := ((Below.refl _ w1).alloc (Nat.le_refl _) _).trans (hb4.mono (by omega))
    have hm1 := hown1.lt
    have hn4 := Below.keep hb5 hn1 hl1
    have hg4 := Below.keep hb5 hg2 (lt_of_block hg2)
    obtain ⟨es, clock, hmb, hrest⟩ := hown1
    have hm4 := Below.keep hb5 hmb (lt_of_block hmb)
    have hc4 : Ch w w4 [m] := hc1.trans (Ch.ofBelow hb5 _)
    have HRES := setRow_heap w4 w.heap.size _ (dArr D) _ _ hn4
    have hcr := ch_setRow w4 w.heap.size (dArr D)
    have hg5 := hcr.keep hg4 (by simp; omega)
    have hm5 := hcr.keep hm4 (by simp; omega)
    have hc5 : Ch w (w4.setRow w.heap.size (dArr D)) [m] := by
      refine ⟨hcr.os.trans hc4.os, hcr.tape.trans hc4.tape, hcr.output.trans hc4.output, Nat.le_trans hc4.size hcr.size, fun i hi hn => ?_⟩
      exact (hcr.block i (by have := hc4.size; omega) (by simp; omega)).trans (hc4.block i hi hn)
    have K3 := Lib.hid hn4
    have HRES' := Lib.hid HRES
    have HC := Lib.hid hc5
    have HG := Lib.hid hg5
    have HM := Lib.hid hm5
    have HR := Lib.hid hrest
    clear hc4 hc5 hg5 hm5 hm4 hg4 hn4 hb4 hb5 HRES hcr hc1 hn1 hg2 hs1' hm1 hmb hrest hgrow1
    go_wp2_with (refine wpList_store_row rfl 50 _ _ rfl w.heap.size (dArr D) rfl rfl _ _ K3.out (by rw [d32s, dArr_size]) (by rw [dArr_size, dArr_size]) (dArr_one _) ?_)
    refine bodyPost_ret (results_row_tmp rfl _ _ _ _ _ _ _ rfl HRES'.out Try.underlying50 rfl (by rw [d32s, dArr_size])) rfl ⟨rfl, ⟨HG.out, _, ⟨es, clock, HM.out, HR.out⟩, HhDU2.out⟩, HC.out⟩
  · have e1 : Um.putD n l = [] := by unfold Um.putD; rw [if_neg hE]
    have e2 : Um.putU U n l = U := by unfold Um.putU; rw [if_neg hE]
    rw [e1, e2]
    have hcase : n < 1 ∨ (1 ≤ n ∧ 64 < n) ∨ (1 ≤ n ∧ n ≤ 64 ∧ 16 < s.size) ∨ (1 ≤ n ∧ n ≤ 64 ∧ s.size = 0) := putE_cases hll hE
    obtain ⟨E, hEE⟩ : ∃ E, E = Um.putE n l := ⟨_, rfl⟩
    rw [← hEE]
    have hE1 : n < 1 → E = 1 := fun h => by rw [hEE]; unfold Um.putE; rw [if_pos (by omega)]
    have hE2 : 64 < n → E = 1 := fun h => by rw [hEE]; unfold Um.putE; rw [if_pos (by omega)]
    have hE3 : 1 ≤ n → n ≤ 64 → 16 < s.size → E = 4 := fun h h' h3 => by rw [hEE]; unfold Um.putE; rw [if_neg (by omega), if_pos (by omega)]
    have hE4 : 1 ≤ n → n ≤ 64 → s.size = 0 → E = 3 := fun h h' h3 => by rw [hEE]; unfold Um.putE; rw [if_neg (by omega), if_neg (by omega), if_pos (List.length_eq_zero_iff.1 (by omega))]
    have hne : s.size = 0 → s.toList.isEmpty = true := fun h0 => by rw [ByteArray.toList_eq, ← hl, List.length_eq_zero_iff.1 (show l.length = 0 by omega)]; rfl
    have hc0 : Ch w (w.alloc (.cells (dArr []) 50)) [] := (Ch.refl w _).alloc _
    have HUP := Lib.hid (hup _ hc0)
    have HWM := Lib.hid (hwm _ hc0)
    clear hc0 hup hwm hl hsl hll hEE e1 e2 hE h
    rcases hcase with h1 | ⟨h1, h2⟩ | ⟨h1, h2, h3⟩ | ⟨h1, h2, h3⟩
    · obtain rfl := hE1 h1
      clear hE1 hE2 hE3 hE4 hne
      go_enter Try.func49, Try.ntmps49
      go_wp2_with (first | refine kl_alloc rfl 50 rfl (dArr []) i0 hi0 _ hz0 rfl ?_ | refine kl_build0 rfl 50 rfl 32 5 Try.underlying50 (by kernel_rfl) i0 hi0 (dArr []) hz0 ?_ | refine kl_store_new rfl 50 _ _ rfl (dArr []) rfl rfl _ _ (by rw [d32s, dArr_size]) (by rw [dArr_size]) (dArr_one _) ?_)
      refine bodyPost_ret (results_row_tmp rfl _ _ _ _ _ _ _ rfl (heap_alloc_new _ _) Try.underlying50 rfl (by rw [d32s, dArr_size])) rfl ⟨rfl, HUP.out, HWM.out⟩
    · obtain rfl := hE2 h2
      clear hE1 hE2 hE3 hE4 hne
      go_enter Try.func49, Try.ntmps49
      go_wp2_with (first | refine kl_alloc rfl 50 rfl (dArr []) i0 hi0 _ hz0 rfl ?_ | refine kl_build0 rfl 50 rfl 32 5 Try.underlying50 (by kernel_rfl) i0 hi0 (dArr []) hz0 ?_ | refine kl_store_new rfl 50 _ _ rfl (dArr []) rfl rfl _ _ (by rw [d32s, dArr_size]) (by rw [dArr_size]) (dArr_one _) ?_)
      refine bodyPost_ret (results_row_tmp rfl _ _ _ _ _ _ _ rfl (heap_alloc_new _ _) Try.underlying50 rfl (by rw [d32s, dArr_size])) rfl ⟨rfl, HUP.out, HWM.out⟩
    · obtain rfl := hE3 h1 h2 h3
      clear hE1 hE2 hE3 hE4 hne
      go_enter Try.func49, Try.ntmps49
      go_wp2_with (first | refine kl_alloc rfl 50 rfl (dArr []) i0 hi0 _ hz0 rfl ?_ | refine kl_build0 rfl 50 rfl 32 5 Try.underlying50 (by kernel_rfl) i0 hi0 (dArr []) hz0 ?_ | refine kl_store_new rfl 50 _ _ rfl (dArr []) rfl rfl _ _ (by rw [d32s, dArr_size]) (by rw [dArr_size]) (dArr_one _) ?_)
      refine bodyPost_ret (results_row_tmp rfl _ _ _ _ _ _ _ rfl (heap_alloc_new _ _) Try.underlying50 rfl (by rw [d32s, dArr_size])) rfl ⟨rfl, HUP.out, HWM.out⟩
    · obtain rfl := hE4 h1 h2 h3
      have hne' := hne h3
      clear hE1 hE2 hE3 hE4 hne
      go_enter Try.func49, Try.ntmps49
      go_wp2_with (first | refine kl_alloc rfl 50 rfl (dArr []) i0 hi0 _ hz0 rfl ?_ | refine kl_build0 rfl 50 rfl 32 5 Try.underlying50 (by kernel_rfl) i0 hi0 (dArr []) hz0 ?_ | refine kl_store_new rfl 50 _ _ rfl (dArr []) rfl rfl _ _ (by rw [d32s, dArr_size]) (by rw [dArr_size]) (dArr_one _) ?_)
      refine bodyPost_ret (results_row_tmp rfl _ _ _ _ _ _ _ rfl (heap_alloc_new _ _) Try.underlying50 rfl (by rw [d32s, dArr_size])) rfl ⟨rfl, HUP.out, HWM.out⟩
end Go.Proofs.Ytgdjfijkbemkeaa
