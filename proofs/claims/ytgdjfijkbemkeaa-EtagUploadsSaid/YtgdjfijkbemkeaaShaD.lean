/-
  Walk: Sum.
-/
import Derived.Test.YtgdjfijkbemkeaaShaA
import Derived.Test.YtgdjfijkbemkeaaQt
import Derived.Lib.LazyBuf
import Derived.Deep.MidRow
import Derived.OwnWalk
namespace Go.Proofs.Ytgdjfijkbemkeaa
open Go.RowKit
set_option maxHeartbeats 1000000
set_option maxRecDepth 20000
set_option linter.unusedVariables false

theorem kl_copy_string {P : Program} {w : World} {ops : Array Oper} {rest : List Oper} {o : Oper} {a : Act} {Q : Exit → Act → World → Prop} (hgd : o.guard = none) (d x : Operand) (dT sT : TypeId)
    (ho : o.op = .call { callee := .builtin .copy, args := #[d, x], argTypes := #[dT, sT] }) (elem : TypeId) (hu : P.underlying dT = some (.slice elem)) (hsz : (P.info? elem).map (·.size) = some 1)
    (b off dLen dCap : Nat) (hd : a.eval d = .slice (some ⟨b, off, none⟩) dLen dCap) (t : ByteArray) (hx : a.eval x = .string t) (hle : t.size ≤ dLen)
    (cur : Array Value) (ty : TypeId) (hg : w.heap[b]? = some (.cells cur ty (0, 0))) (hfit : off + t.size ≤ cur.size)
    (h : wpList P ops Q rest (a.put o.dst (goInt t.size)) (w.setCells b off (t.data.toList.map fun x => Value.int .u8 (x.toNat : Int)))) : wpList P ops Q (o :: rest) a w := by
  refine wpList_plain hgd fun K hK => ?_
  have hz : ∀ w, (Go.sizeOf elem).run P w = .ok 1 w := fun w => by
    cases hq : P.info? elem with
    | none => simp [hq] at hsz
    | some i =>
      have hs : i.size = 1 := by simpa [hq] using hsz
      simp [Go.sizeOf, typeInfo, hq, hs]
  have hrun := run_copy_string (P := P) w dT sT o.type elem b off dLen dCap t hu hz hle
    (fun j hj => by rw [cell_of_row _ _ _ _ _ _ hg, Array.getElem?_eq_getElem (by omega)]; rfl) (fun j _ => frozen_of_row _ _ _ _ _ hg)
  unfold Oper.wp
  simp [execOp, ho, resolve, invoke, builtin, hd, hx, hrun, Result.andThen]
  exact hK _ _ h

/-- a digest's cells: the first bytes, and noughts -/
def dArr (l : List UInt8) : Array Value := Array.ofFn (n := 32) fun i => .int .u8 ((l.getD i.val 0).toNat : Int)
theorem dArr_size (l : List UInt8) : (dArr l).size = 32 := by simp [dArr]
theorem dArr_get (l : List UInt8) (i : Nat) (hi : i < 32) : (dArr l)[i]? = some (.int .u8 ((l.getD i 0).toNat : Int)) := by
  simp only [dArr, Array.getElem?_ofFn, hi, dif_pos]
theorem dArr_put (l : List UInt8) (x : UInt8) (hl : l.length < 32) : (dArr l).setIfInBounds l.length (.int .u8 (x.toNat : Int)) = dArr (l ++ [x]) := by
  apply Array.ext_getElem?
  intro i
  rw [Array.getElem?_setIfInBounds]
  by_cases h : l.length = i
  · subst h
    rw [if_pos rfl, dArr_size, if_pos hl, dArr_get _ _ hl]
    simp [List.getD_eq_getElem?_getD]
  · rw [if_neg h]
    by_cases hi : i < 32
    · rw [dArr_get _ _ hi, dArr_get _ _ hi]
      have : (l ++ [x]).getD i 0 = l.getD i 0 := by
        simp only [List.getD_eq_getElem?_getD]
        by_cases hlt : i < l.length
        · rw [List.getElem?_append_left hlt]
        · rw [List.getElem?_eq_none (by simp; omega), List.getElem?_eq_none (by omega)]
      rw [this]
    · rw [Array.getElem?_eq_none (by rw [dArr_size]; omega), Array.getElem?_eq_none (by rw [dArr_size]; omega)]
theorem dArr_nil : dArr [] = Array.replicate 32 (.int .u8 0) := by
  apply Array.ext_getElem?
  intro i
  by_cases hi : i < 32
  · rw [dArr_get _ _ hi]; simp [hi]
  · rw [Array.getElem?_eq_none (by rw [dArr_size]; omega), Array.getElem?_eq_none (by simp; omega)]
theorem dArr_one (l : List UInt8) : (dArr l).all (·.oneCell') = true := by
  rw [Array.all_eq_true_iff_forall_mem]; intro x hx; simp [dArr] at hx; obtain ⟨i, rfl⟩ := hx; rfl
/-- bytes laid behind what is there -/
theorem dArr_puts (b : Nat) (t : TypeId) : ∀ (vs l : List UInt8) (w : World), l.length + vs.length ≤ 32 → w.heap[b]? = some (.cells (dArr l) t (0, 0)) →
    (w.setCells b l.length (vs.map fun x => Value.int .u8 (x.toNat : Int))).heap[b]? = some (.cells (dArr (l ++ vs)) t (0, 0))
  | [], l, w, _, h => by rw [List.append_nil]; exact h
  | v :: vs, l, w, hl, h => by
    rw [List.length_cons] at hl
    have ih := dArr_puts b t vs (l ++ [v]) (w.setCell ⟨b, l.length, none⟩ (.int .u8 (v.toNat : Int))) (by simp; omega) (by
      rw [heap_setCell_same _ _ _ _ _ _ h, dArr_put _ _ (by omega)])
    rw [List.length_append, List.append_assoc] at ih
    exact ih

theorem info_d32 : (Try.prog.info? 50).map (fun i => (i.zero, i.size)) = some (some (.agg (Array.replicate 32 (.int .u8 0))), 32) := by kernel_rfl
theorem d32 : ∃ i, Try.prog.info? 50 = some i ∧ i.zero = some (.agg (dArr [])) ∧ i.size = 32 := by
  have h := info_d32
  cases hi : Try.prog.info? 50 with
  | none => rw [hi] at h; cases h
  | some i =>
    rw [hi] at h
    simp only [Option.map_some, Option.some.injEq, Prod.mk.injEq] at h
    exact ⟨i, rfl, by rw [h.1, dArr_nil], h.2⟩
theorem d32s : (Try.prog.info? 50).map (·.size) = some 32 := by kernel_rfl

theorem setCells_other (b k : Nat) (hk : k ≠ b) : ∀ (vs : List Value) (o : Nat) (w : World), (w.setCells b o vs).heap[k]? = w.heap[k]?
  | [], _, _ => rfl
  | v :: vs, o, w => by
    have h := setCells_other b k hk vs (o + 1) (w.setCell ⟨b, o, none⟩ v)
    exact h.trans (heap_setCell_other _ _ _ _ hk)

namespace Sm
/-- what is laid behind a text -/
def padB (l : List UInt8) : List UInt8 := [128] ++ (List.replicate ((119 - l.length % 64) % 64) 0 ++ beput (8 * l.length) 8)
def endOf (l : List UInt8) : St := stOf (l ++ padB l)
def digTo (s : St) (k : Nat) : List UInt8 := (List.range k).flatMap fun i => beput (s.get i) 4
def digest (l : List UInt8) : List UInt8 := digTo (endOf l) 8
theorem digTo_succ (s : St) (k : Nat) : digTo s (k + 1) = digTo s k ++ beput (s.get k) 4 := by
  unfold digTo; rw [List.range_succ, List.flatMap_append]; simp
theorem digTo_length (s : St) (k : Nat) : (digTo s k).length = 4 * k := by
  induction k with
  | zero => rfl
  | succ k ih => rw [digTo_succ, List.length_append, ih, beput_length]; omega
end Sm

theorem repeatL0 (n : Nat) : Lib.repeatL [(0 : UInt8)] n = List.replicate n 0 := by
  induction n with
  | zero => rfl
  | succ n ih => simp [Lib.repeatL, ih, List.replicate_succ]

theorem run_index_s (S : Sm.St) (k : Nat) (hk : k < 8) (w : World) : (Instr.index 44 (.agg (stA S)) (.int .i64 (k : Int))).run Try.prog w = .ok (.int .u32 ((S.get k : Nat) : Int)) w := by
  have h3 : (Try.prog.info? 22).map (·.size) = some 1 := by kernel_rfl
  have hu := Try.underlying22
  cases hi : Try.prog.info? 22 with
  | none => rw [hi] at h3; cases h3
  | some i =>
    rw [hi] at h3
    simp only [Option.map_some, Option.some.injEq] at h3
    have hg := stA_get S k hk
    simp only [Instr.index, asIntOf, Sem.run_bind, Sem.run_pure, Result.andThen_ok, run_underlying Try.underlying44, sizeOf, typeInfo]
    rw [if_pos ⟨by omega, by omega⟩]
    simp [part, isAgg, run_underlying hu, h3, typeInfo, hi, sizeOf, hg]
theorem slice_d32 (b j : Nat) (hj : j < 32) (w : World) : (Instr.sliceAt 50 (.pointer (some ⟨b, 0, none⟩)) (some (.int .i64 (j : Int))) none none).run Try.prog w = .ok (.slice (some ⟨b, j, none⟩) (32 - j) (32 - j)) w := by
  have ht : Try.prog.underlying 50 = some (.array (Try.prog.arrayLen 50) (Try.prog.elem 50)) := by kernel_rfl
  have hl : Try.prog.arrayLen 50 = 32 := by kernel_rfl
  have he : Try.prog.elem 50 = 5 := by kernel_rfl
  have hz : (Try.prog.info? 5).map (·.size) = some 1 := by kernel_rfl
  rw [run_sliceAt_array_l w _ _ ht .i64 (j : Int) (by omega) (by rw [hl]; omega), he, hl]
  cases hq : Try.prog.info? 5 with
  | none => simp [hq] at hz
  | some i =>
    have hs : i.size = 1 := by simpa [hq] using hz
    have hne : ¬ 32 = j := by omega
    simp [Go.sizeOf, typeInfo, hq, hs, slicedAt, hne, Addr.add_mid]
theorem tal_range (w : World) (b T : Nat) (S : Sm.St) (r : ByteArray) (n : Int) (t : TypeId) (h : w.heap[b]? = some (.cells (talA T S r n) t (0, 0))) : w.rangeAt b 1 (stA S).toList := by
  intro j v hv
  rw [cell_of_row _ _ _ _ _ _ h]
  have hj : j < 8 := (List.getElem?_eq_some_iff.1 hv).1
  rw [Array.getElem?_toList, stA_get S j hj] at hv
  rw [talA_get _ _ _ _ _ hj]; exact hv

theorem tally_sum (T : Nat) (l : List UInt8) (w : World) (hl : l.length ≤ 1099511627000)
    (h2 : w.heap[T]? = some (.cells (tabArr 64) 95 (0, 0))) :
    Calls Try.prog 34 #[.agg (talA T (Sm.stOf l) ⟨(Sm.restOf l).toArray⟩ (l.length : Nat))] w fun e w' =>
      e = .returned (.agg (dArr (Sm.digest l))) ∧ Below w.heap.size w w' := by
  obtain ⟨n, hn⟩ : ∃ n, n = l.length := ⟨_, rfl⟩
  rw [← hn] at hl ⊢
  obtain ⟨rest, hrest⟩ : ∃ r : ByteArray, r = ⟨(Sm.restOf l).toArray⟩ := ⟨_, rfl⟩
  rw [← hrest]
  obtain ⟨r, hr⟩ : ∃ r, r = n % 64 := ⟨_, rfl⟩
  have hrz : rest.size = r := by rw [hrest, hr, hn, ← Sm.restOf_length l]; rfl
  have hr64 : r < 64 := by omega
  have hp := put (8 * n) 8 (by omega)
  have hok : putOk (8 * n) 8 = true := by unfold putOk; exact decide_eq_true ⟨by decide, by decide, by show _ < 256 ^ 8; omega⟩
  have e1 : putS (8 * n) 8 = beput (8 * n) 8 := by unfold putS; rw [hok]; rfl
  rw [e1] at hp
  obtain ⟨long, hlong⟩ : ∃ x : ByteArray, x = ⟨(beput (8 * n) 8).toArray⟩ := ⟨_, rfl⟩
  rw [← hlong] at hp
  have hlz : long.size = 8 := by rw [hlong]; exact beput_length _ _
  obtain ⟨z, hz⟩ : ∃ z, z = (119 - r) % 64 := ⟨_, rfl⟩
  have e9 : ∀ S, (talA T S rest (n : Int))[9]? = some (.string rest) := fun _ => rfl
  have e10 : ∀ S, (talA T S rest (n : Int))[10]? = some (.int .i64 (n : Int)) := fun _ => rfl
  have hw8 : IntKind.i64.wrap (8 * (n : Int)) = ((8 * n : Nat) : Int) := by rw [IntKind.wrap_i64]; omega
  obtain ⟨n8, hn8⟩ : ∃ x, x = 8 * n := ⟨_, rfl⟩
  rw [← hn8] at hp hw8
  have hw9 : IntKind.u64.wrap (n8 : Int) = (n8 : Int) := by rw [IntKind.wrap_u64]; omega
  have hl8 : n8 ≤ 8796093016000 := by omega
  generalize putE (8 * n) 8 = pe at *
  have HP := Lib.hid hp
  obtain ⟨pd, hpd⟩ : ∃ x : ByteArray, x = ⟨#[128]⟩ ++ ⟨(List.replicate z (0 : UInt8)).toArray⟩ ++ long := ⟨_, rfl⟩
  have hpl : pd.data.toList = Sm.padB l := by
    rw [hpd, hlong, hz, hr, hn]
    simp [Sm.padB]
  have hpz : pd.size = 9 + z := by
    rw [hpd, ByteArray.size_append, ByteArray.size_append, hlz]
    have : (⟨(List.replicate z (0 : UInt8)).toArray⟩ : ByteArray).size = z := by simp [ByteArray.size]
    rw [this]; show 1 + z + 8 = _; omega
  have hadd := fun wx => add1 T l pd wx (by omega)
  rw [← hn, ← hrest, hpl] at hadd
  change ∀ wx, _ → Calls _ _ _ _ (fun e w' => e = .returned (.agg (talA T (Sm.endOf l) _ _)) ∧ _) at hadd
  have hdg : Sm.digest l = Sm.digTo (Sm.endOf l) 8 := rfl
  rw [hdg]
  have hSok : (Sm.endOf l).ok := Sm.stOf_ok _
  generalize Sm.endOf l = S2 at *
  generalize (⟨(Sm.restOf (l ++ Sm.padB l)).toArray⟩ : ByteArray) = r2 at *
  obtain ⟨m, hm⟩ : ∃ m : Int, m = ((n + pd.size : Nat) : Int) := ⟨_, rfl⟩
  rw [← hm] at hadd
  have HADD := Lib.hid hadd
  clear hm hadd hdg
  generalize Sm.stOf l = S at *
  have H2 := Lib.hid h2
  have hT := lt_of_block h2
  have HN := Lib.hid hn
  have HR := Lib.hid hr
  have HRS := Lib.hid hrest
  have HRZ := Lib.hid hrz
  have HL := Lib.hid hlong
  have HLZ := Lib.hid hlz
  have HZ := Lib.hid hz
  have HN8 := Lib.hid hn8
  clear h2 hn hr hrest hrz hlong hlz hz hn8 hok e1 hpl hpz hp
  obtain ⟨i0, hi0, hz0, hs0⟩ := d32
  go_enter Try.func34, Try.ntmps34
  go_wp2_with (refine kl_alloc rfl 50 rfl (dArr []) i0 hi0 _ hz0 rfl ?_)
  refine (HP.out _).mono ?_
  rintro e w1 ⟨rfl, hb1⟩
  have hz2 : ((w.alloc (.cells (talA T S rest (n : Int)) 46)).alloc (.cells (dArr []) 50)).heap.size = w.heap.size + 2 := by rw [size_alloc, size_alloc]
  have b1 := Below.keep hb1 (heap_alloc2_old w _ _) (by omega)
  have b2 := Below.keep hb1 (heap_alloc2_new w _ _) (by omega)
  have hbB : Below w.heap.size w w1 := (((Below.refl _ _).alloc (Nat.le_refl _) _).alloc (by rw [size_alloc]; omega) _).trans (hb1.mono (by omega))
  have hs1 : w.heap.size + 2 ≤ w1.heap.size := by have := hb1.size; omega
  have B1 := Lib.hid b1
  have B2 := Lib.hid b2
  have c9 : w1.cell? ⟨w.heap.size, 9, none⟩ = some (.string rest) := by rw [cell_of_row _ _ _ _ _ _ b1]; rfl
  clear hb1 hz2 b1 b2 e9 e10 hw8 hw9
  have hsz := HRZ.out
  have hlz := HLZ.out
  have i1 : IntKind.i64.wrap (127 - (r : Int)) = 127 - (r : Int) := by rw [IntKind.wrap_i64]; omega
  have i2 : IntKind.i64.wrap (127 - (r : Int) - 8) = 119 - (r : Int) := by rw [IntKind.wrap_i64]; omega
  have i3 : (119 - (r : Int)).tmod 64 = (z : Int) := by rw [Int.tmod_eq_emod_of_nonneg (by omega)]; have := HZ.out; omega
  go_wp2_with fail
  clear i1 i2 i3 hsz hlz c9
  have hrep : ∀ wx : World, Calls Try.prog 67 #[.string ⟨#[0]⟩, .int .i64 (z : Int)] wx fun e w' => e = .returned (.string ⟨(List.replicate z (0 : UInt8)).toArray⟩) ∧ Below wx.heap.size wx w' := fun wx => by
    have h := Try.strings_Repeat ⟨#[0]⟩ z wx (by have := HZ.out; omega) (by have := HZ.out; show 1 * z ≤ _; omega)
    rw [repeatL0] at h; exact h
  obtain ⟨rep, hrp⟩ : ∃ x : ByteArray, x = ⟨(List.replicate z (0 : UInt8)).toArray⟩ := ⟨_, rfl⟩
  rw [← hrp] at hrep
  have hrepz : rep.size = z := by rw [hrp]; simp [ByteArray.size]
  rw [← hrp] at hpd
  have HPD := Lib.hid hpd
  have HREP := Lib.hid hrep
  have HRP := Lib.hid hrp
  clear hrep hrp hpd
  have hz64 : z < 64 := by have := HZ.out; omega
  have hn1 : ¬ 9223372036854775807 < 1 + rep.size := by omega
  have hn2 : ¬ 9223372036854775807 < 1 + rep.size + long.size := by rw [HLZ.out, hrepz]; omega
  have HREPZ := Lib.hid hrepz
  clear hrepz
  go_wp2_with fail
  refine wp_region_qtail (fun w' => w'.heap[w.heap.size]? = some (.cells (talA T S rest (n : Int)) 46 (0, 0)) ∧ w'.heap[w.heap.size + 1]? = some (.cells (dArr []) 50 (0, 0)) ∧ Below w.heap.size w w') 7 (by kernel_rfl) (by kernel_rfl) ⟨B1.out, B2.out, hbB.drew⟩ ?_
  simp only [List.take_succ_cons, List.take_zero, List.drop_succ_cons, List.drop_zero]
  (refine wpQuiet_step (fun Kq hKq => ?_)
   refine qt_want rfl ?_
   apply Exists.intro
   refine ⟨fun _ hw => ?_, ?_⟩
   · (obtain ⟨k1, _, _⟩ := hw; exact qt_load_row 46 _ rfl w.heap.size rfl _ _ _ _ k1 Try.underlying46 rfl (by rw [info_tally]; rfl))
   go_simp
   refine hKq _ ?_
   clear hKq Kq)
  (refine wpQuiet_step (fun Kq hKq => ?_)
   refine qt_want rfl ?_
   apply Exists.intro
   refine ⟨fun _ hw => ?_, ?_⟩
   · (unfold Oper.quietAt; go_simp; try exact rfl)
   go_simp
   refine hKq _ ?_
   clear hKq Kq)
  (refine wpQuiet_step (fun Kq hKq => ?_)
   refine qt_called rfl (fun _ => by go_simp; first | exact ⟨rfl, rfl⟩ | exact rfl) ?_
   apply Exists.intro
   refine ⟨fun _ hw => ?_, ?_⟩
   · (refine (HREP.out _).mono ?_; rintro e w' ⟨rfl, kb⟩; obtain ⟨k1, k2, k3⟩ := hw; exact ⟨rfl, Below.keep kb k1 (lt_of_block k1), Below.keep kb k2 (lt_of_block k2), k3.trans (kb.mono k3.size)⟩)
   go_simp
   refine hKq _ ?_
   clear hKq Kq)
  (refine wpQuiet_step (fun Kq hKq => ?_)
   refine qt_want rfl ?_
   apply Exists.intro
   refine ⟨fun _ hw => ?_, ?_⟩
   · (unfold Oper.quietAt; go_simp; try exact rfl)
   go_simp
   refine hKq _ ?_
   clear hKq Kq)
  (refine wpQuiet_step (fun Kq hKq => ?_)
   refine qt_want rfl ?_
   apply Exists.intro
   refine ⟨fun _ hw => ?_, ?_⟩
   · (unfold Oper.quietAt; go_simp; try exact rfl)
   go_simp
   refine hKq _ ?_
   clear hKq Kq)
  (refine wpQuiet_step (fun Kq hKq => ?_)
   refine qt_want rfl ?_
   apply Exists.intro
   refine ⟨fun _ hw => ?_, ?_⟩
   · (unfold Oper.quietAt; go_simp; try exact rfl)
   go_simp
   refine hKq _ ?_
   clear hKq Kq)
  rw [← HPD.out]
  (refine wpQuiet_step (fun Kq hKq => ?_)
   refine qt_called rfl (fun _ => by go_simp; first | exact ⟨rfl, rfl⟩ | exact rfl) ?_
   apply Exists.intro
   refine ⟨fun _ hw => ?_, ?_⟩
   · (obtain ⟨k1, k2, k3⟩ := hw; refine (HADD.out _ (Below.keep k3 H2.out hT)).mono ?_; rintro e w' ⟨rfl, kb⟩; exact ⟨rfl, Below.keep kb k1 (lt_of_block k1), Below.keep kb k2 (lt_of_block k2), k3.trans (kb.mono k3.size)⟩)
   go_simp
   refine hKq _ ?_
   clear hKq Kq)
  refine wpQuiet_nil ?_
  intro w2 hw2
  obtain ⟨k1, k2, k3⟩ := hw2
  have hr1 := setRow_heap w2 w.heap.size _ (talA T S2 r2 m) _ _ k1
  have hr2 := (setRow_other w2 w.heap.size (w.heap.size + 1) (talA T S2 r2 m) (by omega)).trans k2
  have hr3 := below_setRow k3 (Nat.le_refl _) (talA T S2 r2 m)
  have K1 := Lib.hid k1
  have R1 := Lib.hid hr1
  have R2 := Lib.hid hr2
  have RG := Lib.hid (tal_range _ _ T S2 r2 m _ (blk_old _ (.cells (dArr []) 50) R1.out))
  clear k1 k2 k3 hr1 hr2 hn1 hn2
  go_wp2_with (first | refine wpList_store_row rfl 46 _ _ rfl w.heap.size (talA T S2 r2 m) rfl rfl _ _ K1.out (by rw [info_tally]; rfl) rfl (talA_one _ _ _ _) ?_ | refine kl_alloc rfl 50 rfl (dArr []) i0 hi0 _ hz0 rfl ?_ | refine wpList_load_mid rfl 44 _ rfl w.heap.size 1 rfl (stA S2).toList _ RG.out Try.underlying44 rfl (by rw [info_s8]; rfl) ?_)
  have hz3 : (w2.setRow w.heap.size (talA T S2 r2 m)).heap.size = w2.heap.size := size_setRow _ _ _
  have hgt : w.heap.size + 1 < w2.heap.size := by have := lt_of_block R2.out; omega
  have hd1 := heap_alloc_new (w2.setRow w.heap.size (talA T S2 r2 m)) (.cells (dArr []) 50)
  rw [hz3] at hd1
  have hd2 := blk_old _ (.cells (dArr []) 50) R2.out
  have hd3 := hr3.alloc (by rw [hz3]; omega) (.cells (dArr []) 50)
  obtain ⟨w3, hw3⟩ : ∃ x, x = (w2.setRow w.heap.size (talA T S2 r2 m)).alloc (.cells (dArr []) 50) := ⟨_, rfl⟩
  rw [← hw3] at hd1 hd2 hd3 ⊢
  obtain ⟨b, hb⟩ : ∃ x, x = w2.heap.size := ⟨_, rfl⟩
  rw [← hb] at hd1 hgt ⊢
  have D1 := Lib.hid hd1
  have D2 := Lib.hid hd2
  clear hw3 hb hd1 hd2 hz3 RG R1 R2 K1 hr3 B1 B2 hbB hs1 HREP HADD HP hi0 hz0 hs0 H2 HPD HRP HREPZ HL HRS
  go_loopw [36] (fun c wr => ∃ k : Nat, k ≤ 8 ∧ c = .int .i64 (k : Int) ∧ Hid (wr.heap[b]? = some (.cells (dArr (Sm.digTo S2 k)) 50 (0, 0))) ∧
      Hid (wr.heap[w.heap.size + 1]? = some (.cells (dArr []) 50 (0, 0))) ∧ Below w.heap.size w wr) (fun c _ => 8 - (intOf c).toNat)
  case atStart => exact ⟨0, by omega, rfl, D1.out, D2.out, hd3⟩
  case round =>
    obtain ⟨k, hk, rfl, G1, G2, hbw⟩ := hrel
    by_cases hlt : k < 8
    · have hidx := run_index_s S2 k hlt
      have hx := Sm.get_lt S2 hSok k
      have hp := put (S2.get k) 4 (by omega)
      have hok : putOk (S2.get k) 4 = true := by unfold putOk; exact decide_eq_true ⟨by decide, by decide, by show _ < 256 ^ 4; omega⟩
      have e1 : putS (S2.get k) 4 = beput (S2.get k) 4 := by unfold putS; rw [hok]; rfl
      rw [e1] at hp
      have hsucc := Sm.digTo_succ S2 k
      have hlen := Sm.digTo_length S2 k
      have hbl := beput_length (S2.get k) 4
      generalize beput (S2.get k) 4 = bs at *
      generalize putE (S2.get k) 4 = pe2 at *
      generalize S2.get k = x at *
      have hw64 : IntKind.u64.wrap (x : Int) = (x : Int) := by rw [IntKind.wrap_u64]; omega
      obtain ⟨sx, hsx⟩ : ∃ y : ByteArray, y = ⟨bs.toArray⟩ := ⟨_, rfl⟩
      rw [← hsx] at hp
      have hsz : sx.size = 4 := by rw [hsx]; exact hbl
      have hsl : sx.data.toList = bs := by rw [hsx]
      obtain ⟨j, hj⟩ : ∃ j, j = 4 * k := ⟨_, rfl⟩
      have hjw : IntKind.i64.wrap (4 * (k : Int)) = (j : Int) := by rw [IntKind.wrap_i64]; omega
      have hj28 : j ≤ 28 := by omega
      have HIDX := Lib.hid hidx
      have HP := Lib.hid hp
      have HSUC := Lib.hid hsucc
      have HLEN := Lib.hid hlen
      have HBL := Lib.hid hbl
      have HSZ := Lib.hid hsz
      have HSL := Lib.hid hsl
      have HJ := Lib.hid hj
      clear hp hok e1 hsucc hlen hbl hsx hsz hsl hj hidx
      have hidx := HIDX.out
      go_wp2_with fail
      refine (HP.out _).mono ?_
      rintro e w4 ⟨rfl, kb⟩
      have k1 := Below.keep kb G1.out (lt_of_block G1.out)
      have k2 := Below.keep kb G2.out (lt_of_block G2.out)
      have k3 := hbw.trans (kb.mono hbw.size)
      have K1 := Lib.hid k1
      have hset := dArr_puts b _ bs (Sm.digTo S2 k) w4 (by rw [HLEN.out, HBL.out]; omega) k1
      rw [HLEN.out, ← HJ.out, ← HSUC.out, ← HSL.out] at hset
      have hset2 : (w4.setCells b j (sx.data.toList.map fun x => Value.int .u8 (x.toNat : Int))).heap[w.heap.size + 1]? = some (.cells (dArr []) 50 (0, 0)) := by
        rw [setCells_other _ _ (by omega)]; exact k2
      have hset3 := below_setCells (b := b) (by omega) (sx.data.toList.map fun x => Value.int .u8 (x.toNat : Int)) j _ k3
      have E1 := Lib.hid hset
      have E2 := Lib.hid hset2
      clear k1 k2 hset hset2 hbw
      have hsl := slice_d32 b j (by omega) w4
      go_wp2_with (refine kl_copy_string rfl _ _ _ _ rfl 5 Try.underlying91 (by kernel_rfl) b j _ _ rfl sx rfl (by rw [HSZ.out]; omega) _ _ K1.out (by rw [HSZ.out, dArr_size]; omega) ?_)
      go_roundw
      case rel => exact ⟨k + 1, by omega, by go_num, E1.out, E2.out, hset3⟩
      case measure => simp [intOf]; omega
    · obtain rfl : k = 8 := by omega
      have HRES := setRow_heap wr (w.heap.size + 1) _ (dArr (Sm.digTo S2 8)) _ _ G2.out
      have HBR := below_setRow (g := w.heap.size + 1) hbw (by omega) (dArr (Sm.digTo S2 8))
      have HRES' := Lib.hid HRES
      clear HRES
      go_wp2_with (first | refine wpList_load_row rfl 50 _ rfl b rfl _ _ _ _ G1.out Try.underlying50 rfl (by rw [d32s, dArr_size]) ?_ | refine wpList_store_row rfl 50 _ _ rfl (w.heap.size + 1) (dArr (Sm.digTo S2 8)) rfl rfl _ _ G2.out (by rw [d32s, dArr_size]) (by rw [dArr_size, dArr_size]) (dArr_one _) ?_)
      refine bodyPost_ret (results_cell_row rfl _ _ _ _ _ _ _ rfl HRES'.out Try.underlying50 rfl (by rw [d32s, dArr_size])) rfl ⟨rfl, HBR⟩
end Go.Proofs.Ytgdjfijkbemkeaa
