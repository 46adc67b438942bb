/-
  Walk: block.
-/
import Derived.Test.YtgdjfijkbemkeaaShaY
namespace Go.Proofs.Ytgdjfijkbemkeaa
open Go.RowKit
set_option maxHeartbeats 1000000
set_option maxRecDepth 20000
set_option linter.unusedVariables false

/-- a row of 64 words, the first of them known -/
def wArr (l : List Nat) : Array Value := Array.ofFn (n := 64) fun i => .int .u32 ((l.getD i.val 0 : Nat) : Int)
theorem wArr_size (l : List Nat) : (wArr l).size = 64 := by simp [wArr]
theorem wArr_get (l : List Nat) (i : Nat) (hi : i < 64) : (wArr l)[i]? = some (.int .u32 ((l.getD i 0 : Nat) : Int)) := by
  simp only [wArr, Array.getElem?_ofFn, hi, dif_pos]
theorem wArr_put (l : List Nat) (x : Nat) (hl : l.length < 64) : (wArr l).setIfInBounds l.length (.int .u32 (x : Int)) = wArr (l ++ [x]) := by
  apply Array.ext_getElem?
  intro i
  rw [Array.getElem?_setIfInBounds]
  by_cases h : l.length = i
  · subst h
    rw [if_pos rfl, wArr_size, if_pos hl, wArr_get _ _ hl]
    simp [List.getD_eq_getElem?_getD]
  · rw [if_neg h]
    by_cases hi : i < 64
    · rw [wArr_get _ _ hi, wArr_get _ _ hi]
      have : (l ++ [x]).getD i 0 = l.getD i 0 := by
        simp only [List.getD_eq_getElem?_getD]
        by_cases hlt : i < l.length
        · rw [List.getElem?_append_left hlt]
        · rw [List.getElem?_eq_none (by simp; omega), List.getElem?_eq_none (by omega)]
      rw [this]
    · rw [Array.getElem?_eq_none (by rw [wArr_size]; omega), Array.getElem?_eq_none (by rw [wArr_size]; omega)]
theorem wArr_nil : wArr [] = Array.replicate 64 (.int .u32 0) := by
  apply Array.ext_getElem?
  intro i
  by_cases hi : i < 64
  · rw [wArr_get _ _ hi]; simp [hi]
  · rw [Array.getElem?_eq_none (by rw [wArr_size]; omega), Array.getElem?_eq_none (by simp; omega)]
theorem wArr_one (l : List Nat) : (wArr l).all (·.oneCell') = true := by
  rw [Array.all_eq_true_iff_forall_mem]; intro x hx; simp [wArr] at hx; obtain ⟨i, rfl⟩ := hx; rfl

theorem info_w64 : (Try.prog.info? 93).map (fun i => (i.zero, i.size)) = some (some (.agg (Array.replicate 64 (.int .u32 0))), 64) := by kernel_rfl
theorem w64 : ∃ i, Try.prog.info? 93 = some i ∧ i.zero = some (.agg (wArr [])) ∧ i.size = 64 := by
  have h := info_w64
  cases hi : Try.prog.info? 93 with
  | none => rw [hi] at h; cases h
  | some i =>
    rw [hi] at h
    simp only [Option.map_some, Option.some.injEq, Prod.mk.injEq] at h
    exact ⟨i, rfl, by rw [h.1, wArr_nil], h.2⟩
theorem w64s : (Try.prog.info? 93).map (·.size) = some 64 := by kernel_rfl

theorem sched_lt (b : List UInt8) (i : Nat) : ∀ x ∈ Sm.sched b i, x < 4294967296 := by
  induction i with
  | zero => intro x hx; rw [Sm.sched_zero] at hx; cases hx
  | succ i ih =>
    intro x hx
    rw [Sm.sched_succ, List.mem_append, List.mem_singleton] at hx
    rcases hx with hx | rfl
    · exact ih x hx
    · split
      · have h := beval_lt ((b.drop (4 * i)).take 4)
        have h2 : ((b.drop (4 * i)).take 4).length ≤ 4 := List.length_take_le _ _
        have h3 : 256 ^ ((b.drop (4 * i)).take 4).length ≤ 256 ^ 4 := Nat.pow_le_pow_right (by decide) h2
        show beval _ < _
        omega
      · exact Nat.mod_lt _ (by decide)
theorem sched_getD_lt (b : List UInt8) (i j : Nat) : (Sm.sched b i).getD j 0 < 4294967296 := by
  rw [List.getD_eq_getElem?_getD]
  cases h : (Sm.sched b i)[j]? with
  | none => simp
  | some x => exact sched_lt b i x (List.mem_of_getElem? h)

theorem run_index_w (l : List Nat) (k : Nat) (hk : k < 64) (w : World) : (Instr.index 93 (.agg (wArr l)) (.int .i64 (k : Int))).run Try.prog w = .ok (.int .u32 ((l.getD k 0 : Nat) : Int)) w := by
  have h3 : (Try.prog.info? 22).map (·.size) = some 1 := by kernel_rfl
  have hu := Try.underlying22
  cases hi : Try.prog.info? 22 with
  | none => rw [hi] at h3; cases h3
  | some i =>
    rw [hi] at h3
    simp only [Option.map_some, Option.some.injEq] at h3
    have hg := wArr_get l k hk
    simp only [Instr.index, asIntOf, Sem.run_bind, Sem.run_pure, Result.andThen_ok, run_underlying Try.underlying93, sizeOf, typeInfo]
    rw [if_pos ⟨by omega, by omega⟩]
    simp [part, isAgg, run_underlying hu, h3, typeInfo, hi, sizeOf, hg]

theorem st_cells {w : World} {b : Nat} {a b1 c1 d e f g h : Nat} {t : TypeId} {fz : Nat × Nat} (H : w.heap[b]? = some (.cells (stA ⟨a, b1, c1, d, e, f, g, h⟩) t fz)) :
    w.cell? ⟨b, 0, none⟩ = some (.int .u32 (a : Int)) ∧ w.cell? ⟨b, 1, none⟩ = some (.int .u32 (b1 : Int)) ∧ w.cell? ⟨b, 2, none⟩ = some (.int .u32 (c1 : Int)) ∧ w.cell? ⟨b, 3, none⟩ = some (.int .u32 (d : Int)) ∧
    w.cell? ⟨b, 4, none⟩ = some (.int .u32 (e : Int)) ∧ w.cell? ⟨b, 5, none⟩ = some (.int .u32 (f : Int)) ∧ w.cell? ⟨b, 6, none⟩ = some (.int .u32 (g : Int)) ∧ w.cell? ⟨b, 7, none⟩ = some (.int .u32 (h : Int)) := by
  have cs : ∀ i, w.cell? ⟨b, i, none⟩ = (stA ⟨a, b1, c1, d, e, f, g, h⟩)[i]? := fun i => cell_of_row _ _ _ _ _ _ H
  exact ⟨cs 0, cs 1, cs 2, cs 3, cs 4, cs 5, cs 6, cs 7⟩

theorem bnot32 (e : Nat) (he : e < 4294967296) : bits .xor .u32 (if IntKind.u32.signed = true then -1 else IntKind.u32.max) (e : Int) = ((4294967295 - e : Nat) : Int) := by
  have h1 := Sm.bxor32 4294967295 e (by decide) he
  rw [show (if IntKind.u32.signed = true then (-1 : Int) else IntKind.u32.max) = ((4294967295 : Nat) : Int) by decide, h1]
  congr 1
  apply Nat.eq_of_testBit_eq
  intro i
  rw [Nat.testBit_xor, Sm.not_bit e i he]
  have h2 : Nat.testBit 4294967295 i = decide (i < 32) := by
    have := Nat.testBit_two_pow_sub_one 32 i
    exact this
  rw [h2]
  by_cases hi : i < 32
  · rw [decide_eq_true hi]; cases e.testBit i <;> rfl
  · rw [decide_eq_false hi, Nat.testBit_lt_two_pow (x := e) (i := i) (Nat.lt_of_lt_of_le he (by have := Nat.pow_le_pow_right (n := 2) (by decide) (show 32 ≤ i by omega); omega))]; rfl

theorem stA_one (s : Sm.St) : (stA s).all (·.oneCell') = true := by simp [stA, Value.oneCell']
theorem info_s8 : (Try.prog.info? 44).map (·.size) = some 8 := by kernel_rfl

theorem stA_get (s : Sm.St) (i : Nat) (hi : i < 8) : (stA s)[i]? = some (.int .u32 ((s.get i : Nat) : Int)) := by
  match i, hi with
  | 0, _ => rfl
  | 1, _ => rfl
  | 2, _ => rfl
  | 3, _ => rfl
  | 4, _ => rfl
  | 5, _ => rfl
  | 6, _ => rfl
  | 7, _ => rfl
theorem talA_get (T : Nat) (s : Sm.St) (r : ByteArray) (n : Int) (i : Nat) (hi : i < 8) : (talA T s r n)[1 + i]? = some (.int .u32 ((s.get i : Nat) : Int)) := by
  match i, hi with
  | 0, _ => rfl
  | 1, _ => rfl
  | 2, _ => rfl
  | 3, _ => rfl
  | 4, _ => rfl
  | 5, _ => rfl
  | 6, _ => rfl
  | 7, _ => rfl
theorem talA_set (T : Nat) (f : Nat → Nat) (r : ByteArray) (n : Int) (k y : Nat) (hk : k < 8) : (talA T (Sm.ofGet f) r n).setIfInBounds (1 + k) (.int .u32 (y : Int)) = talA T (Sm.ofGet fun i => if i = k then y else f i) r n := by
  match k, hk with
  | 0, _ => rfl
  | 1, _ => rfl
  | 2, _ => rfl
  | 3, _ => rfl
  | 4, _ => rfl
  | 5, _ => rfl
  | 6, _ => rfl
  | 7, _ => rfl
theorem talA_put (T : Nat) (S R : Sm.St) (r : ByteArray) (n : Int) (k : Nat) (hk : k < 8) : (talA T (Sm.mix S R k) r n).setIfInBounds (1 + k) (.int .u32 (((S.get k + R.get k) % 4294967296 : Nat) : Int)) = talA T (Sm.mix S R (k + 1)) r n := by
  rw [Sm.mix, talA_set _ _ _ _ _ _ hk]
  congr 1
  apply Sm.ofGet_congr
  intro i _
  unfold Sm.mixF
  by_cases h : i = k
  · subst h; rw [if_pos rfl, if_pos (by omega)]
  · rw [if_neg h]
    by_cases h2 : i < k
    · rw [if_pos h2, if_pos (by omega)]
    · rw [if_neg h2, if_neg (by omega)]

theorem kT_lt (k : Nat) : Sm.kT.getD k 0 < 4294967296 := by
  have h : ∀ x ∈ Sm.kT, x < 4294967296 := by rw [Sm.kT_eq]; decide
  rw [List.getD_eq_getElem?_getD]
  cases hx : Sm.kT[k]? with
  | none => simp
  | some x => exact h x (List.mem_of_getElem? hx)

theorem block1 (t T : Nat) (S : Sm.St) (rest : ByteArray) (n : Int) (b : ByteArray) (hb : b.size = 64) (hS : S.ok) (htT : t ≠ T) (w : World)
    (h1 : w.heap[t]? = some (.cells (talA T S rest n) 46 (0, 0))) (h2 : w.heap[T]? = some (.cells (tabArr 64) 95 (0, 0))) :
    Calls Try.prog 60 #[.pointer (some ⟨t, 0, none⟩), .string b] w fun e w' => e = .returned (.tuple #[]) ∧
      w'.heap[t]? = some (.cells (talA T (S.add (Sm.rnds S Sm.kT (Sm.sched b.data.toList 64) 64)) rest n) 46 (0, 0)) ∧ Ch w w' [t] := by
  obtain ⟨i0, hi0, hz0, hs0⟩ := w64
  obtain ⟨R, hR0⟩ : ∃ R, R = Sm.rnds S Sm.kT (Sm.sched b.data.toList 64) 64 := ⟨_, rfl⟩
  rw [← hR0]
  have HR0 := Lib.hid hR0
  clear hR0
  have ht := lt_of_block h1
  have hTl := lt_of_block h2
  have H1 := Lib.hid h1
  have H2 := Lib.hid h2
  have HS := Lib.hid hS
  have HB := Lib.hid hb
  clear h1 h2 hS hb
  have hbz : b.size ≤ 64 := by have := HB.out; omega
  have hbz2 : 64 ≤ b.size := by have := HB.out; omega
  go_enter Try.func60, Try.ntmps60
  go_wp2_with (refine kl_alloc rfl 93 rfl (wArr []) i0 hi0 _ hz0 rfl ?_)
  go_loopw [5, 13] (fun i c wr => ∃ k : Nat, k ≤ 64 ∧ c = .int .i64 (k : Int) ∧ Hid (wr.heap[w.heap.size]? = some (.cells (wArr (Sm.sched b.data.toList k)) 93 (0, 0))) ∧ Below w.heap.size w wr) (fun _ c _ => 64 - (intOf c).toNat)
  case atStart => exact ⟨0, by omega, rfl, by rw [Sm.sched_zero]; exact heap_alloc_new _ _, (Below.refl _ _).alloc (Nat.le_refl _) _⟩
  case round =>
    obtain ⟨k, hk, rfl, HW, hbw⟩ := hrel
    have hszw := lt_of_block HW.out
    by_cases hlt : k < 64
    · have hlen := Sm.sched_length b.data.toList k
      have hset : ∀ (wx : World) (x : Nat), wx.heap[w.heap.size]? = some (.cells (wArr (Sm.sched b.data.toList k)) 93 (0, 0)) →
          (wx.setCell ⟨w.heap.size, k, none⟩ (.int .u32 (x : Int))).heap[w.heap.size]? = some (.cells (wArr (Sm.sched b.data.toList k ++ [x])) 93 (0, 0)) := fun wx x hx => by
        have h := heap_setCell_same wx w.heap.size k _ _ (.int .u32 (x : Int)) hx
        have h2 := wArr_put (Sm.sched b.data.toList k) x (by rw [hlen]; exact hlt)
        rw [hlen] at h2
        rw [h2] at h; exact h
      have HSET := Lib.hid hset
      have HLEN := Lib.hid hlen
      clear hset hlen
      by_cases h16 : k < 16
      · have hext : (b.extract (4 * k) (4 * k + 4)).data.toList = (b.data.toList.drop (4 * k)).take 4 := by
          rw [Lib.extract_data]; simp
        have hsz : (b.extract (4 * k) (4 * k + 4)).size = 4 := by
          rw [ByteArray.size_extract]; omega
        have hg := get (b.extract (4 * k) (4 * k + 4)) (by rw [hsz]; decide)
        have hgn : getN (b.extract (4 * k) (4 * k + 4)).data.toList = Sm.word b.data.toList k := by
          obtain ⟨_, _, _, HG⟩ := get_cases (b.extract (4 * k) (4 * k + 4))
          rw [(HG.out (by omega) (by omega)).1, hext]; rfl
        rw [hgn] at hg
        have hst : Sm.sched b.data.toList (k + 1) = Sm.sched b.data.toList k ++ [Sm.word b.data.toList k] := by
          rw [Sm.sched_succ, if_pos h16]
        have hwl : Sm.word b.data.toList k < 4294967296 := by
          have h3 := sched_lt b.data.toList (k + 1) (Sm.word b.data.toList k) (by rw [hst]; simp)
          exact h3
        have HST := Lib.hid hst
        generalize Sm.word b.data.toList k = x at *
        generalize getE (b.extract (4 * k) (4 * k + 4)).data.toList = ge at *
        clear hgn hsz hext hst
        have HG := Lib.hid hg
        clear hg
        go_wp2_with fail
        refine (HG.out _).mono ?_
        rintro e w2 ⟨rfl, hb2⟩
        have hw2 := Below.keep hb2 HW.out hszw
        have hf := frozen_of_row _ _ k _ _ hw2
        have hck : w2.cell? ⟨w.heap.size, k, none⟩ = some (.int .u32 (((Sm.sched b.data.toList k).getD k 0 : Nat) : Int)) := by
          rw [cell_of_row _ _ _ _ _ _ hw2, wArr_get _ _ hlt]
        have HW2 := Lib.hid hw2
        have hbw2 := hbw.trans (hb2.mono hbw.size)
        clear hw2 hb2
        go_wp2
        go_roundw
        case rel =>
          refine ⟨k + 1, by omega, by go_num, ?_, hbw2.setCell (Nat.le_refl _) _⟩
          have h := HSET.out w2 x HW2.out
          rw [← HST.out] at h; exact h
        case measure => simp [intOf]; omega
      · have hwr := HW.out
        have hcell : ∀ j, j < k → wr.cell? ⟨w.heap.size, j, none⟩ = some (.int .u32 (((Sm.sched b.data.toList k).getD j 0 : Nat) : Int)) := fun j hj => by
          rw [cell_of_row _ _ _ _ _ _ hwr, wArr_get _ _ (by omega)]
        have hck : wr.cell? ⟨w.heap.size, k, none⟩ = some (.int .u32 (((Sm.sched b.data.toList k).getD k 0 : Nat) : Int)) := by
          rw [cell_of_row _ _ _ _ _ _ hwr, wArr_get _ _ hlt]
        have hf := frozen_of_row _ _ k _ _ hwr
        have hg := sched_getD_lt b.data.toList k
        have hst : Sm.sched b.data.toList (k + 1) = Sm.sched b.data.toList k ++ [(((Sm.sched b.data.toList k).getD (k - 16) 0 + Sm.sig ((Sm.sched b.data.toList k).getD (k - 15) 0) 7 18 3 true) % 4294967296 + (Sm.sched b.data.toList k).getD (k - 7) 0 + Sm.sig ((Sm.sched b.data.toList k).getD (k - 2) 0) 17 19 10 true) % 4294967296] := by
          rw [Sm.sched_succ, if_neg h16]
        obtain ⟨k16, rfl⟩ : ∃ m, k = m + 16 := ⟨k - 16, by omega⟩
        have x16 := hcell k16 (by omega)
        have x15 := hcell (k16 + 1) (by omega)
        have x7 := hcell (k16 + 9) (by omega)
        have x2 := hcell (k16 + 14) (by omega)
        have l16 := hg k16
        have l15 := hg (k16 + 1)
        have l7 := hg (k16 + 9)
        have l2 := hg (k16 + 14)
        rw [show k16 + 16 - 16 = k16 by omega, show k16 + 16 - 15 = k16 + 1 by omega, show k16 + 16 - 7 = k16 + 9 by omega, show k16 + 16 - 2 = k16 + 14 by omega] at hst
        generalize (Sm.sched b.data.toList (k16 + 16)).getD k16 0 = y16 at *
        generalize (Sm.sched b.data.toList (k16 + 16)).getD (k16 + 1) 0 = y15 at *
        generalize (Sm.sched b.data.toList (k16 + 16)).getD (k16 + 9) 0 = y7 at *
        generalize (Sm.sched b.data.toList (k16 + 16)).getD (k16 + 14) 0 = y2 at *
        have t1 := turned y15 7 18 3 true l15 (by decide) (by decide) (by decide) (by decide) (by decide) (by decide)
        have t2 := turned y2 17 19 10 true l2 (by decide) (by decide) (by decide) (by decide) (by decide) (by decide)
        have g1 := Sm.sig_lt y15 7 18 3 true l15 (by decide) (by decide) (by decide)
        have g2 := Sm.sig_lt y2 17 19 10 true l2 (by decide) (by decide) (by decide)
        have t1' : ∀ wx, Calls Try.prog 80 #[.int .u32 y15, .int .i64 7, .int .i64 18, .int .i64 3, .bool true] wx fun e w' => e = .returned (.int .u32 (Sm.sig y15 7 18 3 true : Nat)) ∧ w' = wx := fun wx => (t1 wx).mono fun e w' h => ⟨h.1, h.2.symm⟩
        have t2' : ∀ wx, Calls Try.prog 80 #[.int .u32 y2, .int .i64 17, .int .i64 19, .int .i64 10, .bool true] wx fun e w' => e = .returned (.int .u32 (Sm.sig y2 17 19 10 true : Nat)) ∧ w' = wx := fun wx => (t2 wx).mono fun e w' h => ⟨h.1, h.2.symm⟩
        generalize Sm.sig y15 7 18 3 true = s1 at *
        generalize Sm.sig y2 17 19 10 true = s2 at *
        have T1 := Lib.hid t1'
        have T2 := Lib.hid t2'
        have HST := Lib.hid hst
        clear t1 t2 t1' t2' hst hcell hg hwr
        have hk3 : ¬ (((k16 + 16 : Nat) : Int) < 16) := by omega
        go_wp2_with fail
        have e0 : IntKind.i64.wrap (k16 : Int) = k16 := IntWalk.i64_in _ (by omega)
        have e1 : IntKind.i64.wrap ((k16 : Int) + 16 - 15) = (k16 : Int) + 1 := by rw [IntWalk.i64_in _ (by omega)]; omega
        have e9 : IntKind.i64.wrap ((k16 : Int) + 16 - 7) = (k16 : Int) + 9 := by rw [IntWalk.i64_in _ (by omega)]; omega
        have e14 : IntKind.i64.wrap ((k16 : Int) + 16 - 2) = (k16 : Int) + 14 := by rw [IntWalk.i64_in _ (by omega)]; omega
        have n1 : 0 ≤ (k16 : Int) + 1 := by omega
        have n9 : 0 ≤ (k16 : Int) + 9 := by omega
        have n14 : 0 ≤ (k16 : Int) + 14 := by omega
        have n16 : 0 ≤ (k16 : Int) + 16 := by omega
        have m1 : ((k16 : Int) + 1).toNat = k16 + 1 := by omega
        have m9 : ((k16 : Int) + 9).toNat = k16 + 9 := by omega
        have m14 : ((k16 : Int) + 14).toNat = k16 + 14 := by omega
        have m16 : ((k16 : Int) + 16).toNat = k16 + 16 := by omega
        have b1 : (k16 : Int) + 1 < 64 := by omega
        have b9 : (k16 : Int) + 9 < 64 := by omega
        have b14 : (k16 : Int) + 14 < 64 := by omega
        have b0 : (k16 : Int) < 64 := by omega
        go_still_tail 23, (by kernel_rfl)
        still_call (T1.out _)
        repeat still_step
        still_call (T2.out _)
        repeat still_step
        try refine wpStill_nil ?_
        change wpList _ _ _ _ _ wr.drew
        have K1 : Hid (wr.drew.heap[w.heap.size]? = some (.cells (wArr (Sm.sched b.data.toList (k16 + 16))) 93 (0, 0))) := HW.out
        have KB : Below w.heap.size w wr.drew := hbw.drew
        have hf' : wr.drew.frozen? ⟨w.heap.size, k16 + 16, none⟩ = false := hf
        have hc' : wr.drew.cell? ⟨w.heap.size, k16 + 16, none⟩ = some (.int .u32 (((Sm.sched b.data.toList (k16 + 16)).getD (k16 + 16) 0 : Nat) : Int)) := hck
        clear hf hck HW hbw x16 x15 x7 x2 hszw e0 e1 e9 e14 n1 n9 n14 n16 m1 m9 m14 m16 b1 b9 b14 b0
        have hsum : Hid (((y16 : Int) + s1 + y7 + s2) % 4294967296 = ((((y16 + s1) % 4294967296 + y7 + s2) % 4294967296 : Nat) : Int)) := by show _ = _; omega
        generalize wr.drew = w2 at *
        go_wp2
        go_roundw
        case rel =>
          refine ⟨k16 + 16 + 1, by omega, by go_num, ?_, KB.setCell (Nat.le_refl _) _⟩
          have h := HSET.out w2 (((y16 + s1) % 4294967296 + y7 + s2) % 4294967296) K1.out
          rw [← HST.out] at h
          rw [hsum.out]; exact h
        case measure => simp [intOf]; omega
    · obtain rfl : k = 64 := by omega
      have h1r := Below.keep hbw H1.out ht
      have h2r := Below.keep hbw H2.out hTl
      have cc : ∀ i, wr.cell? ⟨t, i, none⟩ = (talA T S rest n)[i]? := fun i => cell_of_row _ _ _ _ _ _ h1r
      have c1 := cc 1
      have c2 := cc 2
      have c3 := cc 3
      have c4 := cc 4
      have c5 := cc 5
      have c6 := cc 6
      have c7 := cc 7
      have c8 := cc 8
      simp only [talA, List.getElem?_toArray, List.getElem?_cons_zero, List.getElem?_cons_succ] at c1 c2 c3 c4 c5 c6 c7 c8
      have H1R := Lib.hid h1r
      have H2R := Lib.hid h2r
      clear cc h1r h2r
      go_wp2_with (refine wpList_load_row rfl 93 _ rfl w.heap.size rfl _ _ _ _ (blk_old _ _ HW.out) Try.underlying93 rfl (by rw [w64s, wArr_size]) ?_)
      have HWR := Lib.hid (blk_old _ (Obj.cells #[.int .u32 S.a, .int .u32 S.b, .int .u32 S.c, .int .u32 S.d, .int .u32 S.e, .int .u32 S.f, .int .u32 S.g, .int .u32 S.h] 44) HW.out)
      have hbr := hbw.alloc hbw.size (Obj.cells #[.int .u32 S.a, .int .u32 S.b, .int .u32 S.c, .int .u32 S.d, .int .u32 S.e, .int .u32 S.f, .int .u32 S.g, .int .u32 S.h] 44)
      have hnew := heap_alloc_new wr (Obj.cells #[.int .u32 S.a, .int .u32 S.b, .int .u32 S.c, .int .u32 S.d, .int .u32 S.e, .int .u32 S.f, .int .u32 S.g, .int .u32 S.h] 44)
      clear c1 c2 c3 c4 c5 c6 c7 c8 H1R H2R HW HWR
      have hsw : w.heap.size < wr.heap.size := hszw
      have hidx := fun k hk => run_index_w (Sm.sched b.data.toList 64) k hk
      have HIDX := Lib.hid hidx
      clear hidx hszw
      have HL := Lib.hid (sched_getD_lt b.data.toList 64)
      generalize Sm.sched b.data.toList 64 = L at *
      obtain ⟨wq, hwq⟩ : ∃ x : World, x = wr := ⟨_, rfl⟩
      subst hwq
      go_loopw [9, 10, 62] (fun i x c wr => ∃ (k : Nat) (a b1 c1 d e f g h : Nat), k ≤ 64 ∧ c = .int .i64 (k : Int) ∧ Hid (Sm.rnds S Sm.kT L k = ⟨a, b1, c1, d, e, f, g, h⟩) ∧
          Hid (wr.heap[wq.heap.size]? = some (.cells (stA ⟨a, b1, c1, d, e, f, g, h⟩) 44 (0, 0))) ∧ Below w.heap.size w wr) (fun _ _ c _ => 64 - (intOf c).toNat)
      case atStart =>
        exact ⟨0, S.a, S.b, S.c, S.d, S.e, S.f, S.g, S.h, by omega, rfl, by rw [Sm.rnds_zero]; rfl, hnew, hbr⟩
      case round =>
        obtain ⟨k, a, b1, c1, d, e, f, g, h, hk, rfl, HR, HSB, hbs⟩ := hrel
        have hokk := Sm.rnds_ok S Sm.kT L HS.out k
        rw [HR.out] at hokk
        obtain ⟨la, lb, lc, ld, le, lf, lg, lh⟩ := hokk
        dsimp only at la lb lc ld le lf lg lh
        by_cases hlt : k < 64
        · have hsx := lt_of_block HSB.out
          obtain ⟨s0, s1, s2, s3, s4, s5, s6, s7⟩ := st_cells HSB.out
          have ht0 : wr.cell? ⟨t, 0, none⟩ = some (.pointer (some ⟨T, 0, none⟩)) := by
            rw [cell_of_row _ _ _ _ _ _ (Below.keep hbs H1.out ht)]; rfl
          have hk0 : wr.cell? ⟨T, 8 + k, none⟩ = some (.int .u32 ((Sm.kT.getD k 0 : Nat) : Int)) := by
            rw [cell_of_row _ _ _ _ _ _ (Below.keep hbs H2.out hTl), tabArr_k _ _ hlt, if_pos (by omega)]
          have hidx := HIDX.out k hlt
          have hwl := HL.out k
          have hrs := Sm.rnds_succ S Sm.kT L k
          rw [HR.out] at hrs
          have hkl : Sm.kT.getD k 0 < 4294967296 := kT_lt k
          generalize Sm.kT.getD k 0 = K at *
          generalize L.getD k 0 = x at *
          have t1 := turned e 6 11 25 false le (by decide) (by decide) (by decide) (by decide) (by decide) (by decide)
          have t2 := turned a 2 13 22 false la (by decide) (by decide) (by decide) (by decide) (by decide) (by decide)
          have g1 := Sm.sig_lt e 6 11 25 false le (by decide) (by decide) (by decide)
          have g2 := Sm.sig_lt a 2 13 22 false la (by decide) (by decide) (by decide)
          have t1' : ∀ wx, Calls Try.prog 80 #[.int .u32 e, .int .i64 6, .int .i64 11, .int .i64 25, .bool false] wx fun e' w' => e' = .returned (.int .u32 (Sm.sig e 6 11 25 false : Nat)) ∧ w' = wx := fun wx => (t1 wx).mono fun e w' h => ⟨h.1, h.2.symm⟩
          have t2' : ∀ wx, Calls Try.prog 80 #[.int .u32 a, .int .i64 2, .int .i64 13, .int .i64 22, .bool false] wx fun e' w' => e' = .returned (.int .u32 (Sm.sig a 2 13 22 false : Nat)) ∧ w' = wx := fun wx => (t2 wx).mono fun e w' h => ⟨h.1, h.2.symm⟩
          have hch := Sm.ch_lt e f g le
          have hmj := Sm.maj_lt a b1 c1 la lc
          unfold Sm.rnd at hrs
          dsimp only at hrs
          have q0 := bnot32 e le
          have q1 := Sm.band32 e f le lf
          have q2 := Sm.band32 (4294967295 - e) g (by omega) lg
          have q3 := Sm.bor32 (e &&& f) ((4294967295 - e) &&& g) (Sm.and_lt32 _ _ le) (Sm.and_lt32 _ _ (by omega))
          have q4 := Sm.band32 a b1 la lb
          have q5 := Sm.bor32 a b1 la lb
          have q6 := Sm.band32 c1 (a ||| b1) lc (Sm.or_lt32 _ _ la lb)
          have q7 := Sm.bor32 (a &&& b1) (c1 &&& (a ||| b1)) (Sm.and_lt32 _ _ la) (Sm.and_lt32 _ _ lc)
          change bits .or .u32 _ _ = ((Sm.ch e f g : Nat) : Int) at q3
          change bits .or .u32 _ _ = ((Sm.maj a b1 c1 : Nat) : Int) at q7
          generalize Sm.ch e f g = CH at *
          generalize Sm.maj a b1 c1 = MJ at *
          generalize (4294967295 - e) &&& g = o2 at *
          generalize e &&& f = o1 at *
          generalize c1 &&& (a ||| b1) = o4 at *
          generalize a &&& b1 = o3 at *
          generalize a ||| b1 = o5 at *
          generalize Sm.sig e 6 11 25 false = S1 at *
          generalize Sm.sig a 2 13 22 false = S0 at *
          have T1 := Lib.hid t1'
          have T2 := Lib.hid t2'
          obtain ⟨X, hX⟩ : ∃ X, X = (x + (h + S1 + CH + K)) % 4294967296 := ⟨_, rfl⟩
          obtain ⟨Y, hY⟩ : ∃ Y, Y = (S0 + MJ) % 4294967296 := ⟨_, rfl⟩
          have w1 : IntKind.u32.wrap ((x : Int) + IntKind.u32.wrap (IntKind.u32.wrap (IntKind.u32.wrap ((h : Int) + S1) + CH) + K)) = (X : Int) := by
            simp only [IntKind.wrap_u32]; omega
          have w2 : IntKind.u32.wrap ((S0 : Int) + MJ) = (Y : Int) := by
            simp only [IntKind.wrap_u32]; omega
          have lX : X < 4294967296 := by omega
          have lY : Y < 4294967296 := by omega
          rw [← hX, ← hY] at hrs
          have HRS := Lib.hid hrs
          have Q0 := Lib.hid q0
          have Q1 := Lib.hid q1
          have Q2 := Lib.hid q2
          have Q3 := Lib.hid q3
          have Q4 := Lib.hid q4
          have Q5 := Lib.hid q5
          have Q6 := Lib.hid q6
          have Q7 := Lib.hid q7
          have W1 := Lib.hid w1
          have W2 := Lib.hid w2
          clear t1 t2 t1' t2' hrs q0 q1 q2 q3 q4 q5 q6 q7 w1 w2 hX hY
          go_wp2_with fail
          refine wp_region_still_lit (by kernel_rfl) (by kernel_rfl) ?_
          repeat still_step
          still_call (T1.out _)
          repeat still_step
          refine wpStill_nil ?_
          rw [Q1.out, Q0.out, Q2.out, Q3.out, W1.out]
          change Exit.then _ _ Exit.normal _ wr.drew
          have HSB2 : Hid (wr.drew.heap[wq.heap.size]? = some (.cells (stA ⟨a, b1, c1, d, e, f, g, h⟩) 44 (0, 0))) := HSB.out
          have hbs2 : Below w.heap.size w wr.drew := hbs.drew
          have hsx2 : wq.heap.size < wr.drew.heap.size := hsx
          clear s0 s1 s2 s3 s4 s5 s6 s7 ht0 hk0 HSB hbs hsx hidx
          generalize wr.drew = w2 at *
          obtain ⟨s0, s1, s2, s3, s4, s5, s6, s7⟩ := st_cells HSB2.out
          go_wp2_with fail
          refine wp_region_still_lit (by kernel_rfl) (by kernel_rfl) ?_
          repeat still_step
          still_call (T2.out _)
          repeat still_step
          refine wpStill_nil ?_
          rw [Q4.out, Q5.out, Q6.out, Q7.out, W2.out]
          change Exit.then _ _ Exit.normal _ w2.drew
          have HSB3 : Hid (w2.drew.heap[wq.heap.size]? = some (.cells (stA ⟨a, b1, c1, d, e, f, g, h⟩) 44 (0, 0))) := HSB2.out
          have hbs3 : Below w.heap.size w w2.drew := hbs2.drew
          clear s0 s1 s2 s3 s4 s5 s6 s7 HSB2 hbs2 hsx2
          generalize w2.drew = w3 at *
          obtain ⟨s0, s1, s2, s3, s4, s5, s6, s7⟩ := st_cells HSB3.out
          have hz1 : IntKind.u32.wrap ((X : Int) + Y) = (((X + Y) % 4294967296 : Nat) : Int) := by rw [IntKind.wrap_u32]; omega
          have hz2 : IntKind.u32.wrap ((d : Int) + X) = (((d + X) % 4294967296 : Nat) : Int) := by rw [IntKind.wrap_u32]; omega
          have hrow := setRow_heap w3 wq.heap.size _ (stA ⟨(X + Y) % 4294967296, a, b1, c1, (d + X) % 4294967296, e, f, g⟩) _ _ HSB3.out
          have HROW := Lib.hid hrow
          have hbrow := below_setRow (g := wq.heap.size) hbs3 (by omega) (stA ⟨(X + Y) % 4294967296, a, b1, c1, (d + X) % 4294967296, e, f, g⟩)
          clear hrow
          go_wp2_with (refine wpList_store_row rfl 44 _ _ rfl wq.heap.size (stA ⟨(X + Y) % 4294967296, a, b1, c1, (d + X) % 4294967296, e, f, g⟩) rfl rfl _ _ HSB3.out (by rw [info_s8]; rfl) rfl (stA_one _) ?_)
          go_roundw
          case rel => exact ⟨k + 1, (X + Y) % 4294967296, a, b1, c1, (d + X) % 4294967296, e, f, g, by omega, by go_num, HRS.out, HROW.out, hbrow⟩
          case measure => simp [intOf]; omega
        · have hk64 : k = 64 := by omega
          have hRR : R = ⟨a, b1, c1, d, e, f, g, h⟩ := HR0.out.trans (by rw [← hk64]; exact HR.out)
          have hge : 64 ≤ k := by omega
          clear hk64
          have hRok : R.ok := by rw [hRR]; exact ⟨la, lb, lc, ld, le, lf, lg, lh⟩
          rw [← hRR] at HSB
          have HROK := Lib.hid hRok
          have hsq := lt_of_block HSB.out
          have HH1 := Lib.hid (Below.keep hbs H1.out ht)
          clear hRR HR HR0 la lb lc ld le lf lg lh hRok HIDX HL
          obtain ⟨wu, hwu⟩ : ∃ x : World, x = wr := ⟨_, rfl⟩
          subst hwu
          have htq : t < wq.heap.size := by omega
          go_wp2_with fail
          go_loopw [12, 136] (fun i c wr => ∃ k : Nat, k ≤ 8 ∧ c = .int .i64 (k : Int) ∧ Hid (wr.heap[t]? = some (.cells (talA T (Sm.mix S R k) rest n) 46 (0, 0))) ∧
              Hid (wr.heap[wq.heap.size]? = some (.cells (stA R) 44 (0, 0))) ∧ Ch w wr [t] ∧ wq.heap.size < wr.heap.size) (fun _ c _ => 8 - (intOf c).toNat)
          case atStart => exact ⟨0, by omega, rfl, HH1, HSB, Ch.ofBelow hbs _, hsq⟩
          case round =>
            obtain ⟨k, hk, rfl, G1, G2, hch, hsr⟩ := hrel
            by_cases hlt8 : k < 8
            · have r1 : wr.cell? ⟨t, 1 + k, none⟩ = some (.int .u32 ((S.get k : Nat) : Int)) := by
                rw [cell_of_row _ _ _ _ _ _ G1.out, talA_get _ _ _ _ _ hlt8, Sm.mix, Sm.get_ofGet _ _ hlt8, Sm.mixF, if_neg (by omega)]
              have r2 : wr.cell? ⟨wq.heap.size, k, none⟩ = some (.int .u32 ((R.get k : Nat) : Int)) := by
                rw [cell_of_row _ _ _ _ _ _ G2.out, stA_get _ _ hlt8]
              have f1 := frozen_of_row _ _ (1 + k) _ _ G1.out
              have l1 := Sm.get_lt S HS.out k
              have l2 := Sm.get_lt R HROK.out k
              have hset : ∀ wx : World, wx.heap[t]? = some (.cells (talA T (Sm.mix S R k) rest n) 46 (0, 0)) →
                  (wx.setCell ⟨t, 1 + k, none⟩ (.int .u32 (((S.get k + R.get k) % 4294967296 : Nat) : Int))).heap[t]? = some (.cells (talA T (Sm.mix S R (k + 1)) rest n) 46 (0, 0)) := fun wx hx => by
                rw [heap_setCell_same wx t (1 + k) _ _ _ hx, talA_put T S R rest n k hlt8]
              generalize S.get k = p at *
              generalize R.get k = q at *
              have HSET := Lib.hid hset
              clear hset
              have ew : IntKind.u32.wrap ((p : Int) + q) = (((p + q) % 4294967296 : Nat) : Int) := by rw [IntKind.wrap_u32]; omega
              go_wp2_with fail
              go_still_tail 13, (by kernel_rfl)
              change wpList _ _ _ _ _ wr.drew
              have J1 : Hid (wr.drew.heap[t]? = some (.cells (talA T (Sm.mix S R k) rest n) 46 (0, 0))) := G1.out
              have J2 : Hid (wr.drew.heap[wq.heap.size]? = some (.cells (stA R) 44 (0, 0))) := G2.out
              have JC : Ch w wr.drew [t] := hch.drew
              have jf : wr.drew.frozen? ⟨t, 1 + k, none⟩ = false := f1
              have jc : wr.drew.cell? ⟨t, 1 + k, none⟩ = some (.int .u32 (p : Int)) := r1
              have jsr : wq.heap.size < wr.drew.heap.size := hsr
              clear f1 r1 r2 G1 G2 hch hsr
              have EW := Lib.hid ew
              clear ew
              generalize wr.drew = wv at *
              go_wp2
              go_roundw
              case rel =>
                refine ⟨k + 1, by omega, by go_num, ?_, ?_, JC.setCell (by simp) _, by rw [size_setCell]; exact jsr⟩
                · have h := HSET.out wv J1.out
                  have e2 : ((p : Int) + q) % 4294967296 = (((p + q) % 4294967296 : Nat) : Int) := by omega
                  first
                    | (rw [e2]; exact h)
                    | exact h
                · show _ = _
                  rw [heap_setCell_other _ _ _ _ (by show wq.heap.size ≠ t; omega)]
                  exact J2.out
              case measure => simp [intOf]; omega
            · obtain rfl : k = 8 := by omega
              rw [Sm.mix_full] at G1
              go_wp2
              go_end0
              exact ⟨rfl, G1.out, hch⟩
