/-
  Walks: Unhex.
-/
import Derived.Test.YtgdjfijkbemkeaaShaF
namespace Go.Proofs.Ytgdjfijkbemkeaa
open Go.RowKit
set_option maxHeartbeats 1000000
set_option maxRecDepth 20000
set_option linter.unusedVariables false

namespace Sm
/-- a digit's value; 16: it is none -/
def vl (c : UInt8) : Nat := if 48 ≤ c.toNat ∧ c.toNat ≤ 57 then c.toNat - 48 else if 97 ≤ c.toNat ∧ c.toNat ≤ 102 then c.toNat - 87 else 16
theorem vl_le (c : UInt8) : vl c ≤ 16 := by
  unfold vl
  split
  · omega
  · split <;> omega
def unTo (l : List UInt8) : Nat → Option (List UInt8)
  | 0 => some []
  | k + 1 => (unTo l k).bind fun d =>
    if vl (l.getD (2 * k) 0) = 16 ∨ vl (l.getD (2 * k + 1) 0) = 16 then none else some (d ++ [UInt8.ofNat (vl (l.getD (2 * k) 0) * 16 + vl (l.getD (2 * k + 1) 0))])
theorem unTo_zero (l : List UInt8) : unTo l 0 = some [] := rfl
theorem unTo_succ (l : List UInt8) (k : Nat) : unTo l (k + 1) = (unTo l k).bind fun d =>
    if vl (l.getD (2 * k) 0) = 16 ∨ vl (l.getD (2 * k + 1) 0) = 16 then none else some (d ++ [UInt8.ofNat (vl (l.getD (2 * k) 0) * 16 + vl (l.getD (2 * k + 1) 0))]) := rfl
theorem unTo_length (l : List UInt8) : ∀ (k : Nat) (d : List UInt8), unTo l k = some d → d.length = k := by
  intro k
  induction k with
  | zero => intro d h; rw [unTo_zero] at h; cases h; rfl
  | succ k ih =>
    intro d h
    rw [unTo_succ] at h
    cases hk : unTo l k with
    | none => rw [hk] at h; cases h
    | some e =>
      rw [hk] at h
      simp only [Option.bind_some] at h
      split at h
      · cases h
      · cases h
        simp [ih e hk]
theorem unTo_none (l : List UInt8) (k : Nat) (h : unTo l k = none) : ∀ j, unTo l (k + j) = none := by
  intro j
  induction j with
  | zero => exact h
  | succ j ih => rw [← Nat.add_assoc, unTo_succ, ih]; rfl
/-- what Unhex tells: the bytes, and whether they are none -/
def unD (l : List UInt8) : List UInt8 := if l.length = 64 then (unTo l 32).getD [] else []
def unE (l : List UInt8) : Nat := if l.length = 64 then (if (unTo l 32).isSome = true then 0 else 2) else 2
attribute [irreducible] unTo
theorem vl_index (c : UInt8) : Lib.indexByte [48, 49, 50, 51, 52, 53, 54, 55, 56, 57, 97, 98, 99, 100, 101, 102] c = if vl c = 16 then -1 else (vl c : Int) := by
  have h : ∀ n : Fin 256, Lib.indexByte [48, 49, 50, 51, 52, 53, 54, 55, 56, 57, 97, 98, 99, 100, 101, 102] (UInt8.ofNat n.val) = if vl (UInt8.ofNat n.val) = 16 then -1 else (vl (UInt8.ofNat n.val) : Int) := by decide +kernel
  have h2 := h ⟨c.toNat, c.toNat_lt⟩
  simpa using h2
end Sm

theorem kl_build0 {P : Program} {w : World} {ops : Array Oper} {rest : List Oper} {o : Oper} {a : Act} {Q : Exit → Act → World → Prop}
    (hgd : o.guard = none) (T : TypeId) (ho : o.op = .build T #[]) (n : Nat) (e : TypeId) (hu : P.underlying T = some (.array n e)) (hsz : (P.info? e).map (·.size) = some 1)
    (i : TypeInfo) (hi : P.info? T = some i) (Z : Array Value) (hz : i.zero = some (.agg Z))
    (h : wpList P ops Q rest (a.put o.dst (.agg Z)) w) : wpList P ops Q (o :: rest) a w := by
  refine wpList_plain hgd fun K hK => ?_
  unfold Oper.wp execOp
  rw [ho]
  have : (Instr.build T #[]).run P w = .ok (.agg Z) w := by
    cases hq : P.info? e with
    | none => simp [hq] at hsz
    | some j => simp [Instr.build, zeroValue, typeInfo, hi, hz, Value.cells, run_underlying hu, Go.sizeOf, hq, Instr.fill]
  simp only [List.map_toArray, List.map_nil, Sem.run_bind, this, Result.andThen_ok]
  exact hK _ _ h

theorem results_row_tmp {P : Program} {fn : Func} {p u : Tmp} {ty : TypeId} (h : fn.results = #[.cell p ty, .tmp u]) (tmps : Array Value) (w : World) (g : Nat) (t : TypeId) (cs : Array Value) (fr : Nat × Nat) (d : TypeDesc)
    (hp : tmps.getD p undef = .pointer (some ⟨g, 0, none⟩)) (hg : w.heap[g]? = some (.cells cs t fr))
    (hu : P.underlying ty = some d) (hd : (match d with | .struct _ | .array _ _ => true | _ => false) = true) (hi : (P.info? ty).map (·.size) = some cs.size) :
    (results fn tmps).run P w = .ok (.tuple #[.agg cs, tmps.getD u undef]) w := by
  have hp' : tmps[p]?.getD undef = .pointer (some ⟨g, 0, none⟩) := by simpa using hp
  simp [results, h, hp', asAddr, run_loadVar_row w g t ty cs fr d hg hu hd hi]

theorem bor64i (a b : Nat) (ha : a < 4294967296) (hb : b < 4294967296) : bits .or .i64 (a : Int) (b : Int) = ((a ||| b : Nat) : Int) := by
  have hx : a ||| b < 2 ^ 32 := Nat.or_lt_two_pow (by omega) (by omega)
  have h1 : (BitVec.ofInt 64 (a : Int)).toNat = a := by
    rw [BitVec.ofInt_natCast, BitVec.toNat_ofNat]; exact Nat.mod_eq_of_lt (by omega)
  have h2 : (BitVec.ofInt 64 (b : Int)).toNat = b := by
    rw [BitVec.ofInt_natCast, BitVec.toNat_ofNat]; exact Nat.mod_eq_of_lt (by omega)
  show IntKind.i64.wrap ((BitVec.ofInt 64 (a : Int) ||| BitVec.ofInt 64 (b : Int)).toNat : Int) = _
  rw [BitVec.toNat_or, h1, h2, IntKind.wrap_i64]
  omega
theorem nib (x y : Nat) (hx : x < 16) (hy : y < 16) : bits .or .i64 ((x : Int) * 16) (y : Int) % 256 = ((UInt8.ofNat (x * 16 + y)).toNat : Int) := by
  have h := bor64i (x * 16) y (by omega) (by omega)
  have h2 : x * 16 ||| y = x * 16 + y := by
    have h3 := Nat.two_pow_add_eq_or_of_lt (i := 4) (b := y) (by omega) x
    rw [show (2 : Nat) ^ 4 = 16 from rfl] at h3
    rw [Nat.mul_comm x 16, ← h3]
  rw [h2] at h
  push_cast at h
  rw [h]
  have : (UInt8.ofNat (x * 16 + y)).toNat = x * 16 + y := by rw [UInt8.toNat_ofNat']; omega
  rw [this]; push_cast; omega

theorem unhex1 (s : ByteArray) (w : World) :
    Calls Try.prog 31 #[.string s] w fun e w' => e = .returned (.tuple #[.agg (dArr (Sm.unD s.data.toList)), .int .i64 (Sm.unE s.data.toList : Nat)]) ∧ Below w.heap.size w w' := by
  obtain ⟨i0, hi0, hz0, hs0⟩ := d32
  have hsl : s.data.toList.length = s.size := rfl
  by_cases h64 : s.size = 64
  · have hsz : (s.size : Int) = 64 := by omega
    have hlen64 : s.data.toList.length = 64 := by rw [hsl]; exact h64
    obtain ⟨l, hll⟩ : ∃ l, l = s.data.toList := ⟨_, rfl⟩
    rw [← hll] at hlen64 ⊢
    have hget : ∀ j, j < 64 → s[j]? = some (l.getD j 0) := fun j hj => by
      rw [hll, getElem?_pos s j (by omega)]
      have : j < s.data.toList.length := by rw [← hll]; omega
      rw [List.getD_eq_getElem?_getD, List.getElem?_eq_getElem this]
      rfl
    have HGET := Lib.hid hget
    have HLEN := Lib.hid hlen64
    clear hget hlen64 hll hsl
    obtain ⟨D, hD⟩ : ∃ D, D = Sm.unD l := ⟨_, rfl⟩
    obtain ⟨E, hE⟩ : ∃ E, E = Sm.unE l := ⟨_, rfl⟩
    rw [← hD, ← hE]
    have HD := Lib.hid hD
    have HE := Lib.hid hE
    clear hD hE
    have hD1 := heap_alloc_new w (.cells (dArr []) 50)
    have hD2 := blk_old _ (.cells (dArr []) 50) hD1
    have hD3 := heap_alloc2_new w (.cells (dArr []) 50) (.cells (dArr []) 50)
    have hB : Below w.heap.size w ((w.alloc (.cells (dArr []) 50)).alloc (.cells (dArr []) 50)) := ((Below.refl _ _).alloc (Nat.le_refl _) _).alloc (by rw [size_alloc]; omega) _
    have HD2 := Lib.hid hD2
    have HD3 := Lib.hid hD3
    clear hD1 hD2 hD3
    go_enter Try.func31, Try.ntmps31
    go_wp2_with (refine kl_alloc rfl 50 rfl (dArr []) i0 hi0 _ hz0 rfl ?_)
    generalize (w.alloc (.cells (dArr []) 50)).alloc (.cells (dArr []) 50) = w1 at *
    go_loopw [12] (fun c wr => ∃ (k : Nat) (d : List UInt8), k ≤ 32 ∧ c = .int .i64 (k : Int) ∧ Hid (Sm.unTo l k = some d) ∧ Hid (wr.heap[w.heap.size]? = some (.cells (dArr []) 50 (0, 0))) ∧
        Hid (wr.heap[w.heap.size + 1]? = some (.cells (dArr d) 50 (0, 0))) ∧ Below w.heap.size w wr) (fun c _ => 32 - (intOf c).toNat)
    case atStart => exact ⟨0, [], by omega, rfl, Sm.unTo_zero l, HD2, HD3, hB⟩
    case round =>
      obtain ⟨k, d, hk, rfl, HU, G1, G2, hb⟩ := hrel
      by_cases hlt : k < 32
      · have g1 := HGET.out (2 * k) (by omega)
        have g2 := HGET.out (2 * k + 1) (by omega)
        have hs := Sm.unTo_succ l k
        rw [HU.out] at hs
        simp only [Option.bind_some] at hs
        have hdl := Sm.unTo_length l k d HU.out
        generalize l.getD (2 * k) 0 = c1 at *
        generalize l.getD (2 * k + 1) 0 = c2 at *
        have i1 := Sm.vl_index c1
        have i2 := Sm.vl_index c2
        have v1 := Sm.vl_le c1
        have v2 := Sm.vl_le c2
        generalize Sm.vl c1 = x at *
        generalize Sm.vl c2 = y at *
        obtain ⟨j, hj⟩ : ∃ j, j = 2 * k := ⟨_, rfl⟩
        rw [← hj] at g1 g2
        have hj2 : j ≤ 62 := by omega
        have hjw : IntKind.i64.wrap (2 * (k : Int)) = (j : Int) := by rw [IntKind.wrap_i64]; omega
        have hu := run_underlying Try.underlying9
        have r1 : ∀ wx, (Instr.index 9 (.string s) (.int .i64 (j : Int))).run Try.prog wx = .ok (.int .u8 (c1.toNat : Int)) wx := fun wx => by
          simp [Instr.index, asIntOf, hu, g1]
        have r2 : ∀ wx, (Instr.index 9 (.string s) (.int .i64 ((j : Int) + 1))).run Try.prog wx = .ok (.int .u8 (c2.toNat : Int)) wx := fun wx => by
          have h0 : 0 ≤ (j : Int) + 1 := by omega
          have h1 : ((j : Int) + 1).toNat = j + 1 := by omega
          simp [Instr.index, asIntOf, hu, h0, h1, g2]
        have t1 : ∀ wx, Calls Try.prog 65 #[.string ⟨#[48, 49, 50, 51, 52, 53, 54, 55, 56, 57, 97, 98, 99, 100, 101, 102]⟩, .int .u8 (c1.toNat : Int)] wx fun e w' => e = .returned (.int .i64 (if x = 16 then -1 else (x : Int))) ∧ w' = wx := fun wx => by
          have h := Try.strings_IndexByte ⟨#[48, 49, 50, 51, 52, 53, 54, 55, 56, 57, 97, 98, 99, 100, 101, 102]⟩ (c1.toNat : Int) wx
          rw [show ((c1.toNat : Int)).toNat.toUInt8 = c1 by simp, show (⟨#[48, 49, 50, 51, 52, 53, 54, 55, 56, 57, 97, 98, 99, 100, 101, 102]⟩ : ByteArray).data.toList = [48, 49, 50, 51, 52, 53, 54, 55, 56, 57, 97, 98, 99, 100, 101, 102] from rfl, i1] at h
          exact h
        have t2 : ∀ wx, Calls Try.prog 65 #[.string ⟨#[48, 49, 50, 51, 52, 53, 54, 55, 56, 57, 97, 98, 99, 100, 101, 102]⟩, .int .u8 (c2.toNat : Int)] wx fun e w' => e = .returned (.int .i64 (if y = 16 then -1 else (y : Int))) ∧ w' = wx := fun wx => by
          have h := Try.strings_IndexByte ⟨#[48, 49, 50, 51, 52, 53, 54, 55, 56, 57, 97, 98, 99, 100, 101, 102]⟩ (c2.toNat : Int) wx
          rw [show ((c2.toNat : Int)).toNat.toUInt8 = c2 by simp, show (⟨#[48, 49, 50, 51, 52, 53, 54, 55, 56, 57, 97, 98, 99, 100, 101, 102]⟩ : ByteArray).data.toList = [48, 49, 50, 51, 52, 53, 54, 55, 56, 57, 97, 98, 99, 100, 101, 102] from rfl, i2] at h
          exact h
        have T1 := Lib.hid t1
        have T2 := Lib.hid t2
        have hjw2 : IntKind.i64.wrap ((j : Int) + 1) = (j : Int) + 1 := by rw [IntKind.wrap_i64]; omega
        have HS := Lib.hid hs
        have HDL := Lib.hid hdl
        clear t1 t2 hs hdl g1 g2 i1 i2 hj hu
        go_wp2_with fail
        refine wp_region_still_lit (by kernel_rfl) (by kernel_rfl) ?_
        repeat still_step
        still_call (T1.out _)
        repeat still_step
        still_call (T2.out _)
        repeat still_step
        refine wpStill_nil ?_
        change Exit.then _ _ Exit.normal _ wr.drew
        have J1 : Hid (wr.drew.heap[w.heap.size]? = some (.cells (dArr []) 50 (0, 0))) := G1.out
        have J2 : Hid (wr.drew.heap[w.heap.size + 1]? = some (.cells (dArr d) 50 (0, 0))) := G2.out
        have jb : Below w.heap.size w wr.drew := hb.drew
        clear G1 G2 hb r1 r2
        generalize wr.drew = w2 at *
        by_cases hbad : x = 16 ∨ y = 16
        · have hun : Sm.unTo l 32 = none := by
            have h := HS.out
            rw [if_pos hbad] at h
            have h2 := Sm.unTo_none l (k + 1) h (31 - k)
            rw [show k + 1 + (31 - k) = 32 by omega] at h2
            exact h2
          have e1 : D = [] := by rw [HD.out]; unfold Sm.unD; rw [if_pos HLEN.out, hun]; rfl
          have e2 : E = 2 := by rw [HE.out]; unfold Sm.unE; rw [if_pos HLEN.out, hun]; rfl
          have HE1 := Lib.hid e1
          have HE2 := Lib.hid e2
          clear e1 e2 hun
          have HRES := setRow_heap _ w.heap.size _ (dArr []) _ _ J1.out
          have HBR := below_setRow (g := w.heap.size) jb (Nat.le_refl _) (dArr [])
          have HRES' := Lib.hid HRES
          clear HRES
          go_wp2_with (first | refine kl_build0 rfl 50 rfl 32 5 Try.underlying50 (by kernel_rfl) i0 hi0 (dArr []) hz0 ?_ | refine wpList_store_row rfl 50 _ _ rfl w.heap.size (dArr []) rfl rfl _ _ J1.out (by rw [d32s, dArr_size]) (by rw [dArr_size]) (dArr_one _) ?_)
          all_goals refine bodyPost_ret (results_row_tmp rfl _ _ _ _ _ _ _ rfl HRES'.out Try.underlying50 rfl (by rw [d32s, dArr_size])) rfl ⟨by rw [HE1.out, HE2.out]; rfl, HBR⟩
        · have hx : x < 16 := by omega
          have hy : y < 16 := by omega
          have hnx : ¬ x = 16 := by omega
          have hny : ¬ y = 16 := by omega
          have hck : w2.cell? ⟨w.heap.size + 1, k, none⟩ = some (.int .u8 ((d.getD k 0).toNat : Int)) := by rw [cell_of_row _ _ _ _ _ _ J2.out, dArr_get _ _ hlt]
          have hfk := frozen_of_row _ _ k _ _ J2.out
          have hx0 : ¬ (x : Int) < 0 := by omega
          have hy0 : ¬ (y : Int) < 0 := by omega
          have hs2 : Sm.unTo l (k + 1) = some (d ++ [UInt8.ofNat (x * 16 + y)]) := by rw [HS.out, if_neg hbad]
          have hst : ∀ v : Int, v = ((UInt8.ofNat (x * 16 + y)).toNat : Int) → (w2.setCell ⟨w.heap.size + 1, k, none⟩ (.int .u8 v)).heap[w.heap.size + 1]? = some (.cells (dArr (d ++ [UInt8.ofNat (x * 16 + y)])) 50 (0, 0)) := fun v hv => by
            have h := dArr_put d (UInt8.ofNat (x * 16 + y)) (by rw [HDL.out]; exact hlt)
            rw [HDL.out] at h
            rw [heap_setCell_same _ _ _ _ _ _ J2.out, hv, h]
          have hst2 : ∀ v : Value, (w2.setCell ⟨w.heap.size + 1, k, none⟩ v).heap[w.heap.size]? = some (.cells (dArr []) 50 (0, 0)) := fun v => by
            rw [heap_setCell_other _ _ _ _ (by show w.heap.size ≠ w.heap.size + 1; omega)]; exact J1.out
          have HS2 := Lib.hid hs2
          have HST := Lib.hid hst
          have HST2 := Lib.hid hst2
          have hnib := nib x y hx hy
          have HNIB := Lib.hid hnib
          clear hs2 hst hst2 hnib
          go_wp2_with fail
          go_roundw
          case rel => exact ⟨k + 1, _, by omega, by go_num, HS2.out, HST2.out _, HST.out _ HNIB.out, jb.setCell (by show w.heap.size ≤ w.heap.size + 1; omega) _⟩
          case measure => simp [intOf]; omega
      · obtain rfl : k = 32 := by omega
        have e1 : D = d := by rw [HD.out]; unfold Sm.unD; rw [if_pos HLEN.out, HU.out]; rfl
        have e2 : E = 0 := by rw [HE.out]; unfold Sm.unE; rw [if_pos HLEN.out, HU.out]; rfl
        have HE1 := Lib.hid e1
        have HE2 := Lib.hid e2
        clear e1 e2
        have HRES := setRow_heap _ w.heap.size _ (dArr d) _ _ G1.out
        have HBR := below_setRow (g := w.heap.size) hb (Nat.le_refl _) (dArr d)
        have HRES' := Lib.hid HRES
        clear HRES
        go_wp2_with (first | refine wpList_load_row rfl 50 _ rfl (w.heap.size + 1) rfl _ _ _ _ G2.out Try.underlying50 rfl (by rw [d32s, dArr_size]) ?_ | refine wpList_store_row rfl 50 _ _ rfl w.heap.size (dArr d) rfl rfl _ _ G1.out (by rw [d32s, dArr_size]) (by rw [dArr_size, dArr_size]) (dArr_one _) ?_)
        refine bodyPost_ret (results_row_tmp rfl _ _ _ _ _ _ _ rfl HRES'.out Try.underlying50 rfl (by rw [d32s, dArr_size])) rfl ⟨by rw [HE1.out, HE2.out]; rfl, HBR⟩
  · have e1 : Sm.unD s.data.toList = [] := by unfold Sm.unD; rw [if_neg (by rw [hsl]; exact h64)]
    have e2 : Sm.unE s.data.toList = 2 := by unfold Sm.unE; rw [if_neg (by rw [hsl]; exact h64)]
    rw [e1, e2]
    clear e1 e2
    have hne : ¬ ((s.size : Int) = 64) := by omega
    have hD1 := heap_alloc_new w (.cells (dArr []) 50)
    have hD2 := blk_old _ (.cells (dArr []) 50) hD1
    have HRES := setRow_heap _ w.heap.size _ (dArr []) _ _ hD2
    have hB : Below w.heap.size w ((w.alloc (.cells (dArr []) 50)).alloc (.cells (dArr []) 50)) := ((Below.refl _ _).alloc (Nat.le_refl _) _).alloc (by rw [size_alloc]; omega) _
    have HBR := below_setRow (g := w.heap.size) hB (Nat.le_refl _) (dArr [])
    have HD2 := Lib.hid hD2
    have HRES' := Lib.hid HRES
    clear hD1 hD2 HRES hsl h64
    go_enter Try.func31, Try.ntmps31
    go_wp2_with (first | refine kl_alloc rfl 50 rfl (dArr []) i0 hi0 _ hz0 rfl ?_ | refine kl_build0 rfl 50 rfl 32 5 Try.underlying50 (by kernel_rfl) i0 hi0 (dArr []) hz0 ?_ | refine wpList_store_row rfl 50 _ _ rfl w.heap.size (dArr []) rfl rfl _ _ HD2.out (by rw [d32s, dArr_size]) (by rw [dArr_size]) (dArr_one _) ?_)
    refine bodyPost_ret (results_row_tmp rfl _ _ _ _ _ _ _ rfl HRES'.out Try.underlying50 rfl (by rw [d32s, dArr_size])) rfl ⟨rfl, HBR⟩
end Go.Proofs.Ytgdjfijkbemkeaa
