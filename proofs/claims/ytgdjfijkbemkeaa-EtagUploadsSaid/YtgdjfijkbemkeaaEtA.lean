/-
  Walk: what the statements of the uploads ask of a start.
-/
import Derived.Test.YtgdjfijkbemkeaaEtS
namespace Go.Proofs.Ytgdjfijkbemkeaa
open Go.RowKit
set_option maxHeartbeats 8000000
set_option maxRecDepth 20000
set_option linter.unusedVariables false

/-- a slice literal of two wide elements -/
theorem kl_build2 {P : Program} {ops : Array Oper} {rest : List Oper} {o : Oper} {a : Act} {w : World} {Q : Exit → Act → World → Prop} (hgd : Region.wanted o (yielded ops a.tmps) = true) (t e : TypeId) (x y : Operand) (ho : o.op = .buildSlice t 2 #[(0, x), (1, y)])
    (cs ds : Array Value) (hx : a.eval x = .agg cs) (hy : a.eval y = .agg ds) (ie : TypeInfo) (z : Value) (hu : P.underlying t = some (.slice e)) (hie : P.info? e = some ie) (hz : ie.zero = some z) (hs : ie.size = cs.size) (hs2 : ds.size = cs.size) (h0 : 0 < cs.size) (h24 : cs.size ≤ 4096)
    (h : wpList P ops Q rest (a.put o.dst (.slice (some ⟨w.heap.size, 0, none⟩) 2 2)) (w.alloc (.cells (cs ++ ds) e))) : wpList P ops Q (o :: rest) a w := by
  unfold wpList
  rw [if_pos hgd]
  refine .inl ?_
  refine wp_buildSlice t e 2 _ ho (cs ++ ds) ie z hu hie hz (by rw [hs]; omega) (by rw [hs]; omega) ?_ h
  rw [hs, show cs ++ ds = (cs.toList ++ ds.toList).toArray from by apply Array.ext'; simp]
  have := Great.fill_whole h0 [Value.agg cs, Value.agg ds] ((Array.range (2 * cs.size)).map (z.cells[· % z.cells.size]!)) (by intro v hv; simp at hv; rcases hv with rfl | rfl; rfl; exact hs2) (by simp)
  simpa [hx, hy, Value.cells] using this
theorem RdD.of_block {w : World} {b c : Nat} {e : TypeId} {fr : Nat × Nat} (ds : List (List UInt8)) (cs : Array Value) (hcs : cs.toList = dcs ds) (h : w.heap[b]? = some (.cells cs e fr)) (hc : ds.length ≤ c) :
    RdD (.slice (some ⟨b, 0, none⟩) ds.length c) ds w.heap.size w := by
  refine .inr ⟨_, c, rfl, hc, .inr ⟨b, 0, rfl, lt_of_block h, fun i hi j u hj => ?_⟩⟩
  have hj32 : j < 32 := by have := (List.getElem?_eq_some_iff.1 hj).1; rwa [Array.length_toList, dArr_size] at this
  rw [Nat.zero_add, cell_of_row _ _ _ _ _ _ h, ← Array.getElem?_toList, hcs, dcs_get ds i hi j hj32]
  exact hj
theorem dcs_one (a : List UInt8) : (dArr a).toList = dcs [a] := by simp [dcs]
theorem dcs_two (a b : List UInt8) : (dArr a ++ dArr b).toList = dcs [a, b] := by simp [dcs]

def p0L : List UInt8 := [48, 49, 50, 51, 52, 53, 54, 55, 56, 57, 97, 98, 99, 100, 101, 102]
def sL : List UInt8 := [48, 49, 50, 51, 52, 53, 54, 55, 56, 57, 97, 98, 99, 100, 101, 102, 88]
theorem parts_s : Em.parts sL = [p0L, [88]] := by decide +kernel
theorem mark_s : Em.mark sL = Em.comp [Sm.digest p0L, Sm.digest [88]] := by
  unfold Em.mark; rw [if_neg (by decide), parts_s]; rfl
theorem mark_x : Em.mark [120] = Sm.digest [120] := by unfold Em.mark; rw [if_pos (by decide)]
def awU : Um.Up := Um.put (Um.put Um.none0 2 [88]) 1 p0L
theorem awU_good : Um.Good awU := (Um.Good.none0.put (by decide) (by decide) (by decide)).put (by decide) (by decide) (by decide)
theorem aw_put2 : Um.putU Um.none0 2 [88] = Um.put Um.none0 2 [88] ∧ Um.putE 2 [88] = 0 ∧ Um.putD 2 [88] = Sm.digest [88] := by
  have h : Um.putE 2 [88] = 0 := by decide
  refine ⟨?_, h, ?_⟩
  · unfold Um.putU; rw [if_pos h]; rfl
  · unfold Um.putD; rw [if_pos h]
theorem aw_put1 : Um.putU (Um.put Um.none0 2 [88]) 1 p0L = awU ∧ Um.putE 1 p0L = 0 ∧ Um.putD 1 p0L = Sm.digest p0L := by
  have h : Um.putE 1 p0L = 0 := by decide
  refine ⟨?_, h, ?_⟩
  · unfold Um.putU; rw [if_pos h]; rfl
  · unfold Um.putD; rw [if_pos h]
theorem aw_put0 (U : Um.Up) (l : List UInt8) : Um.putU U 0 l = U ∧ Um.putE 0 l = 1 ∧ Um.putD 0 l = [] := by
  have h : Um.putE 0 l = 1 := by unfold Um.putE; rw [if_pos (by omega)]
  refine ⟨?_, h, ?_⟩
  · unfold Um.putU; rw [if_neg (by omega)]
  · unfold Um.putD; rw [if_neg (by omega)]
theorem awU1 : awU 1 = p0L := rfl
theorem awU2 : awU 2 = [88] := rfl
theorem awU_cnt : Um.cnt awU = 2 := by decide +kernel
theorem awU_there : Um.there awU = [1, 2] := by decide +kernel
theorem aw_done2 : Um.doneE awU [Sm.digest p0L, Sm.digest [88]] = 0 ∧ Um.doneS awU [Sm.digest p0L, Sm.digest [88]] = sL ∧ Um.doneD awU [Sm.digest p0L, Sm.digest [88]] = Em.comp [Sm.digest p0L, Sm.digest [88]] := by
  have h : Um.doneE awU [Sm.digest p0L, Sm.digest [88]] = 0 := Um.doneE_ok (by simp) (fun i hi => by
    match i, hi with
    | 0, _ => rw [awU1]; decide
    | 1, _ => rw [awU2]; decide) (fun i hi => by
    match i, hi with
    | 0, _ => rw [awU1]; rfl
    | 1, _ => rw [awU2]; rfl) (by rw [awU_cnt]; rfl) (fun i hi => by
    have : i = 0 := by simp at hi; omega
    subst this
    rw [awU1]; rfl)
  refine ⟨h, ?_, ?_⟩
  · unfold Um.doneS; rw [if_pos h]; rfl
  · unfold Um.doneD; rw [if_pos h]
theorem aw_done1 : Um.doneE awU [Sm.digest p0L] = 2 ∧ Um.doneS awU [Sm.digest p0L] = [] ∧ Um.doneD awU [Sm.digest p0L] = [] := by
  have h : Um.doneE awU [Sm.digest p0L] = 2 := Um.doneE_form (by simp) (fun i hi => by
    have : i = 0 := by simp at hi; omega
    subst this
    rw [awU1]; decide) (fun i hi => by
    have : i = 0 := by simp at hi; omega
    subst this
    rw [awU1]; rfl) (.inl (by rw [awU_cnt]; simp))
  refine ⟨h, ?_, ?_⟩
  · unfold Um.doneS; rw [if_neg (by omega)]
  · unfold Um.doneD; rw [if_neg (by omega)]
theorem aw_done0 : Um.doneE awU [] = 3 ∧ Um.doneS awU [] = [] ∧ Um.doneD awU [] = [] := by
  have h : Um.doneE awU [] = 3 := Um.doneE_nil rfl
  refine ⟨h, ?_, ?_⟩
  · unfold Um.doneS; rw [if_neg (by omega)]
  · unfold Um.doneD; rw [if_neg (by omega)]

theorem Ch.cell {w w' : World} {S : List Nat} (c : Ch w w' S) {a : Addr} (h : a.block < w.heap.size) (hn : a.block ∉ S) : w'.cell? a = w.cell? a := by
  unfold World.cell?
  rw [c.block a.block h hn]
theorem ab_nil' {P : Program} {ops : Array Oper} {Q : Exit → Act → World → Prop} {a : Act} {w : World} (h : Q .normal a w) : wpList P ops Q [] a w := h
/-- a call alone, whatever it hands back -/
theorem ab_callL {P : Program} {ops : Array Oper} {md : Region.Mode} {B : Nat} {w0 : World} {Q : Exit → Act → World → Prop} {rest : List (Bool × Nat)} {i : Nat} {o : Oper} {a : Act} {L : List (Nat × Obj)} {f : FuncId} {args : Array Value} (ho : ops[i]? = some o) (hw : Region.wanted o (yielded ops a.tmps) = true)
    (hr : ∀ w, (execOp a.eval o).run P w = .ok (.enter f args) w) (h : ∀ w, Kn B w0 L w → Calls P f args w fun e w' => ∃ v L', e = .returned v ∧ (∀ x ∈ L, x ∈ L') ∧ Kn B w0 L' w' ∧ wpAbs P md ops B w0 Q rest (a.put o.dst v) L') :
    wpAbs P md ops B w0 Q ((false, i) :: rest) a L := ⟨o, ho, hw, fun w hk => by
  unfold wpList
  rw [if_pos hw]
  refine .inl ?_
  unfold Oper.wp
  rw [hr]
  refine (h w hk).mono ?_
  rintro e w'' ⟨v, L', he, hs, hk', hp⟩
  subst he
  exact ⟨L', .inr hs, hk', hp⟩⟩
theorem Kn.ch {B : Nat} {w0 w w' : World} {L : List (Nat × Obj)} {m : Nat} (h : Kn B w0 L w) (hc : Ch w w' [m]) (hB : B ≤ m) (hL : ∀ x ∈ L, x.1 ≠ m) : Kn B w0 L w' :=
  ⟨Ch.below h.below hc h.base (fun k hk => by simp at hk; omega), Nat.le_trans h.base hc.size, fun x hx => hc.keep (h.has x hx) (by simpa using hL x hx)⟩
attribute [local irreducible] dArr
theorem awake05 (w : World) :
    Calls Try.prog 38 #[] w fun e w' => e = .returned (.bool true) ∧ Below w.heap.size w w' := by
  obtain ⟨i0, hi0, hz0, hs0⟩ := d32
  have ccut := fun w => etagCut ⟨#[48, 49, 50, 51, 52, 53, 54, 55, 56, 57, 97, 98, 99, 100, 101, 102, 88]⟩ (by decide) w
  rw [show (⟨#[48, 49, 50, 51, 52, 53, 54, 55, 56, 57, 97, 98, 99, 100, 101, 102, 88]⟩ : ByteArray).data.toList = sL from rfl, parts_s] at ccut
  have cput2 := fun g m w h => etagPut Um.none0 Um.Good.none0 g m 0 (by decide) 2 (by decide) (by decide) ⟨#[88]⟩ (by decide) w h
  rw [show (⟨#[88]⟩ : ByteArray).data.toList = [88] from rfl, aw_put2.1, aw_put2.2.1, aw_put2.2.2] at cput2
  have cput1 := fun g m w h => etagPut (Um.put Um.none0 2 [88]) (Um.Good.none0.put (by decide) (by decide) (by decide)) g m 1 (by decide) 1 (by decide) (by decide) ⟨p0L.toArray⟩ (by decide) w h
  rw [show (⟨p0L.toArray⟩ : ByteArray).data.toList = p0L from rfl, aw_put1.1, aw_put1.2.1, aw_put1.2.2] at cput1
  have cput0 := fun g m w h => etagPut awU awU_good g m 2 (by decide) 0 (by decide) (by decide) ⟨#[120]⟩ (by decide) w h
  rw [show (⟨#[120]⟩ : ByteArray).data.toList = [120] from rfl, (aw_put0 awU [120]).1, (aw_put0 awU [120]).2.1, (aw_put0 awU [120]).2.2] at cput0
  have cd2 := fun g m v w h h' => etagDone awU awU_good g m 2 (by decide) v [Sm.digest p0L, Sm.digest [88]] (by simp) (by intro d hd; simp at hd; rcases hd with rfl | rfl <;> exact digest_length _) w h h'
  rw [aw_done2.1, aw_done2.2.1, aw_done2.2.2, show sL.toArray = #[48, 49, 50, 51, 52, 53, 54, 55, 56, 57, 97, 98, 99, 100, 101, 102, 88] from rfl] at cd2
  have cd1 := fun g m v w h h' => etagDone awU awU_good g m 2 (by decide) v [Sm.digest p0L] (by simp) (by intro d hd; simp at hd; subst hd; exact digest_length _) w h h'
  rw [aw_done1.1, aw_done1.2.1, aw_done1.2.2] at cd1
  have cd0 := fun g m v w h h' => etagDone awU awU_good g m 2 (by decide) v [] (by simp) (by intro d hd; simp at hd) w h h'
  rw [aw_done0.1, aw_done0.2.1, aw_done0.2.2] at cd0
  have chave := fun g m w h => etagHave awU awU_good g m 3 (by decide) w h
  rw [awU_there] at chave
  have cofs := fun w => etagOf ⟨#[48, 49, 50, 51, 52, 53, 54, 55, 56, 57, 97, 98, 99, 100, 101, 102, 88]⟩ (by decide) w
  rw [show (⟨#[48, 49, 50, 51, 52, 53, 54, 55, 56, 57, 97, 98, 99, 100, 101, 102, 88]⟩ : ByteArray).data.toList = sL from rfl, mark_s] at cofs
  have cofx := fun w => etagOf ⟨#[120]⟩ (by decide) w
  rw [show (⟨#[120]⟩ : ByteArray).data.toList = [120] from rfl, mark_x] at cofx
  have cshx := fun b c w t fr h => ofOne b c [120] (by decide) w t fr h
  have cshX := fun b c w t fr h => ofOne b c [88] (by decide) w t fr h
  have ccomp := fun v w h => composed v [Sm.digest p0L, Sm.digest [88]] (by simp) (by intro d hd; simp at hd; rcases hd with rfl | rfl <;> exact digest_length _) w h
  have ccnt := fun w => count5 17 (by decide) (by decide) w
  rw [show Em.np (Int.toNat 17) = 2 from rfl] at ccnt
  generalize Em.comp [Sm.digest p0L, Sm.digest [88]] = DD at *
  generalize Sm.digest p0L = D0 at *
  generalize Sm.digest [88] = DX at *
  generalize Sm.digest [120] = D1 at *
  generalize hUU : awU = UU at *
  generalize hU1 : Um.put Um.none0 2 [88] = U1 at *
  clear hUU hU1
  have hdX := eql_d_run DX DX true (deq_self _)
  have hdD := eql_d_run DD DD true (deq_self _)
  have hd1 := eql_d_run D1 D1 true (deq_self _)
  have hgd := eqGuard_d
  have Hccut := Lib.hid ccut
  have Hcput2 := Lib.hid cput2
  have Hcput1 := Lib.hid cput1
  have Hcput0 := Lib.hid cput0
  have Hcd2 := Lib.hid cd2
  have Hcd1 := Lib.hid cd1
  have Hcd0 := Lib.hid cd0
  have Hchave := Lib.hid chave
  have Hcofs := Lib.hid cofs
  have Hcofx := Lib.hid cofx
  have Hcshx := Lib.hid cshx
  have HcshX := Lib.hid cshX
  have Hccomp := Lib.hid ccomp
  have Hccnt := Lib.hid ccnt
  have HhdX := Lib.hid hdX
  have HhdD := Lib.hid hdD
  have Hhd1 := Lib.hid hd1
  have Hhgd := Lib.hid hgd
  clear ccut cput2 cput1 cput0 cd2 cd1 cd0 chave cofs cofx cshx cshX ccomp ccnt hdX hdD hd1 hgd
  go_enter Try.func38, Try.ntmps38
  go_wp2_with fail
  refine (Hccut.out _).mono ?_
  rintro e w1 ⟨v1, n1, rfl, hr1, hb1⟩
  have k1 := (Kn.start w).call hb1
  obtain ⟨A1, c1, rfl⟩ := hr1.slice
  obtain rfl : n1 = 2 := by rw [← hr1.1]; rfl
  obtain ⟨b, off, hA, hc1, hbb, hcell⟩ := hr1.at_ (show 0 < 2 by omega)
  subst hA
  have hc0 := hcell 0 (.string ⟨p0L.toArray⟩) rfl
  have hcX := hcell 1 (.string ⟨#[88]⟩) rfl
  rw [Nat.add_zero] at hc0
  have hsz1 := k1.base
  have HC0 := Lib.hid hc0
  clear hr1 hcell hb1 hc0
  go_wp2_with fail
  refine (etagNew _).mono ?_
  rintro e w3 ⟨g, m, rfl, hu3, hg3, hm3, hb3⟩
  have k3 := k1.call hb3
  have hmB : w.heap.size ≤ m := by omega
  have hbm : b ≠ m := by omega
  have hcX3 : w3.cell? ⟨b, off + 1, none⟩ = some (.string ⟨#[88]⟩) := (Below.cell hb3 (a := ⟨b, off + 1, none⟩) hbb).trans hcX
  have hc03 : w3.cell? ⟨b, off, none⟩ = some (.string ⟨p0L.toArray⟩) := (Below.cell hb3 (a := ⟨b, off, none⟩) hbb).trans HC0.out
  have hb3s := hb3.size
  have HC03 := Lib.hid hc03
  clear k1 hb3 HC0 hcX hc03
  go_wp2_with fail
  refine (Hcput2.out g m _ hu3).mono ?_
  rintro e w4 ⟨rfl, hu4, hc4⟩
  have k4 := k3.ch hc4 hmB (fun x hx => by cases hx)
  have hc04 : w4.cell? ⟨b, off, none⟩ = some (.string ⟨p0L.toArray⟩) := (Ch.cell hc4 (a := ⟨b, off, none⟩) (by show b < _; omega) (by simpa using hbm)).trans HC03.out
  have hm4 := hu4.lt.2.1
  have hu5 := hu4.below ((Below.refl _ w4).alloc (Nat.le_refl _) (.cells (dArr DX) 50)) hu4.lt.1 hu4.lt.2.1
  have k5 := k4.alloc (.cells (dArr DX) 50)
  have hbl4 : b < w4.heap.size := by have := hc4.size; omega
  have hcc5 : (w4.alloc (.cells (dArr DX) 50)).cell? ⟨b, off, none⟩ = some (.string ⟨p0L.toArray⟩) := (Below.cell ((Below.refl _ w4).alloc (Nat.le_refl _) (.cells (dArr DX) 50)) (a := ⟨b, off, none⟩) hbl4).trans hc04
  clear hu3 hc4 hu4 k3 k4 hcX3 hc04
  go_upto_region 7 with (first | refine kl_alloc rfl 50 rfl (dArr []) i0 hi0 _ hz0 rfl ?_ | refine kl_store_new rfl 50 _ _ rfl (dArr DX) rfl rfl _ _ (by rw [d32s, dArr_size]) (by simp only [dArr_size]) (dArr_one _) ?_)
  generalize w4.alloc (.cells (dArr DX) 50) = w5 at *
  generalize w4.heap.size = p4 at *
  go_wp2_with fail
  refine (Hcput1.out g m _ hu5).mono ?_
  rintro e w6 ⟨rfl, hu6, hc6⟩
  have k6 := k5.ch hc6 hmB (fun x hx => by simp only [List.mem_cons, List.not_mem_nil, or_false] at hx; subst hx; show p4 ≠ m; omega)
  have k7 := k6.alloc (.cells (dArr D0) 50)
  have hu7 := hu6.below ((Below.refl _ w6).alloc (Nat.le_refl _) (.cells (dArr D0) 50)) hu6.lt.1 hu6.lt.2.1
  have hm6 := hu6.lt.2.1
  clear hu5 hu6 hc6 k5 k6 hcc5 HC03
  go_upto_region 8 with (first | refine kl_alloc rfl 50 rfl (dArr []) i0 hi0 _ hz0 rfl ?_ | refine kl_store_new rfl 50 _ _ rfl (dArr D0) rfl rfl _ _ (by rw [d32s, dArr_size]) (by simp only [dArr_size]) (dArr_one _) ?_)
  generalize w6.alloc (.cells (dArr D0) 50) = w7 at *
  generalize w6.heap.size = p6 at *
  have K7 := Lib.hid k7
  have hrd := RdD.of_block (c := 2) [D0, DX] (dArr D0 ++ dArr DX) (dcs_two D0 DX) (heap_alloc_new w7 (.cells (dArr D0 ++ dArr DX) 50)) (Nat.le_refl 2)
  have hu8 := hu7.below ((Below.refl _ w7).alloc (Nat.le_refl _) (.cells (dArr D0 ++ dArr DX) 50)) hu7.lt.1 hu7.lt.2.1
  have k8 := k7.alloc' (.cells (dArr D0 ++ dArr DX) 50)
  have Hhrd := Lib.hid hrd
  have Hhu8 := Lib.hid hu8
  have Hk8 := Lib.hid k8
  clear hrd hu8 k8
  clear hu7 k7
  go_wp2_with (first | refine wpList_load_row rfl 50 _ rfl p6 rfl _ _ _ _ (K7.out.get 0 rfl) Try.underlying50 rfl (by rw [d32s, dArr_size]) ?_ | refine wpList_load_row rfl 50 _ rfl p4 rfl _ _ _ _ (K7.out.get 1 rfl) Try.underlying50 rfl (by rw [d32s, dArr_size]) ?_ | refine kl_build2 rfl 62 50 _ _ rfl (dArr D0) (dArr DX) rfl rfl i0 (.agg (dArr [])) Try.underlying62 hi0 hz0 (by rw [hs0, dArr_size]) (by rw [dArr_size, dArr_size]) (by rw [dArr_size]; omega) (by rw [dArr_size]; omega) ?_)
  refine (Hcd2.out g m _ _ Hhu8.out Hhrd.out).mono ?_
  rintro e w9 ⟨rfl, hb9⟩
  have k9 := Hk8.out.call hb9
  have hu9 := Hhu8.out.below hb9 Hhu8.out.lt.1 Hhu8.out.lt.2.1
  have k10 := k9.alloc (.cells (dArr DD) 50)
  have hu10 := hu9.below ((Below.refl _ w9).alloc (Nat.le_refl _) (.cells (dArr DD) 50)) hu9.lt.1 hu9.lt.2.1
  have hm9 := hu9.lt.2.1
  clear k9 hu9 hb9 Hhu8 Hk8 Hhrd K7
  go_upto_region 9 with (first | refine kl_alloc rfl 50 rfl (dArr []) i0 hi0 _ hz0 rfl ?_ | refine kl_store_new rfl 50 _ _ rfl (dArr DD) rfl rfl _ _ (by rw [d32s, dArr_size]) (by simp only [dArr_size]) (dArr_one _) ?_)
  generalize w9.alloc (.cells (dArr DD) 50) = w10 at *
  generalize w9.heap.size = p9 at *
  have K10 := Lib.hid k10
  have hrd := RdD.of_block (c := 1) [D0] (dArr D0) (dcs_one D0) (heap_alloc_new w10 (.cells (dArr D0) 50)) (Nat.le_refl 1)
  have hu11 := hu10.below ((Below.refl _ w10).alloc (Nat.le_refl _) (.cells (dArr D0) 50)) hu10.lt.1 hu10.lt.2.1
  have k11 := k10.alloc' (.cells (dArr D0) 50)
  have Hhrd := Lib.hid hrd
  have Hhu11 := Lib.hid hu11
  have Hk11 := Lib.hid k11
  clear hrd hu11 k11
  clear hu10 k10
  go_wp2_with (first | refine wpList_load_row rfl 50 _ rfl p6 rfl _ _ _ _ (K10.out.get 1 rfl) Try.underlying50 rfl (by rw [d32s, dArr_size]) ?_ | refine kl_build1 rfl 62 50 _ rfl (dArr D0) rfl i0 (.agg (dArr [])) Try.underlying62 hi0 hz0 (by rw [hs0, dArr_size]) (by rw [dArr_size]; omega) (by rw [dArr_size]; omega) ?_)
  refine (Hcd1.out g m _ _ Hhu11.out Hhrd.out).mono ?_
  rintro e w12 ⟨rfl, hb12⟩
  have k12 := Hk11.out.call hb12
  have hu12 := Hhu11.out.below hb12 Hhu11.out.lt.1 Hhu11.out.lt.2.1
  have k13 := k12.alloc (.cells (dArr []) 50)
  have hu13 := hu12.below ((Below.refl _ w12).alloc (Nat.le_refl _) (.cells (dArr []) 50)) hu12.lt.1 hu12.lt.2.1
  have hm12 := hu12.lt.2.1
  clear k12 hu12 hb12 Hhu11 Hk11 Hhrd K10
  go_upto_region 10 with (first | refine kl_alloc rfl 50 rfl (dArr []) i0 hi0 _ hz0 rfl ?_ | refine kl_store_new rfl 50 _ _ rfl (dArr []) rfl rfl _ _ (by rw [d32s, dArr_size]) (by simp only [dArr_size]) (dArr_one _) ?_)
  generalize w12.alloc (.cells (dArr []) 50) = w13 at *
  generalize w12.heap.size = p12 at *
  go_wp2_with fail
  refine (Hcd0.out g m _ _ hu13 (.inl ⟨rfl, rfl⟩)).mono ?_
  rintro e w15 ⟨rfl, hb15⟩
  have k15 := k13.call hb15
  have hu15 := hu13.below hb15 hu13.lt.1 hu13.lt.2.1
  have k16 := k15.alloc (.cells (dArr []) 50)
  have hu16 := hu15.below ((Below.refl _ w15).alloc (Nat.le_refl _) (.cells (dArr []) 50)) hu15.lt.1 hu15.lt.2.1
  have hm15 := hu15.lt.2.1
  clear k15 hu15 hb15 hu13 k13
  go_upto_region 11 with (first | refine kl_alloc rfl 50 rfl (dArr []) i0 hi0 _ hz0 rfl ?_ | refine kl_store_new rfl 50 _ _ rfl (dArr []) rfl rfl _ _ (by rw [d32s, dArr_size]) (by simp only [dArr_size]) (dArr_one _) ?_)
  generalize w15.alloc (.cells (dArr []) 50) = w16 at *
  generalize w15.heap.size = p15 at *
  go_wp2_with fail
  refine (Hcput0.out g m _ hu16).mono ?_
  rintro e w17 ⟨rfl, hu17, hc17⟩
  have k17 := k16.ch hc17 hmB (fun x hx => by simp only [List.mem_cons, List.not_mem_nil, or_false] at hx; rcases hx with rfl | rfl | rfl | rfl | rfl <;> (intro h; simp at h; omega))
  have k18 := k17.alloc (.cells (dArr []) 50)
  have hu18 := hu17.below ((Below.refl _ w17).alloc (Nat.le_refl _) (.cells (dArr []) 50)) hu17.lt.1 hu17.lt.2.1
  clear k17 hu17 hc17 hu16 k16
  go_upto_region 12 with (first | refine kl_alloc rfl 50 rfl (dArr []) i0 hi0 _ hz0 rfl ?_ | refine kl_store_new rfl 50 _ _ rfl (dArr []) rfl rfl _ _ (by rw [d32s, dArr_size]) (by simp only [dArr_size]) (dArr_one _) ?_)
  generalize w17.alloc (.cells (dArr []) 50) = w18 at *
  generalize w17.heap.size = p17 at *
  obtain ⟨hg18, DM, ⟨es, clock, hm18, hrest⟩, hDM⟩ := hu18
  have k19 := (k18.add hg18).add hm18
  have hua : ∀ wS, Kn w.heap.size w [(m, .map es clock), (g, .cells #[.map (some m)] 117), (p17, .cells (dArr []) 50), (p15, .cells (dArr []) 50), (p12, .cells (dArr []) 50), (p9, .cells (dArr DD) 50), (p6, .cells (dArr D0) 50), (p4, .cells (dArr DX) 50)] wS → UpAt UU g m 3 wS := fun wS hS => ⟨hS.get 1 rfl, DM, ⟨es, clock, hS.get 0 rfl, hrest⟩, hDM⟩
  have Hhua := Lib.hid hua
  clear hua
  clear hg18 hm18 hrest hDM k18
  have hgd := Hhgd.out
  have hdX := HhdX.out
  have hdD := HhdD.out
  have hd1 := Hhd1.out
  refine wp_region_abs w.heap.size w [(m, .map es clock), (g, .cells #[.map (some m)] 117), (p17, .cells (dArr []) 50), (p15, .cells (dArr []) 50), (p12, .cells (dArr []) 50), (p9, .cells (dArr DD) 50), (p6, .cells (dArr D0) 50), (p4, .cells (dArr DX) 50)] ((true, 0) :: (true, 1) :: (true, 2) :: (true, 3) :: (true, 4) :: (true, 5) :: (true, 6) :: (true, 7) :: (false, 8) :: (true, 9) :: (true, 10) :: (true, 11) :: (true, 12) :: (true, 13) :: (true, 14) :: (true, 15) :: (true, 16) :: (true, 17) :: (true, 18) :: (true, 19) :: (true, 20) :: (true, 21) :: (true, 22) :: (true, 23) :: (true, 24) :: (true, 25) :: (true, 26) :: (false, 27) :: (true, 28) :: (true, 29) :: (true, 30) :: (true, 31) :: (true, 32) :: (true, 33) :: (true, 34) :: (true, 35) :: (true, 36) :: (true, 37) :: (true, 38) :: (true, 39) :: (true, 40) :: (true, 41) :: (true, 42) :: (true, 43) :: (true, 44) :: (true, 45) :: (true, 46) :: (true, 47) :: (true, 48) :: (true, 49) :: (true, 50) :: (true, 51) :: (true, 52) :: (false, 53) :: (true, 54) :: (true, 55) :: (true, 56) :: (true, 57) :: (true, 58) :: (false, 59) :: (true, 60) :: (true, 61) :: (true, 62) :: (false, 63) :: []) (by kernel_rfl) (by kernel_rfl) k19.drew ?_
  clear k19
  (apply ab_pure
   · (simp only [List.getElem?_toArray, List.getElem?_cons_succ, List.getElem?_cons_zero]; rfl)
   · rfl
   · (intro wS hS; go_simp; try exact rfl)
   simp only [Act.put, List.setIfInBounds_toArray, List.set_cons_zero, List.set_cons_succ])
  (apply ab_pure (v := .bool true)
   · (simp only [List.getElem?_toArray, List.getElem?_cons_succ, List.getElem?_cons_zero]; rfl)
   · rfl
   · (intro wS hS; go_simp; done)
   simp only [Act.put, List.setIfInBounds_toArray, List.set_cons_zero, List.set_cons_succ])
  (apply ab_pure
   · (simp only [List.getElem?_toArray, List.getElem?_cons_succ, List.getElem?_cons_zero]; rfl)
   · rfl
   · (intro wS hS; go_simp; try exact rfl)
   simp only [Act.put, List.setIfInBounds_toArray, List.set_cons_zero, List.set_cons_succ])
  (apply ab_pure
   · (simp only [List.getElem?_toArray, List.getElem?_cons_succ, List.getElem?_cons_zero]; rfl)
   · rfl
   · (intro wS hS; go_simp; try exact rfl)
   simp only [Act.put, List.setIfInBounds_toArray, List.set_cons_zero, List.set_cons_succ])
  (apply ab_pure (v := .bool true)
   · (simp only [List.getElem?_toArray, List.getElem?_cons_succ, List.getElem?_cons_zero]; rfl)
   · rfl
   · (intro wS hS; go_simp; done)
   simp only [Act.put, List.setIfInBounds_toArray, List.set_cons_zero, List.set_cons_succ])
  (apply ab_pure
   · (simp only [List.getElem?_toArray, List.getElem?_cons_succ, List.getElem?_cons_zero]; rfl)
   · rfl
   · (intro wS hS; go_simp; try exact rfl)
   simp only [Act.put, List.setIfInBounds_toArray, List.set_cons_zero, List.set_cons_succ])
  (apply ab_pure
   · (simp only [List.getElem?_toArray, List.getElem?_cons_succ, List.getElem?_cons_zero]; rfl)
   · rfl
   · (intro wS hS; go_simp; try exact rfl)
   simp only [Act.put, List.setIfInBounds_toArray, List.set_cons_zero, List.set_cons_succ])
  (apply ab_pure
   · (simp only [List.getElem?_toArray, List.getElem?_cons_succ, List.getElem?_cons_zero]; rfl)
   · rfl
   · (intro wS hS; exact mx_load_row 50 _ rfl _ rfl _ _ _ _ (hS.get 7 rfl) Try.underlying50 rfl (by rw [d32s, dArr_size]))
   simp only [Act.put, List.setIfInBounds_toArray, List.set_cons_zero, List.set_cons_succ])
  (apply ab_loud
   · (simp only [List.getElem?_toArray, List.getElem?_cons_succ, List.getElem?_cons_zero]; rfl)
   · rfl
   intro wS hS
   go_wp2_with fail)
  refine ab_on _ (fun x hx => List.mem_cons_of_mem _ hx) (hS.alloc _) ?_
  clear hS
  generalize wS.heap.size = pb1 at *
  clear wS
  (apply ab_call
   · (simp only [List.getElem?_toArray, List.getElem?_cons_succ, List.getElem?_cons_zero]; rfl)
   · rfl
   · (intro _; go_simp; first | exact ⟨rfl, rfl⟩ | exact rfl)
   · (intro wS hS; exact HcshX.out _ _ _ _ _ (hS.get 0 rfl))
   simp only [Act.put, List.setIfInBounds_toArray, List.set_cons_zero, List.set_cons_succ])
  (apply ab_pure (v := .bool true)
   · (simp only [List.getElem?_toArray, List.getElem?_cons_succ, List.getElem?_cons_zero]; rfl)
   · rfl
   · (intro wS hS; go_simp; done)
   simp only [Act.put, List.setIfInBounds_toArray, List.set_cons_zero, List.set_cons_succ])
  (apply ab_pure
   · (simp only [List.getElem?_toArray, List.getElem?_cons_succ, List.getElem?_cons_zero]; rfl)
   · rfl
   · (intro wS hS; go_simp; try exact rfl)
   simp only [Act.put, List.setIfInBounds_toArray, List.set_cons_zero, List.set_cons_succ])
  (apply ab_pure
   · (simp only [List.getElem?_toArray, List.getElem?_cons_succ, List.getElem?_cons_zero]; rfl)
   · rfl
   · (intro wS hS; go_simp; try exact rfl)
   simp only [Act.put, List.setIfInBounds_toArray, List.set_cons_zero, List.set_cons_succ])
  (apply ab_pure
   · (simp only [List.getElem?_toArray, List.getElem?_cons_succ, List.getElem?_cons_zero]; rfl)
   · rfl
   · (intro wS hS; go_simp; try exact rfl)
   simp only [Act.put, List.setIfInBounds_toArray, List.set_cons_zero, List.set_cons_succ])
  (apply ab_pure
   · (simp only [List.getElem?_toArray, List.getElem?_cons_succ, List.getElem?_cons_zero]; rfl)
   · rfl
   · (intro wS hS; go_simp; try exact rfl)
   simp only [Act.put, List.setIfInBounds_toArray, List.set_cons_zero, List.set_cons_succ])
  (apply ab_pure (v := .bool true)
   · (simp only [List.getElem?_toArray, List.getElem?_cons_succ, List.getElem?_cons_zero]; rfl)
   · rfl
   · (intro wS hS; go_simp; done)
   simp only [Act.put, List.setIfInBounds_toArray, List.set_cons_zero, List.set_cons_succ])
  (apply ab_pure
   · (simp only [List.getElem?_toArray, List.getElem?_cons_succ, List.getElem?_cons_zero]; rfl)
   · rfl
   · (intro wS hS; go_simp; try exact rfl)
   simp only [Act.put, List.setIfInBounds_toArray, List.set_cons_zero, List.set_cons_succ])
  (apply ab_pure
   · (simp only [List.getElem?_toArray, List.getElem?_cons_succ, List.getElem?_cons_zero]; rfl)
   · rfl
   · (intro wS hS; go_simp; try exact rfl)
   simp only [Act.put, List.setIfInBounds_toArray, List.set_cons_zero, List.set_cons_succ])
  (apply ab_pure
   · (simp only [List.getElem?_toArray, List.getElem?_cons_succ, List.getElem?_cons_zero]; rfl)
   · rfl
   · (intro wS hS; exact mx_load_row 50 _ rfl _ rfl _ _ _ _ (hS.get 6 rfl) Try.underlying50 rfl (by rw [d32s, dArr_size]))
   simp only [Act.put, List.setIfInBounds_toArray, List.set_cons_zero, List.set_cons_succ])
  (apply ab_pure
   · (simp only [List.getElem?_toArray, List.getElem?_cons_succ, List.getElem?_cons_zero]; rfl)
   · rfl
   · (intro wS hS; go_simp; try exact rfl)
   simp only [Act.put, List.setIfInBounds_toArray, List.set_cons_zero, List.set_cons_succ])
  (apply ab_call
   · (simp only [List.getElem?_toArray, List.getElem?_cons_succ, List.getElem?_cons_zero]; rfl)
   · rfl
   · (intro _; go_simp; first | exact ⟨rfl, rfl⟩ | exact rfl)
   · (intro wS hS; exact Hcofs.out _)
   simp only [Act.put, List.setIfInBounds_toArray, List.set_cons_zero, List.set_cons_succ])
  (apply ab_pure (v := .bool true)
   · (simp only [List.getElem?_toArray, List.getElem?_cons_succ, List.getElem?_cons_zero]; rfl)
   · rfl
   · (intro wS hS; go_simp; done)
   simp only [Act.put, List.setIfInBounds_toArray, List.set_cons_zero, List.set_cons_succ])
  (apply ab_pure
   · (simp only [List.getElem?_toArray, List.getElem?_cons_succ, List.getElem?_cons_zero]; rfl)
   · rfl
   · (intro wS hS; go_simp; try exact rfl)
   simp only [Act.put, List.setIfInBounds_toArray, List.set_cons_zero, List.set_cons_succ])
  (apply ab_pure
   · (simp only [List.getElem?_toArray, List.getElem?_cons_succ, List.getElem?_cons_zero]; rfl)
   · rfl
   · (intro wS hS; go_simp; try exact rfl)
   simp only [Act.put, List.setIfInBounds_toArray, List.set_cons_zero, List.set_cons_succ])
  (apply ab_pure
   · (simp only [List.getElem?_toArray, List.getElem?_cons_succ, List.getElem?_cons_zero]; rfl)
   · rfl
   · (intro wS hS; exact mx_load_row 50 _ rfl _ rfl _ _ _ _ (hS.get 6 rfl) Try.underlying50 rfl (by rw [d32s, dArr_size]))
   simp only [Act.put, List.setIfInBounds_toArray, List.set_cons_zero, List.set_cons_succ])
  (apply ab_pure
   · (simp only [List.getElem?_toArray, List.getElem?_cons_succ, List.getElem?_cons_zero]; rfl)
   · rfl
   · (intro wS hS; exact mx_load_row 50 _ rfl _ rfl _ _ _ _ (hS.get 7 rfl) Try.underlying50 rfl (by rw [d32s, dArr_size]))
   simp only [Act.put, List.setIfInBounds_toArray, List.set_cons_zero, List.set_cons_succ])
  (apply ab_pure
   · (simp only [List.getElem?_toArray, List.getElem?_cons_succ, List.getElem?_cons_zero]; rfl)
   · rfl
   · (intro wS hS; exact mx_load_row 50 _ rfl _ rfl _ _ _ _ (hS.get 8 rfl) Try.underlying50 rfl (by rw [d32s, dArr_size]))
   simp only [Act.put, List.setIfInBounds_toArray, List.set_cons_zero, List.set_cons_succ])
  (apply ab_loud
   · (simp only [List.getElem?_toArray, List.getElem?_cons_succ, List.getElem?_cons_zero]; rfl)
   · rfl
   intro wS hS
   refine kl_build2 rfl 62 50 _ _ rfl (dArr D0) (dArr DX) rfl rfl i0 (.agg (dArr [])) Try.underlying62 hi0 hz0 (by rw [hs0, dArr_size]) (by rw [dArr_size, dArr_size]) (by rw [dArr_size]; omega) (by rw [dArr_size]; omega) ?_)
  simp only [Act.put, List.setIfInBounds_toArray, List.set_cons_zero, List.set_cons_succ]
  refine ab_nil' ?_
  refine ab_on _ (fun x hx => List.mem_cons_of_mem _ hx) (hS.alloc _) ?_
  clear hS
  generalize wS.heap.size = pb2 at *
  clear wS
  (apply ab_call
   · (simp only [List.getElem?_toArray, List.getElem?_cons_succ, List.getElem?_cons_zero]; rfl)
   · rfl
   · (intro _; go_simp; first | exact ⟨rfl, rfl⟩ | exact rfl)
   · (intro wS hS; exact Hccomp.out _ _ (RdD.of_block (c := 2) [D0, DX] (dArr D0 ++ dArr DX) (dcs_two D0 DX) (hS.get 0 rfl) (Nat.le_refl 2)))
   simp only [Act.put, List.setIfInBounds_toArray, List.set_cons_zero, List.set_cons_succ])
  (apply ab_pure (v := .bool true)
   · (simp only [List.getElem?_toArray, List.getElem?_cons_succ, List.getElem?_cons_zero]; rfl)
   · rfl
   · (intro wS hS; go_simp; done)
   simp only [Act.put, List.setIfInBounds_toArray, List.set_cons_zero, List.set_cons_succ])
  (apply ab_pure
   · (simp only [List.getElem?_toArray, List.getElem?_cons_succ, List.getElem?_cons_zero]; rfl)
   · rfl
   · (intro wS hS; go_simp; try exact rfl)
   simp only [Act.put, List.setIfInBounds_toArray, List.set_cons_zero, List.set_cons_succ])
  (apply ab_pure
   · (simp only [List.getElem?_toArray, List.getElem?_cons_succ, List.getElem?_cons_zero]; rfl)
   · rfl
   · (intro wS hS; go_simp; try exact rfl)
   simp only [Act.put, List.setIfInBounds_toArray, List.set_cons_zero, List.set_cons_succ])
  (apply ab_pure
   · (simp only [List.getElem?_toArray, List.getElem?_cons_succ, List.getElem?_cons_zero]; rfl)
   · rfl
   · (intro wS hS; go_simp; try exact rfl)
   simp only [Act.put, List.setIfInBounds_toArray, List.set_cons_zero, List.set_cons_succ])
  (apply ab_pure (v := .bool true)
   · (simp only [List.getElem?_toArray, List.getElem?_cons_succ, List.getElem?_cons_zero]; rfl)
   · rfl
   · (intro wS hS; go_simp; done)
   simp only [Act.put, List.setIfInBounds_toArray, List.set_cons_zero, List.set_cons_succ])
  (apply ab_pure
   · (simp only [List.getElem?_toArray, List.getElem?_cons_succ, List.getElem?_cons_zero]; rfl)
   · rfl
   · (intro wS hS; go_simp; try exact rfl)
   simp only [Act.put, List.setIfInBounds_toArray, List.set_cons_zero, List.set_cons_succ])
  (apply ab_pure
   · (simp only [List.getElem?_toArray, List.getElem?_cons_succ, List.getElem?_cons_zero]; rfl)
   · rfl
   · (intro wS hS; go_simp; try exact rfl)
   simp only [Act.put, List.setIfInBounds_toArray, List.set_cons_zero, List.set_cons_succ])
  (apply ab_pure
   · (simp only [List.getElem?_toArray, List.getElem?_cons_succ, List.getElem?_cons_zero]; rfl)
   · rfl
   · (intro wS hS; go_simp; try exact rfl)
   simp only [Act.put, List.setIfInBounds_toArray, List.set_cons_zero, List.set_cons_succ])
  (apply ab_pure (v := .bool true)
   · (simp only [List.getElem?_toArray, List.getElem?_cons_succ, List.getElem?_cons_zero]; rfl)
   · rfl
   · (intro wS hS; go_simp; done)
   simp only [Act.put, List.setIfInBounds_toArray, List.set_cons_zero, List.set_cons_succ])
  (apply ab_pure
   · (simp only [List.getElem?_toArray, List.getElem?_cons_succ, List.getElem?_cons_zero]; rfl)
   · rfl
   · (intro wS hS; go_simp; try exact rfl)
   simp only [Act.put, List.setIfInBounds_toArray, List.set_cons_zero, List.set_cons_succ])
  (apply ab_pure
   · (simp only [List.getElem?_toArray, List.getElem?_cons_succ, List.getElem?_cons_zero]; rfl)
   · rfl
   · (intro wS hS; go_simp; try exact rfl)
   simp only [Act.put, List.setIfInBounds_toArray, List.set_cons_zero, List.set_cons_succ])
  (apply ab_pure
   · (simp only [List.getElem?_toArray, List.getElem?_cons_succ, List.getElem?_cons_zero]; rfl)
   · rfl
   · (intro wS hS; go_simp; try exact rfl)
   simp only [Act.put, List.setIfInBounds_toArray, List.set_cons_zero, List.set_cons_succ])
  (apply ab_pure (v := .bool true)
   · (simp only [List.getElem?_toArray, List.getElem?_cons_succ, List.getElem?_cons_zero]; rfl)
   · rfl
   · (intro wS hS; go_simp; done)
   simp only [Act.put, List.setIfInBounds_toArray, List.set_cons_zero, List.set_cons_succ])
  (apply ab_pure
   · (simp only [List.getElem?_toArray, List.getElem?_cons_succ, List.getElem?_cons_zero]; rfl)
   · rfl
   · (intro wS hS; go_simp; try exact rfl)
   simp only [Act.put, List.setIfInBounds_toArray, List.set_cons_zero, List.set_cons_succ])
  (apply ab_pure
   · (simp only [List.getElem?_toArray, List.getElem?_cons_succ, List.getElem?_cons_zero]; rfl)
   · rfl
   · (intro wS hS; go_simp; try exact rfl)
   simp only [Act.put, List.setIfInBounds_toArray, List.set_cons_zero, List.set_cons_succ])
  (apply ab_pure
   · (simp only [List.getElem?_toArray, List.getElem?_cons_succ, List.getElem?_cons_zero]; rfl)
   · rfl
   · (intro wS hS; go_simp; try exact rfl)
   simp only [Act.put, List.setIfInBounds_toArray, List.set_cons_zero, List.set_cons_succ])
  (apply ab_pure (v := .bool true)
   · (simp only [List.getElem?_toArray, List.getElem?_cons_succ, List.getElem?_cons_zero]; rfl)
   · rfl
   · (intro wS hS; go_simp; done)
   simp only [Act.put, List.setIfInBounds_toArray, List.set_cons_zero, List.set_cons_succ])
  (apply ab_pure
   · (simp only [List.getElem?_toArray, List.getElem?_cons_succ, List.getElem?_cons_zero]; rfl)
   · rfl
   · (intro wS hS; go_simp; try exact rfl)
   simp only [Act.put, List.setIfInBounds_toArray, List.set_cons_zero, List.set_cons_succ])
  (apply ab_pure
   · (simp only [List.getElem?_toArray, List.getElem?_cons_succ, List.getElem?_cons_zero]; rfl)
   · rfl
   · (intro wS hS; go_simp; try exact rfl)
   simp only [Act.put, List.setIfInBounds_toArray, List.set_cons_zero, List.set_cons_succ])
  (apply ab_call
   · (simp only [List.getElem?_toArray, List.getElem?_cons_succ, List.getElem?_cons_zero]; rfl)
   · rfl
   · (intro _; go_simp; first | exact ⟨rfl, rfl⟩ | exact rfl)
   · (intro wS hS; refine (Hccnt.out _).mono ?_; rintro e w' ⟨rfl, rfl⟩; exact ⟨rfl, Below.refl _ _⟩)
   simp only [Act.put, List.setIfInBounds_toArray, List.set_cons_zero, List.set_cons_succ])
  (apply ab_pure (v := .bool true)
   · (simp only [List.getElem?_toArray, List.getElem?_cons_succ, List.getElem?_cons_zero]; rfl)
   · rfl
   · (intro wS hS; go_simp; done)
   simp only [Act.put, List.setIfInBounds_toArray, List.set_cons_zero, List.set_cons_succ])
  (apply ab_pure
   · (simp only [List.getElem?_toArray, List.getElem?_cons_succ, List.getElem?_cons_zero]; rfl)
   · rfl
   · (intro wS hS; go_simp; try exact rfl)
   simp only [Act.put, List.setIfInBounds_toArray, List.set_cons_zero, List.set_cons_succ])
  (apply ab_pure
   · (simp only [List.getElem?_toArray, List.getElem?_cons_succ, List.getElem?_cons_zero]; rfl)
   · rfl
   · (intro wS hS; go_simp; try exact rfl)
   simp only [Act.put, List.setIfInBounds_toArray, List.set_cons_zero, List.set_cons_succ])
  (apply ab_call
   · (simp only [List.getElem?_toArray, List.getElem?_cons_succ, List.getElem?_cons_zero]; rfl)
   · rfl
   · (intro _; go_simp; first | exact ⟨rfl, rfl⟩ | exact rfl)
   · (intro wS hS; exact Hcofx.out _)
   simp only [Act.put, List.setIfInBounds_toArray, List.set_cons_zero, List.set_cons_succ])
  (apply ab_loud
   · (simp only [List.getElem?_toArray, List.getElem?_cons_succ, List.getElem?_cons_zero]; rfl)
   · rfl
   intro wS hS
   go_wp2_with fail)
  refine ab_on _ (fun x hx => List.mem_cons_of_mem _ hx) (hS.alloc _) ?_
  clear hS
  generalize wS.heap.size = pb3 at *
  clear wS
  (apply ab_call
   · (simp only [List.getElem?_toArray, List.getElem?_cons_succ, List.getElem?_cons_zero]; rfl)
   · rfl
   · (intro _; go_simp; first | exact ⟨rfl, rfl⟩ | exact rfl)
   · (intro wS hS; exact Hcshx.out _ _ _ _ _ (hS.get 0 rfl))
   simp only [Act.put, List.setIfInBounds_toArray, List.set_cons_zero, List.set_cons_succ])
  (apply ab_pure (v := .bool true)
   · (simp only [List.getElem?_toArray, List.getElem?_cons_succ, List.getElem?_cons_zero]; rfl)
   · rfl
   · (intro wS hS; go_simp; done)
   simp only [Act.put, List.setIfInBounds_toArray, List.set_cons_zero, List.set_cons_succ])
  (apply ab_pure
   · (simp only [List.getElem?_toArray, List.getElem?_cons_succ, List.getElem?_cons_zero]; rfl)
   · rfl
   · (intro wS hS; go_simp; try exact rfl)
   simp only [Act.put, List.setIfInBounds_toArray, List.set_cons_zero, List.set_cons_succ])
  (apply ab_pure
   · (simp only [List.getElem?_toArray, List.getElem?_cons_succ, List.getElem?_cons_zero]; rfl)
   · rfl
   · (intro wS hS; go_simp; try exact rfl)
   simp only [Act.put, List.setIfInBounds_toArray, List.set_cons_zero, List.set_cons_succ])
  (apply ab_pure
   · (simp only [List.getElem?_toArray, List.getElem?_cons_succ, List.getElem?_cons_zero]; rfl)
   · rfl
   · (intro wS hS; go_simp; try exact rfl)
   simp only [Act.put, List.setIfInBounds_toArray, List.set_cons_zero, List.set_cons_succ])
  apply ab_callL
  · (simp only [List.getElem?_toArray, List.getElem?_cons_succ, List.getElem?_cons_zero]; rfl)
  · rfl
  · (intro _; go_simp; first | exact ⟨rfl, rfl⟩ | exact rfl)
  intro wS hS
  refine (Hchave.out g m _ (Hhua.out _ (hS.sub (fun y hy => List.mem_cons_of_mem _ (List.mem_cons_of_mem _ (List.mem_cons_of_mem _ hy)))))).mono ?_
  rintro e w' ⟨v, n, rfl, hr, hb'⟩
  obtain ⟨A', c', rfl⟩ := hr.slice
  obtain rfl : n = 2 := by rw [← hr.1]; rfl
  refine ⟨_, _, rfl, fun x hx => hx, hS.call hb', ?_⟩
  simp only [Act.put, List.setIfInBounds_toArray, List.set_cons_zero, List.set_cons_succ]
  clear hS hb' hr wS
  (apply ab_pure
   · (simp only [List.getElem?_toArray, List.getElem?_cons_succ, List.getElem?_cons_zero]; rfl)
   · rfl
   · (intro wS hS; go_simp; try exact rfl)
   simp only [Act.put, List.setIfInBounds_toArray, List.set_cons_zero, List.set_cons_succ])
  (apply ab_pure (v := .bool true)
   · (simp only [List.getElem?_toArray, List.getElem?_cons_succ, List.getElem?_cons_zero]; rfl)
   · rfl
   · (intro wS hS; go_simp; done)
   simp only [Act.put, List.setIfInBounds_toArray, List.set_cons_zero, List.set_cons_succ])
  (apply ab_pure
   · (simp only [List.getElem?_toArray, List.getElem?_cons_succ, List.getElem?_cons_zero]; rfl)
   · rfl
   · (intro wS hS; go_simp; try exact rfl)
   simp only [Act.put, List.setIfInBounds_toArray, List.set_cons_zero, List.set_cons_succ])
  (apply ab_loud
   · (simp only [List.getElem?_toArray, List.getElem?_cons_succ, List.getElem?_cons_zero]; rfl)
   · rfl
   intro wS hS
   go_wp2_with fail)
  refine ab_on _ (fun x hx => hx) hS (ab_end ?_)
  intro wE hE
  clear hS
  go_wp2_with fail
  go_ret
  exact ⟨rfl, hE.below⟩
end Go.Proofs.Ytgdjfijkbemkeaa
