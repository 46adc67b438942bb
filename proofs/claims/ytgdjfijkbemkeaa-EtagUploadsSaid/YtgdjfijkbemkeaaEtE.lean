/-
  Walks: digests of texts; a content's mark.
-/
import Derived.Test.YtgdjfijkbemkeaaEtD
import Derived.Great.BuildSlice
namespace Go.Proofs.Ytgdjfijkbemkeaa
open Go.RowKit
set_option maxHeartbeats 2000000
set_option maxRecDepth 20000
set_option linter.unusedVariables false

/-- a slice literal of one wide element -/
theorem kl_build1 {P : Program} {ops : Array Oper} {rest : List Oper} {o : Oper} {a : Act} {w : World} {Q : Exit → Act → World → Prop} (hgd : o.guard = none) (t e : TypeId) (x : Operand) (ho : o.op = .buildSlice t 1 #[(0, x)])
    (cs : Array Value) (hx : a.eval x = .agg cs) (ie : TypeInfo) (z : Value) (hu : P.underlying t = some (.slice e)) (hie : P.info? e = some ie) (hz : ie.zero = some z) (hs : ie.size = cs.size) (h0 : 0 < cs.size) (h24 : cs.size ≤ 16777216)
    (h : wpList P ops Q rest (a.put o.dst (.slice (some ⟨w.heap.size, 0, none⟩) 1 1)) (w.alloc (.cells cs e))) : wpList P ops Q (o :: rest) a w := by
  refine wpList_buildSlice hgd t e 1 _ ho cs ie z hu hie hz (by rw [hs]; omega) (by rw [hs]; omega) ?_ h
  rw [hs]
  have := Great.fill_whole h0 [Value.agg cs] ((Array.range (1 * cs.size)).map (z.cells[· % z.cells.size]!)) (by intro v hv; simp at hv; subst hv; rfl) (by simp)
  simpa [hx, Value.cells] using this

def dcs (ds : List (List UInt8)) : List Value := ds.flatMap fun d => (dArr d).toList
theorem dcs_append (a b : List (List UInt8)) : dcs (a ++ b) = dcs a ++ dcs b := by simp [dcs]
theorem dcs_get : ∀ (ds : List (List UInt8)) (i : Nat) (h : i < ds.length) (j : Nat), j < 32 → (dcs ds)[i * 32 + j]? = (dArr ds[i]).toList[j]?
  | [], i, h, _, _ => absurd h (by simp)
  | d :: ds, 0, h, j, hj => by
    show ((dArr d).toList ++ dcs ds)[0 * 32 + j]? = _
    rw [Nat.zero_mul, Nat.zero_add, List.getElem?_append_left (by rw [Array.length_toList, dArr_size]; exact hj)]; rfl
  | d :: ds, i + 1, h, j, hj => by
    show ((dArr d).toList ++ dcs ds)[(i + 1) * 32 + j]? = _
    rw [List.getElem?_append_right (by rw [Array.length_toList, dArr_size]; omega), Array.length_toList, dArr_size, show (i + 1) * 32 + j - 32 = i * 32 + j by omega]
    exact dcs_get ds i (by simpa using h) j hj
theorem rdD_of_own {w : World} {base : Nat} {e : TypeId} {v : Value} {ds : List (List UInt8)} (h : w.ownsRow base e 32 v ds.length (dcs ds)) : RdD v ds w.heap.size w := by
  obtain ⟨hl, h⟩ := h
  rcases h with ⟨rfl, h0⟩ | ⟨g, cap, cur, rfl, hg, hh, hc, _, _, hx⟩
  · exact .inl ⟨rfl, List.length_eq_zero_iff.1 h0⟩
  · refine .inr ⟨_, cap, rfl, hc, .inr ⟨g, 0, rfl, lt_of_block hh, fun i hi j u hj => ?_⟩⟩
    have hj32 : j < 32 := by have := (List.getElem?_eq_some_iff.1 hj).1; rwa [Array.length_toList, dArr_size] at this
    rw [Nat.zero_add, cell_of_row _ _ _ _ _ _ hh]
    rw [← dcs_get ds i hi j hj32, ← hx, List.getElem?_take] at hj
    split at hj
    · simpa using hj
    · cases hj
theorem own_below {w w' : World} {base : Nat} {e : TypeId} {size : Nat} {v : Value} {n : Nat} {xs : List Value} (h : w.ownsRow base e size v n xs) (hb : Below w.heap.size w w') : w'.ownsRow base e size v n xs := by
  refine h.kept (row := none) ⟨hb.os, hb.tape, hb.output, hb.size, fun k hk _ => hb.block k hk⟩ ?_
  cases v.ownBlock with
  | none => exact .inl rfl
  | some b => exact .inr (by simp)
def RetD (ds : List (List UInt8)) (w : World) (e : Ending) (w' : World) : Prop := ∃ v, e = .returned v ∧ RdD v ds w'.heap.size w' ∧ Below w.heap.size w w'
theorem info_d32b : (Try.prog.info? 50).map (fun i => (i.size, i.bytes)) = some (32, 32) := by kernel_rfl
theorem d32b : ∃ i, Try.prog.info? 50 = some i ∧ i.zero = some (.agg (dArr [])) ∧ i.size = 32 ∧ i.bytes = 32 := by
  obtain ⟨i, hi, hz, hs⟩ := d32
  have h := info_d32b
  rw [hi] at h
  simp at h
  exact ⟨i, hi, hz, hs, h.2⟩

theorem ofOne (b c : Nat) (l : List UInt8) (hl : l.length ≤ 1000000) (w : World) (t : TypeId) (fr : Nat × Nat) (h : w.heap[b]? = some (.cells #[.string ⟨l.toArray⟩] t fr)) :
    Calls Try.prog 33 #[.slice (some ⟨b, 0, none⟩) 1 c] w fun e w' => e = .returned (.agg (dArr (Sm.digest l))) ∧ Below w.heap.size w w' := by
  have := of1 ⟨b, 0, none⟩ c [⟨l.toArray⟩] w (lt_of_block h) (fun i hi => by
    have hi0 : i = 0 := by simpa using hi
    subst hi0
    rw [Addr.add_mid, cell_of_row _ _ _ _ _ _ h]; rfl) (by simp; omega) (by simp)
  simpa using this

theorem dArr_ones (l : List UInt8) : ∀ u ∈ (dArr l).toList, u.oneCell' = true := fun u hu => (Array.all_eq_true_iff_forall_mem.1 (dArr_one l)) u (by simpa using hu)
theorem zcells : (Value.agg (dArr [])).cells.size = 32 := by show (dArr []).size = 32; exact dArr_size _
attribute [local irreducible] dArr
theorem digested (v : Value) (ps : List (List UInt8)) (n : Nat) (hn : n ≤ 100000) (hps : ∀ p ∈ ps, p.length ≤ 1000000) (w : World) (hrd : RdS v n (pv ps) w.heap.size w) :
    Calls Try.prog 72 #[v] w (RetD (ps.map Sm.digest) w) := by
  obtain ⟨i0, hi0, hz0, hs0, hb0⟩ := d32b
  obtain ⟨A, c, rfl⟩ := hrd.slice
  have hnl : n = ps.length := by rw [← hrd.1]; simp [pv]
  obtain ⟨X, hX⟩ : ∃ X, X = ps.map Sm.digest := ⟨_, rfl⟩
  rw [← hX]
  have Hhrd := Lib.hid hrd
  have Hhnl := Lib.hid hnl
  have HhX := Lib.hid hX
  clear hrd hnl hX
  go_enter Try.func72, Try.ntmps72
  go_wp2_with fail
  go_loopw [3, 8] (fun ov iv wr => ∃ i : Nat, i ≤ n ∧ iv = .int .i64 (i : Int) ∧ Hid (wr.ownsRow w.heap.size 50 32 ov i (dcs ((ps.take i).map Sm.digest))) ∧ Below w.heap.size w wr) (fun _ iv _ => n - (intOf iv).toNat)
  case atStart => exact ⟨0, by omega, rfl, by show World.ownsRow _ _ _ _ _ _ _; exact World.ownsRow_nil _ _ _ _, Below.refl _ _⟩
  case round =>
    obtain ⟨i, hi, rfl, HO, hb⟩ := hrel
    by_cases hin : i < n
    · obtain ⟨b, off, hA, hcn, hbl, hcell⟩ := Hhrd.out.at_ hin
      have hil : i < ps.length := by rw [← Hhnl.out]; exact hin
      have hx := hcell i (.string ⟨ps[i].toArray⟩) (by unfold pv; rw [List.getElem?_map, List.getElem?_eq_getElem hil]; rfl)
      have htk : dcs ((ps.take (i + 1)).map Sm.digest) = dcs ((ps.take i).map Sm.digest) ++ (dArr (Sm.digest ps[i])).toList := by
        rw [List.take_succ_eq_append_getElem hil, List.map_append, dcs_append]; simp [dcs]
      have hpl := hps _ (List.getElem_mem hil)
      generalize ps[i] = x at *
      have hxr : wr.cell? ⟨b, off + i, none⟩ = some (.string ⟨x.toArray⟩) := by rw [Below.cell hb hbl]; exact hx
      subst hA
      clear hx hcell hil
      have hbi : (0 : Int) ≤ i := by omega
      have hbn : (i : Int) < n := by omega
      have hbs := hb.size
      have Hhtk := Lib.hid htk
      clear htk
      go_wp2_with fail
      refine (ofOne wr.heap.size 1 x hpl _ 9 _ (heap_alloc_new _ _)).mono ?_
      rintro e w4 ⟨rfl, hb4⟩
      rw [size_alloc] at hb4
      have hb5 : Below wr.heap.size wr w4 := ((Below.refl _ wr).alloc (Nat.le_refl _) _).trans (hb4.mono (by omega))
      have hO4 : Hid (w4.ownsRow w.heap.size 50 32 u3 i (dcs ((ps.take i).map Sm.digest))) := own_below HO.out hb5
      have hb6 := hb.trans (hb5.mono hbs)
      have hbs4 := hb6.size
      go_wp2_with (first | refine kl_build1 rfl 62 50 _ rfl (dArr (Sm.digest x)) rfl i0 (.agg (dArr [])) Try.underlying62 hi0 hz0 (by rw [hs0, dArr_size]) (by rw [dArr_size]; omega) (by rw [dArr_size]; omega) ?_ | (at_builtin; refine kl_append1 rfl _ _ 62 rfl w.heap.size 50 i0 (.agg (dArr [])) 32 32 Try.underlying62 hi0 hz0 hs0 hb0 zcells (by decide) _ i _ rfl hO4.out 1 (dArr (Sm.digest x)) rfl (dArr_size _) (dArr_ones (Sm.digest x)) (by omega) (by omega) hbs4 ?_; intro v' w' hown' hbel hsz' _))
      refine ⟨⟨i + 1, by omega, by go_num, ?_, hb6.trans hbel⟩, by simp [intOf]; omega⟩
      show World.ownsRow _ _ _ _ _ _ _
      rw [Hhtk.out]; exact hown'
    · obtain rfl : i = n := by omega
      have hq : (ps.take i).map Sm.digest = X := by rw [HhX.out, Hhnl.out, List.take_length]
      rw [hq] at HO
      have hXl : X.length = i := by rw [HhX.out, List.length_map, Hhnl.out]
      have HO2 := HO.out
      rw [← hXl] at HO2
      have HO3 := Lib.hid (rdD_of_own HO2)
      clear hq HO HO2 hXl
      go_wp2_with fail
      go_ret
      exact ⟨_, rfl, HO3.out, hb⟩

theorem etagOf (s : ByteArray) (hs : s.size ≤ 100000) (w : World) :
    Calls Try.prog 42 #[.string s] w fun e w' => e = .returned (.agg (dArr (Em.mark s.data.toList))) ∧ Below w.heap.size w w' := by
  obtain ⟨i0, hi0, hz0, hs0, hb0⟩ := d32b
  obtain ⟨l, hl⟩ : ∃ l, l = s.data.toList := ⟨_, rfl⟩
  have hsl : s = ⟨l.toArray⟩ := by rw [hl]
  have hll : l.length = s.size := by rw [hl]; rfl
  obtain ⟨D, hD⟩ : ∃ D, D = Em.mark l := ⟨_, rfl⟩
  have hcut := fun w => etagCut s hs w
  rw [← hl] at hcut ⊢
  rw [← hD]
  by_cases h16 : s.size ≤ 16
  · have hD2 : D = Sm.digest l := by rw [hD]; unfold Em.mark; rw [if_pos (by omega)]
    have hof := fun b c w t fr h => ofOne b c l (by omega) w t fr h
    rw [← hD2, ← hsl] at hof
    have Hhof := Lib.hid hof
    have HhD2 := Lib.hid hD2
    have HhD := Lib.hid hD
    have Hhll := Lib.hid hll
    have Hhsl := Lib.hid hsl
    have Hhl := Lib.hid hl
    clear hof hD2 hD hll hsl hl
    clear hcut
    go_enter Try.func42, Try.ntmps42
    go_wp2_with (refine kl_alloc rfl 50 rfl (dArr []) i0 hi0 _ hz0 rfl ?_)
    have hblk := heap_alloc_new (w.alloc (.cells (dArr []) 50)) (.cells #[.string s] 9)
    rw [size_alloc] at hblk
    have k2 := ((Kn.start w).alloc (.cells (dArr []) 50)).alloc' (.cells #[.string s] 9)
    generalize (w.alloc (.cells (dArr []) 50)).alloc (.cells #[.string s] 9) = w2 at *
    refine (Hhof.out _ 1 _ _ _ hblk).mono ?_
    rintro e w3 ⟨rfl, hb3⟩
    have k3 := k2.call hb3
    have HRES := setRow_heap w3 w.heap.size _ (dArr D) _ _ (k3.get 0 rfl)
    have HBR := below_setRow (g := w.heap.size) k3.below (by omega) (dArr D)
    have K3 := Lib.hid (k3.get 0 rfl)
    have HRES' := Lib.hid HRES
    clear k2 k3 hb3 HRES hblk
    go_wp2_with (refine wpList_store_row rfl 50 _ _ rfl w.heap.size (dArr D) rfl rfl _ _ K3.out (by rw [d32s, dArr_size]) (by rw [dArr_size, dArr_size]) (dArr_one _) ?_)
    refine bodyPost_ret (results_cell_row rfl _ _ _ _ _ _ _ rfl HRES'.out Try.underlying50 rfl (by rw [d32s, dArr_size])) rfl ⟨rfl, HBR⟩
  · have hD2 : D = Em.comp ((Em.parts l).map Sm.digest) := by rw [hD]; unfold Em.mark; rw [if_neg (by omega)]
    have hnp : (Em.parts l).length ≤ 100000 := by unfold Em.parts; rw [Em.partsTo_length]; unfold Em.np; omega
    have hpp : ∀ p ∈ Em.parts l, p.length ≤ 1000000 := by
      intro p hp
      unfold Em.parts at hp
      rw [show Em.partsTo l (Em.np l.length) = (List.range (Em.np l.length)).map (Em.part l) from by with_unfolding_all rfl] at hp
      obtain ⟨i, _, rfl⟩ := List.mem_map.1 hp
      have := Em.part_length l i
      omega
    have hco := fun v w h => composed v ((Em.parts l).map Sm.digest) (by rw [List.length_map]; exact hnp) (by
      intro d hd; obtain ⟨p, _, rfl⟩ := List.mem_map.1 hd; exact digest_length p) w h
    rw [← hD2] at hco
    obtain ⟨ps, hps⟩ : ∃ ps, ps = Em.parts l := ⟨_, rfl⟩
    rw [← hps] at hcut hco hpp hnp
    have Hhco := Lib.hid hco
    have Hhcut := Lib.hid hcut
    have Hhpp := Lib.hid hpp
    have Hhnp := Lib.hid hnp
    have Hhps := Lib.hid hps
    have HhD2 := Lib.hid hD2
    have HhD := Lib.hid hD
    have Hhll := Lib.hid hll
    have Hhsl := Lib.hid hsl
    have Hhl := Lib.hid hl
    clear hco hcut hpp hnp hps hD2 hD hll hsl hl
    go_enter Try.func42, Try.ntmps42
    go_wp2_with (refine kl_alloc rfl 50 rfl (dArr []) i0 hi0 _ hz0 rfl ?_)
    have k1 := (Kn.start w).alloc (.cells (dArr []) 50)
    generalize w.alloc (.cells (dArr []) 50) = w1 at *
    refine (Hhcut.out _).mono ?_
    rintro e w2 ⟨v2, n2, rfl, hr2, hb2⟩
    have k2 := k1.call hb2
    have hn2 : n2 ≤ 100000 := by have := hr2.1; have := Hhnp.out; simp only [pv, List.length_map] at *; omega
    clear hb2 k1
    go_wp2_with fail
    refine (digested v2 ps n2 hn2 Hhpp.out _ hr2).mono ?_
    rintro e w3 ⟨v3, rfl, hr3, hb3⟩
    have k3 := k2.call hb3
    clear hb3 k2 hr2
    go_wp2_with fail
    refine (Hhco.out _ _ hr3).mono ?_
    rintro e w4 ⟨rfl, hb4⟩
    have k4 := k3.call hb4
    have HRES := setRow_heap w4 w.heap.size _ (dArr D) _ _ (k4.get 0 rfl)
    have HBR := below_setRow (g := w.heap.size) k4.below (by omega) (dArr D)
    have K3 := Lib.hid (k4.get 0 rfl)
    have HRES' := Lib.hid HRES
    clear k3 k4 hb4 HRES hr3
    go_wp2_with (refine wpList_store_row rfl 50 _ _ rfl w.heap.size (dArr D) rfl rfl _ _ K3.out (by rw [d32s, dArr_size]) (by rw [dArr_size, dArr_size]) (dArr_one _) ?_)
    refine bodyPost_ret (results_cell_row rfl _ _ _ _ _ _ _ rfl HRES'.out Try.underlying50 rfl (by rw [d32s, dArr_size])) rfl ⟨rfl, HBR⟩
end Go.Proofs.Ytgdjfijkbemkeaa
