/-
  Walks: the reference's upload: Put, Have.
-/
import Derived.Test.YtgdjfijkbemkeaaEtU
import Derived.Test.YtgdjfijkbemkeaaEtF
namespace Go.Proofs.Ytgdjfijkbemkeaa
open Go.RowKit
set_option maxHeartbeats 2000000
set_option maxRecDepth 20000
set_option linter.unusedVariables false

/-- an upload as the reference has it -/
def uArr (U : Um.Up) : Array Value := Array.ofFn (n := 64) fun i => .string ⟨(U (i.val + 1)).toArray⟩
theorem uArr_size (U : Um.Up) : (uArr U).size = 64 := by simp [uArr]
theorem uArr_get (U : Um.Up) (i : Nat) (hi : i < 64) : (uArr U)[i]? = some (.string ⟨(U (i + 1)).toArray⟩) := by simp [uArr, hi]
theorem uArr_put (U : Um.Up) (i : Nat) (hi : i < 64) (s : List UInt8) : (uArr U).setIfInBounds i (.string ⟨s.toArray⟩) = uArr (Um.put U (i + 1) s) := by
  apply Array.ext_getElem?
  intro j
  rw [Array.getElem?_setIfInBounds]
  by_cases hij : i = j
  · subst hij
    rw [if_pos rfl, uArr_size, if_pos hi, uArr_get _ _ hi]
    unfold Um.put
    rw [if_pos rfl]
  · rw [if_neg hij]
    rcases Nat.lt_or_ge j 64 with hj | hj
    · rw [uArr_get _ _ hj, uArr_get _ _ hj]
      unfold Um.put
      rw [if_neg (by omega)]
    · rw [Array.getElem?_eq_none (by rw [uArr_size]; exact hj), Array.getElem?_eq_none (by rw [uArr_size]; exact hj)]
theorem uArr_none : uArr Um.none0 = Array.replicate 64 (.string ⟨#[]⟩) := by
  apply Array.ext_getElem?
  intro j
  rcases Nat.lt_or_ge j 64 with hj | hj
  · rw [uArr_get _ _ hj]; simp [hj, Um.none0]
  · rw [Array.getElem?_eq_none (by rw [uArr_size]; exact hj), Array.getElem?_eq_none (by simpa using hj)]
theorem uArr_one (U : Um.Up) : (uArr U).all (·.oneCell') = true := by
  rw [Array.all_eq_true_iff_forall_mem]
  intro v hv
  obtain ⟨i, _, rfl⟩ := Array.mem_ofFn.1 hv
  rfl
theorem info_u64 : (Try.prog.info? 73).map (fun i => (i.zero, i.size)) = some (some (.agg (Array.replicate 64 (.string ⟨#[]⟩))), 64) := by kernel_rfl
theorem u64i : ∃ i, Try.prog.info? 73 = some i ∧ i.zero = some (.agg (uArr Um.none0)) ∧ i.size = 64 := by
  have h := info_u64
  rw [uArr_none]
  cases hi : Try.prog.info? 73 with
  | none => rw [hi] at h; cases h
  | some i =>
    rw [hi] at h
    simp only [Option.map_some, Option.some.injEq, Prod.mk.injEq] at h
    exact ⟨i, rfl, h.1, h.2⟩
theorem u64s : (Try.prog.info? 73).map (·.size) = some 64 := by kernel_rfl

theorem results_row_row_tmp {P : Program} {fn : Func} {p q u : Tmp} {ty ty' : TypeId} (h : fn.results = #[.cell p ty, .cell q ty', .tmp u]) (tmps : Array Value) (w : World) (g : Nat) (t : TypeId) (cs : Array Value) (fr : Nat × Nat) (d : TypeDesc)
    (hp : tmps.getD p undef = .pointer (some ⟨g, 0, none⟩)) (hg : w.heap[g]? = some (.cells cs t fr))
    (hu : P.underlying ty = some d) (hd : (match d with | .struct _ | .array _ _ => true | _ => false) = true) (hi : (P.info? ty).map (·.size) = some cs.size)
    (g' : Nat) (t' : TypeId) (cs' : Array Value) (fr' : Nat × Nat) (d' : TypeDesc)
    (hp2 : tmps.getD q undef = .pointer (some ⟨g', 0, none⟩)) (hg2 : w.heap[g']? = some (.cells cs' t' fr'))
    (hu2 : P.underlying ty' = some d') (hd2 : (match d' with | .struct _ | .array _ _ => true | _ => false) = true) (hi2 : (P.info? ty').map (·.size) = some cs'.size) :
    (results fn tmps).run P w = .ok (.tuple #[.agg cs, .agg cs', tmps.getD u undef]) w := by
  have hp' : tmps[p]?.getD undef = .pointer (some ⟨g, 0, none⟩) := by simpa using hp
  have hp2' : tmps[q]?.getD undef = .pointer (some ⟨g', 0, none⟩) := by simpa using hp2
  simp [results, h, hp', hp2', asAddr, run_loadVar_row w g t ty cs fr d hg hu hd hi, run_loadVar_row w g' t' ty' cs' fr' d' hg2 hu2 hd2 hi2]

theorem ab_nil {P : Program} {ops : Array Oper} {Q : Exit → Act → World → Prop} {a : Act} {w : World} (h : Q .normal a w) : wpList P ops Q [] (a.put none undef) w := h

attribute [local irreducible] dArr uArr
theorem refPut5 (U : Um.Up) (n : Int) (hn0 : -9223372036854775808 ≤ n) (hn1 : n ≤ 9223372036854775807) (s : ByteArray) (hs : s.size ≤ 10000) (w : World) :
    Calls Try.prog 50 #[.agg (uArr U), .int .i64 n, .string s] w fun e w' =>
      e = .returned (.tuple #[.agg (uArr (Um.putU U n s.data.toList)), .agg (dArr (Um.putD n s.data.toList)), .int .i64 (Um.putE n s.data.toList : Nat)]) ∧ Below w.heap.size w w' := by
  obtain ⟨i0, hi0, hz0, hs0⟩ := d32
  obtain ⟨i1, hi1, hz1, hs1⟩ := u64i
  obtain ⟨l, hl⟩ : ∃ l, l = s.data.toList := ⟨_, rfl⟩
  have hsl : s = ⟨l.toArray⟩ := by rw [hl]
  have hll : l.length = s.size := by rw [hl]; rfl
  have hof := fun w => refOf s (by omega) w
  rw [← hl] at hof ⊢
  have k3 := (((Kn.start w).alloc (.cells (uArr U) 73)).alloc (.cells (uArr Um.none0) 73)).alloc (.cells (dArr []) 50)
  rw [size_alloc, size_alloc] at k3
  by_cases hE : Um.putE n l = 0
  · obtain ⟨g1, g2, g3, g4⟩ := Um.putE_ok hE
    obtain ⟨D, hD⟩ : ∃ D, D = Sm.digest l := ⟨_, rfl⟩
    have e1 : Um.putD n l = D := by unfold Um.putD; rw [if_pos hE, hD]
    have e2 : Um.putU U n l = Um.put U n.toNat l := by unfold Um.putU; rw [if_pos hE]
    rw [e1, e2, hE]
    obtain ⟨j, hj⟩ : ∃ j : Nat, j = n.toNat - 1 := ⟨_, rfl⟩
    have hj64 : j < 64 := by omega
    rw [show n.toNat = j + 1 from by omega]
    have hs1 : ¬ s.size = 0 := by intro h0; exact g4 (List.length_eq_zero_iff.1 (by omega))
    have hq : ((s.size : Int) == 0) = false := by rw [beq_eq_false_iff_ne]; omega
    have hs16 : s.size ≤ 16 := by omega
    rw [← hD] at hof
    have hcu : (uArr U)[n.toNat - 1]? = some (.string ⟨(U (j + 1)).toArray⟩) := by rw [← hj, uArr_get _ _ hj64]
    have hjz : (0 : Int) ≤ n - 1 := by omega
    have hjz2 : n - 1 < 64 := by omega
    have hst : (uArr U).setIfInBounds (n.toNat - 1) (.string s) = uArr (Um.put U (j + 1) l) := by rw [← hj, hsl, uArr_put _ _ hj64]
    have Hhof := Lib.hid hof
    have HhD := Lib.hid hD
    have Hhll := Lib.hid hll
    have Hhsl := Lib.hid hsl
    have Hhl := Lib.hid hl
    have Hg4 := Lib.hid g4
    have Hhj := Lib.hid hj
    have Hhst := Lib.hid hst
    clear hof hD hll hsl hl g4 hj hst
    clear k3 e1 e2 hE
    go_enter Try.func50, Try.ntmps50
    go_wp2_with (first | refine kl_alloc rfl 50 rfl (dArr []) i0 hi0 _ hz0 rfl ?_ | refine kl_alloc rfl 73 rfl (uArr Um.none0) i1 hi1 _ hz1 rfl ?_)
    rw [Hhst.out]
    obtain ⟨V, hV⟩ : ∃ V, V = Um.put U (j + 1) l := ⟨_, rfl⟩
    rw [← hV]
    have HhV := Lib.hid hV
    clear hV
    have k3 := (((Kn.start w).alloc (.cells (uArr V) 73)).alloc (.cells (uArr Um.none0) 73)).alloc (.cells (dArr []) 50)
    rw [size_alloc, size_alloc] at k3
    clear Hhst
    generalize ((w.alloc (.cells (uArr V) 73)).alloc (.cells (uArr Um.none0) 73)).alloc (.cells (dArr []) 50) = w3 at *
    obtain ⟨p1, hp1⟩ : ∃ p1, p1 = w.heap.size + 1 := ⟨_, rfl⟩
    obtain ⟨p2, hp2⟩ : ∃ p2, p2 = w.heap.size + 1 + 1 := ⟨_, rfl⟩
    rw [← hp2, ← hp1] at k3 ⊢
    have hp1' : w.heap.size < p1 := by omega
    have hp2' : p1 < p2 := by omega
    clear hp1 hp2
    refine wp_region_abs w.heap.size w [(p2, .cells (dArr []) 50), (p1, .cells (uArr Um.none0) 73), (w.heap.size, .cells (uArr V) 73)] ((true, 0) :: (true, 1) :: (true, 2) :: (false, 3) :: (false, 4) :: (false, 5) :: []) (by kernel_rfl) (by kernel_rfl) k3.drew ?_
    clear k3
    (apply ab_pure
     · (simp only [List.getElem?_toArray, List.getElem?_cons_succ, List.getElem?_cons_zero]; rfl)
     · rfl
     · (intro wS hS; exact mx_load_row 73 _ rfl _ rfl _ _ _ _ (hS.get 2 rfl) Try.underlying73 rfl (by rw [u64s, uArr_size]))
     simp only [Act.put, List.setIfInBounds_toArray, List.set_cons_zero, List.set_cons_succ])
    (apply ab_pure
     · (simp only [List.getElem?_toArray, List.getElem?_cons_succ, List.getElem?_cons_zero]; rfl)
     · rfl
     · (intro wS hS; go_simp; try exact rfl)
     simp only [Act.put, List.setIfInBounds_toArray, List.set_cons_zero, List.set_cons_succ])
    (apply ab_call
     · (simp only [List.getElem?_toArray, List.getElem?_cons_succ, List.getElem?_cons_zero]; rfl)
     · rfl
     · (intro _; go_simp; first | exact ⟨rfl, rfl⟩ | exact rfl)
     · (intro wS hS; exact Hhof.out _)
     simp only [Act.put, List.setIfInBounds_toArray, List.set_cons_zero, List.set_cons_succ])
    (apply ab_loud
     · (simp only [List.getElem?_toArray, List.getElem?_cons_succ, List.getElem?_cons_zero]; rfl)
     · rfl
     intro wS hS
     refine wpList_store_row rfl 73 _ _ rfl p1 (uArr V) rfl rfl _ _ (hS.get 1 rfl) (by rw [u64s, uArr_size]) (by rw [uArr_size, uArr_size]) (uArr_one _) ?_)
    refine ab_nil ?_
    have hS2 := Kn.put (w' := wS.setRow p1 (uArr V)) (L := [(p2, .cells (dArr []) 50), (w.heap.size, .cells (uArr V) 73)]) (hS.sub (fun y hy => by simp only [List.mem_cons, List.not_mem_nil, or_false] at hy ⊢; rcases hy with h | h | h; exact .inr (.inl h); exact .inl h; exact .inr (.inr h))) (by omega) (fun y hy => by
      simp only [List.mem_cons, List.not_mem_nil, or_false] at hy
      rcases hy with rfl | rfl
      · show p2 ≠ p1; omega
      · show w.heap.size ≠ p1; omega) (ch_setRow wS p1 _) (setRow_heap _ _ _ _ _ _ (hS.get 1 rfl))
    refine ab_lone _ (by kernel_rfl) hS2 ?_
    clear hS2 hS; clear wS
    (apply ab_loud
     · (simp only [List.getElem?_toArray, List.getElem?_cons_succ, List.getElem?_cons_zero]; rfl)
     · rfl
     intro wS hS
     refine wpList_store_row rfl 50 _ _ rfl p2 (dArr D) rfl rfl _ _ (hS.get 1 rfl) (by rw [d32s, dArr_size]) (by rw [dArr_size, dArr_size]) (dArr_one _) ?_)
    refine ab_nil ?_
    have hS2 := Kn.put (w' := wS.setRow p2 (dArr D)) (L := [(p1, .cells (uArr V) 73)]) (hS.sub (fun y hy => by simp only [List.mem_cons, List.not_mem_nil, or_false] at hy ⊢; rcases hy with h | h; exact .inr (.inl h); exact .inl h)) (by omega) (fun y hy => by
      simp only [List.mem_cons, List.not_mem_nil, or_false] at hy
      subst hy
      show p1 ≠ p2; omega) (ch_setRow wS p2 _) (setRow_heap _ _ _ _ _ _ (hS.get 1 rfl))
    refine ab_lone _ (by kernel_rfl) hS2 ?_
    clear hS2 hS; clear wS
    (apply ab_loud
     · (simp only [List.getElem?_toArray, List.getElem?_cons_succ, List.getElem?_cons_zero]; rfl)
     · rfl
     intro wS hS
     go_wp2_with fail)
    refine ab_on _ (fun x hx => hx) hS (ab_end ?_)
    intro wE hE
    have B4 := Lib.hid (hE.get 1 rfl)
    have B5 := Lib.hid (hE.get 0 rfl)
    have hbz := Lib.hid hE.below
    clear hS hE
    go_wp2_with fail
    refine bodyPost_ret (results_row_row_tmp rfl _ _ _ _ _ _ _ rfl B4.out Try.underlying73 rfl (by rw [u64s, uArr_size]) _ _ _ _ _ rfl B5.out Try.underlying50 rfl (by rw [d32s, dArr_size])) rfl ⟨by rw [HhV.out]; rfl, hbz.out⟩
  · have e1 : Um.putD n l = [] := by unfold Um.putD; rw [if_neg hE]
    have e2 : Um.putU U n l = U := by unfold Um.putU; rw [if_neg hE]
    rw [e1, e2]
    have hcase := putE_cases hll hE
    obtain ⟨E, hEE⟩ : ∃ E, E = Um.putE n l := ⟨_, rfl⟩
    rw [← hEE]
    have hE1 : n < 1 → E = 1 := fun h => by rw [hEE]; unfold Um.putE; rw [if_pos (by omega)]
    have hE2 : 64 < n → E = 1 := fun h => by rw [hEE]; unfold Um.putE; rw [if_pos (by omega)]
    have hE3 : 1 ≤ n → n ≤ 64 → 16 < s.size → E = 4 := fun h h' h3 => by rw [hEE]; unfold Um.putE; rw [if_neg (by omega), if_pos (by omega)]
    have hE4 : 1 ≤ n → n ≤ 64 → s.size = 0 → E = 3 := fun h h' h3 => by rw [hEE]; unfold Um.putE; rw [if_neg (by omega), if_neg (by omega), if_pos (List.length_eq_zero_iff.1 (by omega))]
    have B0 := k3.get 2 rfl
    have B1 := k3.get 1 rfl
    have c1 := ch_setRow (((w.alloc (.cells (uArr U) 73)).alloc (.cells (uArr Um.none0) 73)).alloc (.cells (dArr []) 50)) (w.heap.size + 1) (uArr U)
    have B2 := c1.keep (k3.get 0 rfl) (by simp)
    have B3 := setRow_heap _ (w.heap.size + 1) _ (uArr U) _ _ B1
    have c2 := ch_setRow ((((w.alloc (.cells (uArr U) 73)).alloc (.cells (uArr Um.none0) 73)).alloc (.cells (dArr []) 50)).setRow (w.heap.size + 1) (uArr U)) (w.heap.size + 1 + 1) (dArr [])
    have B4 := c2.keep B3 (by simp)
    have B5 := setRow_heap _ (w.heap.size + 1 + 1) _ (dArr []) _ _ B2
    have hbz := below_setRow (g := w.heap.size + 1 + 1) (below_setRow (g := w.heap.size + 1) k3.below (by omega) (uArr U)) (by omega) (dArr [])
    have HB0 := Lib.hid B0
    have HB1 := Lib.hid B1
    have HB2 := Lib.hid B2
    have HB4 := Lib.hid B4
    have HB5 := Lib.hid B5
    have Hhbz := Lib.hid hbz
    clear B0 B1 B2 B4 B5 hbz
    clear k3 c1 c2 B3 hEE hE hof hl hsl hll e1 e2
    rcases hcase with h1 | ⟨h1, h2⟩ | ⟨h1, h2, h3⟩ | ⟨h1, h2, h3⟩
    · obtain rfl := hE1 h1
      clear hE1 hE2 hE3 hE4
      go_enter Try.func50, Try.ntmps50
      go_wp2_with (first | refine kl_alloc rfl 50 rfl (dArr []) i0 hi0 _ hz0 rfl ?_ | refine kl_alloc rfl 73 rfl (uArr Um.none0) i1 hi1 _ hz1 rfl ?_ | refine kl_build0 rfl 50 rfl 32 5 Try.underlying50 (by kernel_rfl) i0 hi0 (dArr []) hz0 ?_ | refine wpList_load_row rfl 73 _ rfl w.heap.size rfl _ _ _ _ HB0.out Try.underlying73 rfl (by rw [u64s, uArr_size]) ?_ | refine wpList_store_row rfl 73 _ _ rfl (w.heap.size + 1) (uArr U) rfl rfl _ _ HB1.out (by rw [u64s, uArr_size]) (by rw [uArr_size, uArr_size]) (uArr_one _) ?_ | refine wpList_store_row rfl 50 _ _ rfl (w.heap.size + 1 + 1) (dArr []) rfl rfl _ _ HB2.out (by rw [d32s, dArr_size]) (by rw [dArr_size]) (dArr_one _) ?_)
      refine bodyPost_ret (results_row_row_tmp rfl _ _ _ _ _ _ _ rfl HB4.out Try.underlying73 rfl (by rw [u64s, uArr_size]) _ _ _ _ _ rfl HB5.out Try.underlying50 rfl (by rw [d32s, dArr_size])) rfl ⟨rfl, Hhbz.out⟩
    · obtain rfl := hE2 h2
      clear hE1 hE2 hE3 hE4
      go_enter Try.func50, Try.ntmps50
      go_wp2_with (first | refine kl_alloc rfl 50 rfl (dArr []) i0 hi0 _ hz0 rfl ?_ | refine kl_alloc rfl 73 rfl (uArr Um.none0) i1 hi1 _ hz1 rfl ?_ | refine kl_build0 rfl 50 rfl 32 5 Try.underlying50 (by kernel_rfl) i0 hi0 (dArr []) hz0 ?_ | refine wpList_load_row rfl 73 _ rfl w.heap.size rfl _ _ _ _ HB0.out Try.underlying73 rfl (by rw [u64s, uArr_size]) ?_ | refine wpList_store_row rfl 73 _ _ rfl (w.heap.size + 1) (uArr U) rfl rfl _ _ HB1.out (by rw [u64s, uArr_size]) (by rw [uArr_size, uArr_size]) (uArr_one _) ?_ | refine wpList_store_row rfl 50 _ _ rfl (w.heap.size + 1 + 1) (dArr []) rfl rfl _ _ HB2.out (by rw [d32s, dArr_size]) (by rw [dArr_size]) (dArr_one _) ?_)
      refine bodyPost_ret (results_row_row_tmp rfl _ _ _ _ _ _ _ rfl HB4.out Try.underlying73 rfl (by rw [u64s, uArr_size]) _ _ _ _ _ rfl HB5.out Try.underlying50 rfl (by rw [d32s, dArr_size])) rfl ⟨rfl, Hhbz.out⟩
    · obtain rfl := hE3 h1 h2 h3
      clear hE1 hE2 hE3 hE4
      go_enter Try.func50, Try.ntmps50
      go_wp2_with (first | refine kl_alloc rfl 50 rfl (dArr []) i0 hi0 _ hz0 rfl ?_ | refine kl_alloc rfl 73 rfl (uArr Um.none0) i1 hi1 _ hz1 rfl ?_ | refine kl_build0 rfl 50 rfl 32 5 Try.underlying50 (by kernel_rfl) i0 hi0 (dArr []) hz0 ?_ | refine wpList_load_row rfl 73 _ rfl w.heap.size rfl _ _ _ _ HB0.out Try.underlying73 rfl (by rw [u64s, uArr_size]) ?_ | refine wpList_store_row rfl 73 _ _ rfl (w.heap.size + 1) (uArr U) rfl rfl _ _ HB1.out (by rw [u64s, uArr_size]) (by rw [uArr_size, uArr_size]) (uArr_one _) ?_ | refine wpList_store_row rfl 50 _ _ rfl (w.heap.size + 1 + 1) (dArr []) rfl rfl _ _ HB2.out (by rw [d32s, dArr_size]) (by rw [dArr_size]) (dArr_one _) ?_)
      refine bodyPost_ret (results_row_row_tmp rfl _ _ _ _ _ _ _ rfl HB4.out Try.underlying73 rfl (by rw [u64s, uArr_size]) _ _ _ _ _ rfl HB5.out Try.underlying50 rfl (by rw [d32s, dArr_size])) rfl ⟨rfl, Hhbz.out⟩
    · obtain rfl := hE4 h1 h2 h3
      have hz3 : ((s.size : Int) == 0) = true := by rw [h3]; rfl
      clear hE1 hE2 hE3 hE4
      go_enter Try.func50, Try.ntmps50
      go_wp2_with (first | refine kl_alloc rfl 50 rfl (dArr []) i0 hi0 _ hz0 rfl ?_ | refine kl_alloc rfl 73 rfl (uArr Um.none0) i1 hi1 _ hz1 rfl ?_ | refine kl_build0 rfl 50 rfl 32 5 Try.underlying50 (by kernel_rfl) i0 hi0 (dArr []) hz0 ?_ | refine wpList_load_row rfl 73 _ rfl w.heap.size rfl _ _ _ _ HB0.out Try.underlying73 rfl (by rw [u64s, uArr_size]) ?_ | refine wpList_store_row rfl 73 _ _ rfl (w.heap.size + 1) (uArr U) rfl rfl _ _ HB1.out (by rw [u64s, uArr_size]) (by rw [uArr_size, uArr_size]) (uArr_one _) ?_ | refine wpList_store_row rfl 50 _ _ rfl (w.heap.size + 1 + 1) (dArr []) rfl rfl _ _ HB2.out (by rw [d32s, dArr_size]) (by rw [dArr_size]) (dArr_one _) ?_)
      refine bodyPost_ret (results_row_row_tmp rfl _ _ _ _ _ _ _ rfl HB4.out Try.underlying73 rfl (by rw [u64s, uArr_size]) _ _ _ _ _ rfl HB5.out Try.underlying50 rfl (by rw [d32s, dArr_size])) rfl ⟨rfl, Hhbz.out⟩
end Go.Proofs.Ytgdjfijkbemkeaa
