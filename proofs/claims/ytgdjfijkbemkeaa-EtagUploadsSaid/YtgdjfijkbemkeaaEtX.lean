/-
  Walks: an upload is done.
-/
import Derived.Test.YtgdjfijkbemkeaaEtV
namespace Go.Proofs.Ytgdjfijkbemkeaa
open Go.RowKit
set_option maxHeartbeats 2000000
set_option maxRecDepth 20000
set_option linter.unusedVariables false

theorem zstr5 (w : World) : (zeroValue 9).run Try.prog w = .ok (.string ⟨#[]⟩) w := by
  obtain ⟨i0, hi0, hz0, hz1, hz2⟩ := info_parts info_str5
  simp [zeroValue, typeInfo, hi0, hz0, Sem.run_bind]

theorem kl_up_look {ops : Array Oper} {rest : List Oper} {o : Oper} {a : Act} {w : World} {Q : Exit → Act → World → Prop} (hg : o.guard = none) (m x : Operand) (hop : o.op = Op.lookup 115 m x true)
    (U : Um.Up) (g b n : Nat) (hup : UpAt U g b n w) (hm : a.eval m = .map (some b)) (z : Int) (hx : a.eval x = .int .i64 z) (j : Nat) (hz : z = (j : Int)) (hj : j < 1000000) (s : ByteArray) (hs : s = ⟨(U j).toArray⟩) (t : Bool) (ht : (U j).isEmpty = !t)
    (hK : wpList Try.prog ops Q rest (a.put o.dst (.tuple #[.string s, .bool t])) w) : wpList Try.prog ops Q (o :: rest) a w := by
  obtain ⟨_, D, hown, hD⟩ := hup
  subst hz
  refine wpList_lookup_own_ok w hg m x _ hop 3 9 keyedInt Try.underlying115 _ (zstr5 w) (.lit (.string [])) [] (plainElem_string Try.underlying9 (by decide)) b n D hm hown _ (.int .i64 (j : Int)) hx (Maps.keyOf_int_mk Try.underlying3 (wf64 _ (by omega) (by omega))) ?_
  intro v ps hv
  obtain ⟨c, rfl, hc, _⟩ := plainElem_string_inv Try.underlying9 hv
  have hc1 := congrArg Prod.fst hc
  simp only at hc1
  have key : c = s ∧ Maps.has D (.int .i64 (j : Int)) = t := by
    by_cases hu : U j = []
    · have hh : Maps.has D (.int .i64 (j : Int)) = false := by
        cases h : Maps.has D (.int .i64 (j : Int))
        · rfl
        · exact absurd hu ((hD.has j).1 h)
      rw [Maps.atKey_of_not_has hh] at hc1
      rw [hu] at ht hs
      refine ⟨?_, by rw [hh]; cases t <;> simp_all⟩
      injection hc1 with h1
      injection h1 with h2
      rw [hs, h2]
    · have hh : Maps.has D (.int .i64 (j : Int)) = true := (hD.has j).2 hu
      rw [hD.at_ j _ hu] at hc1
      refine ⟨?_, by rw [hh]; cases t <;> simp_all⟩
      injection hc1 with h1
      injection h1 with h2
      rw [hs, h2]
  rw [key.1, key.2]
  exact hK

theorem kl_up_len {ops : Array Oper} {rest : List Oper} {o : Oper} {a : Act} {w : World} {Q : Exit → Act → World → Prop} (hg : Region.wanted o (yielded ops a.tmps) = true) (m : Operand) (hop : o.op = Op.call { callee := Callee.builtin Builtin.len, args := #[m], argTypes := #[115] })
    (U : Um.Up) (g b n : Nat) (hup : UpAt U g b n w) (hm : a.eval m = .map (some b)) (z : Int) (hz : (Um.cnt U : Int) = z) (hK : wpList Try.prog ops Q rest (a.put o.dst (.int .i64 z)) w) : wpList Try.prog ops Q (o :: rest) a w := by
  obtain ⟨_, D, hown, hD⟩ := hup
  unfold wpList
  rw [if_pos hg]
  refine .inl ?_
  unfold Oper.wp
  simp [execOp, hop, resolve, invoke, builtin, hm, hown.len Try.underlying115 o.type, Result.andThen]
  rw [hD.size, hz]
  exact hK

/-- so far: is there one unlike? one too short? -/
def Unl (U : Um.Up) (ds : List (List UInt8)) (i : Nat) (b : Bool) : Prop := b = true ↔ ∃ j, j < i ∧ Sm.digest (U (j + 1)) ≠ ds.getD j []
def Sho (U : Um.Up) (n i : Nat) (b : Bool) : Prop := b = true ↔ ∃ j, j < i ∧ j + 1 < n ∧ (U (j + 1)).length < 16
theorem Unl.start (U : Um.Up) (ds : List (List UInt8)) : Unl U ds 0 false := ⟨fun h => (by cases h), fun ⟨j, h, _⟩ => absurd h (by omega)⟩
theorem Sho.start (U : Um.Up) (n : Nat) : Sho U n 0 false := ⟨fun h => (by cases h), fun ⟨j, h, _⟩ => absurd h (by omega)⟩
theorem Unl.step {U : Um.Up} {ds : List (List UInt8)} {i : Nat} {b c : Bool} (h : Unl U ds i b) (hc : c = true ↔ (b = true ∨ Sm.digest (U (i + 1)) ≠ ds.getD i [])) : Unl U ds (i + 1) c := by
  unfold Unl at *
  rw [hc, h]
  constructor
  · rintro (⟨j, h1, h2⟩ | h2)
    · exact ⟨j, by omega, h2⟩
    · exact ⟨i, by omega, h2⟩
  · rintro ⟨j, h1, h2⟩
    rcases Nat.lt_or_ge j i with h3 | h3
    · exact .inl ⟨j, h3, h2⟩
    · obtain rfl : j = i := by omega
      exact .inr h2
theorem Sho.step {U : Um.Up} {n i : Nat} {b c : Bool} (h : Sho U n i b) (hc : c = true ↔ (b = true ∨ (i + 1 < n ∧ (U (i + 1)).length < 16))) : Sho U n (i + 1) c := by
  unfold Sho at *
  rw [hc, h]
  constructor
  · rintro (⟨j, h1, h2⟩ | h2)
    · exact ⟨j, by omega, h2⟩
    · exact ⟨i, by omega, h2⟩
  · rintro ⟨j, h1, h2⟩
    rcases Nat.lt_or_ge j i with h3 | h3
    · exact .inl ⟨j, h3, h2⟩
    · obtain rfl : j = i := by omega
      exact .inr h2

attribute [local irreducible] dArr
theorem etagDone (U : Um.Up) (hU : Um.Good U) (g m k : Nat) (hk : k < 1000000) (v : Value) (ds : List (List UInt8)) (hlen : ds.length ≤ 1000) (hd : ∀ d ∈ ds, d.length = 32) (w : World) (h : UpAt U g m k w) (hrd : RdD v ds w.heap.size w) :
    Calls Try.prog 51 #[.pointer (some ⟨g, 0, none⟩), v] w fun e w' =>
      e = .returned (.tuple #[.string ⟨(Um.doneS U ds).toArray⟩, .agg (dArr (Um.doneD U ds)), .int .i64 (Um.doneE U ds : Nat)]) ∧ Below w.heap.size w w' := by
  obtain ⟨i0, hi0, hz0, hs0⟩ := d32
  obtain ⟨A, c, rfl⟩ := hrd.slice
  obtain ⟨n, hn⟩ : ∃ n, n = ds.length := ⟨_, rfl⟩
  rw [← hn] at hrd hlen ⊢
  obtain ⟨S, hS⟩ : ∃ S, S = (⟨(Um.doneS U ds).toArray⟩ : ByteArray) := ⟨_, rfl⟩
  obtain ⟨D, hD⟩ : ∃ D, D = Um.doneD U ds := ⟨_, rfl⟩
  obtain ⟨E, hE⟩ : ∃ E, E = Um.doneE U ds := ⟨_, rfl⟩
  rw [← hS, ← hD, ← hE]
  have hbad : ∀ c, c ≠ 0 → Um.doneE U ds = c → S = ⟨#[]⟩ ∧ D = [] ∧ E = c := fun c hc he => by
    refine ⟨by rw [hS]; unfold Um.doneS; rw [if_neg (by omega)], by rw [hD]; unfold Um.doneD; rw [if_neg (by omega)], by rw [hE, he]⟩
  have k1 := (Kn.start w).alloc (.cells (dArr []) 50)
  obtain ⟨hgl, hml, hgm⟩ := h.lt
  have K1 := Lib.hid k1
  clear k1
  have Hhrd := Lib.hid hrd
  have Hhn := Lib.hid hn
  have HhS := Lib.hid hS
  have HhD := Lib.hid hD
  have HhE := Lib.hid hE
  have Hh := Lib.hid h
  have Hhbad := Lib.hid hbad
  clear hrd hn hS hD hE h hbad
  by_cases h0 : n = 0
  · have HBAD := Lib.hid (Hhbad.out 3 (by omega) (Um.doneE_nil (by rw [← Hhn.out]; exact h0)))
    subst h0
    go_enter Try.func51, Try.ntmps51
    go_wp2_with (refine kl_alloc rfl 50 rfl (dArr []) i0 hi0 _ hz0 rfl ?_)
    refine (doneNone 3 _).mono ?_
    rintro e w4 ⟨rfl, hb4⟩
    have k4 := K1.out.call hb4
    have HRES := setRow_heap w4 w.heap.size _ (dArr []) _ _ (k4.get 0 rfl)
    have HBR := below_setRow (g := w.heap.size) k4.below (Nat.le_refl _) (dArr [])
    have K3 := Lib.hid (k4.get 0 rfl)
    have HRES' := Lib.hid HRES
    clear k4 hb4 HRES
    go_wp2_with (refine wpList_store_row rfl 50 _ _ rfl w.heap.size (dArr []) rfl rfl _ _ K3.out (by rw [d32s, dArr_size]) (by rw [dArr_size]) (dArr_one _) ?_)
    refine bodyPost_ret (results_tmp_row_tmp rfl _ _ _ _ _ _ _ rfl HRES'.out Try.underlying50 rfl (by rw [d32s, dArr_size])) rfl ⟨by rw [HBAD.out.1, HBAD.out.2.1, HBAD.out.2.2]; rfl, HBR⟩
  · have hn0 : ((n : Int) == 0) = false := by rw [beq_eq_false_iff_ne]; omega
    go_enter Try.func51, Try.ntmps51
    go_wp2_with (refine kl_alloc rfl 50 rfl (dArr []) i0 hi0 _ hz0 rfl ?_)
    generalize w.alloc (.cells (dArr []) 50) = w1 at *
    have Hh0 := Lib.hid h0
    clear h0
    clear hn0
    go_loopw [8, 9, 10, 25] (fun sv hv uv iv wr => ∃ (i : Nat) (s : ByteArray) (sh un : Bool), i ≤ n ∧ iv = .int .i64 (i : Int) ∧ sv = .string s ∧ hv = .bool sh ∧ uv = .bool un ∧
        Hid (s.data.toList = Um.cat U i) ∧ s.size ≤ 16 * i ∧ Hid (Um.allThere U i) ∧ Hid (Unl U ds i un) ∧ Hid (Sho U n i sh) ∧
        Hid (Kn w.heap.size w [(w.heap.size, .cells (dArr []) 50)] wr)) (fun _ _ _ iv _ => n - (intOf iv).toNat)
    case atStart => exact ⟨0, ⟨#[]⟩, false, false, by omega, rfl, rfl, rfl, rfl, rfl, by decide, fun j hj => absurd hj (by omega), Unl.start _ _, Sho.start _ _, K1⟩
    case round =>
      obtain ⟨i, s, sh, un, hi, rfl, rfl, rfl, rfl, HS, hsz, HA, HU, HSH, K⟩ := hrel
      clear K1
      by_cases hin : i < n
      · have hil : i < ds.length := by rw [← Hhn.out]; exact hin
        have hrd := Hhrd.out
        rw [Hhn.out] at hrd
        obtain ⟨b, off, hA, hcn, hb, hrng⟩ := hrd.at_ hil
        rw [← Hhn.out] at hcn
        have hrng2 : wr.rangeAt b (off + i * 32) (dArr ds[i]).toList := fun j u hj => (K.out.below.cell (p := ⟨b, _, none⟩) hb).trans (hrng j u hj)
        have hdl := hd _ (List.getElem_mem hil)
        have hdg : ds.getD i [] = ds[i] := by rw [List.getD_eq_getElem?_getD, List.getElem?_eq_getElem hil]; rfl
        generalize ds[i] = d at *
        subst hA
        clear hrng hil hrd
        have hbi : (0 : Int) ≤ i := by omega
        have hbn : (i : Int) < n := by omega
        have k5 := K.out.alloc (.cells (dArr d) 50)
        have hup := Hh.out.below k5.below hgl hml
        have hcell : (wr.alloc (.cells (dArr d) 50)).cell? ⟨g, 0, none⟩ = some (.map (some m)) := by rw [cell_of_row _ _ _ _ _ _ hup.1]; rfl
        obtain ⟨P, hP⟩ : ∃ P, P = U (i + 1) := ⟨_, rfl⟩
        obtain ⟨x, hx⟩ : ∃ x : ByteArray, x = ⟨(U (i + 1)).toArray⟩ := ⟨_, rfl⟩
        have hxl : x.data.toList = P := by rw [hx, hP]
        have hxs : x.size = P.length := by rw [← hxl]; rfl
        have hxx : x = ⟨P.toArray⟩ := by rw [← hxl]
        have hP16 : x.size ≤ 16 := by rw [hxs, hP]; exact hU.len _
        obtain ⟨t, ht⟩ : ∃ t, (U (i + 1)).isEmpty = !t := ⟨!(U (i + 1)).isEmpty, by simp⟩
        have Hhrng2 := Lib.hid hrng2
        have Hhdl := Lib.hid hdl
        have Hhdg := Lib.hid hdg
        have Hhup := Lib.hid hup
        have HhP := Lib.hid hP
        have Hhx := Lib.hid hx
        have Hhxl := Lib.hid hxl
        have Hhxs := Lib.hid hxs
        have Hhxx := Lib.hid hxx
        have Hht := Lib.hid ht
        have Hk5 := Lib.hid k5
        clear hrng2 hdl hdg hup hP hx hxl hxs hxx ht k5
        cases t with
        | false =>
          have he : U (i + 1) = [] := by simpa using Hht.out
          have HBAD := Lib.hid (Hhbad.out 5 (by omega) (Um.doneE_none (by rw [← Hhn.out]; exact Hh0.out) (by rw [← Hhn.out]; exact hin) he))
          clear he
          go_wp2_with (first | (at_lookup; refine kl_up_look rfl _ _ rfl U g m k Hhup.out rfl _ rfl (i + 1) (by omega) (by omega) x Hhx.out false Hht.out ?_) | refine kl_load_el rfl 50 _ rfl b (off + i * 32) rfl (dArr d) _ Hhrng2.out Try.underlying50 rfl (by rw [d32s, dArr_size]) ?_ | refine kl_alloc rfl 50 rfl (dArr []) i0 hi0 _ hz0 rfl ?_ | refine kl_store_new rfl 50 _ _ rfl (dArr d) rfl rfl _ _ (by rw [d32s, dArr_size]) (by rw [dArr_size, dArr_size]) (dArr_one _) ?_)
          have K5 := Lib.hid (Hk5.out.sub (M := [(w.heap.size, .cells (dArr []) 50)]) (fun y hy => List.mem_cons_of_mem _ hy))
          refine (doneNone 5 _).mono ?_
          rintro e w4 ⟨rfl, hb4⟩
          have k4 := K5.out.call hb4
          have HRES := setRow_heap w4 w.heap.size _ (dArr []) _ _ (k4.get 0 rfl)
          have HBR := below_setRow (g := w.heap.size) k4.below (Nat.le_refl _) (dArr [])
          have K3 := Lib.hid (k4.get 0 rfl)
          have HRES' := Lib.hid HRES
          clear k4 hb4 HRES
          go_wp2_with (refine wpList_store_row rfl 50 _ _ rfl w.heap.size (dArr []) rfl rfl _ _ K3.out (by rw [d32s, dArr_size]) (by rw [dArr_size]) (dArr_one _) ?_)
          refine bodyPost_ret (results_tmp_row_tmp rfl _ _ _ _ _ _ _ rfl HRES'.out Try.underlying50 rfl (by rw [d32s, dArr_size])) rfl ⟨by rw [HBAD.out.1, HBAD.out.2.1, HBAD.out.2.2]; rfl, HBR⟩
        | true =>
          have hne : U (i + 1) ≠ [] := by simpa using Hht.out
          have HA' : Hid (Um.allThere U (i + 1)) := fun j hj => by
            rcases Nat.lt_or_ge j i with h3 | h3
            · exact HA.out j h3
            · obtain rfl : j = i := by omega
              exact hne
          clear hne
          obtain ⟨sh', hsh'⟩ : ∃ sh', sh' = (sh || (decide ((i : Int) < n - 1) && decide ((x.size : Int) < 16))) := ⟨_, rfl⟩
          have HSH' : Hid (Sho U n (i + 1) sh') := HSH.out.step (by
            rw [hsh', ← HhP.out, ← Hhxs.out]
            simp only [Bool.or_eq_true, Bool.and_eq_true, decide_eq_true_eq]
            constructor
            · rintro (h | ⟨h1, h2⟩)
              · exact .inl h
              · exact .inr ⟨by omega, by omega⟩
            · rintro (h | ⟨h1, h2⟩)
              · exact .inl h
              · exact .inr ⟨by omega, by omega⟩)
          obtain ⟨r, hr⟩ : ∃ r, deq (Sm.digest P) d = r := ⟨_, rfl⟩
          have HU' : Hid (Unl U ds (i + 1) (un || !r)) := HU.out.step (by
            rw [← hr, ← HhP.out, Hhdg.out]
            have := deq_iff (digest_length P) Hhdl.out
            cases hq : deq (Sm.digest P) d
            · have h1 : ¬ Sm.digest P = d := fun e => by rw [this.2 e] at hq; cases hq
              simp [h1]
            · have h1 := this.1 hq
              simp [h1])
          have hdr := eql_d_run (Sm.digest P) d r hr
          obtain ⟨DP, hDP⟩ : ∃ DP, DP = Sm.digest P := ⟨_, rfl⟩
          have hof := fun p w t fr h => ofOne p 1 P (by rw [← Hhxs.out]; omega) w t fr h
          rw [← hDP] at hdr hof
          rw [← Hhxx.out] at hof
          have Hhsh' := Lib.hid hsh'
          have Hhr := Lib.hid hr
          have Hhdr := Lib.hid hdr
          have HhDP := Lib.hid hDP
          have Hhof := Lib.hid hof
          clear hsh' hr hdr hDP hof
          go_wp2_with (first | (at_lookup; refine kl_up_look rfl _ _ rfl U g m k Hhup.out rfl _ rfl (i + 1) (by omega) (by omega) x Hhx.out true Hht.out ?_) | refine kl_load_el rfl 50 _ rfl b (off + i * 32) rfl (dArr d) _ Hhrng2.out Try.underlying50 rfl (by rw [d32s, dArr_size]) ?_ | refine kl_alloc rfl 50 rfl (dArr []) i0 hi0 _ hz0 rfl ?_ | refine kl_store_new rfl 50 _ _ rfl (dArr d) rfl rfl _ _ (by rw [d32s, dArr_size]) (by rw [dArr_size, dArr_size]) (dArr_one _) ?_)
          have k5 := Hk5.out
          generalize wr.alloc (.cells (dArr d) 50) = w5 at *
          generalize wr.heap.size = q at *
          have hgd := eqGuard_d
          cases un with
          | true =>
            refine wp_region_abs w.heap.size w [(q, .cells (dArr d) 50), (w.heap.size, .cells (dArr []) 50)] ((true, 0) :: (true, 1) :: (true, 2) :: (true, 5) :: (true, 3) :: (true, 4) :: (true, 6) :: (true, 7) :: (false, 8) :: []) (by kernel_rfl) (by kernel_rfl) k5.drew ?_
            clear k5 Hk5
            (apply ab_pure
             · (simp only [List.getElem?_toArray, List.getElem?_cons_succ, List.getElem?_cons_zero]; rfl)
             · rfl
             · (intro wS hS; go_simp; try exact rfl)
             simp only [Act.put, List.setIfInBounds_toArray, List.set_cons_zero, List.set_cons_succ])
            (apply ab_pure
             · (simp only [List.getElem?_toArray, List.getElem?_cons_succ, List.getElem?_cons_zero]; rfl)
             · rfl
             · (intro wS hS; go_simp; try exact rfl)
             simp only [Act.put, List.setIfInBounds_toArray, List.set_cons_zero, List.set_cons_succ])
            (apply ab_skip
             · (simp only [List.getElem?_toArray, List.getElem?_cons_succ, List.getElem?_cons_zero]; rfl)
             · rfl
             simp only [Act.put, List.setIfInBounds_toArray, List.set_cons_zero, List.set_cons_succ])
            (apply ab_skip
             · (simp only [List.getElem?_toArray, List.getElem?_cons_succ, List.getElem?_cons_zero]; rfl)
             · rfl
             simp only [Act.put, List.setIfInBounds_toArray, List.set_cons_zero, List.set_cons_succ])
            (apply ab_skip
             · (simp only [List.getElem?_toArray, List.getElem?_cons_succ, List.getElem?_cons_zero]; rfl)
             · rfl
             simp only [Act.put, List.setIfInBounds_toArray, List.set_cons_zero, List.set_cons_succ])
            (apply ab_skip
             · (simp only [List.getElem?_toArray, List.getElem?_cons_succ, List.getElem?_cons_zero]; rfl)
             · rfl
             simp only [Act.put, List.setIfInBounds_toArray, List.set_cons_zero, List.set_cons_succ])
            (apply ab_skip
             · (simp only [List.getElem?_toArray, List.getElem?_cons_succ, List.getElem?_cons_zero]; rfl)
             · rfl
             simp only [Act.put, List.setIfInBounds_toArray, List.set_cons_zero, List.set_cons_succ])
            (apply ab_pure
             · (simp only [List.getElem?_toArray, List.getElem?_cons_succ, List.getElem?_cons_zero]; rfl)
             · rfl
             · (intro wS hS; go_simp; try exact rfl)
             simp only [Act.put, List.setIfInBounds_toArray, List.set_cons_zero, List.set_cons_succ])
            (apply ab_loud
             · (simp only [List.getElem?_toArray, List.getElem?_cons_succ, List.getElem?_cons_zero]; rfl)
             · rfl
             intro wS hS
             go_wp2_with fail)
            refine ab_on _ (fun x hx => hx) hS (ab_end ?_)
            intro wE hE
            have K6 := Lib.hid (hE.sub (M := [(w.heap.size, .cells (dArr []) 50)]) (fun y hy => by obtain rfl := List.mem_singleton.1 hy; simp))
            clear hS hE
            have hsc : sh = true ∨ (sh = false ∧ (i : Int) < n - 1 ∧ (x.size : Int) < 16) ∨ (sh = false ∧ (i : Int) < n - 1 ∧ ¬ (x.size : Int) < 16) ∨ (sh = false ∧ ¬ (i : Int) < n - 1) := by
              cases sh
              · rcases Int.lt_or_le (i : Int) (n - 1) with h1 | h1
                · rcases Int.lt_or_le (x.size : Int) 16 with h2 | h2
                  · exact .inr (.inl ⟨rfl, h1, h2⟩)
                  · exact .inr (.inr (.inl ⟨rfl, h1, by omega⟩))
                · exact .inr (.inr (.inr ⟨rfl, by omega⟩))
              · exact .inl rfl
            have hcat : Hid ((s ++ x).data.toList = Um.cat U (i + 1)) := by
              show _ = _
              unfold Um.cat
              rw [← HS.out, ← HhP.out, ← Hhxl.out]; simp
            have hszc : (s ++ x).size ≤ 16 * (i + 1) := by rw [ByteArray.size_append]; omega
            rcases hsc with rfl | ⟨rfl, h1, h2⟩ | ⟨rfl, h1, h2⟩ | ⟨rfl, h1⟩
            · have HB : Hid (Sho U n (i + 1) true) := by have h := HSH'.out; rw [Hhsh'.out] at h; exact h
              go_wp2_with fail
              go_roundw
              case rel => exact ⟨i + 1, _, true, _, by omega, by go_num, rfl, rfl, rfl, hcat, hszc, HA', HU', HB, K6⟩
              case measure => simp [intOf]; omega
            · have HB : Hid (Sho U n (i + 1) true) := by have h := HSH'.out; rw [Hhsh'.out, decide_eq_true h1, decide_eq_true h2] at h; exact h
              go_wp2_with fail
              go_roundw
              case rel => exact ⟨i + 1, _, true, _, by omega, by go_num, rfl, rfl, rfl, hcat, hszc, HA', HU', HB, K6⟩
              case measure => simp [intOf]; omega
            · have HB : Hid (Sho U n (i + 1) false) := by have h := HSH'.out; rw [Hhsh'.out, decide_eq_true h1, decide_eq_false h2] at h; exact h
              go_wp2_with fail
              go_roundw
              case rel => exact ⟨i + 1, _, false, _, by omega, by go_num, rfl, rfl, rfl, hcat, hszc, HA', HU', HB, K6⟩
              case measure => simp [intOf]; omega
            · have HB : Hid (Sho U n (i + 1) false) := by have h := HSH'.out; rw [Hhsh'.out, decide_eq_false h1] at h; exact h
              go_wp2_with fail
              go_roundw
              case rel => exact ⟨i + 1, _, false, _, by omega, by go_num, rfl, rfl, rfl, hcat, hszc, HA', HU', HB, K6⟩
              case measure => simp [intOf]; omega
          | false =>
            refine wp_region_abs w.heap.size w [(q, .cells (dArr d) 50), (w.heap.size, .cells (dArr []) 50)] ((true, 0) :: (true, 1) :: (true, 2) :: (true, 5) :: (false, 3) :: (true, 4) :: (true, 6) :: (true, 7) :: (false, 8) :: []) (by kernel_rfl) (by kernel_rfl) k5.drew ?_
            clear k5 Hk5
            have hdr := Hhdr.out
            (apply ab_pure
             · (simp only [List.getElem?_toArray, List.getElem?_cons_succ, List.getElem?_cons_zero]; rfl)
             · rfl
             · (intro wS hS; go_simp; try exact rfl)
             simp only [Act.put, List.setIfInBounds_toArray, List.set_cons_zero, List.set_cons_succ])
            (apply ab_pure
             · (simp only [List.getElem?_toArray, List.getElem?_cons_succ, List.getElem?_cons_zero]; rfl)
             · rfl
             · (intro wS hS; go_simp; try exact rfl)
             simp only [Act.put, List.setIfInBounds_toArray, List.set_cons_zero, List.set_cons_succ])
            (apply ab_pure
             · (simp only [List.getElem?_toArray, List.getElem?_cons_succ, List.getElem?_cons_zero]; rfl)
             · rfl
             · (intro wS hS; go_simp; try exact rfl)
             simp only [Act.put, List.setIfInBounds_toArray, List.set_cons_zero, List.set_cons_succ])
            (apply ab_pure
             · (simp only [List.getElem?_toArray, List.getElem?_cons_succ, List.getElem?_cons_zero]; rfl)
             · rfl
             · (intro wS hS; exact mx_load_row 50 _ rfl _ rfl _ _ _ _ (hS.get 0 rfl) Try.underlying50 rfl (by rw [d32s, dArr_size]))
             simp only [Act.put, List.setIfInBounds_toArray, List.set_cons_zero, List.set_cons_succ])
            (apply ab_loud
             · (simp only [List.getElem?_toArray, List.getElem?_cons_succ, List.getElem?_cons_zero]; rfl)
             · rfl
             intro wS hS
             go_wp2_with fail)
            refine ab_on _ (fun x hx => List.mem_cons_of_mem _ hx) (hS.alloc _) ?_
            clear hS; generalize wS.heap.size = p5 at *; clear wS
            (apply ab_call
             · (simp only [List.getElem?_toArray, List.getElem?_cons_succ, List.getElem?_cons_zero]; rfl)
             · rfl
             · (intro _; go_simp; first | exact ⟨rfl, rfl⟩ | exact rfl)
             · (intro wS hS; exact Hhof.out _ _ _ _ (hS.get 0 rfl))
             simp only [Act.put, List.setIfInBounds_toArray, List.set_cons_zero, List.set_cons_succ])
            (apply ab_pure
             · (simp only [List.getElem?_toArray, List.getElem?_cons_succ, List.getElem?_cons_zero]; rfl)
             · rfl
             · (intro wS hS; go_simp; try exact rfl)
             simp only [Act.put, List.setIfInBounds_toArray, List.set_cons_zero, List.set_cons_succ])
            (apply ab_pure
             · (simp only [List.getElem?_toArray, List.getElem?_cons_succ, List.getElem?_cons_zero]; rfl)
             · rfl
             · (intro wS hS; go_simp; try exact rfl)
             simp only [Act.put, List.setIfInBounds_toArray, List.set_cons_zero, List.set_cons_succ])
            (apply ab_loud
             · (simp only [List.getElem?_toArray, List.getElem?_cons_succ, List.getElem?_cons_zero]; rfl)
             · rfl
             intro wS hS
             go_wp2_with fail)
            refine ab_on _ (fun x hx => hx) hS (ab_end ?_)
            intro wE hE
            have K6 := Lib.hid (hE.sub (M := [(w.heap.size, .cells (dArr []) 50)]) (fun y hy => by obtain rfl := List.mem_singleton.1 hy; simp))
            clear hS hE
            have hsc : sh = true ∨ (sh = false ∧ (i : Int) < n - 1 ∧ (x.size : Int) < 16) ∨ (sh = false ∧ (i : Int) < n - 1 ∧ ¬ (x.size : Int) < 16) ∨ (sh = false ∧ ¬ (i : Int) < n - 1) := by
              cases sh
              · rcases Int.lt_or_le (i : Int) (n - 1) with h1 | h1
                · rcases Int.lt_or_le (x.size : Int) 16 with h2 | h2
                  · exact .inr (.inl ⟨rfl, h1, h2⟩)
                  · exact .inr (.inr (.inl ⟨rfl, h1, by omega⟩))
                · exact .inr (.inr (.inr ⟨rfl, by omega⟩))
              · exact .inl rfl
            have hcat : Hid ((s ++ x).data.toList = Um.cat U (i + 1)) := by
              show _ = _
              unfold Um.cat
              rw [← HS.out, ← HhP.out, ← Hhxl.out]; simp
            have hszc : (s ++ x).size ≤ 16 * (i + 1) := by rw [ByteArray.size_append]; omega
            rcases hsc with rfl | ⟨rfl, h1, h2⟩ | ⟨rfl, h1, h2⟩ | ⟨rfl, h1⟩
            · have HB : Hid (Sho U n (i + 1) true) := by have h := HSH'.out; rw [Hhsh'.out] at h; exact h
              go_wp2_with fail
              go_roundw
              case rel => exact ⟨i + 1, _, true, _, by omega, by go_num, rfl, rfl, rfl, hcat, hszc, HA', HU', HB, K6⟩
              case measure => simp [intOf]; omega
            · have HB : Hid (Sho U n (i + 1) true) := by have h := HSH'.out; rw [Hhsh'.out, decide_eq_true h1, decide_eq_true h2] at h; exact h
              go_wp2_with fail
              go_roundw
              case rel => exact ⟨i + 1, _, true, _, by omega, by go_num, rfl, rfl, rfl, hcat, hszc, HA', HU', HB, K6⟩
              case measure => simp [intOf]; omega
            · have HB : Hid (Sho U n (i + 1) false) := by have h := HSH'.out; rw [Hhsh'.out, decide_eq_true h1, decide_eq_false h2] at h; exact h
              go_wp2_with fail
              go_roundw
              case rel => exact ⟨i + 1, _, false, _, by omega, by go_num, rfl, rfl, rfl, hcat, hszc, HA', HU', HB, K6⟩
              case measure => simp [intOf]; omega
            · have HB : Hid (Sho U n (i + 1) false) := by have h := HSH'.out; rw [Hhsh'.out, decide_eq_false h1] at h; exact h
              go_wp2_with fail
              go_roundw
              case rel => exact ⟨i + 1, _, false, _, by omega, by go_num, rfl, rfl, rfl, hcat, hszc, HA', HU', HB, K6⟩
              case measure => simp [intOf]; omega
      · obtain rfl : i = n := by omega
        have hl0 : ds.length ≠ 0 := by rw [← Hhn.out]; exact Hh0.out
        have hA : Um.allThere U ds.length := by rw [← Hhn.out]; exact HA.out
        cases un with
        | true =>
          have HBAD := Lib.hid (Hhbad.out 10 (by omega) (Um.doneE_unlike hl0 hA (fun hq => by
            obtain ⟨j, h1, h2⟩ := HU.out.1 rfl
            exact h2 (hq j (by rw [← Hhn.out]; exact h1)))))
          clear hl0 hA
          go_wp2_with fail
          refine (doneNone 10 _).mono ?_
          rintro e w4 ⟨rfl, hb4⟩
          have k4 := K.out.call hb4
          have HRES := setRow_heap w4 w.heap.size _ (dArr []) _ _ (k4.get 0 rfl)
          have HBR := below_setRow (g := w.heap.size) k4.below (Nat.le_refl _) (dArr [])
          have K3 := Lib.hid (k4.get 0 rfl)
          have HRES' := Lib.hid HRES
          clear k4 hb4 HRES
          go_wp2_with (refine wpList_store_row rfl 50 _ _ rfl w.heap.size (dArr []) rfl rfl _ _ K3.out (by rw [d32s, dArr_size]) (by rw [dArr_size]) (dArr_one _) ?_)
          refine bodyPost_ret (results_tmp_row_tmp rfl _ _ _ _ _ _ _ rfl HRES'.out Try.underlying50 rfl (by rw [d32s, dArr_size])) rfl ⟨by rw [HBAD.out.1, HBAD.out.2.1, HBAD.out.2.2]; rfl, HBR⟩
        | false =>
          have hL : Um.allLike U ds ds.length := fun j hj => by
            rcases Classical.em (Sm.digest (U (j + 1)) = ds.getD j []) with h | h
            · exact h
            · have := HU.out.2 ⟨j, by rw [Hhn.out]; exact hj, h⟩
              cases this
          have hcell : wr.cell? ⟨g, 0, none⟩ = some (.map (some m)) := by rw [K.out.below.cell (p := ⟨g, 0, none⟩) hgl, cell_of_row _ _ _ _ _ _ Hh.out.1]; rfl
          have hup := Hh.out.below K.out.below hgl hml
          cases sh with
          | true =>
            have HBAD := Lib.hid (Hhbad.out 2 (by omega) (Um.doneE_form hl0 hA hL (.inr (fun hq => by
              obtain ⟨j, h1, h2, h3⟩ := HSH.out.1 rfl
              have := hq j (by rw [← Hhn.out]; exact h2)
              omega))))
            clear hl0 hA hL hup
            go_wp2_with fail
            refine (doneNone 2 _).mono ?_
            rintro e w4 ⟨rfl, hb4⟩
            have k4 := K.out.call hb4
            have HRES := setRow_heap w4 w.heap.size _ (dArr []) _ _ (k4.get 0 rfl)
            have HBR := below_setRow (g := w.heap.size) k4.below (Nat.le_refl _) (dArr [])
            have K3 := Lib.hid (k4.get 0 rfl)
            have HRES' := Lib.hid HRES
            clear k4 hb4 HRES
            go_wp2_with (refine wpList_store_row rfl 50 _ _ rfl w.heap.size (dArr []) rfl rfl _ _ K3.out (by rw [d32s, dArr_size]) (by rw [dArr_size]) (dArr_one _) ?_)
            refine bodyPost_ret (results_tmp_row_tmp rfl _ _ _ _ _ _ _ rfl HRES'.out Try.underlying50 rfl (by rw [d32s, dArr_size])) rfl ⟨by rw [HBAD.out.1, HBAD.out.2.1, HBAD.out.2.2]; rfl, HBR⟩
          | false =>
            have hF : Um.allFull U ds.length := fun j hj => by
              rcases Nat.lt_or_ge (U (j + 1)).length 16 with h | h
              · have := HSH.out.2 ⟨j, by rw [Hhn.out]; omega, by rw [Hhn.out]; exact hj, h⟩
                cases this
              · have := hU.len (j + 1)
                omega
            by_cases hc : Um.cnt U = i
            · have hok := Um.doneE_ok hl0 hA hL (by rw [← Hhn.out]; exact hc) hF
              have hcc : (Um.cnt U : Int) = i := by omega
              have e1 : S = s := by rw [HhS.out]; unfold Um.doneS; rw [if_pos hok, ← Hhn.out, ← HS.out]
              have e2 : D = Em.comp ds := by rw [HhD.out]; unfold Um.doneD; rw [if_pos hok]
              have e3 : E = 0 := by rw [HhE.out, hok]
              have hrd := (Hhrd.out.below K.out.below).mono K.out.base
              rw [Hhn.out] at hrd
              have hco := composed _ ds (by rw [← Hhn.out]; omega) hd wr hrd
              rw [← Hhn.out, ← e2] at hco
              have Hhco := Lib.hid hco
              have Hhok := Lib.hid hok
              have Hhup := Lib.hid hup
              have Hhrd := Lib.hid hrd
              have He1 := Lib.hid e1
              have He2 := Lib.hid e2
              have He3 := Lib.hid e3
              clear hco hok hup hrd e1 e2 e3
              clear hl0 hA hL hF hc
              go_wp2_with (at_len; refine kl_up_len rfl _ rfl U g m k Hhup.out rfl _ hcc ?_)
              refine Hhco.out.mono ?_
              rintro e w4 ⟨rfl, hb4⟩
              have k4 := K.out.call hb4
              have HRES := setRow_heap w4 w.heap.size _ (dArr D) _ _ (k4.get 0 rfl)
              have HBR := below_setRow (g := w.heap.size) k4.below (Nat.le_refl _) (dArr D)
              have K3 := Lib.hid (k4.get 0 rfl)
              have HRES' := Lib.hid HRES
              clear k4 hb4 HRES
              go_wp2_with (refine wpList_store_row rfl 50 _ _ rfl w.heap.size (dArr D) rfl rfl _ _ K3.out (by rw [d32s, dArr_size]) (by rw [dArr_size, dArr_size]) (dArr_one _) ?_)
              refine bodyPost_ret (results_tmp_row_tmp rfl _ _ _ _ _ _ _ rfl HRES'.out Try.underlying50 rfl (by rw [d32s, dArr_size])) rfl ⟨by rw [He1.out, He3.out]; rfl, HBR⟩
            · have hcc : ¬ (Um.cnt U : Int) = i := by omega
              have HBAD := Lib.hid (Hhbad.out 2 (by omega) (Um.doneE_form hl0 hA hL (.inl (by rw [← Hhn.out]; exact hc))))
              have Hhup := Lib.hid hup
              clear hup
              clear hl0 hA hL hF hc
              go_wp2_with (at_len; refine kl_up_len rfl _ rfl U g m k Hhup.out rfl _ rfl ?_)
              refine (doneNone 2 _).mono ?_
              rintro e w4 ⟨rfl, hb4⟩
              have k4 := K.out.call hb4
              have HRES := setRow_heap w4 w.heap.size _ (dArr []) _ _ (k4.get 0 rfl)
              have HBR := below_setRow (g := w.heap.size) k4.below (Nat.le_refl _) (dArr [])
              have K3 := Lib.hid (k4.get 0 rfl)
              have HRES' := Lib.hid HRES
              clear k4 hb4 HRES
              go_wp2_with (refine wpList_store_row rfl 50 _ _ rfl w.heap.size (dArr []) rfl rfl _ _ K3.out (by rw [d32s, dArr_size]) (by rw [dArr_size]) (dArr_one _) ?_)
              refine bodyPost_ret (results_tmp_row_tmp rfl _ _ _ _ _ _ _ rfl HRES'.out Try.underlying50 rfl (by rw [d32s, dArr_size])) rfl ⟨by rw [HBAD.out.1, HBAD.out.2.1, HBAD.out.2.2]; rfl, HBR⟩
end Go.Proofs.Ytgdjfijkbemkeaa
