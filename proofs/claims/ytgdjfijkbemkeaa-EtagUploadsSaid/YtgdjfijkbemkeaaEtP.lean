/-
  Walk: any row of parts is taken, or refused; the upload is done, or not, just as the document says.
-/
import Derived.Test.YtgdjfijkbemkeaaEtO
import Derived.Test.YtgdjfijkbemkeaaMy
import Derived.Deep.DeepCutAuto
namespace Go.Proofs.Ytgdjfijkbemkeaa
open Go.RowKit
set_option maxHeartbeats 8000000
set_option maxRecDepth 20000
set_option linter.unusedVariables false

/-- parts that are read -/
def RdP (v : Value) (ps : List (Int × ByteArray)) (B : Nat) (w : World) : Prop :=
  (v = .slice none 0 0 ∧ ps = []) ∨ ∃ (ad : Addr) (c : Nat), v = .slice (some ad) ps.length c ∧ ps.length ≤ c ∧
    (ps = [] ∨ ∃ b off, ad = ⟨b, off, none⟩ ∧ b < B ∧ ∀ i (h : i < ps.length), w.cell? ⟨b, off + i * 2, none⟩ = some (.int .i64 ps[i].1) ∧ w.cell? ⟨b, off + i * 2 + 1, none⟩ = some (.string ps[i].2))
theorem RdP.slice {v : Value} {ps : List (Int × ByteArray)} {B : Nat} {w : World} (h : RdP v ps B w) : ∃ A c, v = .slice A ps.length c := by
  rcases h with ⟨rfl, rfl⟩ | ⟨ad, c, rfl, _⟩
  · exact ⟨none, 0, rfl⟩
  · exact ⟨some ad, c, rfl⟩
theorem RdP.at_ {A : Option Addr} {n c B : Nat} {ps : List (Int × ByteArray)} {w : World} (h : RdP (.slice A n c) ps B w) {i : Nat} (hi : i < ps.length) :
    ∃ b off, A = some ⟨b, off, none⟩ ∧ ps.length ≤ c ∧ b < B ∧ w.cell? ⟨b, off + i * 2, none⟩ = some (.int .i64 ps[i].1) ∧ w.cell? ⟨b, off + i * 2 + 1, none⟩ = some (.string ps[i].2) := by
  rcases h with ⟨_, rfl⟩ | ⟨ad, c', h, h2, h3⟩
  · exact absurd hi (by simp)
  · cases h
    rcases h3 with rfl | ⟨b, off, rfl, hb, hr⟩
    · exact absurd hi (by simp)
    · exact ⟨b, off, rfl, h2, hb, hr i hi⟩
theorem open_rdP {H : Type} {enc : TypeId × Value → H} {P : Program} {w : World} {t e : TypeId} {f0 f1 : Field} (ht : P.underlying t = some (.slice e)) (he : P.underlying e = some (.struct #[f0, f1])) (hce : P.cellsOf e = 2) (o0 : f0.offset = 0) (o1 : f1.offset = 1)
    (c0 : P.cellsOf f0.type = 1) (c1 : P.cellsOf f1.type = 1) (u0 : P.underlying f0.type = some (.int .i64)) (u1 : P.underlying f1.type = some .string)
    {v : Value} {d : DataW H} {p : List MemPlace} (hv : ∃ A n c, v = .slice A n c) (h : DataW.Trod enc P w 0 (fun _ => true) true t v d p) (hlt : ∀ x ∈ p, x.block < w.heap.size) :
    ∃ ps : List (Int × ByteArray), (∀ q ∈ ps, -9223372036854775808 ≤ q.1 ∧ q.1 ≤ 9223372036854775807) ∧ RdP v ps w.heap.size w := by
  obtain ⟨A, n, c, rfl⟩ := hv
  obtain ⟨fuel, hf⟩ := h
  rcases Deep.open_slice_pairs ht he hce o0 o1 c0 c1 hf with ⟨hcs, _⟩ | ⟨a, len, cap, m, k, V0, V1, D0, D1, P0, P1, hcs, _, hl, hm, hz, hx, hcell⟩
  · simp [Value.cells] at hcs
    obtain ⟨rfl, rfl, rfl⟩ := hcs
    exact ⟨[], by simp, .inl ⟨rfl, rfl⟩⟩
  · simp [Value.cells] at hcs
    obtain ⟨rfl, rfl, rfl⟩ := hcs
    simp only [if_true] at hz
    subst hz
    have each : ∀ i, i < m → ∃ q : Int × ByteArray, (-9223372036854775808 ≤ q.1 ∧ q.1 ≤ 9223372036854775807) ∧ w.cell? (a.add (i * 2)) = some (.int .i64 q.1) ∧ w.cell? (a.add (i * 2 + 1)) = some (.string q.2) := fun i hi => by
      obtain ⟨h1, h2, h3, h4⟩ := hcell i hi
      obtain ⟨x, hx0, _, hwf⟩ := DataW.trod_int u0 h3
      obtain ⟨s, hs, _, _⟩ := DataW.trod_string u1 h4
      simp at hx0 hs
      refine ⟨(x, s), ?_, by rw [h1, hx0], by rw [h2, hs]⟩
      simpa [Lit.wf, IntKind.min, IntKind.max, IntKind.signed, IntKind.bits] using hwf
    obtain ⟨f, hf'⟩ := Deep.choose_lt (α := Int × ByteArray) each
    refine ⟨(List.range n).map f, ?_, ?_⟩
    · intro q hq
      obtain ⟨i, hi, rfl⟩ := List.mem_map.1 hq
      exact (hf' i (by have := List.mem_range.1 hi; omega)).1
    · have hln : ((List.range n).map f).length = n := by simp
      refine .inr ⟨a, m, by rw [hln], by rw [hln]; exact hl, ?_⟩
      by_cases h0 : n = 0
      · subst h0; exact .inl rfl
      · refine .inr ?_
        obtain ⟨b, off, spot⟩ := a
        have hc0 := (hf' 0 (by omega)).2.1
        have hspot : spot = none := by simpa [Addr.add] using World.cell?_spot hc0
        subst hspot
        simp only [Prod.mk.injEq] at hx
        have hbW : b < w.heap.size := hlt (.cell b off) (by rw [hx.2, List.mem_append]; exact .inl (MemPlace.mem_row.2 ⟨0, by omega, by simp⟩))
        refine ⟨b, off, rfl, hbW, fun i hi => ?_⟩
        rw [hln] at hi
        rw [List.getElem_map, List.getElem_range]
        have h1 := (hf' i (by omega)).2.1
        have h2 := (hf' i (by omega)).2.2
        rw [Addr.add_mid] at h1 h2
        exact ⟨h1, by rw [Nat.add_assoc]; exact h2⟩
section
variable {P : Program} {ops : Array Oper} {Q : Exit → Act → World → Prop} {S : World → Prop} {md : Region.Mode}
theorem my_firsts (pl : List Nat) (k : Nat) (l' : Array Bool) {fuel : Nat} {listed : Array Bool} {a : Act} {w : World} (hsel : Region.noSelect ops = true) (hn : k + pl.length = fuel) (hB : firstB md ops pl listed = some l') (hS : S w)
    (h : wpFirst P ops S (fun a w => wpAnyH P md ops (NoPanic Q) S k l' a w) pl a w) : wpAnyH P md ops (NoPanic Q) S fuel listed a w := by
  subst hn
  exact wpAnyH_firsts hsel (fun _ _ _ _ _ h => h) k l' pl listed a w hB hS h
theorem my_loud {fuel : Nat} {listed : Array Bool} {i : Nat} {rs : List Nat} {o : Oper} {a : Act} {w : World} (ho : ops[i]? = some o)
    (h : wpList P ops (MixQ Q fun a' w' => S w' ∧ wpAnyH P md ops Q S fuel (listed.setIfInBounds i true) a' w') [o] a w)
    (hm : AllReadyH P md ops Q S fuel listed a w rs) : AllReadyH P md ops Q S fuel listed a w (i :: rs) := by
  intro j hj
  rcases List.mem_cons.1 hj with rfl | hj
  · unfold wpOp
    simp only [ho]
    unfold wpList at h
    split
    · rename_i hw
      rw [if_pos hw] at h
      rcases h with h' | ⟨ha, hl⟩
      · exact .inl (wp_mixQ h')
      · exact .inr ⟨ha, hl⟩
    · rename_i hw
      rw [if_neg hw] at h
      exact h
  · exact hm j hj
end
theorem UpAt.drew {U : Um.Up} {g m n : Nat} {w : World} (h : UpAt U g m n w) : UpAt U g m n w.drew := h
theorem upAt_ch {U : Um.Up} {g m n : Nat} {w w' : World} {S : List Nat} (h : UpAt U g m n w) (hc : Ch w w' S) (hg : g ∉ S) (hm : m ∉ S) : UpAt U g m n w' := by
  obtain ⟨h1, D, ⟨es, clock, h2, h3⟩, hD⟩ := h
  exact ⟨hc.keep h1 hg, D, ⟨es, clock, hc.keep h2 hm, h3⟩, hD⟩

attribute [local irreducible] dArr uArr
theorem etagUploads (v : Value) (ps : List (Int × ByteArray)) (hps : ∀ p ∈ ps, -9223372036854775808 ≤ p.1 ∧ p.1 ≤ 9223372036854775807) (v2 : Value) (ds : List (List UInt8)) (hd : ∀ d ∈ ds, d.length = 32) (z : Int) (w : World)
    (hrp : RdP v ps w.heap.size w) (hrd : RdD v2 ds w.heap.size w) :
    Calls Try.prog 9 #[v, v2, .int .i64 z] w fun e w' => e = .returned (.bool true) ∧ Below w.heap.size w w' := by
  obtain ⟨i0, hi0, hz0, hs0, hb0⟩ := d32b
  obtain ⟨i1, hi1, hz1, hs1⟩ := u64i
  obtain ⟨A, c, rfl⟩ := hrp.slice
  obtain ⟨A2, c2, rfl⟩ := hrd.slice
  obtain ⟨n, hn⟩ : ∃ n, n = ps.length := ⟨_, rfl⟩
  obtain ⟨n2, hn2⟩ : ∃ n2, n2 = ds.length := ⟨_, rfl⟩
  have hcs : (100 : Int) < n ∨ (¬ (100 : Int) < n ∧ (80 : Int) < n2) ∨ (¬ (100 : Int) < n ∧ ¬ (80 : Int) < n2) := by omega
  rw [← hn] at hrp ⊢
  rw [← hn2] at hrd ⊢
  have Hhrp := Lib.hid hrp
  have Hhrd := Lib.hid hrd
  have Hhn := Lib.hid hn
  have Hhn2 := Lib.hid hn2
  have Hhps := Lib.hid hps
  have Hhd := Lib.hid hd
  clear hrp hrd hn hn2 hps hd
  rcases hcs with g1 | ⟨g1, g2⟩ | ⟨g1, g2⟩
  · go_enter Try.func9, Try.ntmps9
    go_wp2_with fail
    refine (awake05 _).mono ?_
    rintro e w1 ⟨rfl, hb1⟩
    go_wp2_with fail
    go_ret
    exact ⟨rfl, hb1⟩
  · go_enter Try.func9, Try.ntmps9
    go_wp2_with fail
    refine (awake05 _).mono ?_
    rintro e w1 ⟨rfl, hb1⟩
    go_wp2_with fail
    go_ret
    exact ⟨rfl, hb1⟩
  · go_enter Try.func9, Try.ntmps9
    go_wp2_with fail
    refine (awake05 _).mono ?_
    rintro e w1 ⟨rfl, hb1⟩
    have k1 := (Kn.start w).call hb1
    clear hb1
    go_wp2_with fail
    refine (etagNew _).mono ?_
    rintro e w2 ⟨g, m, rfl, hu2, hg2, hm2, hb2⟩
    have k2 := k1.call hb2
    have hmB : w.heap.size ≤ m := by have := k1.base; omega
    have hgB : w.heap.size ≤ g := by have := k1.base; omega
    have k3 := k2.alloc (.cells (uArr Um.none0) 73)
    have hu3 := hu2.below ((Below.refl _ w2).alloc (Nat.le_refl _) (.cells (uArr Um.none0) 73)) hu2.lt.1 hu2.lt.2.1
    have hm8 := hu2.lt.2.1
    have hg8 := hu2.lt.1
    have h8B := k2.base
    clear k1 k2 hb2 hu2 hg2 hm2
    go_upto_region 7 with (refine kl_alloc rfl 73 rfl (uArr Um.none0) i1 hi1 _ hz1 rfl ?_)
    generalize w2.alloc (.cells (uArr Um.none0) 73) = w3 at *
    generalize w2.heap.size = p8 at *
    have K3 := Lib.hid k3
    have HU3 := Lib.hid hu3
    clear k3 hu3
    go_wp2_with fail
    go_loopw [9] (fun iv wr => ∃ (i : Nat) (U : Um.Up), i ≤ n ∧ iv = .int .i64 (i : Int) ∧ Hid (Um.Good U) ∧ Hid (UpAt U g m i wr) ∧ Hid (Kn w.heap.size w [(p8, .cells (uArr U) 73)] wr)) (fun iv _ => n - (intOf iv).toNat)
    case atStart => exact ⟨0, Um.none0, by omega, rfl, Um.Good.none0, HU3, K3⟩
    case round =>
      obtain ⟨i, U, hi, rfl, HGU, HUP, K⟩ := hrel
      clear K3 HU3
      have hbi : (0 : Int) ≤ i := by omega
      by_cases hin : i < n
      · have hil : i < ps.length := by rw [← Hhn.out]; exact hin
        obtain ⟨b, off, hA, hcn, hbb, hrN, hrs⟩ := Hhrp.out.at_ hil
        rw [← Hhn.out] at hcn
        have hpb := Hhps.out _ (List.getElem_mem hil)
        generalize ps[i].1 = N at *
        generalize ps[i].2 = s at *
        subst hA
        clear hil
        have hbn : (i : Int) < n := by omega
        have hN0 : wr.cell? ⟨b, off + i * 2, none⟩ = some (.int .i64 N) := (Below.cell K.out.below (a := ⟨b, off + i * 2, none⟩) hbb).trans hrN
        have hs0' : wr.cell? ⟨b, off + i * 2 + 1, none⟩ = some (.string s) := (Below.cell K.out.below (a := ⟨b, off + i * 2 + 1, none⟩) hbb).trans hrs
        by_cases hs100 : 100 < s.size
        · have g3 : (100 : Int) < (s.size : Int) := by omega
          clear hs100
          go_wp2_with fail
          go_ret
          exact ⟨rfl, K.out.below⟩
        · have g3 : ¬ (100 : Int) < (s.size : Int) := by omega
          have hrN1 : ∀ wS, Kn w.heap.size w [(p8, .cells (uArr U) 73)] wS → wS.cell? ⟨b, off + i * 2, none⟩ = some (.int .i64 N) := fun wS hS => (Below.cell hS.below (a := ⟨b, off + i * 2, none⟩) hbb).trans hrN
          have hrs1 : ∀ wS, Kn w.heap.size w [(p8, .cells (uArr U) 73)] wS → wS.cell? ⟨b, off + i * 2 + 1, none⟩ = some (.string s) := fun wS hS => (Below.cell hS.below (a := ⟨b, off + i * 2 + 1, none⟩) hbb).trans hrs
          obtain ⟨U', hU'⟩ : ∃ U', U' = Um.putU U N s.data.toList := ⟨_, rfl⟩
          obtain ⟨DP, hDP⟩ : ∃ DP, DP = Um.putD N s.data.toList := ⟨_, rfl⟩
          obtain ⟨EP, hEP⟩ : ∃ EP, EP = Um.putE N s.data.toList := ⟨_, rfl⟩
          have hGU' : Um.Good U' := by rw [hU']; exact HGU.out.putU _ _
          have hput := fun w h => etagPut U HGU.out g m i (by omega) N hpb.1 hpb.2 s (by omega) w h
          have hrput := fun w => refPut5 U N hpb.1 hpb.2 s (by omega) w
          rw [← hU', ← hDP, ← hEP] at hput hrput
          have HrN := Lib.hid hrN1
          have Hrs := Lib.hid hrs1
          have HhrN := Lib.hid hrN
          have Hhrs := Lib.hid hrs
          have Hhput := Lib.hid hput
          have Hhrput := Lib.hid hrput
          have HhU' := Lib.hid hU'
          have HhDP := Lib.hid hDP
          have HhEP := Lib.hid hEP
          have HhGU' := Lib.hid hGU'
          clear hrN hrs hput hrput hU' hDP hEP hGU'
          clear hrN1 hrs1 hs100
          go_upto_region 14 with fail
          clear hN0 hs0'
          go_cut [10, 11] (fun v10 v11 wx => ∃ p10 : Nat, v10 = .pointer (some ⟨p10, 0, none⟩) ∧ v11 = .int .i64 (EP : Int) ∧ p8 < p10 ∧ Hid (UpAt U' g m (i + 1) wx) ∧ Hid (Kn w.heap.size w [(p10, .cells (dArr DP) 50), (p8, .cells (uArr U) 73)] wx))
          case first =>
            refine wp_region_firsts (Kn w.heap.size w [(p8, .cells (uArr U) 73)]) [0, 1, 2, 3, 4, 5, 6, 7, 8, 9, 10] 7 #[true, true, true, true, true, true, true, true, true, true, true, false, false, false, false, false, false, false] (by kernel_rfl) (by kernel_rfl) (by kernel_rfl) (by kernel_rfl) K.out.drew ?_
            have KK := K.out.drew
            have hu := HUP.out.drew
            clear K HUP
            generalize wr.drew = w7 at *
            (apply my_pure
             · (simp only [List.getElem?_toArray, List.getElem?_cons_succ, List.getElem?_cons_zero]; rfl)
             · rfl
             · (intro wS hS; go_simp; try exact rfl)
             simp only [Act.put, List.setIfInBounds_toArray, List.set_cons_zero, List.set_cons_succ])
            (apply my_pure
             · (simp only [List.getElem?_toArray, List.getElem?_cons_succ, List.getElem?_cons_zero]; rfl)
             · rfl
             · (intro wS hS; go_simp; try exact rfl)
             simp only [Act.put, List.setIfInBounds_toArray, List.set_cons_zero, List.set_cons_succ])
            (apply my_pure
             · (simp only [List.getElem?_toArray, List.getElem?_cons_succ, List.getElem?_cons_zero]; rfl)
             · rfl
             · (intro wS hS; go_simp; try exact rfl)
             simp only [Act.put, List.setIfInBounds_toArray, List.set_cons_zero, List.set_cons_succ])
            (apply my_pure
             · (simp only [List.getElem?_toArray, List.getElem?_cons_succ, List.getElem?_cons_zero]; rfl)
             · rfl
             · (intro wS hS; go_simp; try exact rfl)
             simp only [Act.put, List.setIfInBounds_toArray, List.set_cons_zero, List.set_cons_succ])
            (apply my_pure
             · (simp only [List.getElem?_toArray, List.getElem?_cons_succ, List.getElem?_cons_zero]; rfl)
             · rfl
             · (intro wS hS; go_simp; try exact rfl)
             simp only [Act.put, List.setIfInBounds_toArray, List.set_cons_zero, List.set_cons_succ])
            (apply my_pure
             · (simp only [List.getElem?_toArray, List.getElem?_cons_succ, List.getElem?_cons_zero]; rfl)
             · rfl
             · (intro wS hS; have hc := HrN.out wS hS; go_simp; try exact rfl)
             simp only [Act.put, List.setIfInBounds_toArray, List.set_cons_zero, List.set_cons_succ])
            (apply my_pure
             · (simp only [List.getElem?_toArray, List.getElem?_cons_succ, List.getElem?_cons_zero]; rfl)
             · rfl
             · (intro wS hS; go_simp; try exact rfl)
             simp only [Act.put, List.setIfInBounds_toArray, List.set_cons_zero, List.set_cons_succ])
            (apply my_pure
             · (simp only [List.getElem?_toArray, List.getElem?_cons_succ, List.getElem?_cons_zero]; rfl)
             · rfl
             · (intro wS hS; go_simp; try exact rfl)
             simp only [Act.put, List.setIfInBounds_toArray, List.set_cons_zero, List.set_cons_succ])
            (apply my_pure
             · (simp only [List.getElem?_toArray, List.getElem?_cons_succ, List.getElem?_cons_zero]; rfl)
             · rfl
             · (intro wS hS; go_simp; try exact rfl)
             simp only [Act.put, List.setIfInBounds_toArray, List.set_cons_zero, List.set_cons_succ])
            (apply my_pure
             · (simp only [List.getElem?_toArray, List.getElem?_cons_succ, List.getElem?_cons_zero]; rfl)
             · rfl
             · (intro wS hS; go_simp; try exact rfl)
             simp only [Act.put, List.setIfInBounds_toArray, List.set_cons_zero, List.set_cons_succ])
            (apply my_pure
             · (simp only [List.getElem?_toArray, List.getElem?_cons_succ, List.getElem?_cons_zero]; rfl)
             · rfl
             · (intro wS hS; have hc := Hrs.out wS hS; go_simp; try exact rfl)
             simp only [Act.put, List.setIfInBounds_toArray, List.set_cons_zero, List.set_cons_succ])
            refine my_end ?_
            refine my_any (rs := [11, 15]) (by kernel_rfl) (by simp) ?_
            (apply my_call
             · (simp only [List.getElem?_toArray, List.getElem?_cons_succ, List.getElem?_cons_zero]; rfl)
             · rfl
             · (intro _; go_simp; first | exact ⟨rfl, rfl⟩ | exact rfl)
             · (refine (Hhput.out _ hu).mono ?_
                rintro e w101 ⟨rfl, hu101, hc1⟩
                have k101 := KK.ch hc1 hmB (by simp only [List.mem_cons, List.not_mem_nil, or_false]; rintro y (rfl) <;> (show _ ≠ _; omega))
                refine ⟨_, rfl, (Kn.sub k101 (by intro x hx; simp only [List.mem_cons, List.not_mem_nil, or_false] at hx ⊢; rcases hx with rfl <;> simp)), ?_⟩
                simp only [Act.put, List.setIfInBounds_toArray, List.set_cons_zero, List.set_cons_succ]
                refine my_firsts [12, 13, 14] 3 #[true, true, true, true, true, true, true, true, true, true, true, true, true, true, true, false, false, false] (by kernel_rfl) (by kernel_rfl) (by kernel_rfl) ((Kn.sub k101 (by intro x hx; simp only [List.mem_cons, List.not_mem_nil, or_false] at hx ⊢; rcases hx with rfl <;> simp))) ?_
                (apply my_pure
                 · (simp only [List.getElem?_toArray, List.getElem?_cons_succ, List.getElem?_cons_zero]; rfl)
                 · rfl
                 · (intro wS hS; go_simp; try exact rfl)
                 simp only [Act.put, List.setIfInBounds_toArray, List.set_cons_zero, List.set_cons_succ])
                (apply my_pure
                 · (simp only [List.getElem?_toArray, List.getElem?_cons_succ, List.getElem?_cons_zero]; rfl)
                 · rfl
                 · (intro wS hS; go_simp; try exact rfl)
                 simp only [Act.put, List.setIfInBounds_toArray, List.set_cons_zero, List.set_cons_succ])
                (apply my_pure
                 · (simp only [List.getElem?_toArray, List.getElem?_cons_succ, List.getElem?_cons_zero]; rfl)
                 · rfl
                 · (intro wS hS; go_simp; try exact rfl)
                 simp only [Act.put, List.setIfInBounds_toArray, List.set_cons_zero, List.set_cons_succ])
                refine my_end ?_
                refine my_any (rs := [15]) (by kernel_rfl) (by simp) ?_
                (apply my_alloc (dArr [])
                 · (simp only [List.getElem?_toArray, List.getElem?_cons_succ, List.getElem?_cons_zero]; rfl)
                 · rfl
                 · rfl
                 · exact hi0
                 · exact hz0
                 · rfl
                 · (have k102 := k101.alloc (.cells (dArr []) 50)
                    have lp10_p8_2 := k101.lt 0 rfl
                    have lmp10_2 := hu101.lt.2.1
                    have bbp10_2 := k101.base
                    have hu102 := hu101.below ((Below.refl _ w101).alloc (Nat.le_refl _) (.cells (dArr []) 50)) hu101.lt.1 hu101.lt.2.1
                    refine ⟨(Kn.sub k102 (by intro x hx; simp only [List.mem_cons, List.not_mem_nil, or_false] at hx ⊢; rcases hx with rfl <;> simp)), ?_⟩
                    simp only [Act.put, List.setIfInBounds_toArray, List.set_cons_zero, List.set_cons_succ]
                    clear k101 hu101
                    generalize w101.alloc (.cells (dArr []) 50) = w102 at *
                    generalize w101.heap.size = p10 at *
                    refine my_any (rs := [16]) (by kernel_rfl) (by simp) ?_
                    (apply my_store_row
                     · (simp only [List.getElem?_toArray, List.getElem?_cons_succ, List.getElem?_cons_zero]; rfl)
                     · rfl
                     · rfl
                     · rfl
                     · rfl
                     · rfl
                     · exact k102.get 0 rfl
                     · rw [d32s, dArr_size]
                     · simp only [dArr_size]
                     · exact dArr_one _
                     · (have kf3 : Kn w.heap.size w [(p10, .cells (dArr []) 50), (p8, .cells (uArr U) 73)] w102 := Kn.sub k102 (by intro x hx; simp only [List.mem_cons, List.not_mem_nil, or_false] at hx ⊢; rcases hx with rfl | rfl <;> simp)
                        have cs3 := ch_setRow w102 p10 (dArr DP)
                        have k103 := Kn.put (w' := w102.setRow p10 (dArr DP)) kf3 (by omega) (by simp only [List.mem_cons, List.not_mem_nil, or_false]; rintro y (rfl) <;> (show _ ≠ _; omega)) cs3 (setRow_heap _ _ _ _ _ _ (kf3.get 0 rfl))
                        have hu103 := upAt_ch hu102 cs3 (by simp; omega) (by simp; omega)
                        refine ⟨(Kn.sub k103 (by intro x hx; simp only [List.mem_cons, List.not_mem_nil, or_false] at hx ⊢; rcases hx with rfl <;> simp)), ?_⟩
                        simp only [Act.put, List.setIfInBounds_toArray, List.set_cons_zero, List.set_cons_succ]
                        generalize w102.setRow p10 (dArr DP) = w103 at *
                        refine my_any (rs := [17]) (by kernel_rfl) (by simp) ?_
                        (apply my_loud
                         · (simp only [List.getElem?_toArray, List.getElem?_cons_succ, List.getElem?_cons_zero]; rfl)
                         · (go_wp2_with fail
                            refine ⟨(Kn.sub k103 (by intro x hx; simp only [List.mem_cons, List.not_mem_nil, or_false] at hx ⊢; rcases hx with rfl <;> simp)), ?_⟩
                            refine my_done (by kernel_rfl) ?_ _
                            go_wp2_with fail; go_meet; exact ⟨p10, rfl, rfl, by omega, hu103, Kn.sub k103 (by intro x hx; simp only [List.mem_cons, List.not_mem_nil, or_false] at hx ⊢; rcases hx with rfl | rfl <;> simp)⟩)
                         skip)
                        exact my_nil)
                     skip)
                    exact my_nil)
                 skip)
                exact my_nil)
             skip)
            (apply my_alloc (dArr [])
             · (simp only [List.getElem?_toArray, List.getElem?_cons_succ, List.getElem?_cons_zero]; rfl)
             · rfl
             · rfl
             · exact hi0
             · exact hz0
             · rfl
             · (have k105 := KK.alloc (.cells (dArr []) 50)
                have lp10_p8_5 := KK.lt 0 rfl
                have lmp10_5 := hu.lt.2.1
                have bbp10_5 := KK.base
                have hu105 := hu.below ((Below.refl _ w7).alloc (Nat.le_refl _) (.cells (dArr []) 50)) hu.lt.1 hu.lt.2.1
                refine ⟨(Kn.sub k105 (by intro x hx; simp only [List.mem_cons, List.not_mem_nil, or_false] at hx ⊢; rcases hx with rfl <;> simp)), ?_⟩
                simp only [Act.put, List.setIfInBounds_toArray, List.set_cons_zero, List.set_cons_succ]
                skip
                generalize w7.alloc (.cells (dArr []) 50) = w105 at *
                generalize w7.heap.size = p10 at *
                refine my_any (rs := [11]) (by kernel_rfl) (by simp) ?_
                (apply my_call
                 · (simp only [List.getElem?_toArray, List.getElem?_cons_succ, List.getElem?_cons_zero]; rfl)
                 · rfl
                 · (intro _; go_simp; first | exact ⟨rfl, rfl⟩ | exact rfl)
                 · (refine (Hhput.out _ hu105).mono ?_
                    rintro e w106 ⟨rfl, hu106, hc6⟩
                    have k106 := k105.ch hc6 hmB (by simp only [List.mem_cons, List.not_mem_nil, or_false]; rintro y (rfl | rfl) <;> (show _ ≠ _; omega))
                    refine ⟨_, rfl, (Kn.sub k106 (by intro x hx; simp only [List.mem_cons, List.not_mem_nil, or_false] at hx ⊢; rcases hx with rfl <;> simp)), ?_⟩
                    simp only [Act.put, List.setIfInBounds_toArray, List.set_cons_zero, List.set_cons_succ]
                    refine my_firsts [12, 13, 14] 2 #[true, true, true, true, true, true, true, true, true, true, true, true, true, true, true, true, false, false] (by kernel_rfl) (by kernel_rfl) (by kernel_rfl) ((Kn.sub k106 (by intro x hx; simp only [List.mem_cons, List.not_mem_nil, or_false] at hx ⊢; rcases hx with rfl <;> simp))) ?_
                    (apply my_pure
                     · (simp only [List.getElem?_toArray, List.getElem?_cons_succ, List.getElem?_cons_zero]; rfl)
                     · rfl
                     · (intro wS hS; go_simp; try exact rfl)
                     simp only [Act.put, List.setIfInBounds_toArray, List.set_cons_zero, List.set_cons_succ])
                    (apply my_pure
                     · (simp only [List.getElem?_toArray, List.getElem?_cons_succ, List.getElem?_cons_zero]; rfl)
                     · rfl
                     · (intro wS hS; go_simp; try exact rfl)
                     simp only [Act.put, List.setIfInBounds_toArray, List.set_cons_zero, List.set_cons_succ])
                    (apply my_pure
                     · (simp only [List.getElem?_toArray, List.getElem?_cons_succ, List.getElem?_cons_zero]; rfl)
                     · rfl
                     · (intro wS hS; go_simp; try exact rfl)
                     simp only [Act.put, List.setIfInBounds_toArray, List.set_cons_zero, List.set_cons_succ])
                    refine my_end ?_
                    refine my_any (rs := [16]) (by kernel_rfl) (by simp) ?_
                    (apply my_store_row
                     · (simp only [List.getElem?_toArray, List.getElem?_cons_succ, List.getElem?_cons_zero]; rfl)
                     · rfl
                     · rfl
                     · rfl
                     · rfl
                     · rfl
                     · exact k106.get 0 rfl
                     · rw [d32s, dArr_size]
                     · simp only [dArr_size]
                     · exact dArr_one _
                     · (have kf7 : Kn w.heap.size w [(p10, .cells (dArr []) 50), (p8, .cells (uArr U) 73)] w106 := Kn.sub k106 (by intro x hx; simp only [List.mem_cons, List.not_mem_nil, or_false] at hx ⊢; rcases hx with rfl | rfl <;> simp)
                        have cs7 := ch_setRow w106 p10 (dArr DP)
                        have k107 := Kn.put (w' := w106.setRow p10 (dArr DP)) kf7 (by omega) (by simp only [List.mem_cons, List.not_mem_nil, or_false]; rintro y (rfl) <;> (show _ ≠ _; omega)) cs7 (setRow_heap _ _ _ _ _ _ (kf7.get 0 rfl))
                        have hu107 := upAt_ch hu106 cs7 (by simp; omega) (by simp; omega)
                        refine ⟨(Kn.sub k107 (by intro x hx; simp only [List.mem_cons, List.not_mem_nil, or_false] at hx ⊢; rcases hx with rfl <;> simp)), ?_⟩
                        simp only [Act.put, List.setIfInBounds_toArray, List.set_cons_zero, List.set_cons_succ]
                        generalize w106.setRow p10 (dArr DP) = w107 at *
                        refine my_any (rs := [17]) (by kernel_rfl) (by simp) ?_
                        (apply my_loud
                         · (simp only [List.getElem?_toArray, List.getElem?_cons_succ, List.getElem?_cons_zero]; rfl)
                         · (go_wp2_with fail
                            refine ⟨(Kn.sub k107 (by intro x hx; simp only [List.mem_cons, List.not_mem_nil, or_false] at hx ⊢; rcases hx with rfl <;> simp)), ?_⟩
                            refine my_done (by kernel_rfl) ?_ _
                            go_wp2_with fail; go_meet; exact ⟨p10, rfl, rfl, by omega, hu107, Kn.sub k107 (by intro x hx; simp only [List.mem_cons, List.not_mem_nil, or_false] at hx ⊢; rcases hx with rfl | rfl <;> simp)⟩)
                         skip)
                        exact my_nil)
                     skip)
                    exact my_nil)
                 skip)
                exact my_nil)
             skip)
            exact my_nil
          case rest =>
            obtain ⟨p10, rfl, rfl, hp10, HUP2, K2⟩ := hcut
            have hrN2 : ∀ wS, Kn w.heap.size w [(p10, .cells (dArr DP) 50), (p8, .cells (uArr U) 73)] wS → wS.cell? ⟨b, off + i * 2, none⟩ = some (.int .i64 N) := fun wS hS => (Below.cell hS.below (a := ⟨b, off + i * 2, none⟩) hbb).trans HhrN.out
            have hrs2 : ∀ wS, Kn w.heap.size w [(p10, .cells (dArr DP) 50), (p8, .cells (uArr U) 73)] wS → wS.cell? ⟨b, off + i * 2 + 1, none⟩ = some (.string s) := fun wS hS => (Below.cell hS.below (a := ⟨b, off + i * 2 + 1, none⟩) hbb).trans Hhrs.out
            have HrN2 := Lib.hid hrN2
            have Hrs2 := Lib.hid hrs2
            clear hrN2 hrs2
            go_upto_region 15 with fail
            go_cut [12, 13, 14] (fun v12 v13 v14 wx => ∃ p12 p13 : Nat, v12 = .pointer (some ⟨p12, 0, none⟩) ∧ v13 = .pointer (some ⟨p13, 0, none⟩) ∧ v14 = .int .i64 (EP : Int) ∧ p8 < p12 ∧ p8 < p13 ∧ Hid (UpAt U' g m (i + 1) wx) ∧ Hid (Kn w.heap.size w [(p13, .cells (dArr DP) 50), (p12, .cells (uArr U') 73), (p10, .cells (dArr DP) 50), (p8, .cells (uArr U) 73)] wx))
            case first =>
              refine wp_region_firsts (Kn w.heap.size w [(p10, .cells (dArr DP) 50), (p8, .cells (uArr U) 73)]) [0, 1, 2, 3, 4, 5, 6, 7, 8, 9, 10] 10 #[true, true, true, true, true, true, true, true, true, true, true, false, false, false, false, false, false, false, false, false, false] (by kernel_rfl) (by kernel_rfl) (by kernel_rfl) (by kernel_rfl) K2.out.drew ?_
              have KK := K2.out.drew
              have hu := HUP2.out.drew
              clear K2 HUP2
              generalize wc.drew = w7 at *
              (apply my_pure
               · (simp only [List.getElem?_toArray, List.getElem?_cons_succ, List.getElem?_cons_zero]; rfl)
               · rfl
               · (intro wS hS; exact mx_load_row 73 _ rfl _ rfl _ _ _ _ (hS.get 1 rfl) Try.underlying73 rfl (by rw [u64s, uArr_size]))
               simp only [Act.put, List.setIfInBounds_toArray, List.set_cons_zero, List.set_cons_succ])
              (apply my_pure
               · (simp only [List.getElem?_toArray, List.getElem?_cons_succ, List.getElem?_cons_zero]; rfl)
               · rfl
               · (intro wS hS; go_simp; try exact rfl)
               simp only [Act.put, List.setIfInBounds_toArray, List.set_cons_zero, List.set_cons_succ])
              (apply my_pure
               · (simp only [List.getElem?_toArray, List.getElem?_cons_succ, List.getElem?_cons_zero]; rfl)
               · rfl
               · (intro wS hS; go_simp; try exact rfl)
               simp only [Act.put, List.setIfInBounds_toArray, List.set_cons_zero, List.set_cons_succ])
              (apply my_pure
               · (simp only [List.getElem?_toArray, List.getElem?_cons_succ, List.getElem?_cons_zero]; rfl)
               · rfl
               · (intro wS hS; go_simp; try exact rfl)
               simp only [Act.put, List.setIfInBounds_toArray, List.set_cons_zero, List.set_cons_succ])
              (apply my_pure
               · (simp only [List.getElem?_toArray, List.getElem?_cons_succ, List.getElem?_cons_zero]; rfl)
               · rfl
               · (intro wS hS; go_simp; try exact rfl)
               simp only [Act.put, List.setIfInBounds_toArray, List.set_cons_zero, List.set_cons_succ])
              (apply my_pure
               · (simp only [List.getElem?_toArray, List.getElem?_cons_succ, List.getElem?_cons_zero]; rfl)
               · rfl
               · (intro wS hS; have hc := HrN2.out wS hS; go_simp; try exact rfl)
               simp only [Act.put, List.setIfInBounds_toArray, List.set_cons_zero, List.set_cons_succ])
              (apply my_pure
               · (simp only [List.getElem?_toArray, List.getElem?_cons_succ, List.getElem?_cons_zero]; rfl)
               · rfl
               · (intro wS hS; go_simp; try exact rfl)
               simp only [Act.put, List.setIfInBounds_toArray, List.set_cons_zero, List.set_cons_succ])
              (apply my_pure
               · (simp only [List.getElem?_toArray, List.getElem?_cons_succ, List.getElem?_cons_zero]; rfl)
               · rfl
               · (intro wS hS; go_simp; try exact rfl)
               simp only [Act.put, List.setIfInBounds_toArray, List.set_cons_zero, List.set_cons_succ])
              (apply my_pure
               · (simp only [List.getElem?_toArray, List.getElem?_cons_succ, List.getElem?_cons_zero]; rfl)
               · rfl
               · (intro wS hS; go_simp; try exact rfl)
               simp only [Act.put, List.setIfInBounds_toArray, List.set_cons_zero, List.set_cons_succ])
              (apply my_pure
               · (simp only [List.getElem?_toArray, List.getElem?_cons_succ, List.getElem?_cons_zero]; rfl)
               · rfl
               · (intro wS hS; go_simp; try exact rfl)
               simp only [Act.put, List.setIfInBounds_toArray, List.set_cons_zero, List.set_cons_succ])
              (apply my_pure
               · (simp only [List.getElem?_toArray, List.getElem?_cons_succ, List.getElem?_cons_zero]; rfl)
               · rfl
               · (intro wS hS; have hc := Hrs2.out wS hS; go_simp; try exact rfl)
               simp only [Act.put, List.setIfInBounds_toArray, List.set_cons_zero, List.set_cons_succ])
              refine my_end ?_
              refine my_any (rs := [11, 16, 17]) (by kernel_rfl) (by simp) ?_
              (apply my_call
               · (simp only [List.getElem?_toArray, List.getElem?_cons_succ, List.getElem?_cons_zero]; rfl)
               · rfl
               · (intro _; go_simp; first | exact ⟨rfl, rfl⟩ | exact rfl)
               · (refine (Hhrput.out _).mono ?_
                  rintro e w101 ⟨rfl, hb1⟩
                  have k101 := KK.call hb1
                  have hu101 := hu.below hb1 hu.lt.1 hu.lt.2.1
                  refine ⟨_, rfl, (Kn.sub k101 (by intro x hx; simp only [List.mem_cons, List.not_mem_nil, or_false] at hx ⊢; rcases hx with rfl | rfl <;> simp)), ?_⟩
                  simp only [Act.put, List.setIfInBounds_toArray, List.set_cons_zero, List.set_cons_succ]
                  refine my_firsts [12, 13, 14, 15] 5 #[true, true, true, true, true, true, true, true, true, true, true, true, true, true, true, true, false, false, false, false, false] (by kernel_rfl) (by kernel_rfl) (by kernel_rfl) ((Kn.sub k101 (by intro x hx; simp only [List.mem_cons, List.not_mem_nil, or_false] at hx ⊢; rcases hx with rfl | rfl <;> simp))) ?_
                  (apply my_pure
                   · (simp only [List.getElem?_toArray, List.getElem?_cons_succ, List.getElem?_cons_zero]; rfl)
                   · rfl
                   · (intro wS hS; go_simp; try exact rfl)
                   simp only [Act.put, List.setIfInBounds_toArray, List.set_cons_zero, List.set_cons_succ])
                  (apply my_pure
                   · (simp only [List.getElem?_toArray, List.getElem?_cons_succ, List.getElem?_cons_zero]; rfl)
                   · rfl
                   · (intro wS hS; go_simp; try exact rfl)
                   simp only [Act.put, List.setIfInBounds_toArray, List.set_cons_zero, List.set_cons_succ])
                  (apply my_pure
                   · (simp only [List.getElem?_toArray, List.getElem?_cons_succ, List.getElem?_cons_zero]; rfl)
                   · rfl
                   · (intro wS hS; go_simp; try exact rfl)
                   simp only [Act.put, List.setIfInBounds_toArray, List.set_cons_zero, List.set_cons_succ])
                  (apply my_pure
                   · (simp only [List.getElem?_toArray, List.getElem?_cons_succ, List.getElem?_cons_zero]; rfl)
                   · rfl
                   · (intro wS hS; go_simp; try exact rfl)
                   simp only [Act.put, List.setIfInBounds_toArray, List.set_cons_zero, List.set_cons_succ])
                  refine my_end ?_
                  refine my_any (rs := [16, 17]) (by kernel_rfl) (by simp) ?_
                  (apply my_alloc (uArr Um.none0)
                   · (simp only [List.getElem?_toArray, List.getElem?_cons_succ, List.getElem?_cons_zero]; rfl)
                   · rfl
                   · rfl
                   · exact hi1
                   · exact hz1
                   · rfl
                   · (have k102 := k101.alloc (.cells (uArr Um.none0) 73)
                      have lp12_p10_2 := k101.lt 0 rfl
                      have lp12_p8_2 := k101.lt 1 rfl
                      have lmp12_2 := hu101.lt.2.1
                      have bbp12_2 := k101.base
                      have hu102 := hu101.below ((Below.refl _ w101).alloc (Nat.le_refl _) (.cells (uArr Um.none0) 73)) hu101.lt.1 hu101.lt.2.1
                      refine ⟨(Kn.sub k102 (by intro x hx; simp only [List.mem_cons, List.not_mem_nil, or_false] at hx ⊢; rcases hx with rfl | rfl <;> simp)), ?_⟩
                      simp only [Act.put, List.setIfInBounds_toArray, List.set_cons_zero, List.set_cons_succ]
                      clear k101 hu101
                      generalize w101.alloc (.cells (uArr Um.none0) 73) = w102 at *
                      generalize w101.heap.size = p12 at *
                      refine my_any (rs := [17]) (by kernel_rfl) (by simp) ?_
                      (apply my_alloc (dArr [])
                       · (simp only [List.getElem?_toArray, List.getElem?_cons_succ, List.getElem?_cons_zero]; rfl)
                       · rfl
                       · rfl
                       · exact hi0
                       · exact hz0
                       · rfl
                       · (have k103 := k102.alloc (.cells (dArr []) 50)
                          have lp13_p12_3 := k102.lt 0 rfl
                          have lp13_p10_3 := k102.lt 1 rfl
                          have lp13_p8_3 := k102.lt 2 rfl
                          have lmp13_3 := hu102.lt.2.1
                          have bbp13_3 := k102.base
                          have hu103 := hu102.below ((Below.refl _ w102).alloc (Nat.le_refl _) (.cells (dArr []) 50)) hu102.lt.1 hu102.lt.2.1
                          refine ⟨(Kn.sub k103 (by intro x hx; simp only [List.mem_cons, List.not_mem_nil, or_false] at hx ⊢; rcases hx with rfl | rfl <;> simp)), ?_⟩
                          simp only [Act.put, List.setIfInBounds_toArray, List.set_cons_zero, List.set_cons_succ]
                          clear k102 hu102
                          generalize w102.alloc (.cells (dArr []) 50) = w103 at *
                          generalize w102.heap.size = p13 at *
                          refine my_any (rs := [18]) (by kernel_rfl) (by simp) ?_
                          (apply my_store_row
                           · (simp only [List.getElem?_toArray, List.getElem?_cons_succ, List.getElem?_cons_zero]; rfl)
                           · rfl
                           · rfl
                           · rfl
                           · rfl
                           · rfl
                           · exact k103.get 1 rfl
                           · rw [u64s, uArr_size]
                           · simp only [uArr_size]
                           · exact uArr_one _
                           · (have kf4 : Kn w.heap.size w [(p12, .cells (uArr Um.none0) 73), (p13, .cells (dArr []) 50), (p10, .cells (dArr DP) 50), (p8, .cells (uArr U) 73)] w103 := Kn.sub k103 (by intro x hx; simp only [List.mem_cons, List.not_mem_nil, or_false] at hx ⊢; rcases hx with rfl | rfl | rfl | rfl <;> simp)
                              have cs4 := ch_setRow w103 p12 (uArr U')
                              have k104 := Kn.put (w' := w103.setRow p12 (uArr U')) kf4 (by omega) (by simp only [List.mem_cons, List.not_mem_nil, or_false]; rintro y (rfl | rfl | rfl) <;> (show _ ≠ _; omega)) cs4 (setRow_heap _ _ _ _ _ _ (kf4.get 0 rfl))
                              have hu104 := upAt_ch hu103 cs4 (by simp; omega) (by simp; omega)
                              refine ⟨(Kn.sub k104 (by intro x hx; simp only [List.mem_cons, List.not_mem_nil, or_false] at hx ⊢; rcases hx with rfl | rfl <;> simp)), ?_⟩
                              simp only [Act.put, List.setIfInBounds_toArray, List.set_cons_zero, List.set_cons_succ]
                              generalize w103.setRow p12 (uArr U') = w104 at *
                              refine my_any (rs := [19]) (by kernel_rfl) (by simp) ?_
                              (apply my_store_row
                               · (simp only [List.getElem?_toArray, List.getElem?_cons_succ, List.getElem?_cons_zero]; rfl)
                               · rfl
                               · rfl
                               · rfl
                               · rfl
                               · rfl
                               · exact k104.get 1 rfl
                               · rw [d32s, dArr_size]
                               · simp only [dArr_size]
                               · exact dArr_one _
                               · (have kf5 : Kn w.heap.size w [(p13, .cells (dArr []) 50), (p12, .cells (uArr U') 73), (p10, .cells (dArr DP) 50), (p8, .cells (uArr U) 73)] w104 := Kn.sub k104 (by intro x hx; simp only [List.mem_cons, List.not_mem_nil, or_false] at hx ⊢; rcases hx with rfl | rfl | rfl | rfl <;> simp)
                                  have cs5 := ch_setRow w104 p13 (dArr DP)
                                  have k105 := Kn.put (w' := w104.setRow p13 (dArr DP)) kf5 (by omega) (by simp only [List.mem_cons, List.not_mem_nil, or_false]; rintro y (rfl | rfl | rfl) <;> (show _ ≠ _; omega)) cs5 (setRow_heap _ _ _ _ _ _ (kf5.get 0 rfl))
                                  have hu105 := upAt_ch hu104 cs5 (by simp; omega) (by simp; omega)
                                  refine ⟨(Kn.sub k105 (by intro x hx; simp only [List.mem_cons, List.not_mem_nil, or_false] at hx ⊢; rcases hx with rfl | rfl <;> simp)), ?_⟩
                                  simp only [Act.put, List.setIfInBounds_toArray, List.set_cons_zero, List.set_cons_succ]
                                  generalize w104.setRow p13 (dArr DP) = w105 at *
                                  refine my_any (rs := [20]) (by kernel_rfl) (by simp) ?_
                                  (apply my_loud
                                   · (simp only [List.getElem?_toArray, List.getElem?_cons_succ, List.getElem?_cons_zero]; rfl)
                                   · (go_wp2_with fail
                                      refine ⟨(Kn.sub k105 (by intro x hx; simp only [List.mem_cons, List.not_mem_nil, or_false] at hx ⊢; rcases hx with rfl | rfl <;> simp)), ?_⟩
                                      refine my_done (by kernel_rfl) ?_ _
                                      go_wp2_with fail; go_meet; exact ⟨p12, p13, rfl, rfl, rfl, by omega, by omega, hu105, Kn.sub k105 (by intro x hx; simp only [List.mem_cons, List.not_mem_nil, or_false] at hx ⊢; rcases hx with rfl | rfl | rfl | rfl <;> simp)⟩)
                                   skip)
                                  exact my_nil)
                               skip)
                              exact my_nil)
                           skip)
                          exact my_nil)
                       skip)
                      exact my_nil)
                   skip)
                  (apply my_alloc (dArr [])
                   · (simp only [List.getElem?_toArray, List.getElem?_cons_succ, List.getElem?_cons_zero]; rfl)
                   · rfl
                   · rfl
                   · exact hi0
                   · exact hz0
                   · rfl
                   · (have k107 := k101.alloc (.cells (dArr []) 50)
                      have lp13_p10_7 := k101.lt 0 rfl
                      have lp13_p8_7 := k101.lt 1 rfl
                      have lmp13_7 := hu101.lt.2.1
                      have bbp13_7 := k101.base
                      have hu107 := hu101.below ((Below.refl _ w101).alloc (Nat.le_refl _) (.cells (dArr []) 50)) hu101.lt.1 hu101.lt.2.1
                      refine ⟨(Kn.sub k107 (by intro x hx; simp only [List.mem_cons, List.not_mem_nil, or_false] at hx ⊢; rcases hx with rfl | rfl <;> simp)), ?_⟩
                      simp only [Act.put, List.setIfInBounds_toArray, List.set_cons_zero, List.set_cons_succ]
                      clear k101 hu101
                      generalize w101.alloc (.cells (dArr []) 50) = w107 at *
                      generalize w101.heap.size = p13 at *
                      refine my_any (rs := [16]) (by kernel_rfl) (by simp) ?_
                      (apply my_alloc (uArr Um.none0)
                       · (simp only [List.getElem?_toArray, List.getElem?_cons_succ, List.getElem?_cons_zero]; rfl)
                       · rfl
                       · rfl
                       · exact hi1
                       · exact hz1
                       · rfl
                       · (have k108 := k107.alloc (.cells (uArr Um.none0) 73)
                          have lp12_p13_8 := k107.lt 0 rfl
                          have lp12_p10_8 := k107.lt 1 rfl
                          have lp12_p8_8 := k107.lt 2 rfl
                          have lmp12_8 := hu107.lt.2.1
                          have bbp12_8 := k107.base
                          have hu108 := hu107.below ((Below.refl _ w107).alloc (Nat.le_refl _) (.cells (uArr Um.none0) 73)) hu107.lt.1 hu107.lt.2.1
                          refine ⟨(Kn.sub k108 (by intro x hx; simp only [List.mem_cons, List.not_mem_nil, or_false] at hx ⊢; rcases hx with rfl | rfl <;> simp)), ?_⟩
                          simp only [Act.put, List.setIfInBounds_toArray, List.set_cons_zero, List.set_cons_succ]
                          clear k107 hu107
                          generalize w107.alloc (.cells (uArr Um.none0) 73) = w108 at *
                          generalize w107.heap.size = p12 at *
                          refine my_any (rs := [18]) (by kernel_rfl) (by simp) ?_
                          (apply my_store_row
                           · (simp only [List.getElem?_toArray, List.getElem?_cons_succ, List.getElem?_cons_zero]; rfl)
                           · rfl
                           · rfl
                           · rfl
                           · rfl
                           · rfl
                           · exact k108.get 0 rfl
                           · rw [u64s, uArr_size]
                           · simp only [uArr_size]
                           · exact uArr_one _
                           · (have kf9 : Kn w.heap.size w [(p12, .cells (uArr Um.none0) 73), (p13, .cells (dArr []) 50), (p10, .cells (dArr DP) 50), (p8, .cells (uArr U) 73)] w108 := Kn.sub k108 (by intro x hx; simp only [List.mem_cons, List.not_mem_nil, or_false] at hx ⊢; rcases hx with rfl | rfl | rfl | rfl <;> simp)
                              have cs9 := ch_setRow w108 p12 (uArr U')
                              have k109 := Kn.put (w' := w108.setRow p12 (uArr U')) kf9 (by omega) (by simp only [List.mem_cons, List.not_mem_nil, or_false]; rintro y (rfl | rfl | rfl) <;> (show _ ≠ _; omega)) cs9 (setRow_heap _ _ _ _ _ _ (kf9.get 0 rfl))
                              have hu109 := upAt_ch hu108 cs9 (by simp; omega) (by simp; omega)
                              refine ⟨(Kn.sub k109 (by intro x hx; simp only [List.mem_cons, List.not_mem_nil, or_false] at hx ⊢; rcases hx with rfl | rfl <;> simp)), ?_⟩
                              simp only [Act.put, List.setIfInBounds_toArray, List.set_cons_zero, List.set_cons_succ]
                              generalize w108.setRow p12 (uArr U') = w109 at *
                              refine my_any (rs := [19]) (by kernel_rfl) (by simp) ?_
                              (apply my_store_row
                               · (simp only [List.getElem?_toArray, List.getElem?_cons_succ, List.getElem?_cons_zero]; rfl)
                               · rfl
                               · rfl
                               · rfl
                               · rfl
                               · rfl
                               · exact k109.get 1 rfl
                               · rw [d32s, dArr_size]
                               · simp only [dArr_size]
                               · exact dArr_one _
                               · (have kf10 : Kn w.heap.size w [(p13, .cells (dArr []) 50), (p12, .cells (uArr U') 73), (p10, .cells (dArr DP) 50), (p8, .cells (uArr U) 73)] w109 := Kn.sub k109 (by intro x hx; simp only [List.mem_cons, List.not_mem_nil, or_false] at hx ⊢; rcases hx with rfl | rfl | rfl | rfl <;> simp)
                                  have cs10 := ch_setRow w109 p13 (dArr DP)
                                  have k110 := Kn.put (w' := w109.setRow p13 (dArr DP)) kf10 (by omega) (by simp only [List.mem_cons, List.not_mem_nil, or_false]; rintro y (rfl | rfl | rfl) <;> (show _ ≠ _; omega)) cs10 (setRow_heap _ _ _ _ _ _ (kf10.get 0 rfl))
                                  have hu110 := upAt_ch hu109 cs10 (by simp; omega) (by simp; omega)
                                  refine ⟨(Kn.sub k110 (by intro x hx; simp only [List.mem_cons, List.not_mem_nil, or_false] at hx ⊢; rcases hx with rfl | rfl <;> simp)), ?_⟩
                                  simp only [Act.put, List.setIfInBounds_toArray, List.set_cons_zero, List.set_cons_succ]
                                  generalize w109.setRow p13 (dArr DP) = w110 at *
                                  refine my_any (rs := [20]) (by kernel_rfl) (by simp) ?_
                                  (apply my_loud
                                   · (simp only [List.getElem?_toArray, List.getElem?_cons_succ, List.getElem?_cons_zero]; rfl)
                                   · (go_wp2_with fail
                                      refine ⟨(Kn.sub k110 (by intro x hx; simp only [List.mem_cons, List.not_mem_nil, or_false] at hx ⊢; rcases hx with rfl | rfl <;> simp)), ?_⟩
                                      refine my_done (by kernel_rfl) ?_ _
                                      go_wp2_with fail; go_meet; exact ⟨p12, p13, rfl, rfl, rfl, by omega, by omega, hu110, Kn.sub k110 (by intro x hx; simp only [List.mem_cons, List.not_mem_nil, or_false] at hx ⊢; rcases hx with rfl | rfl | rfl | rfl <;> simp)⟩)
                                   skip)
                                  exact my_nil)
                               skip)
                              exact my_nil)
                           skip)
                          exact my_nil)
                       skip)
                      exact my_nil)
                   skip)
                  exact my_nil)
               skip)
              (apply my_alloc (uArr Um.none0)
               · (simp only [List.getElem?_toArray, List.getElem?_cons_succ, List.getElem?_cons_zero]; rfl)
               · rfl
               · rfl
               · exact hi1
               · exact hz1
               · rfl
               · (have k112 := KK.alloc (.cells (uArr Um.none0) 73)
                  have lp12_p10_12 := KK.lt 0 rfl
                  have lp12_p8_12 := KK.lt 1 rfl
                  have lmp12_12 := hu.lt.2.1
                  have bbp12_12 := KK.base
                  have hu112 := hu.below ((Below.refl _ w7).alloc (Nat.le_refl _) (.cells (uArr Um.none0) 73)) hu.lt.1 hu.lt.2.1
                  refine ⟨(Kn.sub k112 (by intro x hx; simp only [List.mem_cons, List.not_mem_nil, or_false] at hx ⊢; rcases hx with rfl | rfl <;> simp)), ?_⟩
                  simp only [Act.put, List.setIfInBounds_toArray, List.set_cons_zero, List.set_cons_succ]
                  skip
                  generalize w7.alloc (.cells (uArr Um.none0) 73) = w112 at *
                  generalize w7.heap.size = p12 at *
                  refine my_any (rs := [11, 17]) (by kernel_rfl) (by simp) ?_
                  (apply my_call
                   · (simp only [List.getElem?_toArray, List.getElem?_cons_succ, List.getElem?_cons_zero]; rfl)
                   · rfl
                   · (intro _; go_simp; first | exact ⟨rfl, rfl⟩ | exact rfl)
                   · (refine (Hhrput.out _).mono ?_
                      rintro e w113 ⟨rfl, hb13⟩
                      have k113 := k112.call hb13
                      have hu113 := hu112.below hb13 hu112.lt.1 hu112.lt.2.1
                      refine ⟨_, rfl, (Kn.sub k113 (by intro x hx; simp only [List.mem_cons, List.not_mem_nil, or_false] at hx ⊢; rcases hx with rfl | rfl <;> simp)), ?_⟩
                      simp only [Act.put, List.setIfInBounds_toArray, List.set_cons_zero, List.set_cons_succ]
                      refine my_firsts [12, 13, 14, 15] 4 #[true, true, true, true, true, true, true, true, true, true, true, true, true, true, true, true, true, false, false, false, false] (by kernel_rfl) (by kernel_rfl) (by kernel_rfl) ((Kn.sub k113 (by intro x hx; simp only [List.mem_cons, List.not_mem_nil, or_false] at hx ⊢; rcases hx with rfl | rfl <;> simp))) ?_
                      (apply my_pure
                       · (simp only [List.getElem?_toArray, List.getElem?_cons_succ, List.getElem?_cons_zero]; rfl)
                       · rfl
                       · (intro wS hS; go_simp; try exact rfl)
                       simp only [Act.put, List.setIfInBounds_toArray, List.set_cons_zero, List.set_cons_succ])
                      (apply my_pure
                       · (simp only [List.getElem?_toArray, List.getElem?_cons_succ, List.getElem?_cons_zero]; rfl)
                       · rfl
                       · (intro wS hS; go_simp; try exact rfl)
                       simp only [Act.put, List.setIfInBounds_toArray, List.set_cons_zero, List.set_cons_succ])
                      (apply my_pure
                       · (simp only [List.getElem?_toArray, List.getElem?_cons_succ, List.getElem?_cons_zero]; rfl)
                       · rfl
                       · (intro wS hS; go_simp; try exact rfl)
                       simp only [Act.put, List.setIfInBounds_toArray, List.set_cons_zero, List.set_cons_succ])
                      (apply my_pure
                       · (simp only [List.getElem?_toArray, List.getElem?_cons_succ, List.getElem?_cons_zero]; rfl)
                       · rfl
                       · (intro wS hS; go_simp; try exact rfl)
                       simp only [Act.put, List.setIfInBounds_toArray, List.set_cons_zero, List.set_cons_succ])
                      refine my_end ?_
                      refine my_any (rs := [17]) (by kernel_rfl) (by simp) ?_
                      (apply my_alloc (dArr [])
                       · (simp only [List.getElem?_toArray, List.getElem?_cons_succ, List.getElem?_cons_zero]; rfl)
                       · rfl
                       · rfl
                       · exact hi0
                       · exact hz0
                       · rfl
                       · (have k114 := k113.alloc (.cells (dArr []) 50)
                          have lp13_p12_14 := k113.lt 0 rfl
                          have lp13_p10_14 := k113.lt 1 rfl
                          have lp13_p8_14 := k113.lt 2 rfl
                          have lmp13_14 := hu113.lt.2.1
                          have bbp13_14 := k113.base
                          have hu114 := hu113.below ((Below.refl _ w113).alloc (Nat.le_refl _) (.cells (dArr []) 50)) hu113.lt.1 hu113.lt.2.1
                          refine ⟨(Kn.sub k114 (by intro x hx; simp only [List.mem_cons, List.not_mem_nil, or_false] at hx ⊢; rcases hx with rfl | rfl <;> simp)), ?_⟩
                          simp only [Act.put, List.setIfInBounds_toArray, List.set_cons_zero, List.set_cons_succ]
                          clear k113 hu113
                          generalize w113.alloc (.cells (dArr []) 50) = w114 at *
                          generalize w113.heap.size = p13 at *
                          refine my_any (rs := [18]) (by kernel_rfl) (by simp) ?_
                          (apply my_store_row
                           · (simp only [List.getElem?_toArray, List.getElem?_cons_succ, List.getElem?_cons_zero]; rfl)
                           · rfl
                           · rfl
                           · rfl
                           · rfl
                           · rfl
                           · exact k114.get 1 rfl
                           · rw [u64s, uArr_size]
                           · simp only [uArr_size]
                           · exact uArr_one _
                           · (have kf15 : Kn w.heap.size w [(p12, .cells (uArr Um.none0) 73), (p13, .cells (dArr []) 50), (p10, .cells (dArr DP) 50), (p8, .cells (uArr U) 73)] w114 := Kn.sub k114 (by intro x hx; simp only [List.mem_cons, List.not_mem_nil, or_false] at hx ⊢; rcases hx with rfl | rfl | rfl | rfl <;> simp)
                              have cs15 := ch_setRow w114 p12 (uArr U')
                              have k115 := Kn.put (w' := w114.setRow p12 (uArr U')) kf15 (by omega) (by simp only [List.mem_cons, List.not_mem_nil, or_false]; rintro y (rfl | rfl | rfl) <;> (show _ ≠ _; omega)) cs15 (setRow_heap _ _ _ _ _ _ (kf15.get 0 rfl))
                              have hu115 := upAt_ch hu114 cs15 (by simp; omega) (by simp; omega)
                              refine ⟨(Kn.sub k115 (by intro x hx; simp only [List.mem_cons, List.not_mem_nil, or_false] at hx ⊢; rcases hx with rfl | rfl <;> simp)), ?_⟩
                              simp only [Act.put, List.setIfInBounds_toArray, List.set_cons_zero, List.set_cons_succ]
                              generalize w114.setRow p12 (uArr U') = w115 at *
                              refine my_any (rs := [19]) (by kernel_rfl) (by simp) ?_
                              (apply my_store_row
                               · (simp only [List.getElem?_toArray, List.getElem?_cons_succ, List.getElem?_cons_zero]; rfl)
                               · rfl
                               · rfl
                               · rfl
                               · rfl
                               · rfl
                               · exact k115.get 1 rfl
                               · rw [d32s, dArr_size]
                               · simp only [dArr_size]
                               · exact dArr_one _
                               · (have kf16 : Kn w.heap.size w [(p13, .cells (dArr []) 50), (p12, .cells (uArr U') 73), (p10, .cells (dArr DP) 50), (p8, .cells (uArr U) 73)] w115 := Kn.sub k115 (by intro x hx; simp only [List.mem_cons, List.not_mem_nil, or_false] at hx ⊢; rcases hx with rfl | rfl | rfl | rfl <;> simp)
                                  have cs16 := ch_setRow w115 p13 (dArr DP)
                                  have k116 := Kn.put (w' := w115.setRow p13 (dArr DP)) kf16 (by omega) (by simp only [List.mem_cons, List.not_mem_nil, or_false]; rintro y (rfl | rfl | rfl) <;> (show _ ≠ _; omega)) cs16 (setRow_heap _ _ _ _ _ _ (kf16.get 0 rfl))
                                  have hu116 := upAt_ch hu115 cs16 (by simp; omega) (by simp; omega)
                                  refine ⟨(Kn.sub k116 (by intro x hx; simp only [List.mem_cons, List.not_mem_nil, or_false] at hx ⊢; rcases hx with rfl | rfl <;> simp)), ?_⟩
                                  simp only [Act.put, List.setIfInBounds_toArray, List.set_cons_zero, List.set_cons_succ]
                                  generalize w115.setRow p13 (dArr DP) = w116 at *
                                  refine my_any (rs := [20]) (by kernel_rfl) (by simp) ?_
                                  (apply my_loud
                                   · (simp only [List.getElem?_toArray, List.getElem?_cons_succ, List.getElem?_cons_zero]; rfl)
                                   · (go_wp2_with fail
                                      refine ⟨(Kn.sub k116 (by intro x hx; simp only [List.mem_cons, List.not_mem_nil, or_false] at hx ⊢; rcases hx with rfl | rfl <;> simp)), ?_⟩
                                      refine my_done (by kernel_rfl) ?_ _
                                      go_wp2_with fail; go_meet; exact ⟨p12, p13, rfl, rfl, rfl, by omega, by omega, hu116, Kn.sub k116 (by intro x hx; simp only [List.mem_cons, List.not_mem_nil, or_false] at hx ⊢; rcases hx with rfl | rfl | rfl | rfl <;> simp)⟩)
                                   skip)
                                  exact my_nil)
                               skip)
                              exact my_nil)
                           skip)
                          exact my_nil)
                       skip)
                      exact my_nil)
                   skip)
                  (apply my_alloc (dArr [])
                   · (simp only [List.getElem?_toArray, List.getElem?_cons_succ, List.getElem?_cons_zero]; rfl)
                   · rfl
                   · rfl
                   · exact hi0
                   · exact hz0
                   · rfl
                   · (have k118 := k112.alloc (.cells (dArr []) 50)
                      have lp13_p12_18 := k112.lt 0 rfl
                      have lp13_p10_18 := k112.lt 1 rfl
                      have lp13_p8_18 := k112.lt 2 rfl
                      have lmp13_18 := hu112.lt.2.1
                      have bbp13_18 := k112.base
                      have hu118 := hu112.below ((Below.refl _ w112).alloc (Nat.le_refl _) (.cells (dArr []) 50)) hu112.lt.1 hu112.lt.2.1
                      refine ⟨(Kn.sub k118 (by intro x hx; simp only [List.mem_cons, List.not_mem_nil, or_false] at hx ⊢; rcases hx with rfl | rfl <;> simp)), ?_⟩
                      simp only [Act.put, List.setIfInBounds_toArray, List.set_cons_zero, List.set_cons_succ]
                      clear k112 hu112
                      generalize w112.alloc (.cells (dArr []) 50) = w118 at *
                      generalize w112.heap.size = p13 at *
                      refine my_any (rs := [11]) (by kernel_rfl) (by simp) ?_
                      (apply my_call
                       · (simp only [List.getElem?_toArray, List.getElem?_cons_succ, List.getElem?_cons_zero]; rfl)
                       · rfl
                       · (intro _; go_simp; first | exact ⟨rfl, rfl⟩ | exact rfl)
                       · (refine (Hhrput.out _).mono ?_
                          rintro e w119 ⟨rfl, hb19⟩
                          have k119 := k118.call hb19
                          have hu119 := hu118.below hb19 hu118.lt.1 hu118.lt.2.1
                          refine ⟨_, rfl, (Kn.sub k119 (by intro x hx; simp only [List.mem_cons, List.not_mem_nil, or_false] at hx ⊢; rcases hx with rfl | rfl <;> simp)), ?_⟩
                          simp only [Act.put, List.setIfInBounds_toArray, List.set_cons_zero, List.set_cons_succ]
                          refine my_firsts [12, 13, 14, 15] 3 #[true, true, true, true, true, true, true, true, true, true, true, true, true, true, true, true, true, true, false, false, false] (by kernel_rfl) (by kernel_rfl) (by kernel_rfl) ((Kn.sub k119 (by intro x hx; simp only [List.mem_cons, List.not_mem_nil, or_false] at hx ⊢; rcases hx with rfl | rfl <;> simp))) ?_
                          (apply my_pure
                           · (simp only [List.getElem?_toArray, List.getElem?_cons_succ, List.getElem?_cons_zero]; rfl)
                           · rfl
                           · (intro wS hS; go_simp; try exact rfl)
                           simp only [Act.put, List.setIfInBounds_toArray, List.set_cons_zero, List.set_cons_succ])
                          (apply my_pure
                           · (simp only [List.getElem?_toArray, List.getElem?_cons_succ, List.getElem?_cons_zero]; rfl)
                           · rfl
                           · (intro wS hS; go_simp; try exact rfl)
                           simp only [Act.put, List.setIfInBounds_toArray, List.set_cons_zero, List.set_cons_succ])
                          (apply my_pure
                           · (simp only [List.getElem?_toArray, List.getElem?_cons_succ, List.getElem?_cons_zero]; rfl)
                           · rfl
                           · (intro wS hS; go_simp; try exact rfl)
                           simp only [Act.put, List.setIfInBounds_toArray, List.set_cons_zero, List.set_cons_succ])
                          (apply my_pure
                           · (simp only [List.getElem?_toArray, List.getElem?_cons_succ, List.getElem?_cons_zero]; rfl)
                           · rfl
                           · (intro wS hS; go_simp; try exact rfl)
                           simp only [Act.put, List.setIfInBounds_toArray, List.set_cons_zero, List.set_cons_succ])
                          refine my_end ?_
                          refine my_any (rs := [18]) (by kernel_rfl) (by simp) ?_
                          (apply my_store_row
                           · (simp only [List.getElem?_toArray, List.getElem?_cons_succ, List.getElem?_cons_zero]; rfl)
                           · rfl
                           · rfl
                           · rfl
                           · rfl
                           · rfl
                           · exact k119.get 1 rfl
                           · rw [u64s, uArr_size]
                           · simp only [uArr_size]
                           · exact uArr_one _
                           · (have kf20 : Kn w.heap.size w [(p12, .cells (uArr Um.none0) 73), (p13, .cells (dArr []) 50), (p10, .cells (dArr DP) 50), (p8, .cells (uArr U) 73)] w119 := Kn.sub k119 (by intro x hx; simp only [List.mem_cons, List.not_mem_nil, or_false] at hx ⊢; rcases hx with rfl | rfl | rfl | rfl <;> simp)
                              have cs20 := ch_setRow w119 p12 (uArr U')
                              have k120 := Kn.put (w' := w119.setRow p12 (uArr U')) kf20 (by omega) (by simp only [List.mem_cons, List.not_mem_nil, or_false]; rintro y (rfl | rfl | rfl) <;> (show _ ≠ _; omega)) cs20 (setRow_heap _ _ _ _ _ _ (kf20.get 0 rfl))
                              have hu120 := upAt_ch hu119 cs20 (by simp; omega) (by simp; omega)
                              refine ⟨(Kn.sub k120 (by intro x hx; simp only [List.mem_cons, List.not_mem_nil, or_false] at hx ⊢; rcases hx with rfl | rfl <;> simp)), ?_⟩
                              simp only [Act.put, List.setIfInBounds_toArray, List.set_cons_zero, List.set_cons_succ]
                              generalize w119.setRow p12 (uArr U') = w120 at *
                              refine my_any (rs := [19]) (by kernel_rfl) (by simp) ?_
                              (apply my_store_row
                               · (simp only [List.getElem?_toArray, List.getElem?_cons_succ, List.getElem?_cons_zero]; rfl)
                               · rfl
                               · rfl
                               · rfl
                               · rfl
                               · rfl
                               · exact k120.get 1 rfl
                               · rw [d32s, dArr_size]
                               · simp only [dArr_size]
                               · exact dArr_one _
                               · (have kf21 : Kn w.heap.size w [(p13, .cells (dArr []) 50), (p12, .cells (uArr U') 73), (p10, .cells (dArr DP) 50), (p8, .cells (uArr U) 73)] w120 := Kn.sub k120 (by intro x hx; simp only [List.mem_cons, List.not_mem_nil, or_false] at hx ⊢; rcases hx with rfl | rfl | rfl | rfl <;> simp)
                                  have cs21 := ch_setRow w120 p13 (dArr DP)
                                  have k121 := Kn.put (w' := w120.setRow p13 (dArr DP)) kf21 (by omega) (by simp only [List.mem_cons, List.not_mem_nil, or_false]; rintro y (rfl | rfl | rfl) <;> (show _ ≠ _; omega)) cs21 (setRow_heap _ _ _ _ _ _ (kf21.get 0 rfl))
                                  have hu121 := upAt_ch hu120 cs21 (by simp; omega) (by simp; omega)
                                  refine ⟨(Kn.sub k121 (by intro x hx; simp only [List.mem_cons, List.not_mem_nil, or_false] at hx ⊢; rcases hx with rfl | rfl <;> simp)), ?_⟩
                                  simp only [Act.put, List.setIfInBounds_toArray, List.set_cons_zero, List.set_cons_succ]
                                  generalize w120.setRow p13 (dArr DP) = w121 at *
                                  refine my_any (rs := [20]) (by kernel_rfl) (by simp) ?_
                                  (apply my_loud
                                   · (simp only [List.getElem?_toArray, List.getElem?_cons_succ, List.getElem?_cons_zero]; rfl)
                                   · (go_wp2_with fail
                                      refine ⟨(Kn.sub k121 (by intro x hx; simp only [List.mem_cons, List.not_mem_nil, or_false] at hx ⊢; rcases hx with rfl | rfl <;> simp)), ?_⟩
                                      refine my_done (by kernel_rfl) ?_ _
                                      go_wp2_with fail; go_meet; exact ⟨p12, p13, rfl, rfl, rfl, by omega, by omega, hu121, Kn.sub k121 (by intro x hx; simp only [List.mem_cons, List.not_mem_nil, or_false] at hx ⊢; rcases hx with rfl | rfl | rfl | rfl <;> simp)⟩)
                                   skip)
                                  exact my_nil)
                               skip)
                              exact my_nil)
                           skip)
                          exact my_nil)
                       skip)
                      exact my_nil)
                   skip)
                  exact my_nil)
               skip)
              (apply my_alloc (dArr [])
               · (simp only [List.getElem?_toArray, List.getElem?_cons_succ, List.getElem?_cons_zero]; rfl)
               · rfl
               · rfl
               · exact hi0
               · exact hz0
               · rfl
               · (have k123 := KK.alloc (.cells (dArr []) 50)
                  have lp13_p10_23 := KK.lt 0 rfl
                  have lp13_p8_23 := KK.lt 1 rfl
                  have lmp13_23 := hu.lt.2.1
                  have bbp13_23 := KK.base
                  have hu123 := hu.below ((Below.refl _ w7).alloc (Nat.le_refl _) (.cells (dArr []) 50)) hu.lt.1 hu.lt.2.1
                  refine ⟨(Kn.sub k123 (by intro x hx; simp only [List.mem_cons, List.not_mem_nil, or_false] at hx ⊢; rcases hx with rfl | rfl <;> simp)), ?_⟩
                  simp only [Act.put, List.setIfInBounds_toArray, List.set_cons_zero, List.set_cons_succ]
                  skip
                  generalize w7.alloc (.cells (dArr []) 50) = w123 at *
                  generalize w7.heap.size = p13 at *
                  refine my_any (rs := [11, 16]) (by kernel_rfl) (by simp) ?_
                  (apply my_call
                   · (simp only [List.getElem?_toArray, List.getElem?_cons_succ, List.getElem?_cons_zero]; rfl)
                   · rfl
                   · (intro _; go_simp; first | exact ⟨rfl, rfl⟩ | exact rfl)
                   · (refine (Hhrput.out _).mono ?_
                      rintro e w124 ⟨rfl, hb24⟩
                      have k124 := k123.call hb24
                      have hu124 := hu123.below hb24 hu123.lt.1 hu123.lt.2.1
                      refine ⟨_, rfl, (Kn.sub k124 (by intro x hx; simp only [List.mem_cons, List.not_mem_nil, or_false] at hx ⊢; rcases hx with rfl | rfl <;> simp)), ?_⟩
                      simp only [Act.put, List.setIfInBounds_toArray, List.set_cons_zero, List.set_cons_succ]
                      refine my_firsts [12, 13, 14, 15] 4 #[true, true, true, true, true, true, true, true, true, true, true, true, true, true, true, true, false, true, false, false, false] (by kernel_rfl) (by kernel_rfl) (by kernel_rfl) ((Kn.sub k124 (by intro x hx; simp only [List.mem_cons, List.not_mem_nil, or_false] at hx ⊢; rcases hx with rfl | rfl <;> simp))) ?_
                      (apply my_pure
                       · (simp only [List.getElem?_toArray, List.getElem?_cons_succ, List.getElem?_cons_zero]; rfl)
                       · rfl
                       · (intro wS hS; go_simp; try exact rfl)
                       simp only [Act.put, List.setIfInBounds_toArray, List.set_cons_zero, List.set_cons_succ])
                      (apply my_pure
                       · (simp only [List.getElem?_toArray, List.getElem?_cons_succ, List.getElem?_cons_zero]; rfl)
                       · rfl
                       · (intro wS hS; go_simp; try exact rfl)
                       simp only [Act.put, List.setIfInBounds_toArray, List.set_cons_zero, List.set_cons_succ])
                      (apply my_pure
                       · (simp only [List.getElem?_toArray, List.getElem?_cons_succ, List.getElem?_cons_zero]; rfl)
                       · rfl
                       · (intro wS hS; go_simp; try exact rfl)
                       simp only [Act.put, List.setIfInBounds_toArray, List.set_cons_zero, List.set_cons_succ])
                      (apply my_pure
                       · (simp only [List.getElem?_toArray, List.getElem?_cons_succ, List.getElem?_cons_zero]; rfl)
                       · rfl
                       · (intro wS hS; go_simp; try exact rfl)
                       simp only [Act.put, List.setIfInBounds_toArray, List.set_cons_zero, List.set_cons_succ])
                      refine my_end ?_
                      refine my_any (rs := [16]) (by kernel_rfl) (by simp) ?_
                      (apply my_alloc (uArr Um.none0)
                       · (simp only [List.getElem?_toArray, List.getElem?_cons_succ, List.getElem?_cons_zero]; rfl)
                       · rfl
                       · rfl
                       · exact hi1
                       · exact hz1
                       · rfl
                       · (have k125 := k124.alloc (.cells (uArr Um.none0) 73)
                          have lp12_p13_25 := k124.lt 0 rfl
                          have lp12_p10_25 := k124.lt 1 rfl
                          have lp12_p8_25 := k124.lt 2 rfl
                          have lmp12_25 := hu124.lt.2.1
                          have bbp12_25 := k124.base
                          have hu125 := hu124.below ((Below.refl _ w124).alloc (Nat.le_refl _) (.cells (uArr Um.none0) 73)) hu124.lt.1 hu124.lt.2.1
                          refine ⟨(Kn.sub k125 (by intro x hx; simp only [List.mem_cons, List.not_mem_nil, or_false] at hx ⊢; rcases hx with rfl | rfl <;> simp)), ?_⟩
                          simp only [Act.put, List.setIfInBounds_toArray, List.set_cons_zero, List.set_cons_succ]
                          clear k124 hu124
                          generalize w124.alloc (.cells (uArr Um.none0) 73) = w125 at *
                          generalize w124.heap.size = p12 at *
                          refine my_any (rs := [18]) (by kernel_rfl) (by simp) ?_
                          (apply my_store_row
                           · (simp only [List.getElem?_toArray, List.getElem?_cons_succ, List.getElem?_cons_zero]; rfl)
                           · rfl
                           · rfl
                           · rfl
                           · rfl
                           · rfl
                           · exact k125.get 0 rfl
                           · rw [u64s, uArr_size]
                           · simp only [uArr_size]
                           · exact uArr_one _
                           · (have kf26 : Kn w.heap.size w [(p12, .cells (uArr Um.none0) 73), (p13, .cells (dArr []) 50), (p10, .cells (dArr DP) 50), (p8, .cells (uArr U) 73)] w125 := Kn.sub k125 (by intro x hx; simp only [List.mem_cons, List.not_mem_nil, or_false] at hx ⊢; rcases hx with rfl | rfl | rfl | rfl <;> simp)
                              have cs26 := ch_setRow w125 p12 (uArr U')
                              have k126 := Kn.put (w' := w125.setRow p12 (uArr U')) kf26 (by omega) (by simp only [List.mem_cons, List.not_mem_nil, or_false]; rintro y (rfl | rfl | rfl) <;> (show _ ≠ _; omega)) cs26 (setRow_heap _ _ _ _ _ _ (kf26.get 0 rfl))
                              have hu126 := upAt_ch hu125 cs26 (by simp; omega) (by simp; omega)
                              refine ⟨(Kn.sub k126 (by intro x hx; simp only [List.mem_cons, List.not_mem_nil, or_false] at hx ⊢; rcases hx with rfl | rfl <;> simp)), ?_⟩
                              simp only [Act.put, List.setIfInBounds_toArray, List.set_cons_zero, List.set_cons_succ]
                              generalize w125.setRow p12 (uArr U') = w126 at *
                              refine my_any (rs := [19]) (by kernel_rfl) (by simp) ?_
                              (apply my_store_row
                               · (simp only [List.getElem?_toArray, List.getElem?_cons_succ, List.getElem?_cons_zero]; rfl)
                               · rfl
                               · rfl
                               · rfl
                               · rfl
                               · rfl
                               · exact k126.get 1 rfl
                               · rw [d32s, dArr_size]
                               · simp only [dArr_size]
                               · exact dArr_one _
                               · (have kf27 : Kn w.heap.size w [(p13, .cells (dArr []) 50), (p12, .cells (uArr U') 73), (p10, .cells (dArr DP) 50), (p8, .cells (uArr U) 73)] w126 := Kn.sub k126 (by intro x hx; simp only [List.mem_cons, List.not_mem_nil, or_false] at hx ⊢; rcases hx with rfl | rfl | rfl | rfl <;> simp)
                                  have cs27 := ch_setRow w126 p13 (dArr DP)
                                  have k127 := Kn.put (w' := w126.setRow p13 (dArr DP)) kf27 (by omega) (by simp only [List.mem_cons, List.not_mem_nil, or_false]; rintro y (rfl | rfl | rfl) <;> (show _ ≠ _; omega)) cs27 (setRow_heap _ _ _ _ _ _ (kf27.get 0 rfl))
                                  have hu127 := upAt_ch hu126 cs27 (by simp; omega) (by simp; omega)
                                  refine ⟨(Kn.sub k127 (by intro x hx; simp only [List.mem_cons, List.not_mem_nil, or_false] at hx ⊢; rcases hx with rfl | rfl <;> simp)), ?_⟩
                                  simp only [Act.put, List.setIfInBounds_toArray, List.set_cons_zero, List.set_cons_succ]
                                  generalize w126.setRow p13 (dArr DP) = w127 at *
                                  refine my_any (rs := [20]) (by kernel_rfl) (by simp) ?_
                                  (apply my_loud
                                   · (simp only [List.getElem?_toArray, List.getElem?_cons_succ, List.getElem?_cons_zero]; rfl)
                                   · (go_wp2_with fail
                                      refine ⟨(Kn.sub k127 (by intro x hx; simp only [List.mem_cons, List.not_mem_nil, or_false] at hx ⊢; rcases hx with rfl | rfl <;> simp)), ?_⟩
                                      refine my_done (by kernel_rfl) ?_ _
                                      go_wp2_with fail; go_meet; exact ⟨p12, p13, rfl, rfl, rfl, by omega, by omega, hu127, Kn.sub k127 (by intro x hx; simp only [List.mem_cons, List.not_mem_nil, or_false] at hx ⊢; rcases hx with rfl | rfl | rfl | rfl <;> simp)⟩)
                                   skip)
                                  exact my_nil)
                               skip)
                              exact my_nil)
                           skip)
                          exact my_nil)
                       skip)
                      exact my_nil)
                   skip)
                  (apply my_alloc (uArr Um.none0)
                   · (simp only [List.getElem?_toArray, List.getElem?_cons_succ, List.getElem?_cons_zero]; rfl)
                   · rfl
                   · rfl
                   · exact hi1
                   · exact hz1
                   · rfl
                   · (have k129 := k123.alloc (.cells (uArr Um.none0) 73)
                      have lp12_p13_29 := k123.lt 0 rfl
                      have lp12_p10_29 := k123.lt 1 rfl
                      have lp12_p8_29 := k123.lt 2 rfl
                      have lmp12_29 := hu123.lt.2.1
                      have bbp12_29 := k123.base
                      have hu129 := hu123.below ((Below.refl _ w123).alloc (Nat.le_refl _) (.cells (uArr Um.none0) 73)) hu123.lt.1 hu123.lt.2.1
                      refine ⟨(Kn.sub k129 (by intro x hx; simp only [List.mem_cons, List.not_mem_nil, or_false] at hx ⊢; rcases hx with rfl | rfl <;> simp)), ?_⟩
                      simp only [Act.put, List.setIfInBounds_toArray, List.set_cons_zero, List.set_cons_succ]
                      clear k123 hu123
                      generalize w123.alloc (.cells (uArr Um.none0) 73) = w129 at *
                      generalize w123.heap.size = p12 at *
                      refine my_any (rs := [11]) (by kernel_rfl) (by simp) ?_
                      (apply my_call
                       · (simp only [List.getElem?_toArray, List.getElem?_cons_succ, List.getElem?_cons_zero]; rfl)
                       · rfl
                       · (intro _; go_simp; first | exact ⟨rfl, rfl⟩ | exact rfl)
                       · (refine (Hhrput.out _).mono ?_
                          rintro e w130 ⟨rfl, hb30⟩
                          have k130 := k129.call hb30
                          have hu130 := hu129.below hb30 hu129.lt.1 hu129.lt.2.1
                          refine ⟨_, rfl, (Kn.sub k130 (by intro x hx; simp only [List.mem_cons, List.not_mem_nil, or_false] at hx ⊢; rcases hx with rfl | rfl <;> simp)), ?_⟩
                          simp only [Act.put, List.setIfInBounds_toArray, List.set_cons_zero, List.set_cons_succ]
                          refine my_firsts [12, 13, 14, 15] 3 #[true, true, true, true, true, true, true, true, true, true, true, true, true, true, true, true, true, true, false, false, false] (by kernel_rfl) (by kernel_rfl) (by kernel_rfl) ((Kn.sub k130 (by intro x hx; simp only [List.mem_cons, List.not_mem_nil, or_false] at hx ⊢; rcases hx with rfl | rfl <;> simp))) ?_
                          (apply my_pure
                           · (simp only [List.getElem?_toArray, List.getElem?_cons_succ, List.getElem?_cons_zero]; rfl)
                           · rfl
                           · (intro wS hS; go_simp; try exact rfl)
                           simp only [Act.put, List.setIfInBounds_toArray, List.set_cons_zero, List.set_cons_succ])
                          (apply my_pure
                           · (simp only [List.getElem?_toArray, List.getElem?_cons_succ, List.getElem?_cons_zero]; rfl)
                           · rfl
                           · (intro wS hS; go_simp; try exact rfl)
                           simp only [Act.put, List.setIfInBounds_toArray, List.set_cons_zero, List.set_cons_succ])
                          (apply my_pure
                           · (simp only [List.getElem?_toArray, List.getElem?_cons_succ, List.getElem?_cons_zero]; rfl)
                           · rfl
                           · (intro wS hS; go_simp; try exact rfl)
                           simp only [Act.put, List.setIfInBounds_toArray, List.set_cons_zero, List.set_cons_succ])
                          (apply my_pure
                           · (simp only [List.getElem?_toArray, List.getElem?_cons_succ, List.getElem?_cons_zero]; rfl)
                           · rfl
                           · (intro wS hS; go_simp; try exact rfl)
                           simp only [Act.put, List.setIfInBounds_toArray, List.set_cons_zero, List.set_cons_succ])
                          refine my_end ?_
                          refine my_any (rs := [18]) (by kernel_rfl) (by simp) ?_
                          (apply my_store_row
                           · (simp only [List.getElem?_toArray, List.getElem?_cons_succ, List.getElem?_cons_zero]; rfl)
                           · rfl
                           · rfl
                           · rfl
                           · rfl
                           · rfl
                           · exact k130.get 0 rfl
                           · rw [u64s, uArr_size]
                           · simp only [uArr_size]
                           · exact uArr_one _
                           · (have kf31 : Kn w.heap.size w [(p12, .cells (uArr Um.none0) 73), (p13, .cells (dArr []) 50), (p10, .cells (dArr DP) 50), (p8, .cells (uArr U) 73)] w130 := Kn.sub k130 (by intro x hx; simp only [List.mem_cons, List.not_mem_nil, or_false] at hx ⊢; rcases hx with rfl | rfl | rfl | rfl <;> simp)
                              have cs31 := ch_setRow w130 p12 (uArr U')
                              have k131 := Kn.put (w' := w130.setRow p12 (uArr U')) kf31 (by omega) (by simp only [List.mem_cons, List.not_mem_nil, or_false]; rintro y (rfl | rfl | rfl) <;> (show _ ≠ _; omega)) cs31 (setRow_heap _ _ _ _ _ _ (kf31.get 0 rfl))
                              have hu131 := upAt_ch hu130 cs31 (by simp; omega) (by simp; omega)
                              refine ⟨(Kn.sub k131 (by intro x hx; simp only [List.mem_cons, List.not_mem_nil, or_false] at hx ⊢; rcases hx with rfl | rfl <;> simp)), ?_⟩
                              simp only [Act.put, List.setIfInBounds_toArray, List.set_cons_zero, List.set_cons_succ]
                              generalize w130.setRow p12 (uArr U') = w131 at *
                              refine my_any (rs := [19]) (by kernel_rfl) (by simp) ?_
                              (apply my_store_row
                               · (simp only [List.getElem?_toArray, List.getElem?_cons_succ, List.getElem?_cons_zero]; rfl)
                               · rfl
                               · rfl
                               · rfl
                               · rfl
                               · rfl
                               · exact k131.get 1 rfl
                               · rw [d32s, dArr_size]
                               · simp only [dArr_size]
                               · exact dArr_one _
                               · (have kf32 : Kn w.heap.size w [(p13, .cells (dArr []) 50), (p12, .cells (uArr U') 73), (p10, .cells (dArr DP) 50), (p8, .cells (uArr U) 73)] w131 := Kn.sub k131 (by intro x hx; simp only [List.mem_cons, List.not_mem_nil, or_false] at hx ⊢; rcases hx with rfl | rfl | rfl | rfl <;> simp)
                                  have cs32 := ch_setRow w131 p13 (dArr DP)
                                  have k132 := Kn.put (w' := w131.setRow p13 (dArr DP)) kf32 (by omega) (by simp only [List.mem_cons, List.not_mem_nil, or_false]; rintro y (rfl | rfl | rfl) <;> (show _ ≠ _; omega)) cs32 (setRow_heap _ _ _ _ _ _ (kf32.get 0 rfl))
                                  have hu132 := upAt_ch hu131 cs32 (by simp; omega) (by simp; omega)
                                  refine ⟨(Kn.sub k132 (by intro x hx; simp only [List.mem_cons, List.not_mem_nil, or_false] at hx ⊢; rcases hx with rfl | rfl <;> simp)), ?_⟩
                                  simp only [Act.put, List.setIfInBounds_toArray, List.set_cons_zero, List.set_cons_succ]
                                  generalize w131.setRow p13 (dArr DP) = w132 at *
                                  refine my_any (rs := [20]) (by kernel_rfl) (by simp) ?_
                                  (apply my_loud
                                   · (simp only [List.getElem?_toArray, List.getElem?_cons_succ, List.getElem?_cons_zero]; rfl)
                                   · (go_wp2_with fail
                                      refine ⟨(Kn.sub k132 (by intro x hx; simp only [List.mem_cons, List.not_mem_nil, or_false] at hx ⊢; rcases hx with rfl | rfl <;> simp)), ?_⟩
                                      refine my_done (by kernel_rfl) ?_ _
                                      go_wp2_with fail; go_meet; exact ⟨p12, p13, rfl, rfl, rfl, by omega, by omega, hu132, Kn.sub k132 (by intro x hx; simp only [List.mem_cons, List.not_mem_nil, or_false] at hx ⊢; rcases hx with rfl | rfl | rfl | rfl <;> simp)⟩)
                                   skip)
                                  exact my_nil)
                               skip)
                              exact my_nil)
                           skip)
                          exact my_nil)
                       skip)
                      exact my_nil)
                   skip)
                  exact my_nil)
               skip)
              exact my_nil
            case rest =>
              obtain ⟨p12, p13, rfl, rfl, rfl, hp12, hp13, HUP3, K4⟩ := hcut
              have cs := ch_setRow wc p8 (uArr U')
              have hup4 := upAt_ch HUP3.out cs (by simp; omega) (by simp; omega)
              have k5 := Kn.put (o := .cells (uArr U) 73) (w' := wc.setRow p8 (uArr U')) (L := [(p13, .cells (dArr DP) 50), (p10, .cells (dArr DP) 50)]) (K4.out.sub (by intro x hx; simp only [List.mem_cons, List.not_mem_nil, or_false] at hx ⊢; rcases hx with rfl | rfl | rfl <;> simp)) (by omega) (by simp only [List.mem_cons, List.not_mem_nil, or_false]; rintro y (rfl | rfl) <;> (show _ ≠ _; omega)) cs (setRow_heap _ _ _ _ _ _ (K4.out.get 3 rfl))
              have K5 := Lib.hid k5
              have HUP4 := Lib.hid hup4
              have hdr := eql_d_run DP DP true (deq_self _)
              have hgd := eqGuard_d
              clear k5 hup4 cs
              go_wp2_with (first | refine wpList_load_row rfl 73 _ rfl p12 rfl _ _ _ _ (K4.out.get 1 rfl) Try.underlying73 rfl (by rw [u64s, uArr_size]) ?_ | refine wpList_store_row rfl 73 _ _ rfl p8 (uArr U') rfl rfl _ _ (K4.out.get 3 rfl) (by rw [u64s, uArr_size]) (by simp only [uArr_size]) (uArr_one _) ?_ | refine wpList_load_row rfl 50 _ rfl p10 rfl _ _ _ _ (K5.out.get 2 rfl) Try.underlying50 rfl (by rw [d32s, dArr_size]) ?_ | refine wpList_load_row rfl 50 _ rfl p13 rfl _ _ _ _ (K5.out.get 1 rfl) Try.underlying50 rfl (by rw [d32s, dArr_size]) ?_)
              go_roundw
              case rel => exact ⟨i + 1, U', by omega, by go_num, HhGU', HUP4, K5.out.sub (by intro x hx; simp only [List.mem_cons, List.not_mem_nil, or_false] at hx ⊢; subst hx; simp)⟩
              case measure => simp [intOf]; omega
      · obtain rfl : i = n := by omega
        have hbn : ¬ (i : Int) < i := by omega
        obtain ⟨wL, rfl⟩ : ∃ x, x = wr := ⟨_, rfl⟩
        obtain ⟨XT, hXT⟩ : ∃ XT : Nat → List (List UInt8), XT = fun j => (List.range j).map fun k => Sm.digest (U (k + 1)) := ⟨_, rfl⟩
        have hXT0 : XT 0 = [] := by rw [hXT]; rfl
        have hXTs : ∀ j, dcs (XT (j + 1)) = dcs (XT j) ++ (dArr (Sm.digest (U (j + 1)))).toList := fun j => by rw [hXT]; simp only [List.range_succ, List.map_append, dcs_append]; simp [dcs]
        have hXTl : ∀ j, (XT j).length = j := fun j => by rw [hXT]; simp
        have hXTd : ∀ j, ∀ d ∈ XT j, d.length = 32 := fun j d hd => by rw [hXT] at hd; obtain ⟨k, _, rfl⟩ := List.mem_map.1 hd; exact digest_length _
        have HhXT := Lib.hid hXT
        have HhXT0 := Lib.hid hXT0
        have HhXTs := Lib.hid hXTs
        have HhXTl := Lib.hid hXTl
        have HhXTd := Lib.hid hXTd
        clear hXT hXT0 hXTs hXTl hXTd
        go_wp2_with fail
        go_loopw [15, 16] (fun ov jv wx => ∃ j : Nat, j ≤ 64 ∧ jv = .int .i64 (j : Int) ∧ Hid (wx.ownsRow wL.heap.size 50 32 ov j (dcs (XT j))) ∧ Below wL.heap.size wL wx) (fun _ jv _ => 64 - (intOf jv).toNat)
        case atStart => exact ⟨0, by omega, rfl, by rw [HhXT0.out]; exact World.ownsRow_nil _ _ _ _, Below.refl _ _⟩
        case round =>
          obtain ⟨j, hj, rfl, HO, hb⟩ := hrel
          have hbj : (0 : Int) ≤ j := by omega
          have hcj : ((j : Int) < z ∧ (j : Int) < 64) ∨ ((j : Int) < z ∧ ¬ (j : Int) < 64) ∨ ¬ (j : Int) < z := by omega
          have hp8L := K.out.lt 0 rfl
          have hbs := hb.size
          rcases hcj with ⟨h1, h2⟩ | hno
          · obtain ⟨P, hP⟩ : ∃ P, P = U (j + 1) := ⟨_, rfl⟩
            obtain ⟨x, hx⟩ : ∃ x : ByteArray, x = ⟨P.toArray⟩ := ⟨_, rfl⟩
            have hPl : P.length ≤ 1000000 := by rw [hP]; have := HGU.out.len (j + 1); omega
            have hc : wr.cell? ⟨p8, j, none⟩ = some (.string x) := by
              rw [Below.cell hb (a := ⟨p8, j, none⟩) hp8L, cell_of_row _ _ _ _ _ _ (K.out.get 0 rfl), uArr_get _ _ (by omega), hx, hP]
            have htk := HhXTs.out j
            rw [← hP] at htk
            have hof := fun b c w t fr h => ofOne b c P hPl w t fr h
            rw [← hx] at hof
            have hj2 : j < 64 := by omega
            obtain ⟨DP, hDP⟩ : ∃ DP, DP = Sm.digest P := ⟨_, rfl⟩
            rw [← hDP] at hof htk
            have HJ : Hid (j + 1 ≤ 64) := hj2
            have Hhtk := Lib.hid htk
            have Hhx := Lib.hid hx
            have Hhof := Lib.hid hof
            have HhP := Lib.hid hP
            have HhDP := Lib.hid hDP
            clear htk hx hof hP hDP
            clear hj hj2 hPl
            go_wp2_with fail
            refine (Hhof.out _ 1 _ _ _ (heap_alloc_new _ _)).mono ?_
            rintro e w4 ⟨rfl, hb4⟩
            rw [size_alloc] at hb4
            have hb5 : Below wr.heap.size wr w4 := ((Below.refl _ wr).alloc (Nat.le_refl _) _).trans (hb4.mono (by omega))
            have hO4 : Hid (w4.ownsRow wL.heap.size 50 32 u15 j (dcs (XT j))) := own_below HO.out hb5
            have hb6 := hb.trans (hb5.mono hbs)
            have hbs4 := hb6.size
            have hjn : j < 16777216 := by have := HJ.out; omega
            go_wp2_with (first | refine kl_build1 rfl 62 50 _ rfl (dArr DP) rfl i0 (.agg (dArr [])) Try.underlying62 hi0 hz0 (by rw [hs0, dArr_size]) (by rw [dArr_size]; omega) (by rw [dArr_size]; omega) ?_ | (at_builtin; refine kl_append1 rfl _ _ 62 rfl wL.heap.size 50 i0 (.agg (dArr [])) 32 32 Try.underlying62 hi0 hz0 hs0 hb0 zcells (by decide) _ j _ rfl hO4.out 1 (dArr DP) rfl (dArr_size _) (dArr_ones DP) (by omega) (by omega) hbs4 ?_; intro v' w' hown' hbel hsz' _))
            refine ⟨⟨j + 1, HJ.out, by go_num, ?_, hb6.trans hbel⟩, by have := HJ.out; simp [intOf]; omega⟩
            show World.ownsRow _ _ _ _ _ _ _
            rw [Hhtk.out]; exact hown'
          · have hout : (if (j : Int) < z then decide ((j : Int) < 64) else false) = false := by
              rcases hno with ⟨h1, h2⟩ | h1
              · rw [if_pos h1]; simpa using h2
              · rw [if_neg h1]
            have HOD := Lib.hid (rdD_of_own (ds := XT j) (by rw [HhXTl.out]; exact HO.out))
            have hjl : (XT j).length ≤ 80 := by rw [HhXTl.out]; omega
            have hjd := HhXTd.out j
            generalize XT j = dsT at *
            have k6 := K.out.call hb
            have hup6 := HUP.out.below hb (HUP.out.lt.1) (HUP.out.lt.2.1)
            have hrd6 := (Hhrd.out.below k6.below).mono k6.base
            have KM := Lib.hid k6
            have HUPM := Lib.hid hup6
            have Hhrd6 := Lib.hid hrd6
            have Hhjl := Lib.hid hjl
            have Hhjd := Lib.hid hjd
            have Hhout := Lib.hid hout
            clear hrd6 hjl hjd hout
            clear k6 hup6 K HUP hb HO hbs hp8L
            obtain ⟨wM, rfl⟩ : ∃ x, x = wr := ⟨_, rfl⟩
            obtain ⟨vT, rfl⟩ : ∃ x, x = u15 := ⟨_, rfl⟩
            clear Hhout
            rcases hno with ⟨h1, h2⟩ | h1
            all_goals (
              go_wp2_with fail
              go_loopw [1, 17] (fun lv tv wx => ∃ (turn : Nat) (e : List (List UInt8)), turn ≤ 2 ∧ tv = .int .i64 (turn : Int) ∧ Hid (∀ d ∈ e, d.length = 32) ∧ Hid (e.length ≤ 80) ∧ Hid (RdD lv e wM.heap.size wx) ∧ Below wM.heap.size wM wx) (fun _ tv _ => 2 - (intOf tv).toNat)
              case atStart => exact ⟨0, ds, by omega, rfl, Hhd.out, by show ds.length ≤ 80; have := Hhn2.out; omega, Hhrd6.out, Below.refl _ _⟩
              case round =>
                obtain ⟨turn, e, ht, rfl, HD, HL, HR, hb⟩ := hrel
                have hbt : (0 : Int) ≤ turn := by omega
                by_cases ht2 : turn < 2
                · have h3 : (turn : Int) < 2 := by omega
                  have HT2 : Hid (turn + 1 ≤ 2) := ht2
                  obtain ⟨S, hS⟩ : ∃ S, S = (⟨(Um.doneS U e).toArray⟩ : ByteArray) := ⟨_, rfl⟩
                  obtain ⟨DE, hDE⟩ : ∃ DE, DE = Um.doneD U e := ⟨_, rfl⟩
                  obtain ⟨E, hE⟩ : ∃ E, E = Um.doneE U e := ⟨_, rfl⟩
                  have hdn := fun v w h h' => etagDone U HGU.out g m i (by omega) v e (by have := HL.out; omega) HD.out w h h'
                  have hrdn := fun v w h => refDone5 U HGU.out v e (by have := HL.out; omega) HD.out w h
                  rw [← hS, ← hDE, ← hE] at hdn hrdn
                  have hdr := eql_d_run DE DE true (deq_self _)
                  have hgd := eqGuard_d
                  have hbs := hb.size
                  have hown := owns_empty32 wr wr.heap.size 50 (Nat.le_refl _)
                  have hrd7 := (HR.out.mono hbs).below ((Below.refl _ wr).alloc (Nat.le_refl _) (.cells #[] 50))
                  have hsz7 := size_alloc wr (.cells #[] 50)
                  have hle : 0 + e.length < 16777216 := by have := HL.out; omega
                  have Hhdn := Lib.hid hdn
                  have Hhrdn := Lib.hid hrdn
                  have Hhdr := Lib.hid hdr
                  have Hhgd := Lib.hid hgd
                  have Hhown := Lib.hid hown
                  have Hhrd7 := Lib.hid hrd7
                  have Hhsz7 := Lib.hid hsz7
                  have HhS := Lib.hid hS
                  have HhDE := Lib.hid hDE
                  have HhE := Lib.hid hE
                  clear hdn hrdn hdr hgd hown hrd7 hsz7 hS hDE hE
                  clear ht ht2
                  go_wp2_with (refine kl_append_rdD rfl _ _ 62 rfl wr.heap.size 50 i0 (.agg (dArr [])) Try.underlying62 hi0 hz0 hs0 hb0 zcells _ 0 [] rfl Hhown.out _ e _ rfl Hhrd7.out hle (by rw [Hhsz7.out]; omega) ?_; intro v7 w7 hown7 hbel7 hsz7)
                  have hb67 : Below wr.heap.size wr w7 := ((Below.refl _ wr).alloc (Nat.le_refl _) (.cells #[] 50)).trans hbel7
                  have hb7 := hb.trans (hb67.mono hbs)
                  rw [Nat.zero_add, List.nil_append] at hown7
                  have hup7 := HUPM.out.below hb7 HUPM.out.lt.1 HUPM.out.lt.2.1
                  refine (Hhdn.out _ _ hup7 (rdD_of_own hown7)).mono ?_
                  rintro e8 w8 ⟨rfl, hb8⟩
                  have hb9 := hb7.trans (hb8.mono hb7.size)
                  have hk8 := KM.out.call hb9
                  have hk9 := hk8.alloc (.cells (dArr DE) 50)
                  have hR9 := (HR.out.below (hb67.mono hbs |>.trans (hb8.mono hb7.size))).mono hb9.size
                  have hR10 := hR9.below ((Below.refl _ w8).alloc (Nat.le_refl _) (.cells (dArr DE) 50))
                  have hb10 := hb9.alloc hb9.size (.cells (dArr DE) 50)
                  have hRk := HR.out.below (hb67.mono hbs |>.trans (hb8.mono hb7.size))
                  clear hown7 hbel7 hsz7 hb67 hup7 hb8 hk8 Hhown Hhrd7 Hhsz7 hb7
                  go_upto_region 28 with (first | refine kl_alloc rfl 50 rfl (dArr []) i0 hi0 _ hz0 rfl ?_ | refine kl_store_new rfl 50 _ _ rfl (dArr DE) rfl rfl _ _ (by rw [d32s, dArr_size]) (by simp only [dArr_size]) (dArr_one _) ?_)
                  have hsz8 := size_alloc w8 (.cells (dArr DE) 50)
                  generalize w8.alloc (.cells (dArr DE) 50) = w9 at *
                  have K9 := Lib.hid hk9
                  have HR11 := Lib.hid (hR10.mono (B' := w9.heap.size) (by omega))
                  generalize w8.heap.size = p19 at *
                  clear hk9 hR9 hR10 hRk hsz8
                  go_wp2_with (refine wpList_load_row rfl 73 _ rfl p8 rfl _ _ _ _ (K9.out.get 1 rfl) Try.underlying73 rfl (by rw [u64s, uArr_size]) ?_)
                  refine (Hhrdn.out _ _ HR11.out).mono ?_
                  rintro e11 w11 ⟨rfl, hb11⟩
                  have hk11 := K9.out.call hb11
                  have hk12 := Lib.hid (hk11.alloc (.cells (dArr DE) 50))
                  have hb12 := (hb10.trans (hb11.mono hb10.size))
                  have hb13 := hb12.alloc hb12.size (.cells (dArr DE) 50)
                  have hdr := Hhdr.out
                  have hgd := Hhgd.out
                  clear hk11 hb11 hb12 hb10 K9 HR11
                  go_wp2_with (first | refine kl_alloc rfl 50 rfl (dArr []) i0 hi0 _ hz0 rfl ?_ | refine kl_store_new rfl 50 _ _ rfl (dArr DE) rfl rfl _ _ (by rw [d32s, dArr_size]) (by simp only [dArr_size]) (dArr_one _) ?_ | refine kl_guard rfl ?_; refine wpList_load_row rfl 50 _ rfl p19 rfl _ _ _ _ (hk12.out.get 1 rfl) Try.underlying50 rfl (by rw [d32s, dArr_size]) ?_ | refine kl_guard rfl ?_; refine wpList_load_row rfl 50 _ rfl w11.heap.size rfl _ _ _ _ (hk12.out.get 0 rfl) Try.underlying50 rfl (by rw [d32s, dArr_size]) ?_)
                  go_roundw
                  case rel => exact ⟨turn + 1, dsT, HT2.out, by go_num, Hhjd.out, Hhjl.out, HOD.out.below hb13, hb13⟩
                  case measure => have := HT2.out; simp [intOf]; omega
                · have h3 : ¬ (turn : Int) < 2 := by omega
                  have kd := (KM.out.call hb).drew
                  have hud := (HUPM.out.below hb HUPM.out.lt.1 HUPM.out.lt.2.1).drew
                  have hcnt : ((Um.there U).map fun k : Nat => Value.int .i64 (k : Int)).length ≤ 64 := by rw [List.length_map]; unfold Um.there; rw [Um.thereTo_length]; exact Um.cntTo_le U 64
                  have hel : ∀ j, j < ((Um.there U).map fun k : Nat => Value.int .i64 (k : Int)).length → ∃ q : Int, ((Um.there U).map fun k : Nat => Value.int .i64 (k : Int))[j]? = some (.int .i64 q) := fun j hj => by
                    rw [List.length_map] at hj
                    rw [List.getElem?_map, List.getElem?_eq_getElem hj]
                    exact ⟨_, rfl⟩
                  have chv := fun w h => etagHave U HGU.out g m i (by omega) w h
                  have rhv := fun w => refHave5 U w
                  generalize ((Um.there U).map fun k : Nat => Value.int .i64 (k : Int)) = X at *
                  have Hhcnt := Lib.hid hcnt
                  have Hhel := Lib.hid hel
                  have Hchv := Lib.hid chv
                  have Hrhv := Lib.hid rhv
                  clear hcnt hel chv rhv
                  clear HD HL HR hb ht ht2
                  go_upto_region 32 with fail
                  refine wp_region_firsts (Kn w.heap.size w [(p8, .cells (uArr U) 73)]) [0, 2] 4 #[true, false, true, false, false, false] (by kernel_rfl) (by kernel_rfl) (by kernel_rfl) (by kernel_rfl) kd ?_
                  generalize wr.drew = wd at *
                  (apply my_pure
                   · (simp only [List.getElem?_toArray, List.getElem?_cons_succ, List.getElem?_cons_zero]; rfl)
                   · rfl
                   · (intro wS hS; go_simp; try exact rfl)
                   simp only [Act.put, List.setIfInBounds_toArray, List.set_cons_zero, List.set_cons_succ])
                  (apply my_pure
                   · (simp only [List.getElem?_toArray, List.getElem?_cons_succ, List.getElem?_cons_zero]; rfl)
                   · rfl
                   · (intro wS hS; exact mx_load_row 73 _ rfl _ rfl _ _ _ _ (hS.get 0 rfl) Try.underlying73 rfl (by rw [u64s, uArr_size]))
                   simp only [Act.put, List.setIfInBounds_toArray, List.set_cons_zero, List.set_cons_succ])
                  refine my_end ?_
                  refine my_any (rs := [1]) (by kernel_rfl) (by simp) ?_
                  (apply my_call
                   · (simp only [List.getElem?_toArray, List.getElem?_cons_succ, List.getElem?_cons_zero]; rfl)
                   · rfl
                   · (intro _; go_simp; first | exact ⟨rfl, rfl⟩ | exact rfl)
                   · (refine (Hchv.out _ hud).mono ?_
                      rintro ea wA ⟨va, na, rfl, hra, hbA⟩
                      have kA := kd.call hbA
                      refine ⟨_, rfl, kA, ?_⟩
                      simp only [Act.put, List.setIfInBounds_toArray, List.set_cons_zero, List.set_cons_succ]
                      refine my_any (rs := [3]) (by kernel_rfl) (by simp) ?_
                      (apply my_call
                       · (simp only [List.getElem?_toArray, List.getElem?_cons_succ, List.getElem?_cons_zero]; rfl)
                       · rfl
                       · (intro _; go_simp; first | exact ⟨rfl, rfl⟩ | exact rfl)
                       · (refine (Hrhv.out _).mono ?_
                          rintro eb wB ⟨vb, nb, rfl, hrb, hbB⟩
                          have kB := kA.call hbB
                          refine ⟨_, rfl, kB, ?_⟩
                          simp only [Act.put, List.setIfInBounds_toArray, List.set_cons_zero, List.set_cons_succ]
                          have hra2 := (hra.below hbB).mono hbB.size
                          have hna : na ≤ 64 := by rw [← hra.1]; exact Hhcnt.out
                          obtain ⟨Aa, ca, rfl⟩ := hra.slice
                          obtain ⟨Ab, cb, rfl⟩ := hrb.slice
                          obtain rfl : nb = na := by rw [← hrb.1, ← hra.1]
                          refine my_any (rs := [4]) (by kernel_rfl) (by simp) ?_
                          (apply my_loud
                           · (simp only [List.getElem?_toArray, List.getElem?_cons_succ, List.getElem?_cons_zero]; rfl)
                           · (go_wp2_with fail
                              refine ⟨kB, ?_⟩
                              refine my_any (rs := [5]) (by kernel_rfl) (by simp) ?_
                              (apply my_loud
                               · (simp only [List.getElem?_toArray, List.getElem?_cons_succ, List.getElem?_cons_zero]; rfl)
                               · (go_wp2_with fail
                                  refine ⟨kB, ?_⟩
                                  refine my_done (by kernel_rfl) ?_ _
                                  have Hhra2 := Lib.hid hra2
                                  have Hhrb := Lib.hid hrb
                                  have Hhna := Lib.hid hna
                                  clear hra2 hrb hna
                                  clear hra kA hud
                                  go_wp2_with fail
                                  go_loopw [26] (fun jv wx => ∃ q : Nat, q ≤ nb ∧ jv = .int .i64 (q : Int) ∧ Hid (Kn wB.heap.size wB [] wx)) (fun jv _ => nb - (intOf jv).toNat)
                                  case atStart => exact ⟨0, by omega, rfl, Kn.start wB⟩
                                  case round =>
                                    obtain ⟨q, hq, rfl, K9⟩ := hrel
                                    by_cases hqn : q < nb
                                    · obtain ⟨b1, off1, hA1, hc1, hb1, hcell1⟩ := Hhra2.out.at_ hqn
                                      obtain ⟨b2, off2, hA2, hc2, hb2, hcell2⟩ := Hhrb.out.at_ hqn
                                      subst hA1
                                      subst hA2
                                      obtain ⟨y, hy⟩ := Hhel.out q (by rw [Hhrb.out.1]; exact hqn)
                                      have hx1 := hcell1 q _ hy
                                      have hx2 := hcell2 q _ hy
                                      have hr1 : ∀ wS, Kn wB.heap.size wB [] wS → wS.cell? ⟨b1, off1 + q, none⟩ = some (.int .i64 y) := fun wS hS => (Below.cell hS.below (a := ⟨b1, off1 + q, none⟩) hb1).trans hx1
                                      have hr2 : ∀ wS, Kn wB.heap.size wB [] wS → wS.cell? ⟨b2, off2 + q, none⟩ = some (.int .i64 y) := fun wS hS => (Below.cell hS.below (a := ⟨b2, off2 + q, none⟩) hb2).trans hx2
                                      have hbq : (0 : Int) ≤ q := by omega
                                      have hbqn : (q : Int) < nb := by omega
                                      have HQ : Hid (q + 1 ≤ nb) := hqn
                                      have hw64 : (q : Int) + 1 ≤ 9223372036854775807 := by have := Hhna.out; omega
                                      have Hhr1 := Lib.hid hr1
                                      have Hhr2 := Lib.hid hr2
                                      have Hhy := Lib.hid hy
                                      clear hr1 hr2 hy
                                      clear hx1 hx2 hcell1 hcell2 hq
                                      go_wp2_with fail
                                      refine wp_region_abs wB.heap.size wB [] ((true, 0) :: (true, 1) :: (true, 2) :: (true, 3) :: (true, 4) :: (true, 5) :: (true, 6) :: (true, 7) :: (true, 8) :: []) (by kernel_rfl) (by kernel_rfl) K9.out.drew ?_
                                      (apply ab_pure
                                       · (simp only [List.getElem?_toArray, List.getElem?_cons_succ, List.getElem?_cons_zero]; rfl)
                                       · rfl
                                       · (intro wS hS; go_simp; try exact rfl)
                                       simp only [Act.put, List.setIfInBounds_toArray, List.set_cons_zero, List.set_cons_succ])
                                      (apply ab_pure
                                       · (simp only [List.getElem?_toArray, List.getElem?_cons_succ, List.getElem?_cons_zero]; rfl)
                                       · rfl
                                       · (intro wS hS; go_simp; try exact rfl)
                                       simp only [Act.put, List.setIfInBounds_toArray, List.set_cons_zero, List.set_cons_succ])
                                      (apply ab_pure
                                       · (simp only [List.getElem?_toArray, List.getElem?_cons_succ, List.getElem?_cons_zero]; rfl)
                                       · rfl
                                       · (intro wS hS; go_simp; try exact rfl)
                                       simp only [Act.put, List.setIfInBounds_toArray, List.set_cons_zero, List.set_cons_succ])
                                      (apply ab_pure
                                       · (simp only [List.getElem?_toArray, List.getElem?_cons_succ, List.getElem?_cons_zero]; rfl)
                                       · rfl
                                       · (intro wS hS; have hc := Hhr1.out wS hS; go_simp; try exact rfl)
                                       simp only [Act.put, List.setIfInBounds_toArray, List.set_cons_zero, List.set_cons_succ])
                                      (apply ab_pure
                                       · (simp only [List.getElem?_toArray, List.getElem?_cons_succ, List.getElem?_cons_zero]; rfl)
                                       · rfl
                                       · (intro wS hS; go_simp; try exact rfl)
                                       simp only [Act.put, List.setIfInBounds_toArray, List.set_cons_zero, List.set_cons_succ])
                                      (apply ab_pure
                                       · (simp only [List.getElem?_toArray, List.getElem?_cons_succ, List.getElem?_cons_zero]; rfl)
                                       · rfl
                                       · (intro wS hS; go_simp; try exact rfl)
                                       simp only [Act.put, List.setIfInBounds_toArray, List.set_cons_zero, List.set_cons_succ])
                                      (apply ab_pure
                                       · (simp only [List.getElem?_toArray, List.getElem?_cons_succ, List.getElem?_cons_zero]; rfl)
                                       · rfl
                                       · (intro wS hS; go_simp; try exact rfl)
                                       simp only [Act.put, List.setIfInBounds_toArray, List.set_cons_zero, List.set_cons_succ])
                                      (apply ab_pure
                                       · (simp only [List.getElem?_toArray, List.getElem?_cons_succ, List.getElem?_cons_zero]; rfl)
                                       · rfl
                                       · (intro wS hS; have hc := Hhr2.out wS hS; go_simp; try exact rfl)
                                       simp only [Act.put, List.setIfInBounds_toArray, List.set_cons_zero, List.set_cons_succ])
                                      (apply ab_pure
                                       · (simp only [List.getElem?_toArray, List.getElem?_cons_succ, List.getElem?_cons_zero]; rfl)
                                       · rfl
                                       · (intro wS hS; go_simp; try exact rfl)
                                       simp only [Act.put, List.setIfInBounds_toArray, List.set_cons_zero, List.set_cons_succ])
                                      refine ab_end ?_
                                      intro wE hE
                                      have K10 := Lib.hid hE
                                      clear hE K9
                                      go_wp2_with fail
                                      go_roundw
                                      case rel => exact ⟨q + 1, HQ.out, by go_num, K10⟩
                                      case measure => have := HQ.out; simp [intOf]; omega
                                    · obtain rfl : q = nb := by omega
                                      have hbqn : ¬ (q : Int) < q := by omega
                                      go_wp2_with fail
                                      go_ret
                                      exact ⟨rfl, kB.below.trans (K9.out.below.mono kB.base)⟩)
                               skip)
                              exact my_nil)
                           skip)
                          exact my_nil)
                       skip)
                      exact my_nil)
                   skip)
                  exact my_nil)
end Go.Proofs.Ytgdjfijkbemkeaa
