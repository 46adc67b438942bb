/-
  Walk: shoalsyncref03.Sort.
-/
import Derived.Test.YtidmjepfpjfkoaaDoorMd
import Derived.Test.YtidmjepfpjfkoaaDoorMb
import Derived.Test.YtidmjepfpjfkoaaDoorMf
namespace Go.Proofs.YtidmjepfpjfkoaaDoor
open Go Go.RowKit
set_option maxHeartbeats 4000000
set_option maxRecDepth 20000
set_option linter.unusedVariables false
set_option linter.unusedSimpArgs false

/-- what is put in: at the length of what compares below it -/
theorem ins_at (x : List UInt8) : ∀ (xs : List (List UInt8)) (k : Nat), k ≤ xs.length → (∀ j (hj : j < xs.length), j < k → Pm.compare xs[j] x < 0) → (∀ (h : k < xs.length), ¬ Pm.compare xs[k] x < 0) →
    Pm.ins x xs = if xs[k]? = some x then xs else xs.take k ++ x :: xs.drop k
  | [], k, hk, _, _ => by simp [Pm.ins]
  | y :: r, 0, _, _, h2 => by
    have := h2 (by simp)
    simp only [List.getElem_cons_zero] at this
    rw [Pm.ins, if_neg this]
    simp
  | y :: r, k + 1, hk, h1, h2 => by
    have := h1 0 (by simp) (by omega)
    simp only [List.getElem_cons_zero] at this
    rw [Pm.ins, if_pos this, ins_at x r k (by simpa using hk) (fun j hj hjk => by have := h1 (j + 1) (by simpa using hj) (by omega); simpa using this) (fun h => by have := h2 (by simpa using h); simpa using this)]
    simp only [List.getElem?_cons_succ, List.take_succ_cons, List.drop_succ_cons, List.cons_append]
    split <;> rfl
theorem ins_length (x : List UInt8) : ∀ xs, (Pm.ins x xs).length ≤ xs.length + 1
  | [] => by simp [Pm.ins]
  | y :: r => by
    unfold Pm.ins
    split
    · have := ins_length x r; simp; omega
    · split <;> simp

theorem refSort (ps : List (List UInt8)) (hps : ∀ x ∈ ps, x.length ≤ 10000) (hlen : ps.length ≤ 10000) (A : Option Addr) (c : Nat) (w : World)
    (hrd : RdS (.slice A ps.length c) ps.length (pv ps) w.heap.size w) :
    Calls Tryd.prog 58 #[.slice A ps.length c] w fun e w' => ∃ v, e = .returned v ∧ ∃ xs, RdS v xs.length (pv xs) w'.heap.size w' ∧ Below w.heap.size w w' ∧ Pm.IsSort ps xs ∧ xs.length ≤ ps.length := by
  obtain ⟨n, hn⟩ : ∃ n, n = ps.length := ⟨_, rfl⟩
  rw [← hn] at hrd hlen ⊢
  have Hhrd := Lib.hid hrd
  have Hhn := Lib.hid hn
  have Hhps := Lib.hid hps
  clear hrd hn hps
  go_enter Tryd.func58, Tryd.ntmps58
  go_wp2_with fail
  go_loopw [3, 4] (fun v iv wr => ∃ (i : Nat) (xs : List (List UInt8)), i ≤ n ∧ iv = .int .i64 (i : Int) ∧ xs.length ≤ i ∧ Hid (wr.ownsRow w.heap.size 9 1 v xs.length (pv xs)) ∧ Hid (Pm.IsSort (ps.take i) xs) ∧ Below w.heap.size w wr) (fun v iv _ => n - (intOf iv).toNat)
  case atStart => exact ⟨0, [], by omega, rfl, by simp, ⟨rfl, .inl ⟨rfl, rfl⟩⟩, Pm.isSort_nil, Below.refl _ _⟩
  case round =>
    obtain ⟨i, xs, hi, rfl, hxi, HO, HI, hb⟩ := hrel
    by_cases hin : i < n
    · have hil : i < ps.length := by rw [← Hhn.out]; exact hin
      obtain ⟨b, off, hA, hcn, hbb, hcell⟩ := Hhrd.out.at_ hin
      subst hA
      have hpl := Hhps.out _ (List.getElem_mem hil)
      have htk : ps.take (i + 1) = ps.take i ++ [ps[i]] := by rw [List.take_succ_eq_append_getElem hil]
      have hx0 := hcell i _ (pv_get ps i hil)
      clear hcell
      obtain ⟨y, hy⟩ : ∃ y, y = ps[i] := ⟨_, rfl⟩
      rw [← hy] at hx0 hpl htk
      obtain ⟨x, hx⟩ : ∃ x : ByteArray, x = ⟨y.toArray⟩ := ⟨_, rfl⟩
      rw [← hx] at hx0
      have hxd : x.data.toList = y := by rw [hx]
      have hxs : x.size ≤ 10000 := by rw [hx]; show y.toArray.size ≤ _; simpa using hpl
      have hR := Lib.hid (refRight x (by omega) wr)
      have hcx : ∀ w', Below wr.heap.size wr w' → w'.cell? ⟨b, off + i, none⟩ = some (.string x) := fun w' h => by
        have h1 := hb.trans (h.mono hb.size)
        exact (Below.cell h1 (p := ⟨b, off + i, none⟩) hbb).trans hx0
      have hc0 := hcx wr (Below.refl _ _)
      have hbi : (i : Int) < n := by omega
      rw [hxd] at hR
      obtain ⟨r, hr⟩ : ∃ r, r = Pm.right y := ⟨_, rfl⟩
      rw [← hr] at hR
      have hrr := right_three y
      rw [← hr] at hrr
      have Hhcx := Lib.hid hcx
      have Hhx0 := Lib.hid hx0
      have Hhr := Lib.hid hr
      have Hhtk := Lib.hid htk
      have Hhy := Lib.hid hy
      have Hhx := Lib.hid hx
      have Hhxd := Lib.hid hxd
      have Hhpl := Lib.hid hpl
      clear hcx hx0 hr htk hy hx hxd hpl
      go_wp2_with fail
      refine hR.out.mono ?_
      rintro e w1 ⟨rfl, hb1⟩
      clear hR hc0
      by_cases hr0 : r = 0
      · subst hr0
        have hrd0 := (owns_rdS HO.out).below hb1
        obtain ⟨A', c', rfl⟩ := hrd0.slice
        have hO1 := own_below HO.out hb1
        have hb01 := hb.trans (hb1.mono hb.size)
        obtain ⟨m, hm⟩ : ∃ m, m = xs.length := ⟨_, rfl⟩
        rw [← hm] at hrd0 hO1 hxi
        have hws := hb.size
        have hws1 := hb1.size
        have hxsl : ∀ z ∈ xs, z.length ≤ 10000 := fun z hz => Hhps.out z (List.mem_of_mem_take ((HI.out.mem z).1 hz).1)
        have HX := Lib.hid (fun (w' : World) (h : Below w1.heap.size w1 w') => Hhcx.out w' (hb1.trans (h.mono hws1)))
        clear HO hb1 hb Hhcx
        rw [← hm]
        have Hhrd0 := Lib.hid hrd0
        have HhO1 := Lib.hid hO1
        have Hhm := Lib.hid hm
        have Hhb01 := Lib.hid hb01
        have Hhxsl := Lib.hid hxsl
        clear hrd0 hO1 hm hb01 hxsl
        go_upto_block 2 with fail
        go_cut [5] (fun kv wx => ∃ k : Nat, kv = .int .i64 (k : Int) ∧ k ≤ m ∧ Hid (∀ j (hj : j < xs.length), j < k → Pm.compare xs[j] y < 0) ∧ Hid (∀ (h : k < xs.length), ¬ Pm.compare xs[k] y < 0) ∧ Hid (Kn w1.heap.size w1 [] wx))
        case first =>
          go_wp2_with fail
          go_loopw [5] (fun kv wx => ∃ k : Nat, kv = .int .i64 (k : Int) ∧ k ≤ m ∧ Hid (∀ j (hj : j < xs.length), j < k → Pm.compare xs[j] y < 0) ∧ Hid (Kn w1.heap.size w1 [] wx)) (fun kv _ => m - (intOf kv).toNat)
          case atStart => exact ⟨0, rfl, by omega, fun j _ h => absurd h (by omega), Kn.start w1⟩
          case round =>
            obtain ⟨k, rfl, hkm, HL, K⟩ := hrel
            have hbk : (0 : Int) ≤ k := by omega
            by_cases hk : k < m
            · have hkl : k < xs.length := by rw [← Hhm.out]; exact hk
              obtain ⟨b', off', hA', hcn', hbb', hcell'⟩ := Hhrd0.out.at_ hk
              subst hA'
              have hz0 := hcell' k _ (pv_get xs k hkl)
              clear hcell'
              have hzl := Hhxsl.out _ (List.getElem_mem hkl)
              obtain ⟨z, hz⟩ : ∃ z : ByteArray, z = ⟨xs[k].toArray⟩ := ⟨_, rfl⟩
              rw [← hz] at hz0
              have hzd : z.data.toList = xs[k] := by rw [hz]
              have hzs : z.size ≤ 10000 := by rw [hz]; show xs[k].toArray.size ≤ _; simpa using hzl
              have hcm := fun wS => refCompare z x (by omega) (by omega) wS
              rw [hzd, Hhxd.out] at hcm
              obtain ⟨q, hq⟩ : ∃ q, q = Pm.compare xs[k] y := ⟨_, rfl⟩
              rw [← hq] at hcm
              have hr1 : ∀ wS, Kn w1.heap.size w1 [] wS → wS.cell? ⟨b', off' + k, none⟩ = some (.string z) := fun wS hS => (Below.cell hS.below (p := ⟨b', off' + k, none⟩) (Nat.lt_of_lt_of_le hbb' hws1)).trans hz0
              have hr2 : ∀ wS, Kn w1.heap.size w1 [] wS → wS.cell? ⟨b, off + i, none⟩ = some (.string x) := fun wS hS => HX.out wS hS.below
              have hbk2 : (k : Int) < m := by omega
              have Hhcm := Lib.hid hcm
              have Hhr1 := Lib.hid hr1
              have Hhr2 := Lib.hid hr2
              have Hhz0 := Lib.hid hz0
              have Hhq := Lib.hid hq
              have Hhz := Lib.hid hz
              have Hhzd := Lib.hid hzd
              clear hcm hr1 hr2 hz0 hq hz hzd
              go_wp2_with fail
              refine wp_region_abs w1.heap.size w1 [] ((true, 0) :: (true, 1) :: (true, 2) :: (true, 3) :: (true, 4) :: (true, 5) :: (true, 6) :: (true, 7) :: (true, 8) :: (true, 9) :: (true, 10) :: (true, 11) :: (true, 12) :: (true, 13) :: (true, 14) :: (true, 15) :: []) (by kernel_rfl) (by kernel_rfl) K.out.drew ?_
              clear K
              (apply ab_pure
               · (simp only [List.getElem?_toArray, List.getElem?_cons_succ, List.getElem?_cons_zero]; rfl)
               · rfl
               · (intro wS hS; go_simp; try exact rfl)
               simp only [Act.put, List.setIfInBounds_toArray, List.set_cons_zero, List.set_cons_succ])
              (apply ab_pure
               · (simp only [List.getElem?_toArray, List.getElem?_cons_succ, List.getElem?_cons_zero]; rfl)
               · rfl
               · (intro wS hS; go_simp; try exact rfl)
               simp only [Act.put, List.setIfInBounds_toArray, List.set_cons_zero, List.set_cons_succ])
              (apply ab_pure
               · (simp only [List.getElem?_toArray, List.getElem?_cons_succ, List.getElem?_cons_zero]; rfl)
               · rfl
               · (intro wS hS; go_simp; try exact rfl)
               simp only [Act.put, List.setIfInBounds_toArray, List.set_cons_zero, List.set_cons_succ])
              (apply ab_pure (v := .bool true)
               · (simp only [List.getElem?_toArray, List.getElem?_cons_succ, List.getElem?_cons_zero]; rfl)
               · rfl
               · (intro wS hS; go_simp; done)
               simp only [Act.put, List.setIfInBounds_toArray, List.set_cons_zero, List.set_cons_succ])
              (apply ab_pure
               · (simp only [List.getElem?_toArray, List.getElem?_cons_succ, List.getElem?_cons_zero]; rfl)
               · rfl
               · (intro wS hS; go_simp; try exact rfl)
               simp only [Act.put, List.setIfInBounds_toArray, List.set_cons_zero, List.set_cons_succ])
              (apply ab_pure
               · (simp only [List.getElem?_toArray, List.getElem?_cons_succ, List.getElem?_cons_zero]; rfl)
               · rfl
               · (intro wS hS; go_simp; try exact rfl)
               simp only [Act.put, List.setIfInBounds_toArray, List.set_cons_zero, List.set_cons_succ])
              (apply ab_pure
               · (simp only [List.getElem?_toArray, List.getElem?_cons_succ, List.getElem?_cons_zero]; rfl)
               · rfl
               · (intro wS hS; go_simp; try exact rfl)
               simp only [Act.put, List.setIfInBounds_toArray, List.set_cons_zero, List.set_cons_succ])
              (apply ab_pure
               · (simp only [List.getElem?_toArray, List.getElem?_cons_succ, List.getElem?_cons_zero]; rfl)
               · rfl
               · (intro wS hS; go_simp; try exact rfl)
               simp only [Act.put, List.setIfInBounds_toArray, List.set_cons_zero, List.set_cons_succ])
              (apply ab_pure
               · (simp only [List.getElem?_toArray, List.getElem?_cons_succ, List.getElem?_cons_zero]; rfl)
               · rfl
               · (intro wS hS; have hc := Hhr1.out wS hS; go_simp; try exact rfl)
               simp only [Act.put, List.setIfInBounds_toArray, List.set_cons_zero, List.set_cons_succ])
              (apply ab_pure
               · (simp only [List.getElem?_toArray, List.getElem?_cons_succ, List.getElem?_cons_zero]; rfl)
               · rfl
               · (intro wS hS; go_simp; try exact rfl)
               simp only [Act.put, List.setIfInBounds_toArray, List.set_cons_zero, List.set_cons_succ])
              (apply ab_pure
               · (simp only [List.getElem?_toArray, List.getElem?_cons_succ, List.getElem?_cons_zero]; rfl)
               · rfl
               · (intro wS hS; go_simp; try exact rfl)
               simp only [Act.put, List.setIfInBounds_toArray, List.set_cons_zero, List.set_cons_succ])
              (apply ab_pure
               · (simp only [List.getElem?_toArray, List.getElem?_cons_succ, List.getElem?_cons_zero]; rfl)
               · rfl
               · (intro wS hS; go_simp; try exact rfl)
               simp only [Act.put, List.setIfInBounds_toArray, List.set_cons_zero, List.set_cons_succ])
              (apply ab_pure
               · (simp only [List.getElem?_toArray, List.getElem?_cons_succ, List.getElem?_cons_zero]; rfl)
               · rfl
               · (intro wS hS; have hc := Hhr2.out wS hS; go_simp; try exact rfl)
               simp only [Act.put, List.setIfInBounds_toArray, List.set_cons_zero, List.set_cons_succ])
              (apply ab_call
               · (simp only [List.getElem?_toArray, List.getElem?_cons_succ, List.getElem?_cons_zero]; rfl)
               · rfl
               · (intro _; go_simp; first | exact ⟨rfl, rfl⟩ | exact rfl)
               · (intro wS hS; exact Hhcm.out wS)
               simp only [Act.put, List.setIfInBounds_toArray, List.set_cons_zero, List.set_cons_succ])
              by_cases hql : q < 0
              · (apply ab_pure (v := .bool true)
                 · (simp only [List.getElem?_toArray, List.getElem?_cons_succ, List.getElem?_cons_zero]; rfl)
                 · rfl
                 · (intro wS hS; go_simp; done)
                 simp only [Act.put, List.setIfInBounds_toArray, List.set_cons_zero, List.set_cons_succ])
                (apply ab_pure
                 · (simp only [List.getElem?_toArray, List.getElem?_cons_succ, List.getElem?_cons_zero]; rfl)
                 · rfl
                 · (intro wS hS; go_simp; try exact rfl)
                 simp only [Act.put, List.setIfInBounds_toArray, List.set_cons_zero, List.set_cons_succ])
                refine ab_end ?_
                intro wE hE
                have K2 := Lib.hid hE
                clear hE
                have HL2 : Hid (∀ j (hj : j < xs.length), j < k + 1 → Pm.compare xs[j] y < 0) := fun j hj h => by
                  rcases Nat.lt_or_ge j k with h3 | h3
                  · exact HL.out j hj h3
                  · obtain rfl : j = k := by omega
                    rw [← Hhq.out]; exact hql
                go_wp2_with fail
                go_roundw
                case rel => exact ⟨k + 1, by go_num, by omega, HL2, K2⟩
                case measure => simp [intOf]; omega
              · (apply ab_pure (v := .bool false)
                 · (simp only [List.getElem?_toArray, List.getElem?_cons_succ, List.getElem?_cons_zero]; rfl)
                 · rfl
                 · (intro wS hS; go_simp; done)
                 simp only [Act.put, List.setIfInBounds_toArray, List.set_cons_zero, List.set_cons_succ])
                (apply ab_pure
                 · (simp only [List.getElem?_toArray, List.getElem?_cons_succ, List.getElem?_cons_zero]; rfl)
                 · rfl
                 · (intro wS hS; go_simp; try exact rfl)
                 simp only [Act.put, List.setIfInBounds_toArray, List.set_cons_zero, List.set_cons_succ])
                refine ab_end ?_
                intro wE hE
                have K2 := Lib.hid hE
                clear hE
                have HH2 : Hid (∀ (h : k < xs.length), ¬ Pm.compare xs[k] y < 0) := fun h => by rw [← Hhq.out]; exact hql
                go_wp2_with fail
                go_meet
                case rel => exact ⟨k, rfl, hkm, HL, HH2, K2⟩
            · obtain rfl : k = m := by omega
              have HH2 : Hid (∀ (h : k < xs.length), ¬ Pm.compare xs[k] y < 0) := fun h => absurd h (by rw [← Hhm.out]; omega)
              have hbk2 : ¬ (k : Int) < k := by omega
              go_wp2_with fail
              refine wp_region_abs w1.heap.size w1 [] ((true, 0) :: (true, 1) :: (true, 2) :: (true, 3) :: (true, 4) :: (true, 5) :: (true, 6) :: (true, 7) :: (true, 8) :: (true, 9) :: (true, 10) :: (true, 11) :: (true, 12) :: (true, 13) :: (true, 14) :: (true, 15) :: []) (by kernel_rfl) (by kernel_rfl) K.out.drew ?_
              clear K
              (apply ab_pure
               · (simp only [List.getElem?_toArray, List.getElem?_cons_succ, List.getElem?_cons_zero]; rfl)
               · rfl
               · (intro wS hS; go_simp; try exact rfl)
               simp only [Act.put, List.setIfInBounds_toArray, List.set_cons_zero, List.set_cons_succ])
              (apply ab_pure
               · (simp only [List.getElem?_toArray, List.getElem?_cons_succ, List.getElem?_cons_zero]; rfl)
               · rfl
               · (intro wS hS; go_simp; try exact rfl)
               simp only [Act.put, List.setIfInBounds_toArray, List.set_cons_zero, List.set_cons_succ])
              (apply ab_pure
               · (simp only [List.getElem?_toArray, List.getElem?_cons_succ, List.getElem?_cons_zero]; rfl)
               · rfl
               · (intro wS hS; go_simp; try exact rfl)
               simp only [Act.put, List.setIfInBounds_toArray, List.set_cons_zero, List.set_cons_succ])
              (apply ab_pure (v := .bool false)
               · (simp only [List.getElem?_toArray, List.getElem?_cons_succ, List.getElem?_cons_zero]; rfl)
               · rfl
               · (intro wS hS; go_simp; done)
               simp only [Act.put, List.setIfInBounds_toArray, List.set_cons_zero, List.set_cons_succ])
              (apply ab_pure
               · (simp only [List.getElem?_toArray, List.getElem?_cons_succ, List.getElem?_cons_zero]; rfl)
               · rfl
               · (intro wS hS; go_simp; try exact rfl)
               simp only [Act.put, List.setIfInBounds_toArray, List.set_cons_zero, List.set_cons_succ])
              (apply ab_skip
               · (simp only [List.getElem?_toArray, List.getElem?_cons_succ, List.getElem?_cons_zero]; rfl)
               · rfl
               simp only [Act.put, List.setIfInBounds_toArray, List.set_cons_zero, List.set_cons_succ])
              (apply ab_skip
               · (simp only [List.getElem?_toArray, List.getElem?_cons_succ, List.getElem?_cons_zero]; rfl)
               · rfl
               simp only [Act.put, List.setIfInBounds_toArray, List.set_cons_zero, List.set_cons_succ])
              (apply ab_skip
               · (simp only [List.getElem?_toArray, List.getElem?_cons_succ, List.getElem?_cons_zero]; rfl)
               · rfl
               simp only [Act.put, List.setIfInBounds_toArray, List.set_cons_zero, List.set_cons_succ])
              (apply ab_skip
               · (simp only [List.getElem?_toArray, List.getElem?_cons_succ, List.getElem?_cons_zero]; rfl)
               · rfl
               simp only [Act.put, List.setIfInBounds_toArray, List.set_cons_zero, List.set_cons_succ])
              (apply ab_skip
               · (simp only [List.getElem?_toArray, List.getElem?_cons_succ, List.getElem?_cons_zero]; rfl)
               · rfl
               simp only [Act.put, List.setIfInBounds_toArray, List.set_cons_zero, List.set_cons_succ])
              (apply ab_skip
               · (simp only [List.getElem?_toArray, List.getElem?_cons_succ, List.getElem?_cons_zero]; rfl)
               · rfl
               simp only [Act.put, List.setIfInBounds_toArray, List.set_cons_zero, List.set_cons_succ])
              (apply ab_skip
               · (simp only [List.getElem?_toArray, List.getElem?_cons_succ, List.getElem?_cons_zero]; rfl)
               · rfl
               simp only [Act.put, List.setIfInBounds_toArray, List.set_cons_zero, List.set_cons_succ])
              (apply ab_skip
               · (simp only [List.getElem?_toArray, List.getElem?_cons_succ, List.getElem?_cons_zero]; rfl)
               · rfl
               simp only [Act.put, List.setIfInBounds_toArray, List.set_cons_zero, List.set_cons_succ])
              (apply ab_skip
               · (simp only [List.getElem?_toArray, List.getElem?_cons_succ, List.getElem?_cons_zero]; rfl)
               · rfl
               simp only [Act.put, List.setIfInBounds_toArray, List.set_cons_zero, List.set_cons_succ])
              (apply ab_skip
               · (simp only [List.getElem?_toArray, List.getElem?_cons_succ, List.getElem?_cons_zero]; rfl)
               · rfl
               simp only [Act.put, List.setIfInBounds_toArray, List.set_cons_zero, List.set_cons_succ])
              (apply ab_pure
               · (simp only [List.getElem?_toArray, List.getElem?_cons_succ, List.getElem?_cons_zero]; rfl)
               · rfl
               · (intro wS hS; go_simp; try exact rfl)
               simp only [Act.put, List.setIfInBounds_toArray, List.set_cons_zero, List.set_cons_succ])
              refine ab_end ?_
              intro wE hE
              have K2 := Lib.hid hE
              clear hE
              go_wp2_with fail
              go_meet
              case rel => exact ⟨k, rfl, hkm, HL, HH2, K2⟩
        case rest =>
          obtain ⟨k, rfl, hkm, HL, HH, K⟩ := hcut
          have hbk : (0 : Int) ≤ k := by omega
          have hr2 : ∀ wS, Kn w1.heap.size w1 [] wS → wS.cell? ⟨b, off + i, none⟩ = some (.string x) := fun wS hS => HX.out wS hS.below
          have Hhr2 := Lib.hid hr2
          clear hr2
          go_upto_region 9 with fail
          go_cut [50] (fun v wx => v = .bool (decide (xs[k]? = some y)) ∧ Hid (Kn w1.heap.size w1 [] wx))
          case first =>
            by_cases hk : k < m
            · have hkl : k < xs.length := by rw [← Hhm.out]; exact hk
              obtain ⟨b', off', hA', hcn', hbb', hcell'⟩ := Hhrd0.out.at_ hk
              subst hA'
              have hz0 := hcell' k _ (pv_get xs k hkl)
              clear hcell'
              obtain ⟨z, hz⟩ : ∃ z : ByteArray, z = ⟨xs[k].toArray⟩ := ⟨_, rfl⟩
              rw [← hz] at hz0
              have he : (z.toList == x.toList) = decide (xs[k]? = some y) := by
                rw [hz, Hhx.out, ByteArray.toList_eq, ByteArray.toList_eq, List.getElem?_eq_getElem hkl]; exact Bool.eq_iff_iff.2 (by simp)
              obtain ⟨q, hq⟩ : ∃ q, q = decide (xs[k]? = some y) := ⟨_, rfl⟩
              rw [← hq] at he
              have hr1 : ∀ wS, Kn w1.heap.size w1 [] wS → wS.cell? ⟨b', off' + k, none⟩ = some (.string z) := fun wS hS => (Below.cell hS.below (p := ⟨b', off' + k, none⟩) (Nat.lt_of_lt_of_le hbb' hws1)).trans hz0
              have hbk2 : (k : Int) < m := by omega
              have Hhr1 := Lib.hid hr1
              have Hhz0 := Lib.hid hz0
              have Hhq := Lib.hid hq
              have Hhz := Lib.hid hz
              clear hr1 hz0 hq hz
              refine wp_region_abs w1.heap.size w1 [] ((true, 0) :: (true, 1) :: (true, 2) :: (true, 3) :: (true, 4) :: (true, 5) :: (true, 6) :: (true, 7) :: (true, 8) :: (true, 9) :: (true, 10) :: (true, 11) :: (true, 12) :: (true, 13) :: (true, 14) :: []) (by kernel_rfl) (by kernel_rfl) K.out.drew ?_
              clear K
              (apply ab_pure
               · (simp only [List.getElem?_toArray, List.getElem?_cons_succ, List.getElem?_cons_zero]; rfl)
               · rfl
               · (intro wS hS; go_simp; try exact rfl)
               simp only [Act.put, List.setIfInBounds_toArray, List.set_cons_zero, List.set_cons_succ])
              (apply ab_pure
               · (simp only [List.getElem?_toArray, List.getElem?_cons_succ, List.getElem?_cons_zero]; rfl)
               · rfl
               · (intro wS hS; go_simp; try exact rfl)
               simp only [Act.put, List.setIfInBounds_toArray, List.set_cons_zero, List.set_cons_succ])
              (apply ab_pure
               · (simp only [List.getElem?_toArray, List.getElem?_cons_succ, List.getElem?_cons_zero]; rfl)
               · rfl
               · (intro wS hS; go_simp; try exact rfl)
               simp only [Act.put, List.setIfInBounds_toArray, List.set_cons_zero, List.set_cons_succ])
              (apply ab_pure (v := .bool true)
               · (simp only [List.getElem?_toArray, List.getElem?_cons_succ, List.getElem?_cons_zero]; rfl)
               · rfl
               · (intro wS hS; go_simp; done)
               simp only [Act.put, List.setIfInBounds_toArray, List.set_cons_zero, List.set_cons_succ])
              (apply ab_pure
               · (simp only [List.getElem?_toArray, List.getElem?_cons_succ, List.getElem?_cons_zero]; rfl)
               · rfl
               · (intro wS hS; go_simp; try exact rfl)
               simp only [Act.put, List.setIfInBounds_toArray, List.set_cons_zero, List.set_cons_succ])
              (apply ab_pure
               · (simp only [List.getElem?_toArray, List.getElem?_cons_succ, List.getElem?_cons_zero]; rfl)
               · rfl
               · (intro wS hS; go_simp; try exact rfl)
               simp only [Act.put, List.setIfInBounds_toArray, List.set_cons_zero, List.set_cons_succ])
              (apply ab_pure
               · (simp only [List.getElem?_toArray, List.getElem?_cons_succ, List.getElem?_cons_zero]; rfl)
               · rfl
               · (intro wS hS; go_simp; try exact rfl)
               simp only [Act.put, List.setIfInBounds_toArray, List.set_cons_zero, List.set_cons_succ])
              (apply ab_pure
               · (simp only [List.getElem?_toArray, List.getElem?_cons_succ, List.getElem?_cons_zero]; rfl)
               · rfl
               · (intro wS hS; go_simp; try exact rfl)
               simp only [Act.put, List.setIfInBounds_toArray, List.set_cons_zero, List.set_cons_succ])
              (apply ab_pure
               · (simp only [List.getElem?_toArray, List.getElem?_cons_succ, List.getElem?_cons_zero]; rfl)
               · rfl
               · (intro wS hS; have hc := Hhr1.out wS hS; go_simp; try exact rfl)
               simp only [Act.put, List.setIfInBounds_toArray, List.set_cons_zero, List.set_cons_succ])
              (apply ab_pure
               · (simp only [List.getElem?_toArray, List.getElem?_cons_succ, List.getElem?_cons_zero]; rfl)
               · rfl
               · (intro wS hS; go_simp; try exact rfl)
               simp only [Act.put, List.setIfInBounds_toArray, List.set_cons_zero, List.set_cons_succ])
              (apply ab_pure
               · (simp only [List.getElem?_toArray, List.getElem?_cons_succ, List.getElem?_cons_zero]; rfl)
               · rfl
               · (intro wS hS; go_simp; try exact rfl)
               simp only [Act.put, List.setIfInBounds_toArray, List.set_cons_zero, List.set_cons_succ])
              (apply ab_pure
               · (simp only [List.getElem?_toArray, List.getElem?_cons_succ, List.getElem?_cons_zero]; rfl)
               · rfl
               · (intro wS hS; go_simp; try exact rfl)
               simp only [Act.put, List.setIfInBounds_toArray, List.set_cons_zero, List.set_cons_succ])
              (apply ab_pure
               · (simp only [List.getElem?_toArray, List.getElem?_cons_succ, List.getElem?_cons_zero]; rfl)
               · rfl
               · (intro wS hS; have hc := Hhr2.out wS hS; go_simp; try exact rfl)
               simp only [Act.put, List.setIfInBounds_toArray, List.set_cons_zero, List.set_cons_succ])
              (apply ab_pure
               · (simp only [List.getElem?_toArray, List.getElem?_cons_succ, List.getElem?_cons_zero]; rfl)
               · rfl
               · (intro wS hS; go_simp; try exact rfl)
               simp only [Act.put, List.setIfInBounds_toArray, List.set_cons_zero, List.set_cons_succ])
              (apply ab_pure
               · (simp only [List.getElem?_toArray, List.getElem?_cons_succ, List.getElem?_cons_zero]; rfl)
               · rfl
               · (intro wS hS; go_simp; try exact rfl)
               simp only [Act.put, List.setIfInBounds_toArray, List.set_cons_zero, List.set_cons_succ])
              refine ab_end ?_
              intro wE hE
              have K2 := Lib.hid hE
              clear hE
              go_wp2_with fail
              go_meet
              case rel => exact ⟨congrArg Value.bool Hhq.out, K2⟩
            · obtain rfl : k = m := by omega
              have hq : decide (xs[k]? = some y) = false := by rw [List.getElem?_eq_none (by rw [← Hhm.out]; omega)]; rfl
              have hbk2 : ¬ (k : Int) < k := by omega
              refine wp_region_abs w1.heap.size w1 [] ((true, 0) :: (true, 1) :: (true, 2) :: (true, 3) :: (true, 4) :: (true, 5) :: (true, 6) :: (true, 7) :: (true, 8) :: (true, 9) :: (true, 10) :: (true, 11) :: (true, 12) :: (true, 13) :: (true, 14) :: []) (by kernel_rfl) (by kernel_rfl) K.out.drew ?_
              clear K
              (apply ab_pure
               · (simp only [List.getElem?_toArray, List.getElem?_cons_succ, List.getElem?_cons_zero]; rfl)
               · rfl
               · (intro wS hS; go_simp; try exact rfl)
               simp only [Act.put, List.setIfInBounds_toArray, List.set_cons_zero, List.set_cons_succ])
              (apply ab_pure
               · (simp only [List.getElem?_toArray, List.getElem?_cons_succ, List.getElem?_cons_zero]; rfl)
               · rfl
               · (intro wS hS; go_simp; try exact rfl)
               simp only [Act.put, List.setIfInBounds_toArray, List.set_cons_zero, List.set_cons_succ])
              (apply ab_pure
               · (simp only [List.getElem?_toArray, List.getElem?_cons_succ, List.getElem?_cons_zero]; rfl)
               · rfl
               · (intro wS hS; go_simp; try exact rfl)
               simp only [Act.put, List.setIfInBounds_toArray, List.set_cons_zero, List.set_cons_succ])
              (apply ab_pure (v := .bool false)
               · (simp only [List.getElem?_toArray, List.getElem?_cons_succ, List.getElem?_cons_zero]; rfl)
               · rfl
               · (intro wS hS; go_simp; done)
               simp only [Act.put, List.setIfInBounds_toArray, List.set_cons_zero, List.set_cons_succ])
              (apply ab_pure
               · (simp only [List.getElem?_toArray, List.getElem?_cons_succ, List.getElem?_cons_zero]; rfl)
               · rfl
               · (intro wS hS; go_simp; try exact rfl)
               simp only [Act.put, List.setIfInBounds_toArray, List.set_cons_zero, List.set_cons_succ])
              (apply ab_skip
               · (simp only [List.getElem?_toArray, List.getElem?_cons_succ, List.getElem?_cons_zero]; rfl)
               · rfl
               simp only [Act.put, List.setIfInBounds_toArray, List.set_cons_zero, List.set_cons_succ])
              (apply ab_skip
               · (simp only [List.getElem?_toArray, List.getElem?_cons_succ, List.getElem?_cons_zero]; rfl)
               · rfl
               simp only [Act.put, List.setIfInBounds_toArray, List.set_cons_zero, List.set_cons_succ])
              (apply ab_skip
               · (simp only [List.getElem?_toArray, List.getElem?_cons_succ, List.getElem?_cons_zero]; rfl)
               · rfl
               simp only [Act.put, List.setIfInBounds_toArray, List.set_cons_zero, List.set_cons_succ])
              (apply ab_skip
               · (simp only [List.getElem?_toArray, List.getElem?_cons_succ, List.getElem?_cons_zero]; rfl)
               · rfl
               simp only [Act.put, List.setIfInBounds_toArray, List.set_cons_zero, List.set_cons_succ])
              (apply ab_skip
               · (simp only [List.getElem?_toArray, List.getElem?_cons_succ, List.getElem?_cons_zero]; rfl)
               · rfl
               simp only [Act.put, List.setIfInBounds_toArray, List.set_cons_zero, List.set_cons_succ])
              (apply ab_skip
               · (simp only [List.getElem?_toArray, List.getElem?_cons_succ, List.getElem?_cons_zero]; rfl)
               · rfl
               simp only [Act.put, List.setIfInBounds_toArray, List.set_cons_zero, List.set_cons_succ])
              (apply ab_skip
               · (simp only [List.getElem?_toArray, List.getElem?_cons_succ, List.getElem?_cons_zero]; rfl)
               · rfl
               simp only [Act.put, List.setIfInBounds_toArray, List.set_cons_zero, List.set_cons_succ])
              (apply ab_skip
               · (simp only [List.getElem?_toArray, List.getElem?_cons_succ, List.getElem?_cons_zero]; rfl)
               · rfl
               simp only [Act.put, List.setIfInBounds_toArray, List.set_cons_zero, List.set_cons_succ])
              (apply ab_skip
               · (simp only [List.getElem?_toArray, List.getElem?_cons_succ, List.getElem?_cons_zero]; rfl)
               · rfl
               simp only [Act.put, List.setIfInBounds_toArray, List.set_cons_zero, List.set_cons_succ])
              (apply ab_pure
               · (simp only [List.getElem?_toArray, List.getElem?_cons_succ, List.getElem?_cons_zero]; rfl)
               · rfl
               · (intro wS hS; go_simp; try exact rfl)
               simp only [Act.put, List.setIfInBounds_toArray, List.set_cons_zero, List.set_cons_succ])
              refine ab_end ?_
              intro wE hE
              have K2 := Lib.hid hE
              clear hE
              go_wp2_with fail
              go_meet
              case rel => exact ⟨congrArg Value.bool hq.symm, K2⟩
          case rest =>
            obtain ⟨rfl, K2⟩ := hcut
            have hput : Pm.IsSort (ps.take (i + 1)) (if xs[k]? = some y then xs else xs.take k ++ y :: xs.drop k) := by
              rw [Hhtk.out, ← ins_at y xs k (by rw [← Hhm.out]; exact hkm) HL.out HH.out]
              exact Pm.isSort_put HI.out y Hhr.out.symm
            clear K
            by_cases heq : xs[k]? = some y
            · rw [if_pos heq] at hput
              have HI2 := Lib.hid hput
              have HO2 := Lib.hid (own_below HhO1.out K2.out.below)
              have hb2 := Hhb01.out.trans (K2.out.below.mono (Nat.le_trans hws hws1))
              rw [decide_eq_true heq]
              clear hput heq
              go_wp2_with fail
              go_roundw
              case rel => exact ⟨i + 1, xs, by omega, by go_num, by have := Hhm.out; omega, by rw [← Hhm.out]; exact HO2, HI2, hb2⟩
              case measure => simp [intOf]; omega
            · rw [if_neg heq] at hput
              have HI2 := Lib.hid hput
              rw [decide_eq_false heq]
              clear hput heq
              go_upto_region 10 with fail
              obtain ⟨i0, hi0, hz0, hz1, hz2⟩ := info_parts info_str
              have hlen2 : (xs.take k ++ y :: xs.drop k).length = m + 1 := by have := Hhm.out; simp; omega
              have hpv : pv (xs.take k) ++ [Value.string x] ++ pv (xs.drop k) = pv (xs.take k ++ y :: xs.drop k) := by rw [Hhx.out]; simp [pv]
              have HFIN : ∀ (v : Value) (W : World), W.ownsRow w1.heap.size 9 1 v (k + 1 + (m - k)) (pv (xs.take k) ++ [Value.string x] ++ pv (xs.drop k)) → W.ownsRow w.heap.size 9 1 v (m + 1) (pv (xs.take k ++ y :: xs.drop k)) := fun v W h => by
                rw [hpv, show k + 1 + (m - k) = m + 1 by omega] at h
                exact own_base h (Nat.le_trans hws hws1)
              have HFB : ∀ W : World, Below w1.heap.size w1 W → Below w.heap.size w W := fun W h => Hhb01.out.trans (h.mono (Nat.le_trans hws hws1))
              have Hhlen2 := Lib.hid hlen2
              have Hhpv := Lib.hid hpv
              have HHFIN := Lib.hid HFIN
              have HHFB := Lib.hid HFB
              clear hlen2 hpv HFIN HFB
              rcases HhO1.out.2 with ⟨he, hm0⟩ | ⟨g, cap, cur, he, _, _, hcap, _⟩
              · injection he with he e2 e3
                subst he
                subst e3
                subst hm0
                clear e2
                obtain rfl : k = 0 := by omega
                have H54 : Hid (RdS (.slice none 0 0) 0 (pv (xs.take 0)) wr.heap.size w1) := ⟨by simp [pv], .inl ⟨rfl, rfl⟩⟩
                have hx0 : xs = [] := List.eq_nil_of_length_eq_zero Hhm.out.symm
                have H64 : Hid (RdS (.slice none 0 0) (0 - 0) (pv (xs.drop 0)) wr.heap.size w1) := ⟨by rw [hx0]; simp [pv], .inl ⟨rfl, rfl⟩⟩
                clear hx0 HhO1
                refine wp_region_firsts (fun wS => Below w1.heap.size w1 wS) [1, 2, 3, 5, 6, 7, 8, 11, 12, 13] 6 #[false, true, true, true, false, true, true, true, true, false, false, true, true, true, false, false] (by kernel_rfl) (by kernel_rfl) (by kernel_rfl) (by kernel_rfl) K2.out.below.drew ?_
                have hW := K2.out.below.drew
                clear K2
                generalize World.drew _ = WW at *
                (apply my_pure
                 · (simp only [List.getElem?_toArray, List.getElem?_cons_succ, List.getElem?_cons_zero]; rfl)
                 · rfl
                 · (intro wS hS; go_simp; try exact rfl)
                 simp only [Act.put, List.setIfInBounds_toArray, List.set_cons_zero, List.set_cons_succ])
                (apply my_pure
                 · (simp only [List.getElem?_toArray, List.getElem?_cons_succ, List.getElem?_cons_zero]; rfl)
                 · rfl
                 · (intro wS hS; go_simp; try exact rfl)
                 simp only [Act.put, List.setIfInBounds_toArray, List.set_cons_zero, List.set_cons_succ])
                (apply my_pure
                 · (simp only [List.getElem?_toArray, List.getElem?_cons_succ, List.getElem?_cons_zero]; rfl)
                 · rfl
                 · (intro wS hS; go_simp; try exact rfl)
                 simp only [Act.put, List.setIfInBounds_toArray, List.set_cons_zero, List.set_cons_succ])
                (apply my_pure
                 · (simp only [List.getElem?_toArray, List.getElem?_cons_succ, List.getElem?_cons_zero]; rfl)
                 · rfl
                 · (intro wS hS; go_simp; try exact rfl)
                 simp only [Act.put, List.setIfInBounds_toArray, List.set_cons_zero, List.set_cons_succ])
                (apply my_pure
                 · (simp only [List.getElem?_toArray, List.getElem?_cons_succ, List.getElem?_cons_zero]; rfl)
                 · rfl
                 · (intro wS hS; go_simp; try exact rfl)
                 simp only [Act.put, List.setIfInBounds_toArray, List.set_cons_zero, List.set_cons_succ])
                (apply my_pure
                 · (simp only [List.getElem?_toArray, List.getElem?_cons_succ, List.getElem?_cons_zero]; rfl)
                 · rfl
                 · (intro wS hS; go_simp; try exact rfl)
                 simp only [Act.put, List.setIfInBounds_toArray, List.set_cons_zero, List.set_cons_succ])
                (apply my_pure
                 · (simp only [List.getElem?_toArray, List.getElem?_cons_succ, List.getElem?_cons_zero]; rfl)
                 · rfl
                 · (intro wS hS; have hc := HX.out wS hS; go_simp; try exact rfl)
                 simp only [Act.put, List.setIfInBounds_toArray, List.set_cons_zero, List.set_cons_succ])
                (apply my_pure
                 · (simp only [List.getElem?_toArray, List.getElem?_cons_succ, List.getElem?_cons_zero]; rfl)
                 · rfl
                 · (intro wS hS; go_simp; try exact rfl)
                 simp only [Act.put, List.setIfInBounds_toArray, List.set_cons_zero, List.set_cons_succ])
                (apply my_pure
                 · (simp only [List.getElem?_toArray, List.getElem?_cons_succ, List.getElem?_cons_zero]; rfl)
                 · rfl
                 · (intro wS hS; go_simp; try exact rfl)
                 simp only [Act.put, List.setIfInBounds_toArray, List.set_cons_zero, List.set_cons_succ])
                (apply my_pure
                 · (simp only [List.getElem?_toArray, List.getElem?_cons_succ, List.getElem?_cons_zero]; rfl)
                 · rfl
                 · (intro wS hS; go_simp; try exact rfl)
                 simp only [Act.put, List.setIfInBounds_toArray, List.set_cons_zero, List.set_cons_succ])
                refine my_end ?_
                refine my_any (rs := [0, 9]) (by kernel_rfl) (by simp) ?_
                (apply my_loud
                 · (simp only [List.getElem?_toArray, List.getElem?_cons_succ, List.getElem?_cons_zero]; rfl)
                 · (go_wp2_with fail
                    have hW' := hW.alloc (hW.size) (.cells #[] 9)
                    have hO := owns_empty WW w1.heap.size 9 hW.size
                    have hq51 : WW.heap.size < (WW.alloc (.cells #[] 9)).heap.size := by rw [size_alloc]; omega
                    refine ⟨hW', ?_⟩
                    try simp only [Act.put, List.setIfInBounds_toArray, List.set_cons_zero, List.set_cons_succ]
                    generalize WW.alloc (.cells #[] 9) = WX1 at *
                    generalize WW.heap.size = q51 at *
                    clear hW
                    have hW := hW'
                    clear hW'
                    clear WW
                    refine my_any (rs := [4, 9]) (by kernel_rfl) (by simp) ?_
                    (apply my_loud
                     · (simp only [List.getElem?_toArray, List.getElem?_cons_succ, List.getElem?_cons_zero]; rfl)
                     · (go_wp2_with (refine kl_append_rdg rfl _ _ 56 rfl w1.heap.size 9 i0 (.string ⟨#[]⟩) 16 Tryd.underlying56 hi0 hz0 hz1 hz2 rfl _ 0 [] rfl hO _ 0 (pv (xs.take 0)) _ rfl (H54.out.below (hW.mono hws1)) (pv_one _) (by omega) (by omega) hW.size ?_; intro v55 WX2 hO' hg hbx)
                        have hW' := hW.trans hbx
                        refine ⟨hW', ?_⟩
                        try simp only [Act.put, List.setIfInBounds_toArray, List.set_cons_zero, List.set_cons_succ]
                        rw [List.nil_append, Nat.zero_add] at hO'
                        clear hW hO hg hbx
                        try clear hq51
                        have hW := hW'
                        clear hW'
                        have hO := hO'
                        clear hO'
                        clear WX1
                        refine my_any (rs := [9]) (by kernel_rfl) (by simp) ?_
                        (apply my_loud
                         · (simp only [List.getElem?_toArray, List.getElem?_cons_succ, List.getElem?_cons_zero]; rfl)
                         · (go_wp2_with fail
                            have hW' := hW.alloc (hW.size) (.cells #[.string x] 9)
                            have h60 : (WX2.alloc (.cells #[.string x] 9)).heap[WX2.heap.size]? = some (.cells #[.string x] 9 (0, 0)) := blk_new _ _
                            have hO' := own_below hO ((Below.refl _ WX2).alloc (Nat.le_refl _) (.cells #[.string x] 9))
                            refine ⟨hW', ?_⟩
                            try simp only [Act.put, List.setIfInBounds_toArray, List.set_cons_zero, List.set_cons_succ]
                            generalize WX2.alloc (.cells #[.string x] 9) = WX3 at *
                            generalize WX2.heap.size = q9 at *
                            clear hW hO
                            have hW := hW'
                            clear hW'
                            have hO := hO'
                            clear hO'
                            clear WX2
                            refine my_any (rs := [10]) (by kernel_rfl) (by simp) ?_
                            (apply my_loud
                             · (simp only [List.getElem?_toArray, List.getElem?_cons_succ, List.getElem?_cons_zero]; rfl)
                             · (have hr60 := rd_one h60
                                go_wp2_with (refine kl_append_rdg rfl _ _ 56 rfl w1.heap.size 9 i0 (.string ⟨#[]⟩) 16 Tryd.underlying56 hi0 hz0 hz1 hz2 rfl _ 0 (pv (xs.take 0)) rfl hO _ 1 [Value.string x] _ rfl hr60 (by intro u hu; obtain rfl := List.mem_singleton.1 hu; rfl) (by omega) (by omega) hW.size ?_; intro v61 WX4 hO' hg hbx)
                                have hW' := hW.trans hbx
                                refine ⟨hW', ?_⟩
                                try simp only [Act.put, List.setIfInBounds_toArray, List.set_cons_zero, List.set_cons_succ]
                                clear hW hO hg hbx h60 hr60
                                have hW := hW'
                                clear hW'
                                have hO := hO'
                                clear hO'
                                clear WX3
                                refine my_any (rs := [14]) (by kernel_rfl) (by simp) ?_
                                (apply my_loud
                                 · (simp only [List.getElem?_toArray, List.getElem?_cons_succ, List.getElem?_cons_zero]; rfl)
                                 · (go_wp2_with (refine kl_append_rdg rfl _ _ 56 rfl w1.heap.size 9 i0 (.string ⟨#[]⟩) 16 Tryd.underlying56 hi0 hz0 hz1 hz2 rfl _ (0 + 1) (pv (xs.take 0) ++ [Value.string x]) rfl hO _ (0 - 0) (pv (xs.drop 0)) _ rfl (H64.out.below (hW.mono hws1)) (pv_one _) (by omega) (by omega) hW.size ?_; intro v65 WX5 hO' hg hbx)
                                    have hW' := hW.trans hbx
                                    refine ⟨hW', ?_⟩
                                    try simp only [Act.put, List.setIfInBounds_toArray, List.set_cons_zero, List.set_cons_succ]
                                    clear hW hO hg hbx
                                    have hW := hW'
                                    clear hW'
                                    have hO := hO'
                                    clear hO'
                                    clear WX4
                                    refine my_any (rs := [15]) (by kernel_rfl) (by simp) ?_
                                    (apply my_loud
                                     · (simp only [List.getElem?_toArray, List.getElem?_cons_succ, List.getElem?_cons_zero]; rfl)
                                     · (go_wp2_with fail
                                        refine ⟨hW, ?_⟩
                                        try simp only [Act.put, List.setIfInBounds_toArray, List.set_cons_zero, List.set_cons_succ]
                                        refine my_done (by kernel_rfl) ?_ _
                                        have HOE := Lib.hid hO
                                        have HBE := Lib.hid hW
                                        clear hO hW
                                        go_wp2_with fail
                                        go_roundw
                                        case rel => exact ⟨i + 1, _, by omega, by go_num, by rw [Hhlen2.out]; omega, by rw [Hhlen2.out]; exact HHFIN.out _ _ HOE.out, HI2, HHFB.out _ HBE.out⟩
                                        case measure => simp [intOf]; omega)
                                     skip)
                                    exact my_nil)
                                 skip)
                                exact my_nil)
                             skip)
                            exact my_nil)
                         skip)
                        exact my_nil)
                     skip)
                    (apply my_loud
                     · (simp only [List.getElem?_toArray, List.getElem?_cons_succ, List.getElem?_cons_zero]; rfl)
                     · (go_wp2_with fail
                        have hW' := hW.alloc (hW.size) (.cells #[.string x] 9)
                        have h60 : (WX1.alloc (.cells #[.string x] 9)).heap[WX1.heap.size]? = some (.cells #[.string x] 9 (0, 0)) := blk_new _ _
                        have hO' := own_below hO ((Below.refl _ WX1).alloc (Nat.le_refl _) (.cells #[.string x] 9))
                        have hqq : some WX1.heap.size ≠ (Value.slice (some ⟨q51, 0, none⟩) 0 0).ownBlock := by intro h; injection h with h; exact absurd (show WX1.heap.size = q51 from h) (by omega)
                        clear hq51
                        refine ⟨hW', ?_⟩
                        try simp only [Act.put, List.setIfInBounds_toArray, List.set_cons_zero, List.set_cons_succ]
                        generalize WX1.alloc (.cells #[.string x] 9) = WX7 at *
                        generalize WX1.heap.size = q9 at *
                        clear hW hO
                        have hW := hW'
                        clear hW'
                        have hO := hO'
                        clear hO'
                        clear WX1
                        refine my_any (rs := [4]) (by kernel_rfl) (by simp) ?_
                        (apply my_loud
                         · (simp only [List.getElem?_toArray, List.getElem?_cons_succ, List.getElem?_cons_zero]; rfl)
                         · (go_wp2_with (refine kl_append_rdg rfl _ _ 56 rfl w1.heap.size 9 i0 (.string ⟨#[]⟩) 16 Tryd.underlying56 hi0 hz0 hz1 hz2 rfl _ 0 [] rfl hO _ 0 (pv (xs.take 0)) _ rfl (H54.out.below (hW.mono hws1)) (pv_one _) (by omega) (by omega) hW.size ?_; intro v55 WX8 hO' hg hbx)
                            have hW' := hW.trans hbx
                            have h60' : WX8.heap[q9]? = some (.cells #[.string x] 9 (0, 0)) := by rw [hg.block q9 (lt_of_block h60) hqq]; exact h60
                            refine ⟨hW', ?_⟩
                            try simp only [Act.put, List.setIfInBounds_toArray, List.set_cons_zero, List.set_cons_succ]
                            rw [List.nil_append, Nat.zero_add] at hO'
                            clear hW hO hg hbx h60 hqq
                            try clear hq51
                            have hW := hW'
                            clear hW'
                            have hO := hO'
                            clear hO'
                            have h60 := h60'
                            clear h60'
                            clear WX7
                            refine my_any (rs := [10]) (by kernel_rfl) (by simp) ?_
                            (apply my_loud
                             · (simp only [List.getElem?_toArray, List.getElem?_cons_succ, List.getElem?_cons_zero]; rfl)
                             · (have hr60 := rd_one h60
                                go_wp2_with (refine kl_append_rdg rfl _ _ 56 rfl w1.heap.size 9 i0 (.string ⟨#[]⟩) 16 Tryd.underlying56 hi0 hz0 hz1 hz2 rfl _ 0 (pv (xs.take 0)) rfl hO _ 1 [Value.string x] _ rfl hr60 (by intro u hu; obtain rfl := List.mem_singleton.1 hu; rfl) (by omega) (by omega) hW.size ?_; intro v61 WX9 hO' hg hbx)
                                have hW' := hW.trans hbx
                                refine ⟨hW', ?_⟩
                                try simp only [Act.put, List.setIfInBounds_toArray, List.set_cons_zero, List.set_cons_succ]
                                clear hW hO hg hbx h60 hr60
                                have hW := hW'
                                clear hW'
                                have hO := hO'
                                clear hO'
                                clear WX8
                                refine my_any (rs := [14]) (by kernel_rfl) (by simp) ?_
                                (apply my_loud
                                 · (simp only [List.getElem?_toArray, List.getElem?_cons_succ, List.getElem?_cons_zero]; rfl)
                                 · (go_wp2_with (refine kl_append_rdg rfl _ _ 56 rfl w1.heap.size 9 i0 (.string ⟨#[]⟩) 16 Tryd.underlying56 hi0 hz0 hz1 hz2 rfl _ (0 + 1) (pv (xs.take 0) ++ [Value.string x]) rfl hO _ (0 - 0) (pv (xs.drop 0)) _ rfl (H64.out.below (hW.mono hws1)) (pv_one _) (by omega) (by omega) hW.size ?_; intro v65 WX10 hO' hg hbx)
                                    have hW' := hW.trans hbx
                                    refine ⟨hW', ?_⟩
                                    try simp only [Act.put, List.setIfInBounds_toArray, List.set_cons_zero, List.set_cons_succ]
                                    clear hW hO hg hbx
                                    have hW := hW'
                                    clear hW'
                                    have hO := hO'
                                    clear hO'
                                    clear WX9
                                    refine my_any (rs := [15]) (by kernel_rfl) (by simp) ?_
                                    (apply my_loud
                                     · (simp only [List.getElem?_toArray, List.getElem?_cons_succ, List.getElem?_cons_zero]; rfl)
                                     · (go_wp2_with fail
                                        refine ⟨hW, ?_⟩
                                        try simp only [Act.put, List.setIfInBounds_toArray, List.set_cons_zero, List.set_cons_succ]
                                        refine my_done (by kernel_rfl) ?_ _
                                        have HOE := Lib.hid hO
                                        have HBE := Lib.hid hW
                                        clear hO hW
                                        go_wp2_with fail
                                        go_roundw
                                        case rel => exact ⟨i + 1, _, by omega, by go_num, by rw [Hhlen2.out]; omega, by rw [Hhlen2.out]; exact HHFIN.out _ _ HOE.out, HI2, HHFB.out _ HBE.out⟩
                                        case measure => simp [intOf]; omega)
                                     skip)
                                    exact my_nil)
                                 skip)
                                exact my_nil)
                             skip)
                            exact my_nil)
                         skip)
                        exact my_nil)
                     skip)
                    exact my_nil)
                 skip)
                (apply my_loud
                 · (simp only [List.getElem?_toArray, List.getElem?_cons_succ, List.getElem?_cons_zero]; rfl)
                 · (go_wp2_with fail
                    have hW' := hW.alloc (hW.size) (.cells #[.string x] 9)
                    have h60 : (WW.alloc (.cells #[.string x] 9)).heap[WW.heap.size]? = some (.cells #[.string x] 9 (0, 0)) := blk_new _ _
                    refine ⟨hW', ?_⟩
                    try simp only [Act.put, List.setIfInBounds_toArray, List.set_cons_zero, List.set_cons_succ]
                    generalize WW.alloc (.cells #[.string x] 9) = WX12 at *
                    generalize WW.heap.size = q9 at *
                    clear hW
                    have hW := hW'
                    clear hW'
                    clear WW
                    refine my_any (rs := [0]) (by kernel_rfl) (by simp) ?_
                    (apply my_loud
                     · (simp only [List.getElem?_toArray, List.getElem?_cons_succ, List.getElem?_cons_zero]; rfl)
                     · (go_wp2_with fail
                        have hW' := hW.alloc (hW.size) (.cells #[] 9)
                        have hO := owns_empty WX12 w1.heap.size 9 hW.size
                        have hq51 : WX12.heap.size < (WX12.alloc (.cells #[] 9)).heap.size := by rw [size_alloc]; omega
                        have h60' : (WX12.alloc (.cells #[] 9)).heap[q9]? = some (.cells #[.string x] 9 (0, 0)) := blk_old _ _ h60
                        have hqq : some q9 ≠ (Value.slice (some ⟨WX12.heap.size, 0, none⟩) 0 0).ownBlock := by have := lt_of_block h60; intro h; injection h with h; exact absurd (show q9 = WX12.heap.size from h) (by omega)
                        refine ⟨hW', ?_⟩
                        try simp only [Act.put, List.setIfInBounds_toArray, List.set_cons_zero, List.set_cons_succ]
                        generalize WX12.alloc (.cells #[] 9) = WX13 at *
                        generalize WX12.heap.size = q51 at *
                        clear hW h60
                        have hW := hW'
                        clear hW'
                        have h60 := h60'
                        clear h60'
                        clear WX12
                        refine my_any (rs := [4]) (by kernel_rfl) (by simp) ?_
                        (apply my_loud
                         · (simp only [List.getElem?_toArray, List.getElem?_cons_succ, List.getElem?_cons_zero]; rfl)
                         · (go_wp2_with (refine kl_append_rdg rfl _ _ 56 rfl w1.heap.size 9 i0 (.string ⟨#[]⟩) 16 Tryd.underlying56 hi0 hz0 hz1 hz2 rfl _ 0 [] rfl hO _ 0 (pv (xs.take 0)) _ rfl (H54.out.below (hW.mono hws1)) (pv_one _) (by omega) (by omega) hW.size ?_; intro v55 WX14 hO' hg hbx)
                            have hW' := hW.trans hbx
                            have h60' : WX14.heap[q9]? = some (.cells #[.string x] 9 (0, 0)) := by rw [hg.block q9 (lt_of_block h60) hqq]; exact h60
                            refine ⟨hW', ?_⟩
                            try simp only [Act.put, List.setIfInBounds_toArray, List.set_cons_zero, List.set_cons_succ]
                            rw [List.nil_append, Nat.zero_add] at hO'
                            clear hW hO hg hbx h60 hqq
                            try clear hq51
                            have hW := hW'
                            clear hW'
                            have hO := hO'
                            clear hO'
                            have h60 := h60'
                            clear h60'
                            clear WX13
                            refine my_any (rs := [10]) (by kernel_rfl) (by simp) ?_
                            (apply my_loud
                             · (simp only [List.getElem?_toArray, List.getElem?_cons_succ, List.getElem?_cons_zero]; rfl)
                             · (have hr60 := rd_one h60
                                go_wp2_with (refine kl_append_rdg rfl _ _ 56 rfl w1.heap.size 9 i0 (.string ⟨#[]⟩) 16 Tryd.underlying56 hi0 hz0 hz1 hz2 rfl _ 0 (pv (xs.take 0)) rfl hO _ 1 [Value.string x] _ rfl hr60 (by intro u hu; obtain rfl := List.mem_singleton.1 hu; rfl) (by omega) (by omega) hW.size ?_; intro v61 WX15 hO' hg hbx)
                                have hW' := hW.trans hbx
                                refine ⟨hW', ?_⟩
                                try simp only [Act.put, List.setIfInBounds_toArray, List.set_cons_zero, List.set_cons_succ]
                                clear hW hO hg hbx h60 hr60
                                have hW := hW'
                                clear hW'
                                have hO := hO'
                                clear hO'
                                clear WX14
                                refine my_any (rs := [14]) (by kernel_rfl) (by simp) ?_
                                (apply my_loud
                                 · (simp only [List.getElem?_toArray, List.getElem?_cons_succ, List.getElem?_cons_zero]; rfl)
                                 · (go_wp2_with (refine kl_append_rdg rfl _ _ 56 rfl w1.heap.size 9 i0 (.string ⟨#[]⟩) 16 Tryd.underlying56 hi0 hz0 hz1 hz2 rfl _ (0 + 1) (pv (xs.take 0) ++ [Value.string x]) rfl hO _ (0 - 0) (pv (xs.drop 0)) _ rfl (H64.out.below (hW.mono hws1)) (pv_one _) (by omega) (by omega) hW.size ?_; intro v65 WX16 hO' hg hbx)
                                    have hW' := hW.trans hbx
                                    refine ⟨hW', ?_⟩
                                    try simp only [Act.put, List.setIfInBounds_toArray, List.set_cons_zero, List.set_cons_succ]
                                    clear hW hO hg hbx
                                    have hW := hW'
                                    clear hW'
                                    have hO := hO'
                                    clear hO'
                                    clear WX15
                                    refine my_any (rs := [15]) (by kernel_rfl) (by simp) ?_
                                    (apply my_loud
                                     · (simp only [List.getElem?_toArray, List.getElem?_cons_succ, List.getElem?_cons_zero]; rfl)
                                     · (go_wp2_with fail
                                        refine ⟨hW, ?_⟩
                                        try simp only [Act.put, List.setIfInBounds_toArray, List.set_cons_zero, List.set_cons_succ]
                                        refine my_done (by kernel_rfl) ?_ _
                                        have HOE := Lib.hid hO
                                        have HBE := Lib.hid hW
                                        clear hO hW
                                        go_wp2_with fail
                                        go_roundw
                                        case rel => exact ⟨i + 1, _, by omega, by go_num, by rw [Hhlen2.out]; omega, by rw [Hhlen2.out]; exact HHFIN.out _ _ HOE.out, HI2, HHFB.out _ HBE.out⟩
                                        case measure => simp [intOf]; omega)
                                     skip)
                                    exact my_nil)
                                 skip)
                                exact my_nil)
                             skip)
                            exact my_nil)
                         skip)
                        exact my_nil)
                     skip)
                    exact my_nil)
                 skip)
                exact my_nil
              · injection he with he e2 e3
                subst he
                have hmc : m ≤ c' := by omega
                clear e2 e3
                have H54 := Lib.hid (rd_take Hhrd0.out hkm)
                obtain ⟨A2, hA2⟩ : ∃ A2 : Option Addr, (if c' = k then (some ⟨g, 0, none⟩ : Option Addr) else some ⟨g, 0 + k, none⟩) = A2 := ⟨_, rfl⟩
                have H64 := Lib.hid (rd_drop Hhrd0.out hkm hA2)
                have hkc : k ≤ c' := by omega
                rw [Nat.zero_add] at hA2
                clear HhO1
                refine wp_region_firsts (fun wS => Below w1.heap.size w1 wS) [1, 2, 3, 5, 6, 7, 8, 11, 12, 13] 6 #[false, true, true, true, false, true, true, true, true, false, false, true, true, true, false, false] (by kernel_rfl) (by kernel_rfl) (by kernel_rfl) (by kernel_rfl) K2.out.below.drew ?_
                have hW := K2.out.below.drew
                clear K2
                generalize World.drew _ = WW at *
                (apply my_pure
                 · (simp only [List.getElem?_toArray, List.getElem?_cons_succ, List.getElem?_cons_zero]; rfl)
                 · rfl
                 · (intro wS hS; go_simp; try exact rfl)
                 simp only [Act.put, List.setIfInBounds_toArray, List.set_cons_zero, List.set_cons_succ])
                (apply my_pure
                 · (simp only [List.getElem?_toArray, List.getElem?_cons_succ, List.getElem?_cons_zero]; rfl)
                 · rfl
                 · (intro wS hS; go_simp; try exact rfl)
                 simp only [Act.put, List.setIfInBounds_toArray, List.set_cons_zero, List.set_cons_succ])
                (apply my_pure
                 · (simp only [List.getElem?_toArray, List.getElem?_cons_succ, List.getElem?_cons_zero]; rfl)
                 · rfl
                 · (intro wS hS; go_simp; try exact rfl)
                 simp only [Act.put, List.setIfInBounds_toArray, List.set_cons_zero, List.set_cons_succ])
                (apply my_pure
                 · (simp only [List.getElem?_toArray, List.getElem?_cons_succ, List.getElem?_cons_zero]; rfl)
                 · rfl
                 · (intro wS hS; go_simp; try exact rfl)
                 simp only [Act.put, List.setIfInBounds_toArray, List.set_cons_zero, List.set_cons_succ])
                (apply my_pure
                 · (simp only [List.getElem?_toArray, List.getElem?_cons_succ, List.getElem?_cons_zero]; rfl)
                 · rfl
                 · (intro wS hS; go_simp; try exact rfl)
                 simp only [Act.put, List.setIfInBounds_toArray, List.set_cons_zero, List.set_cons_succ])
                (apply my_pure
                 · (simp only [List.getElem?_toArray, List.getElem?_cons_succ, List.getElem?_cons_zero]; rfl)
                 · rfl
                 · (intro wS hS; go_simp; try exact rfl)
                 simp only [Act.put, List.setIfInBounds_toArray, List.set_cons_zero, List.set_cons_succ])
                (apply my_pure
                 · (simp only [List.getElem?_toArray, List.getElem?_cons_succ, List.getElem?_cons_zero]; rfl)
                 · rfl
                 · (intro wS hS; have hc := HX.out wS hS; go_simp; try exact rfl)
                 simp only [Act.put, List.setIfInBounds_toArray, List.set_cons_zero, List.set_cons_succ])
                (apply my_pure
                 · (simp only [List.getElem?_toArray, List.getElem?_cons_succ, List.getElem?_cons_zero]; rfl)
                 · rfl
                 · (intro wS hS; go_simp; try exact rfl)
                 simp only [Act.put, List.setIfInBounds_toArray, List.set_cons_zero, List.set_cons_succ])
                (apply my_pure
                 · (simp only [List.getElem?_toArray, List.getElem?_cons_succ, List.getElem?_cons_zero]; rfl)
                 · rfl
                 · (intro wS hS; go_simp; try exact rfl)
                 simp only [Act.put, List.setIfInBounds_toArray, List.set_cons_zero, List.set_cons_succ])
                (apply my_pure
                 · (simp only [List.getElem?_toArray, List.getElem?_cons_succ, List.getElem?_cons_zero]; rfl)
                 · rfl
                 · (intro wS hS; go_simp; try exact rfl)
                 simp only [Act.put, List.setIfInBounds_toArray, List.set_cons_zero, List.set_cons_succ])
                refine my_end ?_
                refine my_any (rs := [0, 9]) (by kernel_rfl) (by simp) ?_
                (apply my_loud
                 · (simp only [List.getElem?_toArray, List.getElem?_cons_succ, List.getElem?_cons_zero]; rfl)
                 · (go_wp2_with fail
                    have hW' := hW.alloc (hW.size) (.cells #[] 9)
                    have hO := owns_empty WW w1.heap.size 9 hW.size
                    have hq51 : WW.heap.size < (WW.alloc (.cells #[] 9)).heap.size := by rw [size_alloc]; omega
                    refine ⟨hW', ?_⟩
                    try simp only [Act.put, List.setIfInBounds_toArray, List.set_cons_zero, List.set_cons_succ]
                    generalize WW.alloc (.cells #[] 9) = WX1 at *
                    generalize WW.heap.size = q51 at *
                    clear hW
                    have hW := hW'
                    clear hW'
                    clear WW
                    refine my_any (rs := [4, 9]) (by kernel_rfl) (by simp) ?_
                    (apply my_loud
                     · (simp only [List.getElem?_toArray, List.getElem?_cons_succ, List.getElem?_cons_zero]; rfl)
                     · (go_wp2_with (refine kl_append_rdg rfl _ _ 56 rfl w1.heap.size 9 i0 (.string ⟨#[]⟩) 16 Tryd.underlying56 hi0 hz0 hz1 hz2 rfl _ 0 [] rfl hO _ k (pv (xs.take k)) _ rfl (H54.out.below (hW.mono hws1)) (pv_one _) (by omega) (by omega) hW.size ?_; intro v55 WX2 hO' hg hbx)
                        have hW' := hW.trans hbx
                        refine ⟨hW', ?_⟩
                        try simp only [Act.put, List.setIfInBounds_toArray, List.set_cons_zero, List.set_cons_succ]
                        rw [List.nil_append, Nat.zero_add] at hO'
                        clear hW hO hg hbx
                        try clear hq51
                        have hW := hW'
                        clear hW'
                        have hO := hO'
                        clear hO'
                        clear WX1
                        refine my_any (rs := [9]) (by kernel_rfl) (by simp) ?_
                        (apply my_loud
                         · (simp only [List.getElem?_toArray, List.getElem?_cons_succ, List.getElem?_cons_zero]; rfl)
                         · (go_wp2_with fail
                            have hW' := hW.alloc (hW.size) (.cells #[.string x] 9)
                            have h60 : (WX2.alloc (.cells #[.string x] 9)).heap[WX2.heap.size]? = some (.cells #[.string x] 9 (0, 0)) := blk_new _ _
                            have hO' := own_below hO ((Below.refl _ WX2).alloc (Nat.le_refl _) (.cells #[.string x] 9))
                            refine ⟨hW', ?_⟩
                            try simp only [Act.put, List.setIfInBounds_toArray, List.set_cons_zero, List.set_cons_succ]
                            generalize WX2.alloc (.cells #[.string x] 9) = WX3 at *
                            generalize WX2.heap.size = q9 at *
                            clear hW hO
                            have hW := hW'
                            clear hW'
                            have hO := hO'
                            clear hO'
                            clear WX2
                            refine my_any (rs := [10]) (by kernel_rfl) (by simp) ?_
                            (apply my_loud
                             · (simp only [List.getElem?_toArray, List.getElem?_cons_succ, List.getElem?_cons_zero]; rfl)
                             · (have hr60 := rd_one h60
                                go_wp2_with (refine kl_append_rdg rfl _ _ 56 rfl w1.heap.size 9 i0 (.string ⟨#[]⟩) 16 Tryd.underlying56 hi0 hz0 hz1 hz2 rfl _ k (pv (xs.take k)) rfl hO _ 1 [Value.string x] _ rfl hr60 (by intro u hu; obtain rfl := List.mem_singleton.1 hu; rfl) (by omega) (by omega) hW.size ?_; intro v61 WX4 hO' hg hbx)
                                have hW' := hW.trans hbx
                                refine ⟨hW', ?_⟩
                                try simp only [Act.put, List.setIfInBounds_toArray, List.set_cons_zero, List.set_cons_succ]
                                clear hW hO hg hbx h60 hr60
                                have hW := hW'
                                clear hW'
                                have hO := hO'
                                clear hO'
                                clear WX3
                                refine my_any (rs := [14]) (by kernel_rfl) (by simp) ?_
                                (apply my_loud
                                 · (simp only [List.getElem?_toArray, List.getElem?_cons_succ, List.getElem?_cons_zero]; rfl)
                                 · (go_wp2_with (refine kl_append_rdg rfl _ _ 56 rfl w1.heap.size 9 i0 (.string ⟨#[]⟩) 16 Tryd.underlying56 hi0 hz0 hz1 hz2 rfl _ (k + 1) (pv (xs.take k) ++ [Value.string x]) rfl hO _ (m - k) (pv (xs.drop k)) _ rfl (H64.out.below (hW.mono hws1)) (pv_one _) (by omega) (by omega) hW.size ?_; intro v65 WX5 hO' hg hbx)
                                    have hW' := hW.trans hbx
                                    refine ⟨hW', ?_⟩
                                    try simp only [Act.put, List.setIfInBounds_toArray, List.set_cons_zero, List.set_cons_succ]
                                    clear hW hO hg hbx
                                    have hW := hW'
                                    clear hW'
                                    have hO := hO'
                                    clear hO'
                                    clear WX4
                                    refine my_any (rs := [15]) (by kernel_rfl) (by simp) ?_
                                    (apply my_loud
                                     · (simp only [List.getElem?_toArray, List.getElem?_cons_succ, List.getElem?_cons_zero]; rfl)
                                     · (go_wp2_with fail
                                        refine ⟨hW, ?_⟩
                                        try simp only [Act.put, List.setIfInBounds_toArray, List.set_cons_zero, List.set_cons_succ]
                                        refine my_done (by kernel_rfl) ?_ _
                                        have HOE := Lib.hid hO
                                        have HBE := Lib.hid hW
                                        clear hO hW
                                        go_wp2_with fail
                                        go_roundw
                                        case rel => exact ⟨i + 1, _, by omega, by go_num, by rw [Hhlen2.out]; omega, by rw [Hhlen2.out]; exact HHFIN.out _ _ HOE.out, HI2, HHFB.out _ HBE.out⟩
                                        case measure => simp [intOf]; omega)
                                     skip)
                                    exact my_nil)
                                 skip)
                                exact my_nil)
                             skip)
                            exact my_nil)
                         skip)
                        exact my_nil)
                     skip)
                    (apply my_loud
                     · (simp only [List.getElem?_toArray, List.getElem?_cons_succ, List.getElem?_cons_zero]; rfl)
                     · (go_wp2_with fail
                        have hW' := hW.alloc (hW.size) (.cells #[.string x] 9)
                        have h60 : (WX1.alloc (.cells #[.string x] 9)).heap[WX1.heap.size]? = some (.cells #[.string x] 9 (0, 0)) := blk_new _ _
                        have hO' := own_below hO ((Below.refl _ WX1).alloc (Nat.le_refl _) (.cells #[.string x] 9))
                        have hqq : some WX1.heap.size ≠ (Value.slice (some ⟨q51, 0, none⟩) 0 0).ownBlock := by intro h; injection h with h; exact absurd (show WX1.heap.size = q51 from h) (by omega)
                        clear hq51
                        refine ⟨hW', ?_⟩
                        try simp only [Act.put, List.setIfInBounds_toArray, List.set_cons_zero, List.set_cons_succ]
                        generalize WX1.alloc (.cells #[.string x] 9) = WX7 at *
                        generalize WX1.heap.size = q9 at *
                        clear hW hO
                        have hW := hW'
                        clear hW'
                        have hO := hO'
                        clear hO'
                        clear WX1
                        refine my_any (rs := [4]) (by kernel_rfl) (by simp) ?_
                        (apply my_loud
                         · (simp only [List.getElem?_toArray, List.getElem?_cons_succ, List.getElem?_cons_zero]; rfl)
                         · (go_wp2_with (refine kl_append_rdg rfl _ _ 56 rfl w1.heap.size 9 i0 (.string ⟨#[]⟩) 16 Tryd.underlying56 hi0 hz0 hz1 hz2 rfl _ 0 [] rfl hO _ k (pv (xs.take k)) _ rfl (H54.out.below (hW.mono hws1)) (pv_one _) (by omega) (by omega) hW.size ?_; intro v55 WX8 hO' hg hbx)
                            have hW' := hW.trans hbx
                            have h60' : WX8.heap[q9]? = some (.cells #[.string x] 9 (0, 0)) := by rw [hg.block q9 (lt_of_block h60) hqq]; exact h60
                            refine ⟨hW', ?_⟩
                            try simp only [Act.put, List.setIfInBounds_toArray, List.set_cons_zero, List.set_cons_succ]
                            rw [List.nil_append, Nat.zero_add] at hO'
                            clear hW hO hg hbx h60 hqq
                            try clear hq51
                            have hW := hW'
                            clear hW'
                            have hO := hO'
                            clear hO'
                            have h60 := h60'
                            clear h60'
                            clear WX7
                            refine my_any (rs := [10]) (by kernel_rfl) (by simp) ?_
                            (apply my_loud
                             · (simp only [List.getElem?_toArray, List.getElem?_cons_succ, List.getElem?_cons_zero]; rfl)
                             · (have hr60 := rd_one h60
                                go_wp2_with (refine kl_append_rdg rfl _ _ 56 rfl w1.heap.size 9 i0 (.string ⟨#[]⟩) 16 Tryd.underlying56 hi0 hz0 hz1 hz2 rfl _ k (pv (xs.take k)) rfl hO _ 1 [Value.string x] _ rfl hr60 (by intro u hu; obtain rfl := List.mem_singleton.1 hu; rfl) (by omega) (by omega) hW.size ?_; intro v61 WX9 hO' hg hbx)
                                have hW' := hW.trans hbx
                                refine ⟨hW', ?_⟩
                                try simp only [Act.put, List.setIfInBounds_toArray, List.set_cons_zero, List.set_cons_succ]
                                clear hW hO hg hbx h60 hr60
                                have hW := hW'
                                clear hW'
                                have hO := hO'
                                clear hO'
                                clear WX8
                                refine my_any (rs := [14]) (by kernel_rfl) (by simp) ?_
                                (apply my_loud
                                 · (simp only [List.getElem?_toArray, List.getElem?_cons_succ, List.getElem?_cons_zero]; rfl)
                                 · (go_wp2_with (refine kl_append_rdg rfl _ _ 56 rfl w1.heap.size 9 i0 (.string ⟨#[]⟩) 16 Tryd.underlying56 hi0 hz0 hz1 hz2 rfl _ (k + 1) (pv (xs.take k) ++ [Value.string x]) rfl hO _ (m - k) (pv (xs.drop k)) _ rfl (H64.out.below (hW.mono hws1)) (pv_one _) (by omega) (by omega) hW.size ?_; intro v65 WX10 hO' hg hbx)
                                    have hW' := hW.trans hbx
                                    refine ⟨hW', ?_⟩
                                    try simp only [Act.put, List.setIfInBounds_toArray, List.set_cons_zero, List.set_cons_succ]
                                    clear hW hO hg hbx
                                    have hW := hW'
                                    clear hW'
                                    have hO := hO'
                                    clear hO'
                                    clear WX9
                                    refine my_any (rs := [15]) (by kernel_rfl) (by simp) ?_
                                    (apply my_loud
                                     · (simp only [List.getElem?_toArray, List.getElem?_cons_succ, List.getElem?_cons_zero]; rfl)
                                     · (go_wp2_with fail
                                        refine ⟨hW, ?_⟩
                                        try simp only [Act.put, List.setIfInBounds_toArray, List.set_cons_zero, List.set_cons_succ]
                                        refine my_done (by kernel_rfl) ?_ _
                                        have HOE := Lib.hid hO
                                        have HBE := Lib.hid hW
                                        clear hO hW
                                        go_wp2_with fail
                                        go_roundw
                                        case rel => exact ⟨i + 1, _, by omega, by go_num, by rw [Hhlen2.out]; omega, by rw [Hhlen2.out]; exact HHFIN.out _ _ HOE.out, HI2, HHFB.out _ HBE.out⟩
                                        case measure => simp [intOf]; omega)
                                     skip)
                                    exact my_nil)
                                 skip)
                                exact my_nil)
                             skip)
                            exact my_nil)
                         skip)
                        exact my_nil)
                     skip)
                    exact my_nil)
                 skip)
                (apply my_loud
                 · (simp only [List.getElem?_toArray, List.getElem?_cons_succ, List.getElem?_cons_zero]; rfl)
                 · (go_wp2_with fail
                    have hW' := hW.alloc (hW.size) (.cells #[.string x] 9)
                    have h60 : (WW.alloc (.cells #[.string x] 9)).heap[WW.heap.size]? = some (.cells #[.string x] 9 (0, 0)) := blk_new _ _
                    refine ⟨hW', ?_⟩
                    try simp only [Act.put, List.setIfInBounds_toArray, List.set_cons_zero, List.set_cons_succ]
                    generalize WW.alloc (.cells #[.string x] 9) = WX12 at *
                    generalize WW.heap.size = q9 at *
                    clear hW
                    have hW := hW'
                    clear hW'
                    clear WW
                    refine my_any (rs := [0]) (by kernel_rfl) (by simp) ?_
                    (apply my_loud
                     · (simp only [List.getElem?_toArray, List.getElem?_cons_succ, List.getElem?_cons_zero]; rfl)
                     · (go_wp2_with fail
                        have hW' := hW.alloc (hW.size) (.cells #[] 9)
                        have hO := owns_empty WX12 w1.heap.size 9 hW.size
                        have hq51 : WX12.heap.size < (WX12.alloc (.cells #[] 9)).heap.size := by rw [size_alloc]; omega
                        have h60' : (WX12.alloc (.cells #[] 9)).heap[q9]? = some (.cells #[.string x] 9 (0, 0)) := blk_old _ _ h60
                        have hqq : some q9 ≠ (Value.slice (some ⟨WX12.heap.size, 0, none⟩) 0 0).ownBlock := by have := lt_of_block h60; intro h; injection h with h; exact absurd (show q9 = WX12.heap.size from h) (by omega)
                        refine ⟨hW', ?_⟩
                        try simp only [Act.put, List.setIfInBounds_toArray, List.set_cons_zero, List.set_cons_succ]
                        generalize WX12.alloc (.cells #[] 9) = WX13 at *
                        generalize WX12.heap.size = q51 at *
                        clear hW h60
                        have hW := hW'
                        clear hW'
                        have h60 := h60'
                        clear h60'
                        clear WX12
                        refine my_any (rs := [4]) (by kernel_rfl) (by simp) ?_
                        (apply my_loud
                         · (simp only [List.getElem?_toArray, List.getElem?_cons_succ, List.getElem?_cons_zero]; rfl)
                         · (go_wp2_with (refine kl_append_rdg rfl _ _ 56 rfl w1.heap.size 9 i0 (.string ⟨#[]⟩) 16 Tryd.underlying56 hi0 hz0 hz1 hz2 rfl _ 0 [] rfl hO _ k (pv (xs.take k)) _ rfl (H54.out.below (hW.mono hws1)) (pv_one _) (by omega) (by omega) hW.size ?_; intro v55 WX14 hO' hg hbx)
                            have hW' := hW.trans hbx
                            have h60' : WX14.heap[q9]? = some (.cells #[.string x] 9 (0, 0)) := by rw [hg.block q9 (lt_of_block h60) hqq]; exact h60
                            refine ⟨hW', ?_⟩
                            try simp only [Act.put, List.setIfInBounds_toArray, List.set_cons_zero, List.set_cons_succ]
                            rw [List.nil_append, Nat.zero_add] at hO'
                            clear hW hO hg hbx h60 hqq
                            try clear hq51
                            have hW := hW'
                            clear hW'
                            have hO := hO'
                            clear hO'
                            have h60 := h60'
                            clear h60'
                            clear WX13
                            refine my_any (rs := [10]) (by kernel_rfl) (by simp) ?_
                            (apply my_loud
                             · (simp only [List.getElem?_toArray, List.getElem?_cons_succ, List.getElem?_cons_zero]; rfl)
                             · (have hr60 := rd_one h60
                                go_wp2_with (refine kl_append_rdg rfl _ _ 56 rfl w1.heap.size 9 i0 (.string ⟨#[]⟩) 16 Tryd.underlying56 hi0 hz0 hz1 hz2 rfl _ k (pv (xs.take k)) rfl hO _ 1 [Value.string x] _ rfl hr60 (by intro u hu; obtain rfl := List.mem_singleton.1 hu; rfl) (by omega) (by omega) hW.size ?_; intro v61 WX15 hO' hg hbx)
                                have hW' := hW.trans hbx
                                refine ⟨hW', ?_⟩
                                try simp only [Act.put, List.setIfInBounds_toArray, List.set_cons_zero, List.set_cons_succ]
                                clear hW hO hg hbx h60 hr60
                                have hW := hW'
                                clear hW'
                                have hO := hO'
                                clear hO'
                                clear WX14
                                refine my_any (rs := [14]) (by kernel_rfl) (by simp) ?_
                                (apply my_loud
                                 · (simp only [List.getElem?_toArray, List.getElem?_cons_succ, List.getElem?_cons_zero]; rfl)
                                 · (go_wp2_with (refine kl_append_rdg rfl _ _ 56 rfl w1.heap.size 9 i0 (.string ⟨#[]⟩) 16 Tryd.underlying56 hi0 hz0 hz1 hz2 rfl _ (k + 1) (pv (xs.take k) ++ [Value.string x]) rfl hO _ (m - k) (pv (xs.drop k)) _ rfl (H64.out.below (hW.mono hws1)) (pv_one _) (by omega) (by omega) hW.size ?_; intro v65 WX16 hO' hg hbx)
                                    have hW' := hW.trans hbx
                                    refine ⟨hW', ?_⟩
                                    try simp only [Act.put, List.setIfInBounds_toArray, List.set_cons_zero, List.set_cons_succ]
                                    clear hW hO hg hbx
                                    have hW := hW'
                                    clear hW'
                                    have hO := hO'
                                    clear hO'
                                    clear WX15
                                    refine my_any (rs := [15]) (by kernel_rfl) (by simp) ?_
                                    (apply my_loud
                                     · (simp only [List.getElem?_toArray, List.getElem?_cons_succ, List.getElem?_cons_zero]; rfl)
                                     · (go_wp2_with fail
                                        refine ⟨hW, ?_⟩
                                        try simp only [Act.put, List.setIfInBounds_toArray, List.set_cons_zero, List.set_cons_succ]
                                        refine my_done (by kernel_rfl) ?_ _
                                        have HOE := Lib.hid hO
                                        have HBE := Lib.hid hW
                                        clear hO hW
                                        go_wp2_with fail
                                        go_roundw
                                        case rel => exact ⟨i + 1, _, by omega, by go_num, by rw [Hhlen2.out]; omega, by rw [Hhlen2.out]; exact HHFIN.out _ _ HOE.out, HI2, HHFB.out _ HBE.out⟩
                                        case measure => simp [intOf]; omega)
                                     skip)
                                    exact my_nil)
                                 skip)
                                exact my_nil)
                             skip)
                            exact my_nil)
                         skip)
                        exact my_nil)
                     skip)
                    exact my_nil)
                 skip)
                exact my_nil
      · have HI2 : Hid (Pm.IsSort (ps.take (i + 1)) xs) := by
          show Pm.IsSort _ _
          rw [Hhtk.out]
          exact Pm.isSort_skip HI.out y (by rw [← Hhr.out]; exact hr0)
        have hne : ((r : Int) != 0) = true := by rw [bne_iff_ne]; omega
        have HO2 := Lib.hid (own_below HO.out hb1)
        go_wp2_with fail
        go_roundw
        case rel => exact ⟨i + 1, xs, by omega, by go_num, by omega, HO2, HI2, hb.trans (hb1.mono hb.size)⟩
        case measure => simp [intOf]; omega
    · obtain rfl : i = n := by omega
      have hbn : ¬ (i : Int) < i := by omega
      go_wp2_with fail
      go_ret
      refine ⟨_, rfl, xs, owns_rdS HO.out, hb, ?_, hxi⟩
      have := HI.out
      rwa [Hhn.out, List.take_length] at this
end Go.Proofs.YtidmjepfpjfkoaaDoor
