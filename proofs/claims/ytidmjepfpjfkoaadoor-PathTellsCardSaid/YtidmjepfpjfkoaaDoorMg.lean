/-
  Walk: shoalsyncref03.Sort.
  Walk: shoalsyncref03.Clash.
  Walk: shoalsyncref03.Normal.
-/
import Derived.Test.YtidmjepfpjfkoaaDoorMd
import Derived.Test.YtidmjepfpjfkoaaDoorMb
import Derived.Test.YtidmjepfpjfkoaaDoorMf
namespace Go.Proofs.YtidmjepfpjfkoaaDoor
open Go Go.RowKit
set_option maxHeartbeats 4000000
set_option maxRecDepth 20000
set_option linter.unusedVariables false
set_option linter.unusedSimpArgs false

/-- what is put in: at the length of what compares below it -/
theorem ins_at (x : List UInt8) : ∀ (xs : List (List UInt8)) (k : Nat), k ≤ xs.length → (∀ j (hj : j < xs.length), j < k → Pm.compare xs[j] x < 0) → (∀ (h : k < xs.length), ¬ Pm.compare xs[k] x < 0) →
    Pm.ins x xs = if xs[k]? = some x then xs else xs.take k ++ x :: xs.drop k
  | [], k, hk, _, _ => by simp [Pm.ins]
  | y :: r, 0, _, _, h2 => by
    have := h2 (by simp)
    simp only [List.getElem_cons_zero] at this
    rw [Pm.ins, if_neg this]
    simp
  | y :: r, k + 1, hk, h1, h2 => by
    have := h1 0 (by simp) (by omega)
    simp only [List.getElem_cons_zero] at this
    rw [Pm.ins, if_pos this, ins_at x r k (by simpa using hk) (fun j hj hjk => by have := h1 (j + 1) (by simpa using hj) (by omega); simpa using this) (fun h => by have := h2 (by simpa using h); simpa using this)]
    simp only [List.getElem?_cons_succ, List.take_succ_cons, List.drop_succ_cons, List.cons_append]
    split <;> rfl
theorem ins_length (x : List UInt8) : ∀ xs, (Pm.ins x xs).length ≤ xs.length + 1
  | [] => by simp [Pm.ins]
  | y :: r => by
    unfold Pm.ins
    split
    · have := ins_length x r; simp; omega
    · split <;> simp

theorem refSort (ps : List (List UInt8)) (hps : ∀ x ∈ ps, x.length ≤ 10000) (hlen : ps.length ≤ 10000) (A : Option Addr) (c : Nat) (w : World)
    (hrd : RdS (.slice A ps.length c) ps.length (pv ps) w.heap.size w) :
    Calls Tryd.prog 58 #[.slice A ps.length c] w fun e w' => ∃ v, e = .returned v ∧ ∃ xs, RdS v xs.length (pv xs) w'.heap.size w' ∧ Below w.heap.size w w' ∧ Pm.IsSort ps xs ∧ xs.length ≤ ps.length := by
  obtain ⟨n, hn⟩ : ∃ n, n = ps.length := ⟨_, rfl⟩
  rw [← hn] at hrd hlen ⊢
  have Hhrd := Lib.hid hrd
  have Hhn := Lib.hid hn
  have Hhps := Lib.hid hps
  clear hrd hn hps
  go_enter Tryd.func58, Tryd.ntmps58
  go_wp2_with fail
  go_loopw [3, 4] (fun v iv wr => ∃ (i : Nat) (xs : List (List UInt8)), i ≤ n ∧ iv = .int .i64 (i : Int) ∧ xs.length ≤ i ∧ Hid (wr.ownsRow w.heap.size 9 1 v xs.length (pv xs)) ∧ Hid (Pm.IsSort (ps.take i) xs) ∧ Below w.heap.size w wr) (fun v iv _ => n - (intOf iv).toNat)
  case atStart => exact ⟨0, [], by omega, rfl, by simp, ⟨rfl, .inl ⟨rfl, rfl⟩⟩, Pm.isSort_nil, Below.refl _ _⟩
  case round =>
    obtain ⟨i, xs, hi, rfl, hxi, HO, HI, hb⟩ := hrel
    by_cases hin : i < n
    · have hil : i < ps.length := by rw [← Hhn.out]; exact hin
      obtain ⟨b, off, hA, hcn, hbb, hcell⟩ := Hhrd.out.at_ hin
      subst hA
      have hpl := Hhps.out _ (List.getElem_mem hil)
      have htk : ps.take (i + 1) = ps.take i ++ [ps[i]] := by rw [List.take_succ_eq_append_getElem hil]
      have hx0 := hcell i _ (pv_get ps i hil)
      clear hcell
      obtain ⟨y, hy⟩ : ∃ y, y = ps[i] := ⟨_, rfl⟩
      rw [← hy] at hx0 hpl htk
      obtain ⟨x, hx⟩ : ∃ x : ByteArray, x = ⟨y.toArray⟩ := ⟨_, rfl⟩
      rw [← hx] at hx0
      have hxd : x.data.toList = y := by rw [hx]
      have hxs : x.size ≤ 10000 := by rw [hx]; show y.toArray.size ≤ _; simpa using hpl
      have hR := Lib.hid (refRight x (by omega) wr)
      have hcx : ∀ w', Below wr.heap.size wr w' → w'.cell? ⟨b, off + i, none⟩ = some (.string x) := fun w' h => by
        have h1 := hb.trans (h.mono hb.size)
        exact (Below.cell h1 (p := ⟨b, off + i, none⟩) hbb).trans hx0
      have hc0 := hcx wr (Below.refl _ _)
      have hbi : (i : Int) < n := by omega
      rw [hxd] at hR
      obtain ⟨r, hr⟩ : ∃ r, r = Pm.right y := ⟨_, rfl⟩
      rw [← hr] at hR
      have hrr := right_three y
      rw [← hr] at hrr
      have Hhcx := Lib.hid hcx
      have Hhx0 := Lib.hid hx0
      have Hhr := Lib.hid hr
      have Hhtk := Lib.hid htk
      have Hhy := Lib.hid hy
      have Hhx := Lib.hid hx
      have Hhxd := Lib.hid hxd
      have Hhpl := Lib.hid hpl
      clear hcx hx0 hr htk hy hx hxd hpl
      go_wp2_with fail
      refine hR.out.mono ?_
      rintro e w1 ⟨rfl, hb1⟩
      clear hR hc0
      by_cases hr0 : r = 0
      · subst hr0
        have hrd0 := (owns_rdS HO.out).below hb1
        obtain ⟨A', c', rfl⟩ := hrd0.slice
        have hO1 := own_below HO.out hb1
        have hb01 := hb.trans (hb1.mono hb.size)
        obtain ⟨m, hm⟩ : ∃ m, m = xs.length := ⟨_, rfl⟩
        rw [← hm] at hrd0 hO1 hxi
        have hws := hb.size
        have hws1 := hb1.size
        have hxsl : ∀ z ∈ xs, z.length ≤ 10000 := fun z hz => Hhps.out z (List.mem_of_mem_take ((HI.out.mem z).1 hz).1)
        have HX := Lib.hid (fun (w' : World) (h : Below w1.heap.size w1 w') => Hhcx.out w' (hb1.trans (h.mono hws1)))
        clear HO hb1 hb Hhcx
        rw [← hm]
        have Hhrd0 := Lib.hid hrd0
        have HhO1 := Lib.hid hO1
        have Hhm := Lib.hid hm
        have Hhb01 := Lib.hid hb01
        have Hhxsl := Lib.hid hxsl
        clear hrd0 hO1 hm hb01 hxsl
        go_upto_block 2 with fail
        go_cut [5] (fun kv wx => ∃ k : Nat, kv = .int .i64 (k : Int) ∧ k ≤ m ∧ Hid (∀ j (hj : j < xs.length), j < k → Pm.compare xs[j] y < 0) ∧ Hid (∀ (h : k < xs.length), ¬ Pm.compare xs[k] y < 0) ∧ Hid (Kn w1.heap.size w1 [] wx))
        case first =>
          go_wp2_with fail
          go_loopw [5] (fun kv wx => ∃ k : Nat, kv = .int .i64 (k : Int) ∧ k ≤ m ∧ Hid (∀ j (hj : j < xs.length), j < k → Pm.compare xs[j] y < 0) ∧ Hid (Kn w1.heap.size w1 [] wx)) (fun kv _ => m - (intOf kv).toNat)
          case atStart => exact ⟨0, rfl, by omega, fun j _ h => absurd h (by omega), Kn.start w1⟩
          case round =>
            obtain ⟨k, rfl, hkm, HL, K⟩ := hrel
            have hbk : (0 : Int) ≤ k := by omega
            by_cases hk : k < m
            · have hkl : k < xs.length := by rw [← Hhm.out]; exact hk
              obtain ⟨b', off', hA', hcn', hbb', hcell'⟩ := Hhrd0.out.at_ hk
              subst hA'
              have hz0 := hcell' k _ (pv_get xs k hkl)
              clear hcell'
              have hzl := Hhxsl.out _ (List.getElem_mem hkl)
              obtain ⟨z, hz⟩ : ∃ z : ByteArray, z = ⟨xs[k].toArray⟩ := ⟨_, rfl⟩
              rw [← hz] at hz0
              have hzd : z.data.toList = xs[k] := by rw [hz]
              have hzs : z.size ≤ 10000 := by rw [hz]; show xs[k].toArray.size ≤ _; simpa using hzl
              have hcm := fun wS => refCompare z x (by omega) (by omega) wS
              rw [hzd, Hhxd.out] at hcm
              obtain ⟨q, hq⟩ : ∃ q, q = Pm.compare xs[k] y := ⟨_, rfl⟩
              rw [← hq] at hcm
              have hr1 : ∀ wS, Kn w1.heap.size w1 [] wS → wS.cell? ⟨b', off' + k, none⟩ = some (.string z) := fun wS hS => (Below.cell hS.below (p := ⟨b', off' + k, none⟩) (Nat.lt_of_lt_of_le hbb' hws1)).trans hz0
              have hr2 : ∀ wS, Kn w1.heap.size w1 [] wS → wS.cell? ⟨b, off + i, none⟩ = some (.string x) := fun wS hS => HX.out wS hS.below
              have hbk2 : (k : Int) < m := by omega
              have Hhcm := Lib.hid hcm
              have Hhr1 := Lib.hid hr1
              have Hhr2 := Lib.hid hr2
              have Hhz0 := Lib.hid hz0
              have Hhq := Lib.hid hq
              have Hhz := Lib.hid hz
              have Hhzd := Lib.hid hzd
              clear hcm hr1 hr2 hz0 hq hz hzd
              go_wp2_with fail
              refine wp_region_abs w1.heap.size w1 [] ((true, 0) :: (true, 1) :: (true, 2) :: (true, 3) :: (true, 4) :: (true, 5) :: (true, 6) :: (true, 7) :: (true, 8) :: (true, 9) :: (true, 10) :: (true, 11) :: (true, 12) :: (true, 13) :: (true, 14) :: (true, 15) :: []) (by kernel_rfl) (by kernel_rfl) K.out.drew ?_
              clear K
              (apply ab_pure
               · (simp only [List.getElem?_toArray, List.getElem?_cons_succ, List.getElem?_cons_zero]; rfl)
               · rfl
               · (intro wS hS; go_simp; try exact rfl)
               simp only [Act.put, List.setIfInBounds_toArray, List.set_cons_zero, List.set_cons_succ])
              (apply ab_pure
               · (simp only [List.getElem?_toArray, List.getElem?_cons_succ, List.getElem?_cons_zero]; rfl)
               · rfl
               · (intro wS hS; go_simp; try exact rfl)
               simp only [Act.put, List.setIfInBounds_toArray, List.set_cons_zero, List.set_cons_succ])
              (apply ab_pure
               · (simp only [List.getElem?_toArray, List.getElem?_cons_succ, List.getElem?_cons_zero]; rfl)
               · rfl
               · (intro wS hS; go_simp; try exact rfl)
               simp only [Act.put, List.setIfInBounds_toArray, List.set_cons_zero, List.set_cons_succ])
              (apply ab_pure (v := .bool true)
               · (simp only [List.getElem?_toArray, List.getElem?_cons_succ, List.getElem?_cons_zero]; rfl)
               · rfl
               · (intro wS hS; go_simp; done)
               simp only [Act.put, List.setIfInBounds_toArray, List.set_cons_zero, List.set_cons_succ])
              (apply ab_pure
               · (simp only [List.getElem?_toArray, List.getElem?_cons_succ, List.getElem?_cons_zero]; rfl)
               · rfl
               · (intro wS hS; go_simp; try exact rfl)
               simp only [Act.put, List.setIfInBounds_toArray, List.set_cons_zero, List.set_cons_succ])
              (apply ab_pure
               · (simp only [List.getElem?_toArray, List.getElem?_cons_succ, List.getElem?_cons_zero]; rfl)
               · rfl
               · (intro wS hS; go_simp; try exact rfl)
               simp only [Act.put, List.setIfInBounds_toArray, List.set_cons_zero, List.set_cons_succ])
              (apply ab_pure
               · (simp only [List.getElem?_toArray, List.getElem?_cons_succ, List.getElem?_cons_zero]; rfl)
               · rfl
               · (intro wS hS; go_simp; try exact rfl)
               simp only [Act.put, List.setIfInBounds_toArray, List.set_cons_zero, List.set_cons_succ])
              (apply ab_pure
               · (simp only [List.getElem?_toArray, List.getElem?_cons_succ, List.getElem?_cons_zero]; rfl)
               · rfl
               · (intro wS hS; go_simp; try exact rfl)
               simp only [Act.put, List.setIfInBounds_toArray, List.set_cons_zero, List.set_cons_succ])
              (apply ab_pure
               · (simp only [List.getElem?_toArray, List.getElem?_cons_succ, List.getElem?_cons_zero]; rfl)
               · rfl
               · (intro wS hS; have hc := Hhr1.out wS hS; go_simp; try exact rfl)
               simp only [Act.put, List.setIfInBounds_toArray, List.set_cons_zero, List.set_cons_succ])
              (apply ab_pure
               · (simp only [List.getElem?_toArray, List.getElem?_cons_succ, List.getElem?_cons_zero]; rfl)
               · rfl
               · (intro wS hS; go_simp; try exact rfl)
               simp only [Act.put, List.setIfInBounds_toArray, List.set_cons_zero, List.set_cons_succ])
              (apply ab_pure
               · (simp only [List.getElem?_toArray, List.getElem?_cons_succ, List.getElem?_cons_zero]; rfl)
               · rfl
               · (intro wS hS; go_simp; try exact rfl)
               simp only [Act.put, List.setIfInBounds_toArray, List.set_cons_zero, List.set_cons_succ])
              (apply ab_pure
               · (simp only [List.getElem?_toArray, List.getElem?_cons_succ, List.getElem?_cons_zero]; rfl)
               · rfl
               · (intro wS hS; go_simp; try exact rfl)
               simp only [Act.put, List.setIfInBounds_toArray, List.set_cons_zero, List.set_cons_succ])
              (apply ab_pure
               · (simp only [List.getElem?_toArray, List.getElem?_cons_succ, List.getElem?_cons_zero]; rfl)
               · rfl
               · (intro wS hS; have hc := Hhr2.out wS hS; go_simp; try exact rfl)
               simp only [Act.put, List.setIfInBounds_toArray, List.set_cons_zero, List.set_cons_succ])
              (apply ab_call
               · (simp only [List.getElem?_toArray, List.getElem?_cons_succ, List.getElem?_cons_zero]; rfl)
               · rfl
               · (intro _; go_simp; first | exact ⟨rfl, rfl⟩ | exact rfl)
               · (intro wS hS; exact Hhcm.out wS)
               simp only [Act.put, List.setIfInBounds_toArray, List.set_cons_zero, List.set_cons_succ])
              by_cases hql : q < 0
              · (apply ab_pure (v := .bool true)
                 · (simp only [List.getElem?_toArray, List.getElem?_cons_succ, List.getElem?_cons_zero]; rfl)
                 · rfl
                 · (intro wS hS; go_simp; done)
                 simp only [Act.put, List.setIfInBounds_toArray, List.set_cons_zero, List.set_cons_succ])
                (apply ab_pure
                 · (simp only [List.getElem?_toArray, List.getElem?_cons_succ, List.getElem?_cons_zero]; rfl)
                 · rfl
                 · (intro wS hS; go_simp; try exact rfl)
                 simp only [Act.put, List.setIfInBounds_toArray, List.set_cons_zero, List.set_cons_succ])
                refine ab_end ?_
                intro wE hE
                have K2 := Lib.hid hE
                clear hE
                have HL2 : Hid (∀ j (hj : j < xs.length), j < k + 1 → Pm.compare xs[j] y < 0) := fun j hj h => by
                  rcases Nat.lt_or_ge j k with h3 | h3
                  · exact HL.out j hj h3
                  · obtain rfl : j = k := by omega
                    rw [← Hhq.out]; exact hql
                go_wp2_with fail
                go_roundw
                case rel => exact ⟨k + 1, by go_num, by omega, HL2, K2⟩
                case measure => simp [intOf]; omega
              · (apply ab_pure (v := .bool false)
                 · (simp only [List.getElem?_toArray, List.getElem?_cons_succ, List.getElem?_cons_zero]; rfl)
                 · rfl
                 · (intro wS hS; go_simp; done)
                 simp only [Act.put, List.setIfInBounds_toArray, List.set_cons_zero, List.set_cons_succ])
                (apply ab_pure
                 · (simp only [List.getElem?_toArray, List.getElem?_cons_succ, List.getElem?_cons_zero]; rfl)
                 · rfl
                 · (intro wS hS; go_simp; try exact rfl)
                 simp only [Act.put, List.setIfInBounds_toArray, List.set_cons_zero, List.set_cons_succ])
                refine ab_end ?_
                intro wE hE
                have K2 := Lib.hid hE
                clear hE
                have HH2 : Hid (∀ (h : k < xs.length), ¬ Pm.compare xs[k] y < 0) := fun h => by rw [← Hhq.out]; exact hql
                go_wp2_with fail
                go_meet
                case rel => exact ⟨k, rfl, hkm, HL, HH2, K2⟩
            · obtain rfl : k = m := by omega
              have HH2 : Hid (∀ (h : k < xs.length), ¬ Pm.compare xs[k] y < 0) := fun h => absurd h (by rw [← Hhm.out]; omega)
              have hbk2 : ¬ (k : Int) < k := by omega
              go_wp2_with fail
              refine wp_region_abs w1.heap.size w1 [] ((true, 0) :: (true, 1) :: (true, 2) :: (true, 3) :: (true, 4) :: (true, 5) :: (true, 6) :: (true, 7) :: (true, 8) :: (true, 9) :: (true, 10) :: (true, 11) :: (true, 12) :: (true, 13) :: (true, 14) :: (true, 15) :: []) (by kernel_rfl) (by kernel_rfl) K.out.drew ?_
              clear K
              (apply ab_pure
               · (simp only [List.getElem?_toArray, List.getElem?_cons_succ, List.getElem?_cons_zero]; rfl)
               · rfl
               · (intro wS hS; go_simp; try exact rfl)
               simp only [Act.put, List.setIfInBounds_toArray, List.set_cons_zero, List.set_cons_succ])
              (apply ab_pure
               · (simp only [List.getElem?_toArray, List.getElem?_cons_succ, List.getElem?_cons_zero]; rfl)
               · rfl
               · (intro wS hS; go_simp; try exact rfl)
               simp only [Act.put, List.setIfInBounds_toArray, List.set_cons_zero, List.set_cons_succ])
              (apply ab_pure
               · (simp only [List.getElem?_toArray, List.getElem?_cons_succ, List.getElem?_cons_zero]; rfl)
               · rfl
               · (intro wS hS; go_simp; try exact rfl)
               simp only [Act.put, List.setIfInBounds_toArray, List.set_cons_zero, List.set_cons_succ])
              (apply ab_pure (v := .bool false)
               · (simp only [List.getElem?_toArray, List.getElem?_cons_succ, List.getElem?_cons_zero]; rfl)
               · rfl
               · (intro wS hS; go_simp; done)
               simp only [Act.put, List.setIfInBounds_toArray, List.set_cons_zero, List.set_cons_succ])
              (apply ab_pure
               · (simp only [List.getElem?_toArray, List.getElem?_cons_succ, List.getElem?_cons_zero]; rfl)
               · rfl
               · (intro wS hS; go_simp; try exact rfl)
               simp only [Act.put, List.setIfInBounds_toArray, List.set_cons_zero, List.set_cons_succ])
              (apply ab_skip
               · (simp only [List.getElem?_toArray, List.getElem?_cons_succ, List.getElem?_cons_zero]; rfl)
               · rfl
               simp only [Act.put, List.setIfInBounds_toArray, List.set_cons_zero, List.set_cons_succ])
              (apply ab_skip
               · (simp only [List.getElem?_toArray, List.getElem?_cons_succ, List.getElem?_cons_zero]; rfl)
               · rfl
               simp only [Act.put, List.setIfInBounds_toArray, List.set_cons_zero, List.set_cons_succ])
              (apply ab_skip
               · (simp only [List.getElem?_toArray, List.getElem?_cons_succ, List.getElem?_cons_zero]; rfl)
               · rfl
               simp only [Act.put, List.setIfInBounds_toArray, List.set_cons_zero, List.set_cons_succ])
              (apply ab_skip
               · (simp only [List.getElem?_toArray, List.getElem?_cons_succ, List.getElem?_cons_zero]; rfl)
               · rfl
               simp only [Act.put, List.setIfInBounds_toArray, List.set_cons_zero, List.set_cons_succ])
              (apply ab_skip
               · (simp only [List.getElem?_toArray, List.getElem?_cons_succ, List.getElem?_cons_zero]; rfl)
               · rfl
               simp only [Act.put, List.setIfInBounds_toArray, List.set_cons_zero, List.set_cons_succ])
              (apply ab_skip
               · (simp only [List.getElem?_toArray, List.getElem?_cons_succ, List.getElem?_cons_zero]; rfl)
               · rfl
               simp only [Act.put, List.setIfInBounds_toArray, List.set_cons_zero, List.set_cons_succ])
              (apply ab_skip
               · (simp only [List.getElem?_toArray, List.getElem?_cons_succ, List.getElem?_cons_zero]; rfl)
               · rfl
               simp only [Act.put, List.setIfInBounds_toArray, List.set_cons_zero, List.set_cons_succ])
              (apply ab_skip
               · (simp only [List.getElem?_toArray, List.getElem?_cons_succ, List.getElem?_cons_zero]; rfl)
               · rfl
               simp only [Act.put, List.setIfInBounds_toArray, List.set_cons_zero, List.set_cons_succ])
              (apply ab_skip
               · (simp only [List.getElem?_toArray, List.getElem?_cons_succ, List.getElem?_cons_zero]; rfl)
               · rfl
               simp only [Act.put, List.setIfInBounds_toArray, List.set_cons_zero, List.set_cons_succ])
              (apply ab_skip
               · (simp only [List.getElem?_toArray, List.getElem?_cons_succ, List.getElem?_cons_zero]; rfl)
               · rfl
               simp only [Act.put, List.setIfInBounds_toArray, List.set_cons_zero, List.set_cons_succ])
              (apply ab_pure
               · (simp only [List.getElem?_toArray, List.getElem?_cons_succ, List.getElem?_cons_zero]; rfl)
               · rfl
               · (intro wS hS; go_simp; try exact rfl)
               simp only [Act.put, List.setIfInBounds_toArray, List.set_cons_zero, List.set_cons_succ])
              refine ab_end ?_
              intro wE hE
              have K2 := Lib.hid hE
              clear hE
              go_wp2_with fail
              go_meet
              case rel => exact ⟨k, rfl, hkm, HL, HH2, K2⟩
        case rest =>
          obtain ⟨k, rfl, hkm, HL, HH, K⟩ := hcut
          have hbk : (0 : Int) ≤ k := by omega
          have hr2 : ∀ wS, Kn w1.heap.size w1 [] wS → wS.cell? ⟨b, off + i, none⟩ = some (.string x) := fun wS hS => HX.out wS hS.below
          have Hhr2 := Lib.hid hr2
          clear hr2
          go_upto_region 9 with fail
          go_cut [50] (fun v wx => v = .bool (decide (xs[k]? = some y)) ∧ Hid (Kn w1.heap.size w1 [] wx))
          case first =>
            by_cases hk : k < m
            · have hkl : k < xs.length := by rw [← Hhm.out]; exact hk
              obtain ⟨b', off', hA', hcn', hbb', hcell'⟩ := Hhrd0.out.at_ hk
              subst hA'
              have hz0 := hcell' k _ (pv_get xs k hkl)
              clear hcell'
              obtain ⟨z, hz⟩ : ∃ z : ByteArray, z = ⟨xs[k].toArray⟩ := ⟨_, rfl⟩
              rw [← hz] at hz0
              have he : (z.toList == x.toList) = decide (xs[k]? = some y) := by
                rw [hz, Hhx.out, ByteArray.toList_eq, ByteArray.toList_eq, List.getElem?_eq_getElem hkl]; exact Bool.eq_iff_iff.2 (by simp)
              obtain ⟨q, hq⟩ : ∃ q, q = decide (xs[k]? = some y) := ⟨_, rfl⟩
              rw [← hq] at he
              have hr1 : ∀ wS, Kn w1.heap.size w1 [] wS → wS.cell? ⟨b', off' + k, none⟩ = some (.string z) := fun wS hS => (Below.cell hS.below (p := ⟨b', off' + k, none⟩) (Nat.lt_of_lt_of_le hbb' hws1)).trans hz0
              have hbk2 : (k : Int) < m := by omega
              have Hhr1 := Lib.hid hr1
              have Hhz0 := Lib.hid hz0
              have Hhq := Lib.hid hq
              have Hhz := Lib.hid hz
              clear hr1 hz0 hq hz
              refine wp_region_abs w1.heap.size w1 [] ((true, 0) :: (true, 1) :: (true, 2) :: (true, 3) :: (true, 4) :: (true, 5) :: (true, 6) :: (true, 7) :: (true, 8) :: (true, 9) :: (true, 10) :: (true, 11) :: (true, 12) :: (true, 13) :: (true, 14) :: []) (by kernel_rfl) (by kernel_rfl) K.out.drew ?_
              clear K
              (apply ab_pure
               · (simp only [List.getElem?_toArray, List.getElem?_cons_succ, List.getElem?_cons_zero]; rfl)
               · rfl
               · (intro wS hS; go_simp; try exact rfl)
               simp only [Act.put, List.setIfInBounds_toArray, List.set_cons_zero, List.set_cons_succ])
              (apply ab_pure
               · (simp only [List.getElem?_toArray, List.getElem?_cons_succ, List.getElem?_cons_zero]; rfl)
               · rfl
               · (intro wS hS; go_simp; try exact rfl)
               simp only [Act.put, List.setIfInBounds_toArray, List.set_cons_zero, List.set_cons_succ])
              (apply ab_pure
               · (simp only [List.getElem?_toArray, List.getElem?_cons_succ, List.getElem?_cons_zero]; rfl)
               · rfl
               · (intro wS hS; go_simp; try exact rfl)
               simp only [Act.put, List.setIfInBounds_toArray, List.set_cons_zero, List.set_cons_succ])
              (apply ab_pure (v := .bool true)
               · (simp only [List.getElem?_toArray, List.getElem?_cons_succ, List.getElem?_cons_zero]; rfl)
               · rfl
               · (intro wS hS; go_simp; done)
               simp only [Act.put, List.setIfInBounds_toArray, List.set_cons_zero, List.set_cons_succ])
              (apply ab_pure
               · (simp only [List.getElem?_toArray, List.getElem?_cons_succ, List.getElem?_cons_zero]; rfl)
               · rfl
               · (intro wS hS; go_simp; try exact rfl)
               simp only [Act.put, List.setIfInBounds_toArray, List.set_cons_zero, List.set_cons_succ])
              (apply ab_pure
               · (simp only [List.getElem?_toArray, List.getElem?_cons_succ, List.getElem?_cons_zero]; rfl)
               · rfl
               · (intro wS hS; go_simp; try exact rfl)
               simp only [Act.put, List.setIfInBounds_toArray, List.set_cons_zero, List.set_cons_succ])
              (apply ab_pure
               · (simp only [List.getElem?_toArray, List.getElem?_cons_succ, List.getElem?_cons_zero]; rfl)
               · rfl
               · (intro wS hS; go_simp; try exact rfl)
               simp only [Act.put, List.setIfInBounds_toArray, List.set_cons_zero, List.set_cons_succ])
              (apply ab_pure
               · (simp only [List.getElem?_toArray, List.getElem?_cons_succ, List.getElem?_cons_zero]; rfl)
               · rfl
               · (intro wS hS; go_simp; try exact rfl)
               simp only [Act.put, List.setIfInBounds_toArray, List.set_cons_zero, List.set_cons_succ])
              (apply ab_pure
               · (simp only [List.getElem?_toArray, List.getElem?_cons_succ, List.getElem?_cons_zero]; rfl)
               · rfl
               · (intro wS hS; have hc := Hhr1.out wS hS; go_simp; try exact rfl)
               simp only [Act.put, List.setIfInBounds_toArray, List.set_cons_zero, List.set_cons_succ])
              (apply ab_pure
               · (simp only [List.getElem?_toArray, List.getElem?_cons_succ, List.getElem?_cons_zero]; rfl)
               · rfl
               · (intro wS hS; go_simp; try exact rfl)
               simp only [Act.put, List.setIfInBounds_toArray, List.set_cons_zero, List.set_cons_succ])
              (apply ab_pure
               · (simp only [List.getElem?_toArray, List.getElem?_cons_succ, List.getElem?_cons_zero]; rfl)
               · rfl
               · (intro wS hS; go_simp; try exact rfl)
               simp only [Act.put, List.setIfInBounds_toArray, List.set_cons_zero, List.set_cons_succ])
              (apply ab_pure
               · (simp only [List.getElem?_toArray, List.getElem?_cons_succ, List.getElem?_cons_zero]; rfl)
               · rfl
               · (intro wS hS; go_simp; try exact rfl)
               simp only [Act.put, List.setIfInBounds_toArray, List.set_cons_zero, List.set_cons_succ])
              (apply ab_pure
               · (simp only [List.getElem?_toArray, List.getElem?_cons_succ, List.getElem?_cons_zero]; rfl)
               · rfl
               · (intro wS hS; have hc := Hhr2.out wS hS; go_simp; try exact rfl)
               simp only [Act.put, List.setIfInBounds_toArray, List.set_cons_zero, List.set_cons_succ])
              (apply ab_pure
               · (simp only [List.getElem?_toArray, List.getElem?_cons_succ, List.getElem?_cons_zero]; rfl)
               · rfl
               · (intro wS hS; go_simp; try exact rfl)
               simp only [Act.put, List.setIfInBounds_toArray, List.set_cons_zero, List.set_cons_succ])
              (apply ab_pure
               · (simp only [List.getElem?_toArray, List.getElem?_cons_succ, List.getElem?_cons_zero]; rfl)
               · rfl
               · (intro wS hS; go_simp; try exact rfl)
               simp only [Act.put, List.setIfInBounds_toArray, List.set_cons_zero, List.set_cons_succ])
              refine ab_end ?_
              intro wE hE
              have K2 := Lib.hid hE
              clear hE
              go_wp2_with fail
              go_meet
              case rel => exact ⟨congrArg Value.bool Hhq.out, K2⟩
            · obtain rfl : k = m := by omega
              have hq : decide (xs[k]? = some y) = false := by rw [List.getElem?_eq_none (by rw [← Hhm.out]; omega)]; rfl
              have hbk2 : ¬ (k : Int) < k := by omega
              refine wp_region_abs w1.heap.size w1 [] ((true, 0) :: (true, 1) :: (true, 2) :: (true, 3) :: (true, 4) :: (true, 5) :: (true, 6) :: (true, 7) :: (true, 8) :: (true, 9) :: (true, 10) :: (true, 11) :: (true, 12) :: (true, 13) :: (true, 14) :: []) (by kernel_rfl) (by kernel_rfl) K.out.drew ?_
              clear K
              (apply ab_pure
               · (simp only [List.getElem?_toArray, List.getElem?_cons_succ, List.getElem?_cons_zero]; rfl)
               · rfl
               · (intro wS hS; go_simp; try exact rfl)
               simp only [Act.put, List.setIfInBounds_toArray, List.set_cons_zero, List.set_cons_succ])
              (apply ab_pure
               · (simp only [List.getElem?_toArray, List.getElem?_cons_succ, List.getElem?_cons_zero]; rfl)
               · rfl
               · (intro wS hS; go_simp; try exact rfl)
               simp only [Act.put, List.setIfInBounds_toArray, List.set_cons_zero, List.set_cons_succ])
              (apply ab_pure
               · (simp only [List.getElem?_toArray, List.getElem?_cons_succ, List.getElem?_cons_zero]; rfl)
               · rfl
               · (intro wS hS; go_simp; try exact rfl)
               simp only [Act.put, List.setIfInBounds_toArray, List.set_cons_zero, List.set_cons_succ])
              (apply ab_pure (v := .bool false)
               · (simp only [List.getElem?_toArray, List.getElem?_cons_succ, List.getElem?_cons_zero]; rfl)
               · rfl
               · (intro wS hS; go_simp; done)
               simp only [Act.put, List.setIfInBounds_toArray, List.set_cons_zero, List.set_cons_succ])
              (apply ab_pure
               · (simp only [List.getElem?_toArray, List.getElem?_cons_succ, List.getElem?_cons_zero]; rfl)
               · rfl
               · (intro wS hS; go_simp; try exact rfl)
               simp only [Act.put, List.setIfInBounds_toArray, List.set_cons_zero, List.set_cons_succ])
              (apply ab_skip
               · (simp only [List.getElem?_toArray, List.getElem?_cons_succ, List.getElem?_cons_zero]; rfl)
               · rfl
               simp only [Act.put, List.setIfInBounds_toArray, List.set_cons_zero, List.set_cons_succ])
              (apply ab_skip
               · (simp only [List.getElem?_toArray, List.getElem?_cons_succ, List.getElem?_cons_zero]; rfl)
               · rfl
               simp only [Act.put, List.setIfInBounds_toArray, List.set_cons_zero, List.set_cons_succ])
              (apply ab_skip
               · (simp only [List.getElem?_toArray, List.getElem?_cons_succ, List.getElem?_cons_zero]; rfl)
               · rfl
               simp only [Act.put, List.setIfInBounds_toArray, List.set_cons_zero, List.set_cons_succ])
              (apply ab_skip
               · (simp only [List.getElem?_toArray, List.getElem?_cons_succ, List.getElem?_cons_zero]; rfl)
               · rfl
               simp only [Act.put, List.setIfInBounds_toArray, List.set_cons_zero, List.set_cons_succ])
              (apply ab_skip
               · (simp only [List.getElem?_toArray, List.getElem?_cons_succ, List.getElem?_cons_zero]; rfl)
               · rfl
               simp only [Act.put, List.setIfInBounds_toArray, List.set_cons_zero, List.set_cons_succ])
              (apply ab_skip
               · (simp only [List.getElem?_toArray, List.getElem?_cons_succ, List.getElem?_cons_zero]; rfl)
               · rfl
               simp only [Act.put, List.setIfInBounds_toArray, List.set_cons_zero, List.set_cons_succ])
              (apply ab_skip
               · (simp only [List.getElem?_toArray, List.getElem?_cons_succ, List.getElem?_cons_zero]; rfl)
               · rfl
               simp only [Act.put, List.setIfInBounds_toArray, List.set_cons_zero, List.set_cons_succ])
              (apply ab_skip
               · (simp only [List.getElem?_toArray, List.getElem?_cons_succ, List.getElem?_cons_zero]; rfl)
               · rfl
               simp only [Act.put, List.setIfInBounds_toArray, List.set_cons_zero, List.set_cons_succ])
              (apply ab_skip
               · (simp only [List.getElem?_toArray, List.getElem?_cons_succ, List.getElem?_cons_zero]; rfl)
               · rfl
               simp only [Act.put, List.setIfInBounds_toArray, List.set_cons_zero, List.set_cons_succ])
              (apply ab_pure
               · (simp only [List.getElem?_toArray, List.getElem?_cons_succ, List.getElem?_cons_zero]; rfl)
               · rfl
               · (intro wS hS; go_simp; try exact rfl)
               simp only [Act.put, List.setIfInBounds_toArray, List.set_cons_zero, List.set_cons_succ])
              refine ab_end ?_
              intro wE hE
              have K2 := Lib.hid hE
              clear hE
              go_wp2_with fail
              go_meet
              case rel => exact ⟨congrArg Value.bool hq.symm, K2⟩
          case rest =>
            obtain ⟨rfl, K2⟩ := hcut
            have hput : Pm.IsSort (ps.take (i + 1)) (if xs[k]? = some y then xs else xs.take k ++ y :: xs.drop k) := by
              rw [Hhtk.out, ← ins_at y xs k (by rw [← Hhm.out]; exact hkm) HL.out HH.out]
              exact Pm.isSort_put HI.out y Hhr.out.symm
            clear K
            by_cases heq : xs[k]? = some y
            · rw [if_pos heq] at hput
              have HI2 := Lib.hid hput
              have HO2 := Lib.hid (own_below HhO1.out K2.out.below)
              have hb2 := Hhb01.out.trans (K2.out.below.mono (Nat.le_trans hws hws1))
              rw [decide_eq_true heq]
              clear hput heq
              go_wp2_with fail
              go_roundw
              case rel => exact ⟨i + 1, xs, by omega, by go_num, by have := Hhm.out; omega, by rw [← Hhm.out]; exact HO2, HI2, hb2⟩
              case measure => simp [intOf]; omega
            · rw [if_neg heq] at hput
              have HI2 := Lib.hid hput
              rw [decide_eq_false heq]
              clear hput heq
              go_upto_region 10 with fail
              obtain ⟨i0, hi0, hz0, hz1, hz2⟩ := info_parts info_str
              have hlen2 : (xs.take k ++ y :: xs.drop k).length = m + 1 := by have := Hhm.out; simp; omega
              have hpv : pv (xs.take k) ++ [Value.string x] ++ pv (xs.drop k) = pv (xs.take k ++ y :: xs.drop k) := by rw [Hhx.out]; simp [pv]
              have HFIN : ∀ (v : Value) (W : World), W.ownsRow w1.heap.size 9 1 v (k + 1 + (m - k)) (pv (xs.take k) ++ [Value.string x] ++ pv (xs.drop k)) → W.ownsRow w.heap.size 9 1 v (m + 1) (pv (xs.take k ++ y :: xs.drop k)) := fun v W h => by
                rw [hpv, show k + 1 + (m - k) = m + 1 by omega] at h
                exact own_base h (Nat.le_trans hws hws1)
              have HFB : ∀ W : World, Below w1.heap.size w1 W → Below w.heap.size w W := fun W h => Hhb01.out.trans (h.mono (Nat.le_trans hws hws1))
              have Hhlen2 := Lib.hid hlen2
              have Hhpv := Lib.hid hpv
              have HHFIN := Lib.hid HFIN
              have HHFB := Lib.hid HFB
              clear hlen2 hpv HFIN HFB
              rcases HhO1.out.2 with ⟨he, hm0⟩ | ⟨g, cap, cur, he, _, _, hcap, _⟩
              · injection he with he e2 e3
                subst he
                subst e3
                subst hm0
                clear e2
                obtain rfl : k = 0 := by omega
                have H54 : Hid (RdS (.slice none 0 0) 0 (pv (xs.take 0)) wr.heap.size w1) := ⟨by simp [pv], .inl ⟨rfl, rfl⟩⟩
                have hx0 : xs = [] := List.eq_nil_of_length_eq_zero Hhm.out.symm
                have H64 : Hid (RdS (.slice none 0 0) (0 - 0) (pv (xs.drop 0)) wr.heap.size w1) := ⟨by rw [hx0]; simp [pv], .inl ⟨rfl, rfl⟩⟩
                clear hx0 HhO1
                refine wp_region_firsts (fun wS => Below w1.heap.size w1 wS) [1, 2, 3, 5, 6, 7, 8, 11, 12, 13] 6 #[false, true, true, true, false, true, true, true, true, false, false, true, true, true, false, false] (by kernel_rfl) (by kernel_rfl) (by kernel_rfl) (by kernel_rfl) K2.out.below.drew ?_
                have hW := K2.out.below.drew
                clear K2
                generalize World.drew _ = WW at *
                (apply my_pure
                 · (simp only [List.getElem?_toArray, List.getElem?_cons_succ, List.getElem?_cons_zero]; rfl)
                 · rfl
                 · (intro wS hS; go_simp; try exact rfl)
                 simp only [Act.put, List.setIfInBounds_toArray, List.set_cons_zero, List.set_cons_succ])
                (apply my_pure
                 · (simp only [List.getElem?_toArray, List.getElem?_cons_succ, List.getElem?_cons_zero]; rfl)
                 · rfl
                 · (intro wS hS; go_simp; try exact rfl)
                 simp only [Act.put, List.setIfInBounds_toArray, List.set_cons_zero, List.set_cons_succ])
                (apply my_pure
                 · (simp only [List.getElem?_toArray, List.getElem?_cons_succ, List.getElem?_cons_zero]; rfl)
                 · rfl
                 · (intro wS hS; go_simp; try exact rfl)
                 simp only [Act.put, List.setIfInBounds_toArray, List.set_cons_zero, List.set_cons_succ])
                (apply my_pure
                 · (simp only [List.getElem?_toArray, List.getElem?_cons_succ, List.getElem?_cons_zero]; rfl)
                 · rfl
                 · (intro wS hS; go_simp; try exact rfl)
                 simp only [Act.put, List.setIfInBounds_toArray, List.set_cons_zero, List.set_cons_succ])
                (apply my_pure
                 · (simp only [List.getElem?_toArray, List.getElem?_cons_succ, List.getElem?_cons_zero]; rfl)
                 · rfl
                 · (intro wS hS; go_simp; try exact rfl)
                 simp only [Act.put, List.setIfInBounds_toArray, List.set_cons_zero, List.set_cons_succ])
                (apply my_pure
                 · (simp only [List.getElem?_toArray, List.getElem?_cons_succ, List.getElem?_cons_zero]; rfl)
                 · rfl
                 · (intro wS hS; go_simp; try exact rfl)
                 simp only [Act.put, List.setIfInBounds_toArray, List.set_cons_zero, List.set_cons_succ])
                (apply my_pure
                 · (simp only [List.getElem?_toArray, List.getElem?_cons_succ, List.getElem?_cons_zero]; rfl)
                 · rfl
                 · (intro wS hS; have hc := HX.out wS hS; go_simp; try exact rfl)
                 simp only [Act.put, List.setIfInBounds_toArray, List.set_cons_zero, List.set_cons_succ])
                (apply my_pure
                 · (simp only [List.getElem?_toArray, List.getElem?_cons_succ, List.getElem?_cons_zero]; rfl)
                 · rfl
                 · (intro wS hS; go_simp; try exact rfl)
                 simp only [Act.put, List.setIfInBounds_toArray, List.set_cons_zero, List.set_cons_succ])
                (apply my_pure
                 · (simp only [List.getElem?_toArray, List.getElem?_cons_succ, List.getElem?_cons_zero]; rfl)
                 · rfl
                 · (intro wS hS; go_simp; try exact rfl)
                 simp only [Act.put, List.setIfInBounds_toArray, List.set_cons_zero, List.set_cons_succ])
                (apply my_pure
                 · (simp only [List.getElem?_toArray, List.getElem?_cons_succ, List.getElem?_cons_zero]; rfl)
                 · rfl
                 · (intro wS hS; go_simp; try exact rfl)
                 simp only [Act.put, List.setIfInBounds_toArray, List.set_cons_zero, List.set_cons_succ])
                refine my_end ?_
                refine my_any (rs := [0, 9]) (by kernel_rfl) (by simp) ?_
                (apply my_loud
                 · (simp only [List.getElem?_toArray, List.getElem?_cons_succ, List.getElem?_cons_zero]; rfl)
                 · (go_wp2_with fail
                    have hW' := hW.alloc (hW.size) (.cells #[] 9)
                    have hO := owns_empty WW w1.heap.size 9 hW.size
                    have hq51 : WW.heap.size < (WW.alloc (.cells #[] 9)).heap.size := by rw [size_alloc]; omega
                    refine ⟨hW', ?_⟩
                    try simp only [Act.put, List.setIfInBounds_toArray, List.set_cons_zero, List.set_cons_succ]
                    generalize WW.alloc (.cells #[] 9) = WX1 at *
                    generalize WW.heap.size = q51 at *
                    clear hW
                    have hW := hW'
                    clear hW'
                    clear WW
                    refine my_any (rs := [4, 9]) (by kernel_rfl) (by simp) ?_
                    (apply my_loud
                     · (simp only [List.getElem?_toArray, List.getElem?_cons_succ, List.getElem?_cons_zero]; rfl)
                     · (go_wp2_with (refine kl_append_rdg rfl _ _ 56 rfl w1.heap.size 9 i0 (.string ⟨#[]⟩) 16 Tryd.underlying56 hi0 hz0 hz1 hz2 rfl _ 0 [] rfl hO _ 0 (pv (xs.take 0)) _ rfl (H54.out.below (hW.mono hws1)) (pv_one _) (by omega) (by omega) hW.size ?_; intro v55 WX2 hO' hg hbx)
                        have hW' := hW.trans hbx
                        refine ⟨hW', ?_⟩
                        try simp only [Act.put, List.setIfInBounds_toArray, List.set_cons_zero, List.set_cons_succ]
                        rw [List.nil_append, Nat.zero_add] at hO'
                        clear hW hO hg hbx
                        try clear hq51
                        have hW := hW'
                        clear hW'
                        have hO := hO'
                        clear hO'
                        clear WX1
                        refine my_any (rs := [9]) (by kernel_rfl) (by simp) ?_
                        (apply my_loud
                         · (simp only [List.getElem?_toArray, List.getElem?_cons_succ, List.getElem?_cons_zero]; rfl)
                         · (go_wp2_with fail
                            have hW' := hW.alloc (hW.size) (.cells #[.string x] 9)
                            have h60 : (WX2.alloc (.cells #[.string x] 9)).heap[WX2.heap.size]? = some (.cells #[.string x] 9 (0, 0)) := blk_new _ _
                            have hO' := own_below hO ((Below.refl _ WX2).alloc (Nat.le_refl _) (.cells #[.string x] 9))
                            refine ⟨hW', ?_⟩
                            try simp only [Act.put, List.setIfInBounds_toArray, List.set_cons_zero, List.set_cons_succ]
                            generalize WX2.alloc (.cells #[.string x] 9) = WX3 at *
                            generalize WX2.heap.size = q9 at *
                            clear hW hO
                            have hW := hW'
                            clear hW'
                            have hO := hO'
                            clear hO'
                            clear WX2
                            refine my_any (rs := [10]) (by kernel_rfl) (by simp) ?_
                            (apply my_loud
                             · (simp only [List.getElem?_toArray, List.getElem?_cons_succ, List.getElem?_cons_zero]; rfl)
                             · (have hr60 := rd_one h60
                                go_wp2_with (refine kl_append_rdg rfl _ _ 56 rfl w1.heap.size 9 i0 (.string ⟨#[]⟩) 16 Tryd.underlying56 hi0 hz0 hz1 hz2 rfl _ 0 (pv (xs.take 0)) rfl hO _ 1 [Value.string x] _ rfl hr60 (by intro u hu; obtain rfl := List.mem_singleton.1 hu; rfl) (by omega) (by omega) hW.size ?_; intro v61 WX4 hO' hg hbx)
                                have hW' := hW.trans hbx
                                refine ⟨hW', ?_⟩
                                try simp only [Act.put, List.setIfInBounds_toArray, List.set_cons_zero, List.set_cons_succ]
                                clear hW hO hg hbx h60 hr60
                                have hW := hW'
                                clear hW'
                                have hO := hO'
                                clear hO'
                                clear WX3
                                refine my_any (rs := [14]) (by kernel_rfl) (by simp) ?_
                                (apply my_loud
                                 · (simp only [List.getElem?_toArray, List.getElem?_cons_succ, List.getElem?_cons_zero]; rfl)
                                 · (go_wp2_with (refine kl_append_rdg rfl _ _ 56 rfl w1.heap.size 9 i0 (.string ⟨#[]⟩) 16 Tryd.underlying56 hi0 hz0 hz1 hz2 rfl _ (0 + 1) (pv (xs.take 0) ++ [Value.string x]) rfl hO _ (0 - 0) (pv (xs.drop 0)) _ rfl (H64.out.below (hW.mono hws1)) (pv_one _) (by omega) (by omega) hW.size ?_; intro v65 WX5 hO' hg hbx)
                                    have hW' := hW.trans hbx
                                    refine ⟨hW', ?_⟩
                                    try simp only [Act.put, List.setIfInBounds_toArray, List.set_cons_zero, List.set_cons_succ]
                                    clear hW hO hg hbx
                                    have hW := hW'
                                    clear hW'
                                    have hO := hO'
                                    clear hO'
                                    clear WX4
                                    refine my_any (rs := [15]) (by kernel_rfl) (by simp) ?_
                                    (apply my_loud
                                     · (simp only [List.getElem?_toArray, List.getElem?_cons_succ, List.getElem?_cons_zero]; rfl)
                                     · (go_wp2_with fail
                                        refine ⟨hW, ?_⟩
                                        try simp only [Act.put, List.setIfInBounds_toArray, List.set_cons_zero, List.set_cons_succ]
                                        refine my_done (by kernel_rfl) ?_ _
                                        have HOE := Lib.hid hO
                                        have HBE := Lib.hid hW
                                        clear hO hW
                                        go_wp2_with fail
                                        go_roundw
                                        case rel => exact ⟨i + 1, _, by omega, by go_num, by rw [Hhlen2.out]; omega, by rw [Hhlen2.out]; exact HHFIN.out _ _ HOE.out, HI2, HHFB.out _ HBE.out⟩
                                        case measure => simp [intOf]; omega)
                                     skip)
                                    exact my_nil)
                                 skip)
                                exact my_nil)
                             skip)
                            exact my_nil)
                         skip)
                        exact my_nil)
                     skip)
                    (apply my_loud
                     · (simp only [List.getElem?_toArray, List.getElem?_cons_succ, List.getElem?_cons_zero]; rfl)
                     · (go_wp2_with fail
                        have hW' := hW.alloc (hW.size) (.cells #[.string x] 9)
                        have h60 : (WX1.alloc (.cells #[.string x] 9)).heap[WX1.heap.size]? = some (.cells #[.string x] 9 (0, 0)) := blk_new _ _
                        have hO' := own_below hO ((Below.refl _ WX1).alloc (Nat.le_refl _) (.cells #[.string x] 9))
                        have hqq : some WX1.heap.size ≠ (Value.slice (some ⟨q51, 0, none⟩) 0 0).ownBlock := by intro h; injection h with h; exact absurd (show WX1.heap.size = q51 from h) (by omega)
                        clear hq51
                        refine ⟨hW', ?_⟩
                        try simp only [Act.put, List.setIfInBounds_toArray, List.set_cons_zero, List.set_cons_succ]
                        generalize WX1.alloc (.cells #[.string x] 9) = WX7 at *
                        generalize WX1.heap.size = q9 at *
                        clear hW hO
                        have hW := hW'
                        clear hW'
                        have hO := hO'
                        clear hO'
                        clear WX1
                        refine my_any (rs := [4]) (by kernel_rfl) (by simp) ?_
                        (apply my_loud
                         · (simp only [List.getElem?_toArray, List.getElem?_cons_succ, List.getElem?_cons_zero]; rfl)
                         · (go_wp2_with (refine kl_append_rdg rfl _ _ 56 rfl w1.heap.size 9 i0 (.string ⟨#[]⟩) 16 Tryd.underlying56 hi0 hz0 hz1 hz2 rfl _ 0 [] rfl hO _ 0 (pv (xs.take 0)) _ rfl (H54.out.below (hW.mono hws1)) (pv_one _) (by omega) (by omega) hW.size ?_; intro v55 WX8 hO' hg hbx)
                            have hW' := hW.trans hbx
                            have h60' : WX8.heap[q9]? = some (.cells #[.string x] 9 (0, 0)) := by rw [hg.block q9 (lt_of_block h60) hqq]; exact h60
                            refine ⟨hW', ?_⟩
                            try simp only [Act.put, List.setIfInBounds_toArray, List.set_cons_zero, List.set_cons_succ]
                            rw [List.nil_append, Nat.zero_add] at hO'
                            clear hW hO hg hbx h60 hqq
                            try clear hq51
                            have hW := hW'
                            clear hW'
                            have hO := hO'
                            clear hO'
                            have h60 := h60'
                            clear h60'
                            clear WX7
                            refine my_any (rs := [10]) (by kernel_rfl) (by simp) ?_
                            (apply my_loud
                             · (simp only [List.getElem?_toArray, List.getElem?_cons_succ, List.getElem?_cons_zero]; rfl)
                             · (have hr60 := rd_one h60
                                go_wp2_with (refine kl_append_rdg rfl _ _ 56 rfl w1.heap.size 9 i0 (.string ⟨#[]⟩) 16 Tryd.underlying56 hi0 hz0 hz1 hz2 rfl _ 0 (pv (xs.take 0)) rfl hO _ 1 [Value.string x] _ rfl hr60 (by intro u hu; obtain rfl := List.mem_singleton.1 hu; rfl) (by omega) (by omega) hW.size ?_; intro v61 WX9 hO' hg hbx)
                                have hW' := hW.trans hbx
                                refine ⟨hW', ?_⟩
                                try simp only [Act.put, List.setIfInBounds_toArray, List.set_cons_zero, List.set_cons_succ]
                                clear hW hO hg hbx h60 hr60
                                have hW := hW'
                                clear hW'
                                have hO := hO'
                                clear hO'
                                clear WX8
                                refine my_any (rs := [14]) (by kernel_rfl) (by simp) ?_
                                (apply my_loud
                                 · (simp only [List.getElem?_toArray, List.getElem?_cons_succ, List.getElem?_cons_zero]; rfl)
                                 · (go_wp2_with (refine kl_append_rdg rfl _ _ 56 rfl w1.heap.size 9 i0 (.string ⟨#[]⟩) 16 Tryd.underlying56 hi0 hz0 hz1 hz2 rfl _ (0 + 1) (pv (xs.take 0) ++ [Value.string x]) rfl hO _ (0 - 0) (pv (xs.drop 0)) _ rfl (H64.out.below (hW.mono hws1)) (pv_one _) (by omega) (by omega) hW.size ?_; intro v65 WX10 hO' hg hbx)
                                    have hW' := hW.trans hbx
                                    refine ⟨hW', ?_⟩
                                    try simp only [Act.put, List.setIfInBounds_toArray, List.set_cons_zero, List.set_cons_succ]
                                    clear hW hO hg hbx
                                    have hW := hW'
                                    clear hW'
                                    have hO := hO'
                                    clear hO'
                                    clear WX9
                                    refine my_any (rs := [15]) (by kernel_rfl) (by simp) ?_
                                    (apply my_loud
                                     · (simp only [List.getElem?_toArray, List.getElem?_cons_succ, List.getElem?_cons_zero]; rfl)
                                     · (go_wp2_with fail
                                        refine ⟨hW, ?_⟩
                                        try simp only [Act.put, List.setIfInBounds_toArray, List.set_cons_zero, List.set_cons_succ]
                                        refine my_done (by kernel_rfl) ?_ _
                                        have HOE := Lib.hid hO
                                        have HBE := Lib.hid hW
                                        clear hO hW
                                        go_wp2_with fail
                                        go_roundw
                                        case rel => exact ⟨i + 1, _, by omega, by go_num, by rw [Hhlen2.out]; omega, by rw [Hhlen2.out]; exact HHFIN.out _ _ HOE.out, HI2, HHFB.out _ HBE.out⟩
                                        case measure => simp [intOf]; omega)
                                     skip)
                                    exact my_nil)
                                 skip)
                                exact my_nil)
                             skip)
                            exact my_nil)
                         skip)
                        exact my_nil)
                     skip)
                    exact my_nil)
                 skip)
                (apply my_loud
                 · (simp only [List.getElem?_toArray, List.getElem?_cons_succ, List.getElem?_cons_zero]; rfl)
                 · (go_wp2_with fail
                    have hW' := hW.alloc (hW.size) (.cells #[.string x] 9)
                    have h60 : (WW.alloc (.cells #[.string x] 9)).heap[WW.heap.size]? = some (.cells #[.string x] 9 (0, 0)) := blk_new _ _
                    refine ⟨hW', ?_⟩
                    try simp only [Act.put, List.setIfInBounds_toArray, List.set_cons_zero, List.set_cons_succ]
                    generalize WW.alloc (.cells #[.string x] 9) = WX12 at *
                    generalize WW.heap.size = q9 at *
                    clear hW
                    have hW := hW'
                    clear hW'
                    clear WW
                    refine my_any (rs := [0]) (by kernel_rfl) (by simp) ?_
                    (apply my_loud
                     · (simp only [List.getElem?_toArray, List.getElem?_cons_succ, List.getElem?_cons_zero]; rfl)
                     · (go_wp2_with fail
                        have hW' := hW.alloc (hW.size) (.cells #[] 9)
                        have hO := owns_empty WX12 w1.heap.size 9 hW.size
                        have hq51 : WX12.heap.size < (WX12.alloc (.cells #[] 9)).heap.size := by rw [size_alloc]; omega
                        have h60' : (WX12.alloc (.cells #[] 9)).heap[q9]? = some (.cells #[.string x] 9 (0, 0)) := blk_old _ _ h60
                        have hqq : some q9 ≠ (Value.slice (some ⟨WX12.heap.size, 0, none⟩) 0 0).ownBlock := by have := lt_of_block h60; intro h; injection h with h; exact absurd (show q9 = WX12.heap.size from h) (by omega)
                        refine ⟨hW', ?_⟩
                        try simp only [Act.put, List.setIfInBounds_toArray, List.set_cons_zero, List.set_cons_succ]
                        generalize WX12.alloc (.cells #[] 9) = WX13 at *
                        generalize WX12.heap.size = q51 at *
                        clear hW h60
                        have hW := hW'
                        clear hW'
                        have h60 := h60'
                        clear h60'
                        clear WX12
                        refine my_any (rs := [4]) (by kernel_rfl) (by simp) ?_
                        (apply my_loud
                         · (simp only [List.getElem?_toArray, List.getElem?_cons_succ, List.getElem?_cons_zero]; rfl)
                         · (go_wp2_with (refine kl_append_rdg rfl _ _ 56 rfl w1.heap.size 9 i0 (.string ⟨#[]⟩) 16 Tryd.underlying56 hi0 hz0 hz1 hz2 rfl _ 0 [] rfl hO _ 0 (pv (xs.take 0)) _ rfl (H54.out.below (hW.mono hws1)) (pv_one _) (by omega) (by omega) hW.size ?_; intro v55 WX14 hO' hg hbx)
                            have hW' := hW.trans hbx
                            have h60' : WX14.heap[q9]? = some (.cells #[.string x] 9 (0, 0)) := by rw [hg.block q9 (lt_of_block h60) hqq]; exact h60
                            refine ⟨hW', ?_⟩
                            try simp only [Act.put, List.setIfInBounds_toArray, List.set_cons_zero, List.set_cons_succ]
                            rw [List.nil_append, Nat.zero_add] at hO'
                            clear hW hO hg hbx h60 hqq
                            try clear hq51
                            have hW := hW'
                            clear hW'
                            have hO := hO'
                            clear hO'
                            have h60 := h60'
                            clear h60'
                            clear WX13
                            refine my_any (rs := [10]) (by kernel_rfl) (by simp) ?_
                            (apply my_loud
                             · (simp only [List.getElem?_toArray, List.getElem?_cons_succ, List.getElem?_cons_zero]; rfl)
                             · (have hr60 := rd_one h60
                                go_wp2_with (refine kl_append_rdg rfl _ _ 56 rfl w1.heap.size 9 i0 (.string ⟨#[]⟩) 16 Tryd.underlying56 hi0 hz0 hz1 hz2 rfl _ 0 (pv (xs.take 0)) rfl hO _ 1 [Value.string x] _ rfl hr60 (by intro u hu; obtain rfl := List.mem_singleton.1 hu; rfl) (by omega) (by omega) hW.size ?_; intro v61 WX15 hO' hg hbx)
                                have hW' := hW.trans hbx
                                refine ⟨hW', ?_⟩
                                try simp only [Act.put, List.setIfInBounds_toArray, List.set_cons_zero, List.set_cons_succ]
                                clear hW hO hg hbx h60 hr60
                                have hW := hW'
                                clear hW'
                                have hO := hO'
                                clear hO'
                                clear WX14
                                refine my_any (rs := [14]) (by kernel_rfl) (by simp) ?_
                                (apply my_loud
                                 · (simp only [List.getElem?_toArray, List.getElem?_cons_succ, List.getElem?_cons_zero]; rfl)
                                 · (go_wp2_with (refine kl_append_rdg rfl _ _ 56 rfl w1.heap.size 9 i0 (.string ⟨#[]⟩) 16 Tryd.underlying56 hi0 hz0 hz1 hz2 rfl _ (0 + 1) (pv (xs.take 0) ++ [Value.string x]) rfl hO _ (0 - 0) (pv (xs.drop 0)) _ rfl (H64.out.below (hW.mono hws1)) (pv_one _) (by omega) (by omega) hW.size ?_; intro v65 WX16 hO' hg hbx)
                                    have hW' := hW.trans hbx
                                    refine ⟨hW', ?_⟩
                                    try simp only [Act.put, List.setIfInBounds_toArray, List.set_cons_zero, List.set_cons_succ]
                                    clear hW hO hg hbx
                                    have hW := hW'
                                    clear hW'
                                    have hO := hO'
                                    clear hO'
                                    clear WX15
                                    refine my_any (rs := [15]) (by kernel_rfl) (by simp) ?_
                                    (apply my_loud
                                     · (simp only [List.getElem?_toArray, List.getElem?_cons_succ, List.getElem?_cons_zero]; rfl)
                                     · (go_wp2_with fail
                                        refine ⟨hW, ?_⟩
                                        try simp only [Act.put, List.setIfInBounds_toArray, List.set_cons_zero, List.set_cons_succ]
                                        refine my_done (by kernel_rfl) ?_ _
                                        have HOE := Lib.hid hO
                                        have HBE := Lib.hid hW
                                        clear hO hW
                                        go_wp2_with fail
                                        go_roundw
                                        case rel => exact ⟨i + 1, _, by omega, by go_num, by rw [Hhlen2.out]; omega, by rw [Hhlen2.out]; exact HHFIN.out _ _ HOE.out, HI2, HHFB.out _ HBE.out⟩
                                        case measure => simp [intOf]; omega)
                                     skip)
                                    exact my_nil)
                                 skip)
                                exact my_nil)
                             skip)
                            exact my_nil)
                         skip)
                        exact my_nil)
                     skip)
                    exact my_nil)
                 skip)
                exact my_nil
              · injection he with he e2 e3
                subst he
                have hmc : m ≤ c' := by omega
                clear e2 e3
                have H54 := Lib.hid (rd_take Hhrd0.out hkm)
                obtain ⟨A2, hA2⟩ : ∃ A2 : Option Addr, (if c' = k then (some ⟨g, 0, none⟩ : Option Addr) else some ⟨g, 0 + k, none⟩) = A2 := ⟨_, rfl⟩
                have H64 := Lib.hid (rd_drop Hhrd0.out hkm hA2)
                have hkc : k ≤ c' := by omega
                rw [Nat.zero_add] at hA2
                clear HhO1
                refine wp_region_firsts (fun wS => Below w1.heap.size w1 wS) [1, 2, 3, 5, 6, 7, 8, 11, 12, 13] 6 #[false, true, true, true, false, true, true, true, true, false, false, true, true, true, false, false] (by kernel_rfl) (by kernel_rfl) (by kernel_rfl) (by kernel_rfl) K2.out.below.drew ?_
                have hW := K2.out.below.drew
                clear K2
                generalize World.drew _ = WW at *
                (apply my_pure
                 · (simp only [List.getElem?_toArray, List.getElem?_cons_succ, List.getElem?_cons_zero]; rfl)
                 · rfl
                 · (intro wS hS; go_simp; try exact rfl)
                 simp only [Act.put, List.setIfInBounds_toArray, List.set_cons_zero, List.set_cons_succ])
                (apply my_pure
                 · (simp only [List.getElem?_toArray, List.getElem?_cons_succ, List.getElem?_cons_zero]; rfl)
                 · rfl
                 · (intro wS hS; go_simp; try exact rfl)
                 simp only [Act.put, List.setIfInBounds_toArray, List.set_cons_zero, List.set_cons_succ])
                (apply my_pure
                 · (simp only [List.getElem?_toArray, List.getElem?_cons_succ, List.getElem?_cons_zero]; rfl)
                 · rfl
                 · (intro wS hS; go_simp; try exact rfl)
                 simp only [Act.put, List.setIfInBounds_toArray, List.set_cons_zero, List.set_cons_succ])
                (apply my_pure
                 · (simp only [List.getElem?_toArray, List.getElem?_cons_succ, List.getElem?_cons_zero]; rfl)
                 · rfl
                 · (intro wS hS; go_simp; try exact rfl)
                 simp only [Act.put, List.setIfInBounds_toArray, List.set_cons_zero, List.set_cons_succ])
                (apply my_pure
                 · (simp only [List.getElem?_toArray, List.getElem?_cons_succ, List.getElem?_cons_zero]; rfl)
                 · rfl
                 · (intro wS hS; go_simp; try exact rfl)
                 simp only [Act.put, List.setIfInBounds_toArray, List.set_cons_zero, List.set_cons_succ])
                (apply my_pure
                 · (simp only [List.getElem?_toArray, List.getElem?_cons_succ, List.getElem?_cons_zero]; rfl)
                 · rfl
                 · (intro wS hS; go_simp; try exact rfl)
                 simp only [Act.put, List.setIfInBounds_toArray, List.set_cons_zero, List.set_cons_succ])
                (apply my_pure
                 · (simp only [List.getElem?_toArray, List.getElem?_cons_succ, List.getElem?_cons_zero]; rfl)
                 · rfl
                 · (intro wS hS; have hc := HX.out wS hS; go_simp; try exact rfl)
                 simp only [Act.put, List.setIfInBounds_toArray, List.set_cons_zero, List.set_cons_succ])
                (apply my_pure
                 · (simp only [List.getElem?_toArray, List.getElem?_cons_succ, List.getElem?_cons_zero]; rfl)
                 · rfl
                 · (intro wS hS; go_simp; try exact rfl)
                 simp only [Act.put, List.setIfInBounds_toArray, List.set_cons_zero, List.set_cons_succ])
                (apply my_pure
                 · (simp only [List.getElem?_toArray, List.getElem?_cons_succ, List.getElem?_cons_zero]; rfl)
                 · rfl
                 · (intro wS hS; go_simp; try exact rfl)
                 simp only [Act.put, List.setIfInBounds_toArray, List.set_cons_zero, List.set_cons_succ])
                (apply my_pure
                 · (simp only [List.getElem?_toArray, List.getElem?_cons_succ, List.getElem?_cons_zero]; rfl)
                 · rfl
                 · (intro wS hS; go_simp; try exact rfl)
                 simp only [Act.put, List.setIfInBounds_toArray, List.set_cons_zero, List.set_cons_succ])
                refine my_end ?_
                refine my_any (rs := [0, 9]) (by kernel_rfl) (by simp) ?_
                (apply my_loud
                 · (simp only [List.getElem?_toArray, List.getElem?_cons_succ, List.getElem?_cons_zero]; rfl)
                 · (go_wp2_with fail
                    have hW' := hW.alloc (hW.size) (.cells #[] 9)
                    have hO := owns_empty WW w1.heap.size 9 hW.size
                    have hq51 : WW.heap.size < (WW.alloc (.cells #[] 9)).heap.size := by rw [size_alloc]; omega
                    refine ⟨hW', ?_⟩
                    try simp only [Act.put, List.setIfInBounds_toArray, List.set_cons_zero, List.set_cons_succ]
                    generalize WW.alloc (.cells #[] 9) = WX1 at *
                    generalize WW.heap.size = q51 at *
                    clear hW
                    have hW := hW'
                    clear hW'
                    clear WW
                    refine my_any (rs := [4, 9]) (by kernel_rfl) (by simp) ?_
                    (apply my_loud
                     · (simp only [List.getElem?_toArray, List.getElem?_cons_succ, List.getElem?_cons_zero]; rfl)
                     · (go_wp2_with (refine kl_append_rdg rfl _ _ 56 rfl w1.heap.size 9 i0 (.string ⟨#[]⟩) 16 Tryd.underlying56 hi0 hz0 hz1 hz2 rfl _ 0 [] rfl hO _ k (pv (xs.take k)) _ rfl (H54.out.below (hW.mono hws1)) (pv_one _) (by omega) (by omega) hW.size ?_; intro v55 WX2 hO' hg hbx)
                        have hW' := hW.trans hbx
                        refine ⟨hW', ?_⟩
                        try simp only [Act.put, List.setIfInBounds_toArray, List.set_cons_zero, List.set_cons_succ]
                        rw [List.nil_append, Nat.zero_add] at hO'
                        clear hW hO hg hbx
                        try clear hq51
                        have hW := hW'
                        clear hW'
                        have hO := hO'
                        clear hO'
                        clear WX1
                        refine my_any (rs := [9]) (by kernel_rfl) (by simp) ?_
                        (apply my_loud
                         · (simp only [List.getElem?_toArray, List.getElem?_cons_succ, List.getElem?_cons_zero]; rfl)
                         · (go_wp2_with fail
                            have hW' := hW.alloc (hW.size) (.cells #[.string x] 9)
                            have h60 : (WX2.alloc (.cells #[.string x] 9)).heap[WX2.heap.size]? = some (.cells #[.string x] 9 (0, 0)) := blk_new _ _
                            have hO' := own_below hO ((Below.refl _ WX2).alloc (Nat.le_refl _) (.cells #[.string x] 9))
                            refine ⟨hW', ?_⟩
                            try simp only [Act.put, List.setIfInBounds_toArray, List.set_cons_zero, List.set_cons_succ]
                            generalize WX2.alloc (.cells #[.string x] 9) = WX3 at *
                            generalize WX2.heap.size = q9 at *
                            clear hW hO
                            have hW := hW'
                            clear hW'
                            have hO := hO'
                            clear hO'
                            clear WX2
                            refine my_any (rs := [10]) (by kernel_rfl) (by simp) ?_
                            (apply my_loud
                             · (simp only [List.getElem?_toArray, List.getElem?_cons_succ, List.getElem?_cons_zero]; rfl)
                             · (have hr60 := rd_one h60
                                go_wp2_with (refine kl_append_rdg rfl _ _ 56 rfl w1.heap.size 9 i0 (.string ⟨#[]⟩) 16 Tryd.underlying56 hi0 hz0 hz1 hz2 rfl _ k (pv (xs.take k)) rfl hO _ 1 [Value.string x] _ rfl hr60 (by intro u hu; obtain rfl := List.mem_singleton.1 hu; rfl) (by omega) (by omega) hW.size ?_; intro v61 WX4 hO' hg hbx)
                                have hW' := hW.trans hbx
                                refine ⟨hW', ?_⟩
                                try simp only [Act.put, List.setIfInBounds_toArray, List.set_cons_zero, List.set_cons_succ]
                                clear hW hO hg hbx h60 hr60
                                have hW := hW'
                                clear hW'
                                have hO := hO'
                                clear hO'
                                clear WX3
                                refine my_any (rs := [14]) (by kernel_rfl) (by simp) ?_
                                (apply my_loud
                                 · (simp only [List.getElem?_toArray, List.getElem?_cons_succ, List.getElem?_cons_zero]; rfl)
                                 · (go_wp2_with (refine kl_append_rdg rfl _ _ 56 rfl w1.heap.size 9 i0 (.string ⟨#[]⟩) 16 Tryd.underlying56 hi0 hz0 hz1 hz2 rfl _ (k + 1) (pv (xs.take k) ++ [Value.string x]) rfl hO _ (m - k) (pv (xs.drop k)) _ rfl (H64.out.below (hW.mono hws1)) (pv_one _) (by omega) (by omega) hW.size ?_; intro v65 WX5 hO' hg hbx)
                                    have hW' := hW.trans hbx
                                    refine ⟨hW', ?_⟩
                                    try simp only [Act.put, List.setIfInBounds_toArray, List.set_cons_zero, List.set_cons_succ]
                                    clear hW hO hg hbx
                                    have hW := hW'
                                    clear hW'
                                    have hO := hO'
                                    clear hO'
                                    clear WX4
                                    refine my_any (rs := [15]) (by kernel_rfl) (by simp) ?_
                                    (apply my_loud
                                     · (simp only [List.getElem?_toArray, List.getElem?_cons_succ, List.getElem?_cons_zero]; rfl)
                                     · (go_wp2_with fail
                                        refine ⟨hW, ?_⟩
                                        try simp only [Act.put, List.setIfInBounds_toArray, List.set_cons_zero, List.set_cons_succ]
                                        refine my_done (by kernel_rfl) ?_ _
                                        have HOE := Lib.hid hO
                                        have HBE := Lib.hid hW
                                        clear hO hW
                                        go_wp2_with fail
                                        go_roundw
                                        case rel => exact ⟨i + 1, _, by omega, by go_num, by rw [Hhlen2.out]; omega, by rw [Hhlen2.out]; exact HHFIN.out _ _ HOE.out, HI2, HHFB.out _ HBE.out⟩
                                        case measure => simp [intOf]; omega)
                                     skip)
                                    exact my_nil)
                                 skip)
                                exact my_nil)
                             skip)
                            exact my_nil)
                         skip)
                        exact my_nil)
                     skip)
                    (apply my_loud
                     · (simp only [List.getElem?_toArray, List.getElem?_cons_succ, List.getElem?_cons_zero]; rfl)
                     · (go_wp2_with fail
                        have hW' := hW.alloc (hW.size) (.cells #[.string x] 9)
                        have h60 : (WX1.alloc (.cells #[.string x] 9)).heap[WX1.heap.size]? = some (.cells #[.string x] 9 (0, 0)) := blk_new _ _
                        have hO' := own_below hO ((Below.refl _ WX1).alloc (Nat.le_refl _) (.cells #[.string x] 9))
                        have hqq : some WX1.heap.size ≠ (Value.slice (some ⟨q51, 0, none⟩) 0 0).ownBlock := by intro h; injection h with h; exact absurd (show WX1.heap.size = q51 from h) (by omega)
                        clear hq51
                        refine ⟨hW', ?_⟩
                        try simp only [Act.put, List.setIfInBounds_toArray, List.set_cons_zero, List.set_cons_succ]
                        generalize WX1.alloc (.cells #[.string x] 9) = WX7 at *
                        generalize WX1.heap.size = q9 at *
                        clear hW hO
                        have hW := hW'
                        clear hW'
                        have hO := hO'
                        clear hO'
                        clear WX1
                        refine my_any (rs := [4]) (by kernel_rfl) (by simp) ?_
                        (apply my_loud
                         · (simp only [List.getElem?_toArray, List.getElem?_cons_succ, List.getElem?_cons_zero]; rfl)
                         · (go_wp2_with (refine kl_append_rdg rfl _ _ 56 rfl w1.heap.size 9 i0 (.string ⟨#[]⟩) 16 Tryd.underlying56 hi0 hz0 hz1 hz2 rfl _ 0 [] rfl hO _ k (pv (xs.take k)) _ rfl (H54.out.below (hW.mono hws1)) (pv_one _) (by omega) (by omega) hW.size ?_; intro v55 WX8 hO' hg hbx)
                            have hW' := hW.trans hbx
                            have h60' : WX8.heap[q9]? = some (.cells #[.string x] 9 (0, 0)) := by rw [hg.block q9 (lt_of_block h60) hqq]; exact h60
                            refine ⟨hW', ?_⟩
                            try simp only [Act.put, List.setIfInBounds_toArray, List.set_cons_zero, List.set_cons_succ]
                            rw [List.nil_append, Nat.zero_add] at hO'
                            clear hW hO hg hbx h60 hqq
                            try clear hq51
                            have hW := hW'
                            clear hW'
                            have hO := hO'
                            clear hO'
                            have h60 := h60'
                            clear h60'
                            clear WX7
                            refine my_any (rs := [10]) (by kernel_rfl) (by simp) ?_
                            (apply my_loud
                             · (simp only [List.getElem?_toArray, List.getElem?_cons_succ, List.getElem?_cons_zero]; rfl)
                             · (have hr60 := rd_one h60
                                go_wp2_with (refine kl_append_rdg rfl _ _ 56 rfl w1.heap.size 9 i0 (.string ⟨#[]⟩) 16 Tryd.underlying56 hi0 hz0 hz1 hz2 rfl _ k (pv (xs.take k)) rfl hO _ 1 [Value.string x] _ rfl hr60 (by intro u hu; obtain rfl := List.mem_singleton.1 hu; rfl) (by omega) (by omega) hW.size ?_; intro v61 WX9 hO' hg hbx)
                                have hW' := hW.trans hbx
                                refine ⟨hW', ?_⟩
                                try simp only [Act.put, List.setIfInBounds_toArray, List.set_cons_zero, List.set_cons_succ]
                                clear hW hO hg hbx h60 hr60
                                have hW := hW'
                                clear hW'
                                have hO := hO'
                                clear hO'
                                clear WX8
                                refine my_any (rs := [14]) (by kernel_rfl) (by simp) ?_
                                (apply my_loud
                                 · (simp only [List.getElem?_toArray, List.getElem?_cons_succ, List.getElem?_cons_zero]; rfl)
                                 · (go_wp2_with (refine kl_append_rdg rfl _ _ 56 rfl w1.heap.size 9 i0 (.string ⟨#[]⟩) 16 Tryd.underlying56 hi0 hz0 hz1 hz2 rfl _ (k + 1) (pv (xs.take k) ++ [Value.string x]) rfl hO _ (m - k) (pv (xs.drop k)) _ rfl (H64.out.below (hW.mono hws1)) (pv_one _) (by omega) (by omega) hW.size ?_; intro v65 WX10 hO' hg hbx)
                                    have hW' := hW.trans hbx
                                    refine ⟨hW', ?_⟩
                                    try simp only [Act.put, List.setIfInBounds_toArray, List.set_cons_zero, List.set_cons_succ]
                                    clear hW hO hg hbx
                                    have hW := hW'
                                    clear hW'
                                    have hO := hO'
                                    clear hO'
                                    clear WX9
                                    refine my_any (rs := [15]) (by kernel_rfl) (by simp) ?_
                                    (apply my_loud
                                     · (simp only [List.getElem?_toArray, List.getElem?_cons_succ, List.getElem?_cons_zero]; rfl)
                                     · (go_wp2_with fail
                                        refine ⟨hW, ?_⟩
                                        try simp only [Act.put, List.setIfInBounds_toArray, List.set_cons_zero, List.set_cons_succ]
                                        refine my_done (by kernel_rfl) ?_ _
                                        have HOE := Lib.hid hO
                                        have HBE := Lib.hid hW
                                        clear hO hW
                                        go_wp2_with fail
                                        go_roundw
                                        case rel => exact ⟨i + 1, _, by omega, by go_num, by rw [Hhlen2.out]; omega, by rw [Hhlen2.out]; exact HHFIN.out _ _ HOE.out, HI2, HHFB.out _ HBE.out⟩
                                        case measure => simp [intOf]; omega)
                                     skip)
                                    exact my_nil)
                                 skip)
                                exact my_nil)
                             skip)
                            exact my_nil)
                         skip)
                        exact my_nil)
                     skip)
                    exact my_nil)
                 skip)
                (apply my_loud
                 · (simp only [List.getElem?_toArray, List.getElem?_cons_succ, List.getElem?_cons_zero]; rfl)
                 · (go_wp2_with fail
                    have hW' := hW.alloc (hW.size) (.cells #[.string x] 9)
                    have h60 : (WW.alloc (.cells #[.string x] 9)).heap[WW.heap.size]? = some (.cells #[.string x] 9 (0, 0)) := blk_new _ _
                    refine ⟨hW', ?_⟩
                    try simp only [Act.put, List.setIfInBounds_toArray, List.set_cons_zero, List.set_cons_succ]
                    generalize WW.alloc (.cells #[.string x] 9) = WX12 at *
                    generalize WW.heap.size = q9 at *
                    clear hW
                    have hW := hW'
                    clear hW'
                    clear WW
                    refine my_any (rs := [0]) (by kernel_rfl) (by simp) ?_
                    (apply my_loud
                     · (simp only [List.getElem?_toArray, List.getElem?_cons_succ, List.getElem?_cons_zero]; rfl)
                     · (go_wp2_with fail
                        have hW' := hW.alloc (hW.size) (.cells #[] 9)
                        have hO := owns_empty WX12 w1.heap.size 9 hW.size
                        have hq51 : WX12.heap.size < (WX12.alloc (.cells #[] 9)).heap.size := by rw [size_alloc]; omega
                        have h60' : (WX12.alloc (.cells #[] 9)).heap[q9]? = some (.cells #[.string x] 9 (0, 0)) := blk_old _ _ h60
                        have hqq : some q9 ≠ (Value.slice (some ⟨WX12.heap.size, 0, none⟩) 0 0).ownBlock := by have := lt_of_block h60; intro h; injection h with h; exact absurd (show q9 = WX12.heap.size from h) (by omega)
                        refine ⟨hW', ?_⟩
                        try simp only [Act.put, List.setIfInBounds_toArray, List.set_cons_zero, List.set_cons_succ]
                        generalize WX12.alloc (.cells #[] 9) = WX13 at *
                        generalize WX12.heap.size = q51 at *
                        clear hW h60
                        have hW := hW'
                        clear hW'
                        have h60 := h60'
                        clear h60'
                        clear WX12
                        refine my_any (rs := [4]) (by kernel_rfl) (by simp) ?_
                        (apply my_loud
                         · (simp only [List.getElem?_toArray, List.getElem?_cons_succ, List.getElem?_cons_zero]; rfl)
                         · (go_wp2_with (refine kl_append_rdg rfl _ _ 56 rfl w1.heap.size 9 i0 (.string ⟨#[]⟩) 16 Tryd.underlying56 hi0 hz0 hz1 hz2 rfl _ 0 [] rfl hO _ k (pv (xs.take k)) _ rfl (H54.out.below (hW.mono hws1)) (pv_one _) (by omega) (by omega) hW.size ?_; intro v55 WX14 hO' hg hbx)
                            have hW' := hW.trans hbx
                            have h60' : WX14.heap[q9]? = some (.cells #[.string x] 9 (0, 0)) := by rw [hg.block q9 (lt_of_block h60) hqq]; exact h60
                            refine ⟨hW', ?_⟩
                            try simp only [Act.put, List.setIfInBounds_toArray, List.set_cons_zero, List.set_cons_succ]
                            rw [List.nil_append, Nat.zero_add] at hO'
                            clear hW hO hg hbx h60 hqq
                            try clear hq51
                            have hW := hW'
                            clear hW'
                            have hO := hO'
                            clear hO'
                            have h60 := h60'
                            clear h60'
                            clear WX13
                            refine my_any (rs := [10]) (by kernel_rfl) (by simp) ?_
                            (apply my_loud
                             · (simp only [List.getElem?_toArray, List.getElem?_cons_succ, List.getElem?_cons_zero]; rfl)
                             · (have hr60 := rd_one h60
                                go_wp2_with (refine kl_append_rdg rfl _ _ 56 rfl w1.heap.size 9 i0 (.string ⟨#[]⟩) 16 Tryd.underlying56 hi0 hz0 hz1 hz2 rfl _ k (pv (xs.take k)) rfl hO _ 1 [Value.string x] _ rfl hr60 (by intro u hu; obtain rfl := List.mem_singleton.1 hu; rfl) (by omega) (by omega) hW.size ?_; intro v61 WX15 hO' hg hbx)
                                have hW' := hW.trans hbx
                                refine ⟨hW', ?_⟩
                                try simp only [Act.put, List.setIfInBounds_toArray, List.set_cons_zero, List.set_cons_succ]
                                clear hW hO hg hbx h60 hr60
                                have hW := hW'
                                clear hW'
                                have hO := hO'
                                clear hO'
                                clear WX14
                                refine my_any (rs := [14]) (by kernel_rfl) (by simp) ?_
                                (apply my_loud
                                 · (simp only [List.getElem?_toArray, List.getElem?_cons_succ, List.getElem?_cons_zero]; rfl)
                                 · (go_wp2_with (refine kl_append_rdg rfl _ _ 56 rfl w1.heap.size 9 i0 (.string ⟨#[]⟩) 16 Tryd.underlying56 hi0 hz0 hz1 hz2 rfl _ (k + 1) (pv (xs.take k) ++ [Value.string x]) rfl hO _ (m - k) (pv (xs.drop k)) _ rfl (H64.out.below (hW.mono hws1)) (pv_one _) (by omega) (by omega) hW.size ?_; intro v65 WX16 hO' hg hbx)
                                    have hW' := hW.trans hbx
                                    refine ⟨hW', ?_⟩
                                    try simp only [Act.put, List.setIfInBounds_toArray, List.set_cons_zero, List.set_cons_succ]
                                    clear hW hO hg hbx
                                    have hW := hW'
                                    clear hW'
                                    have hO := hO'
                                    clear hO'
                                    clear WX15
                                    refine my_any (rs := [15]) (by kernel_rfl) (by simp) ?_
                                    (apply my_loud
                                     · (simp only [List.getElem?_toArray, List.getElem?_cons_succ, List.getElem?_cons_zero]; rfl)
                                     · (go_wp2_with fail
                                        refine ⟨hW, ?_⟩
                                        try simp only [Act.put, List.setIfInBounds_toArray, List.set_cons_zero, List.set_cons_succ]
                                        refine my_done (by kernel_rfl) ?_ _
                                        have HOE := Lib.hid hO
                                        have HBE := Lib.hid hW
                                        clear hO hW
                                        go_wp2_with fail
                                        go_roundw
                                        case rel => exact ⟨i + 1, _, by omega, by go_num, by rw [Hhlen2.out]; omega, by rw [Hhlen2.out]; exact HHFIN.out _ _ HOE.out, HI2, HHFB.out _ HBE.out⟩
                                        case measure => simp [intOf]; omega)
                                     skip)
                                    exact my_nil)
                                 skip)
                                exact my_nil)
                             skip)
                            exact my_nil)
                         skip)
                        exact my_nil)
                     skip)
                    exact my_nil)
                 skip)
                exact my_nil
      · have HI2 : Hid (Pm.IsSort (ps.take (i + 1)) xs) := by
          show Pm.IsSort _ _
          rw [Hhtk.out]
          exact Pm.isSort_skip HI.out y (by rw [← Hhr.out]; exact hr0)
        have hne : ((r : Int) != 0) = true := by rw [bne_iff_ne]; omega
        have HO2 := Lib.hid (own_below HO.out hb1)
        go_wp2_with fail
        go_roundw
        case rel => exact ⟨i + 1, xs, by omega, by go_num, by omega, HO2, HI2, hb.trans (hb1.mono hb.size)⟩
        case measure => simp [intOf]; omega
    · obtain rfl : i = n := by omega
      have hbn : ¬ (i : Int) < i := by omega
      go_wp2_with fail
      go_ret
      refine ⟨_, rfl, xs, owns_rdS HO.out, hb, ?_, hxi⟩
      have := HI.out
      rwa [Hhn.out, List.take_length] at this
end Go.Proofs.YtidmjepfpjfkoaaDoor

namespace Go.Proofs.YtidmjepfpjfkoaaDoor
open Go Go.RowKit
set_option maxHeartbeats 4000000
set_option maxRecDepth 20000
set_option linter.unusedVariables false
set_option linter.unusedSimpArgs false

namespace Pm
theorem clash_skip {xs : List By} : ∀ i, i < xs.length → (∀ j (h : j + 1 < xs.length), j + 1 ≤ i → within xs[j + 1] xs[j] = false) → clash xs = clash (xs.drop i)
  | 0, _, _ => rfl
  | i + 1, hi, h => by
    rw [clash_skip i (by omega) (fun j hj hji => h j hj (by omega)), clash_next hi, h i hi (Nat.le_refl _), if_neg (by simp)]
theorem clash_at {xs : List By} {i : Nat} (hi : i + 1 < xs.length) (h : ∀ j (h : j + 1 < xs.length), j + 1 ≤ i → within xs[j + 1] xs[j] = false) (hw : within xs[i + 1] xs[i] = true) : clash xs = some (xs[i], xs[i + 1]) := by
  rw [clash_skip i (by omega) h, clash_next hi, hw, if_pos rfl]
theorem clash_none {xs : List By} (h : ∀ j (h : j + 1 < xs.length), within xs[j + 1] xs[j] = false) : clash xs = none := by
  cases hl : xs.length with
  | zero => rw [List.eq_nil_of_length_eq_zero hl]; rfl
  | succ m =>
    rw [clash_skip m (by omega) (fun j hj _ => h j hj)]
    exact clash_end (by omega)
end Pm

theorem refClash (ps : List (List UInt8)) (hps : ∀ x ∈ ps, x.length ≤ 10000) (hlen : ps.length ≤ 10000) (A : Option Addr) (c : Nat) (w : World)
    (hrd : RdS (.slice A ps.length c) ps.length (pv ps) w.heap.size w) :
    Calls Tryd.prog 54 #[.slice A ps.length c] w fun e w' => ∃ xs, e = .returned (Pm.clashV (Pm.clash xs)) ∧ Pm.IsSort ps xs ∧ Below w.heap.size w w' := by
  have h1 := refSort ps hps hlen A c w hrd
  obtain ⟨n, hn⟩ : ∃ n, n = ps.length := ⟨_, rfl⟩
  rw [← hn] at h1 hlen ⊢
  have Hh1 := Lib.hid h1
  have Hhn := Lib.hid hn
  have Hhps := Lib.hid hps
  clear h1 hn hps
  clear hrd
  go_enter Tryd.func54, Tryd.ntmps54
  go_wp2_with fail
  refine Hh1.out.mono ?_
  rintro e w1 ⟨v, rfl, xs, hv, hb1, hS, hxl⟩
  obtain ⟨A', c', rfl⟩ := hv.slice
  have hxs : ∀ z ∈ xs, z.length ≤ 10000 := fun z hz => Hhps.out z ((hS.mem z).1 hz).1
  obtain ⟨m, hm⟩ : ∃ m, m = xs.length := ⟨_, rfl⟩
  rw [← hm] at hv hxl ⊢
  have hws := hb1.size
  have Hhv := Lib.hid hv
  have Hhm := Lib.hid hm
  have Hhxs := Lib.hid hxs
  have HhS := Lib.hid hS
  have Hhb1 := Lib.hid hb1
  clear hv hm hxs hS hb1
  clear Hh1
  go_wp2_with fail
  go_loopw [6] (fun iv wr => ∃ i : Nat, i ≤ m ∧ iv = .int .i64 (i : Int) ∧ Hid (∀ j k (hj : j < xs.length) (hk : k < j), j < i → Pm.within xs[j] (xs[k]'(by omega)) = false) ∧ Hid (Kn w1.heap.size w1 [] wr)) (fun iv _ => m - (intOf iv).toNat)
  case atStart => exact ⟨0, by omega, rfl, fun j k hj hk h => absurd h (by omega), Kn.start w1⟩
  case round =>
    obtain ⟨i, hi, rfl, HI, K⟩ := hrel
    have hbi : (0 : Int) ≤ i := by omega
    by_cases hin : i < m
    · have hil : i < xs.length := by rw [← Hhm.out]; exact hin
      obtain ⟨b, off, hA, hcn, hbb, hcell⟩ := Hhv.out.at_ hin
      subst hA
      have hcc := Lib.hid hcell
      have hx0 := hcell i _ (pv_get xs i hil)
      have hxl1 := Hhxs.out _ (List.getElem_mem hil)
      clear hcell
      obtain ⟨x, hx⟩ : ∃ x : ByteArray, x = ⟨xs[i].toArray⟩ := ⟨_, rfl⟩
      rw [← hx] at hx0
      have hxd : x.data.toList = xs[i] := by rw [hx]
      have hxs2 : x.size ≤ 10000 := by rw [hx]; show xs[i].toArray.size ≤ _; simpa using hxl1
      have hbn : (i : Int) < m := by omega
      have hr1 : ∀ wS, Kn w1.heap.size w1 [] wS → wS.cell? ⟨b, off + i, none⟩ = some (.string x) := fun wS hS => (Below.cell hS.below (p := ⟨b, off + i, none⟩) hbb).trans hx0
      have Hhx0 := Lib.hid hx0
      have Hhx := Lib.hid hx
      have Hhxd := Lib.hid hxd
      have Hhxl1 := Lib.hid hxl1
      have Hhr1 := Lib.hid hr1
      clear hx0 hx hxd hxl1 hr1
      go_wp2_with fail
      go_loopw [7] (fun kv wr2 => ∃ k : Nat, k ≤ i ∧ kv = .int .i64 (k : Int) ∧ Hid (∀ q (hq : q < k) (hi : i < xs.length) (hk : k ≤ i), Pm.within xs[i] (xs[q]'(by omega)) = false) ∧ Hid (Kn w1.heap.size w1 [] wr2)) (fun kv _ => i - (intOf kv).toNat)
      case atStart => exact ⟨0, by omega, rfl, fun q hq _ _ => absurd hq (by omega), K⟩
      case round =>
        obtain ⟨k, hki, rfl, HK, K2⟩ := hrel
        have hbk : (0 : Int) ≤ k := by omega
        by_cases hk : k < i
        · have hkl : k < xs.length := by omega
          have hz0 := hcc.out k _ (pv_get xs k hkl)
          have hzl := Hhxs.out _ (List.getElem_mem hkl)
          obtain ⟨z, hz⟩ : ∃ z : ByteArray, z = ⟨xs[k].toArray⟩ := ⟨_, rfl⟩
          rw [← hz] at hz0
          have hzd : z.data.toList = xs[k] := by rw [hz]
          have hzs : z.size ≤ 10000 := by rw [hz]; show xs[k].toArray.size ≤ _; simpa using hzl
          have hr2 : ∀ wS, Kn w1.heap.size w1 [] wS → wS.cell? ⟨b, off + k, none⟩ = some (.string z) := fun wS hS => (Below.cell hS.below (p := ⟨b, off + k, none⟩) hbb).trans hz0
          have hwi := fun wS => refWithin x z (by omega) (by omega) wS
          rw [Hhxd.out, hzd] at hwi
          obtain ⟨q, hq⟩ : ∃ q, q = Pm.within xs[i] xs[k] := ⟨_, rfl⟩
          rw [← hq] at hwi
          have hbk2 : (k : Int) < i := by omega
          have hbk3 : (k : Int) < m := by omega
          have Hhz0 := Lib.hid hz0
          have Hhz := Lib.hid hz
          have Hhzd := Lib.hid hzd
          have Hhzl := Lib.hid hzl
          have Hhr2 := Lib.hid hr2
          have Hhwi := Lib.hid hwi
          have Hhq := Lib.hid hq
          clear hz0 hz hzd hzl hr2 hwi hq
          go_wp2_with fail
          refine wp_region_abs w1.heap.size w1 [] ((true, 0) :: (true, 1) :: (true, 2) :: (true, 3) :: (true, 4) :: (true, 5) :: (true, 6) :: (true, 7) :: (true, 8) :: []) (by kernel_rfl) (by kernel_rfl) K2.out.drew ?_
          clear K2
          (apply ab_pure
           · (simp only [List.getElem?_toArray, List.getElem?_cons_succ, List.getElem?_cons_zero]; rfl)
           · rfl
           · (intro wS hS; go_simp; try exact rfl)
           simp only [Act.put, List.setIfInBounds_toArray, List.set_cons_zero, List.set_cons_succ])
          (apply ab_pure
           · (simp only [List.getElem?_toArray, List.getElem?_cons_succ, List.getElem?_cons_zero]; rfl)
           · rfl
           · (intro wS hS; go_simp; try exact rfl)
           simp only [Act.put, List.setIfInBounds_toArray, List.set_cons_zero, List.set_cons_succ])
          (apply ab_pure
           · (simp only [List.getElem?_toArray, List.getElem?_cons_succ, List.getElem?_cons_zero]; rfl)
           · rfl
           · (intro wS hS; go_simp; try exact rfl)
           simp only [Act.put, List.setIfInBounds_toArray, List.set_cons_zero, List.set_cons_succ])
          (apply ab_pure
           · (simp only [List.getElem?_toArray, List.getElem?_cons_succ, List.getElem?_cons_zero]; rfl)
           · rfl
           · (intro wS hS; have hc := Hhr1.out wS hS; go_simp; try exact rfl)
           simp only [Act.put, List.setIfInBounds_toArray, List.set_cons_zero, List.set_cons_succ])
          (apply ab_pure
           · (simp only [List.getElem?_toArray, List.getElem?_cons_succ, List.getElem?_cons_zero]; rfl)
           · rfl
           · (intro wS hS; go_simp; try exact rfl)
           simp only [Act.put, List.setIfInBounds_toArray, List.set_cons_zero, List.set_cons_succ])
          (apply ab_pure
           · (simp only [List.getElem?_toArray, List.getElem?_cons_succ, List.getElem?_cons_zero]; rfl)
           · rfl
           · (intro wS hS; go_simp; try exact rfl)
           simp only [Act.put, List.setIfInBounds_toArray, List.set_cons_zero, List.set_cons_succ])
          (apply ab_pure
           · (simp only [List.getElem?_toArray, List.getElem?_cons_succ, List.getElem?_cons_zero]; rfl)
           · rfl
           · (intro wS hS; go_simp; try exact rfl)
           simp only [Act.put, List.setIfInBounds_toArray, List.set_cons_zero, List.set_cons_succ])
          (apply ab_pure
           · (simp only [List.getElem?_toArray, List.getElem?_cons_succ, List.getElem?_cons_zero]; rfl)
           · rfl
           · (intro wS hS; have hc := Hhr2.out wS hS; go_simp; try exact rfl)
           simp only [Act.put, List.setIfInBounds_toArray, List.set_cons_zero, List.set_cons_succ])
          (apply ab_call
           · (simp only [List.getElem?_toArray, List.getElem?_cons_succ, List.getElem?_cons_zero]; rfl)
           · rfl
           · (intro _; go_simp; first | exact ⟨rfl, rfl⟩ | exact rfl)
           · (intro wS hS; exact Hhwi.out wS)
           simp only [Act.put, List.setIfInBounds_toArray, List.set_cons_zero, List.set_cons_succ])
          refine ab_end ?_
          intro wE hE
          have K3 := Lib.hid hE
          clear hE
          cases q with
          | true =>
            have hki1 : k + 1 = i := Pm.only_next xs HhS.out.up i hil (fun j k2 hj hk2 => HI.out j k2 (by omega) hk2 hj) k hk Hhq.out.symm
            have hcl : Pm.clash xs = some (xs[k], xs[i]) := by
              subst hki1
              exact Pm.clash_at hil (fun j hj hji => HI.out (j + 1) j hj (by omega) (by omega)) Hhq.out.symm
            have HC := Lib.hid hcl
            clear hcl hki1
            go_wp2_with fail
            refine wp_region_abs w1.heap.size w1 [] ((true, 0) :: (true, 1) :: (true, 2) :: (true, 3) :: (true, 4) :: (true, 5) :: (true, 6) :: (true, 7) :: (false, 8) :: (false, 9) :: (false, 10) :: []) (by kernel_rfl) (by kernel_rfl) K3.out.drew ?_
            clear K3
            (apply ab_pure
             · (simp only [List.getElem?_toArray, List.getElem?_cons_succ, List.getElem?_cons_zero]; rfl)
             · rfl
             · (intro wS hS; go_simp; try exact rfl)
             simp only [Act.put, List.setIfInBounds_toArray, List.set_cons_zero, List.set_cons_succ])
            (apply ab_pure
             · (simp only [List.getElem?_toArray, List.getElem?_cons_succ, List.getElem?_cons_zero]; rfl)
             · rfl
             · (intro wS hS; go_simp; try exact rfl)
             simp only [Act.put, List.setIfInBounds_toArray, List.set_cons_zero, List.set_cons_succ])
            (apply ab_pure
             · (simp only [List.getElem?_toArray, List.getElem?_cons_succ, List.getElem?_cons_zero]; rfl)
             · rfl
             · (intro wS hS; go_simp; try exact rfl)
             simp only [Act.put, List.setIfInBounds_toArray, List.set_cons_zero, List.set_cons_succ])
            (apply ab_pure
             · (simp only [List.getElem?_toArray, List.getElem?_cons_succ, List.getElem?_cons_zero]; rfl)
             · rfl
             · (intro wS hS; have hc := Hhr2.out wS hS; go_simp; try exact rfl)
             simp only [Act.put, List.setIfInBounds_toArray, List.set_cons_zero, List.set_cons_succ])
            (apply ab_pure
             · (simp only [List.getElem?_toArray, List.getElem?_cons_succ, List.getElem?_cons_zero]; rfl)
             · rfl
             · (intro wS hS; go_simp; try exact rfl)
             simp only [Act.put, List.setIfInBounds_toArray, List.set_cons_zero, List.set_cons_succ])
            (apply ab_pure
             · (simp only [List.getElem?_toArray, List.getElem?_cons_succ, List.getElem?_cons_zero]; rfl)
             · rfl
             · (intro wS hS; go_simp; try exact rfl)
             simp only [Act.put, List.setIfInBounds_toArray, List.set_cons_zero, List.set_cons_succ])
            (apply ab_pure
             · (simp only [List.getElem?_toArray, List.getElem?_cons_succ, List.getElem?_cons_zero]; rfl)
             · rfl
             · (intro wS hS; go_simp; try exact rfl)
             simp only [Act.put, List.setIfInBounds_toArray, List.set_cons_zero, List.set_cons_succ])
            (apply ab_pure
             · (simp only [List.getElem?_toArray, List.getElem?_cons_succ, List.getElem?_cons_zero]; rfl)
             · rfl
             · (intro wS hS; have hc := Hhr1.out wS hS; go_simp; try exact rfl)
             simp only [Act.put, List.setIfInBounds_toArray, List.set_cons_zero, List.set_cons_succ])
            (apply ab_loud
             · (simp only [List.getElem?_toArray, List.getElem?_cons_succ, List.getElem?_cons_zero]; rfl)
             · rfl
             intro wS hS
             go_wp2_with fail)
            refine ab_on _ (fun x hx => hx) hS ?_
            clear hS wS
            (apply ab_loud
             · (simp only [List.getElem?_toArray, List.getElem?_cons_succ, List.getElem?_cons_zero]; rfl)
             · rfl
             intro wS hS
             go_wp2_with fail)
            refine ab_on _ (fun x hx => hx) hS ?_
            clear hS wS
            (apply ab_loud
             · (simp only [List.getElem?_toArray, List.getElem?_cons_succ, List.getElem?_cons_zero]; rfl)
             · rfl
             intro wS hS
             go_wp2_with fail)
            refine ab_on _ (fun x hx => hx) hS (ab_end ?_)
            intro wE2 hE2
            have K4 := Lib.hid hE2
            clear hE2 hS
            go_wp2_with fail
            refine bodyPost_ret (results_tmp3 rfl _ _ _) rfl ?_
            refine ⟨xs, ?_, HhS.out, Hhb1.out.trans (K4.out.below.mono hws)⟩
            rw [HC.out, Hhz.out, Hhx.out]
            rfl
          | false =>
            have HK2 : Hid (∀ q (hq : q < k + 1) (hi : i < xs.length) (hk : k + 1 ≤ i), Pm.within xs[i] (xs[q]'(by omega)) = false) := fun q hq hi hk => by
              rcases Nat.lt_or_ge q k with h3 | h3
              · exact HK.out q h3 hi (by omega)
              · obtain rfl : q = k := by omega
                exact Hhq.out.symm
            go_wp2_with fail
            go_roundw
            case rel => exact ⟨k + 1, by omega, by go_num, HK2, K3⟩
            case measure => simp [intOf]; omega
        · obtain rfl : k = i := by omega
          have hbk2 : ¬ (k : Int) < k := by omega
          have HI2 : Hid (∀ j q (hj : j < xs.length) (hq : q < j), j < k + 1 → Pm.within xs[j] (xs[q]'(by omega)) = false) := fun j q hj hq h => by
            rcases Nat.lt_or_ge j k with h3 | h3
            · exact HI.out j q hj hq h3
            · obtain rfl : j = k := by omega
              exact HK.out q hq hj (Nat.le_refl _)
          go_wp2_with fail
          go_roundw
          case rel => exact ⟨k + 1, by omega, by go_num, HI2, K2⟩
          case measure => simp [intOf]; omega
    · obtain rfl : i = m := by omega
      have hbn : ¬ (i : Int) < i := by omega
      have hcl : Pm.clash xs = none := Pm.clash_none fun j hj => HI.out (j + 1) j hj (by omega) (by rw [Hhm.out]; exact hj)
      have HC := Lib.hid hcl
      clear hcl
      go_wp2_with fail
      refine bodyPost_ret (results_tmp3 rfl _ _ _) rfl ?_
      refine ⟨xs, ?_, HhS.out, Hhb1.out.trans (K.out.below.mono hws)⟩
      rw [HC.out]
      rfl
end Go.Proofs.YtidmjepfpjfkoaaDoor

namespace Go.Proofs.YtidmjepfpjfkoaaDoor
open Go Go.RowKit
set_option maxHeartbeats 4000000
set_option maxRecDepth 20000
set_option linter.unusedVariables false
set_option linter.unusedSimpArgs false

theorem refNormal (s : ByteArray) (hs : s.size ≤ 9000) (w : World) :
    Calls Tryd.prog 47 #[.string s] w fun e w' =>
      e = .returned (.tuple #[.string ⟨(Pm.normP s.data.toList).toArray⟩, .int .i64 (Pm.normE s.data.toList : Nat)]) ∧ Below w.heap.size w w' := by
  obtain ⟨i0, hi0, hz0, hz1, hz2⟩ := info_parts info_str
  have h1 := refCut s (by omega) w
  obtain ⟨P, hP⟩ : ∃ P, P = Pm.cut s.data.toList := ⟨_, rfl⟩
  rw [← hP] at h1
  have hw8 : Pm.weigh P ≤ 9001 := by rw [hP, Pm.weigh_cut]; show s.size + 1 ≤ _; omega
  have hpl : P.length ≤ 9001 := Nat.le_trans (Pm.length_weigh P) hw8
  obtain ⟨n, hn⟩ : ∃ n, n = P.length := ⟨_, rfl⟩
  rw [← hn] at h1 hpl
  have Hh1 := Lib.hid h1
  have HhP := Lib.hid hP
  have Hhw8 := Lib.hid hw8
  have Hhn := Lib.hid hn
  clear h1 hP hw8 hn
  go_enter Tryd.func47, Tryd.ntmps47
  go_wp2_with fail
  refine Hh1.out.mono ?_
  rintro e w1 ⟨v, rfl, hv, hb1⟩
  obtain ⟨A, c, rfl⟩ := hv.slice
  have hws := hb1.size
  have Hhv := Lib.hid hv
  have Hhb1 := Lib.hid hb1
  clear hv hb1
  clear Hh1
  go_wp2_with fail
  go_loopw [4, 6] (fun u iv wr => ∃ (i : Nat) (ls : List (List UInt8)), i ≤ n ∧ iv = .int .i64 (i : Int) ∧ Hid (Pm.norm (P.take i) [] = some ls) ∧ Hid (wr.ownsRow w1.heap.size 9 1 u ls.length (pv ls)) ∧ Hid (Below w1.heap.size w1 wr)) (fun _ iv _ => n - (intOf iv).toNat)
  case atStart => exact ⟨0, [], by omega, rfl, rfl, ⟨rfl, .inl ⟨rfl, rfl⟩⟩, Below.refl _ _⟩
  case round =>
    obtain ⟨i, ls, hi, rfl, HN, HO, HB⟩ := hrel
    have hbi : (0 : Int) ≤ i := by omega
    obtain ⟨A', c', rfl⟩ := (owns_rdS HO.out).slice
    have hwr := HB.out.size
    by_cases hin : i < n
    · have hil : i < P.length := by rw [← Hhn.out]; exact hin
      obtain ⟨b, off, hA, hcn, hbb, hcell⟩ := Hhv.out.at_ hin
      subst hA
      have hx0 := (HB.out.cell (p := ⟨b, off + i, none⟩) hbb).trans (hcell i _ (pv_get P i hil))
      clear hcell
      have htk : P.take (i + 1) = P.take i ++ [P[i]] := by rw [List.take_succ_eq_append_getElem hil]
      have hll : ls.length ≤ 9001 := by
        have g1 := Pm.length_weigh ls
        have g2 := Pm.weigh_norm (P.take i) [] ls HN.out
        have g3 := Hhw8.out
        rw [← List.take_append_drop i P, Pm.weigh_app] at g3
        have g0 : Pm.weigh [] = 0 := rfl
        omega
      obtain ⟨x, hx⟩ : ∃ x, x = P[i] := ⟨_, rfl⟩
      rw [← hx] at hx0 htk
      have hNx : ∀ m, Pm.norm [x] ls = m → Pm.norm (P.take (i + 1)) [] = m := fun m h => by rw [htk, Pm.norm_app, HN.out]; exact h
      obtain ⟨xb, hxb⟩ : ∃ xb : ByteArray, xb = ⟨x.toArray⟩ := ⟨_, rfl⟩
      have hxd : xb.data.toList = x := by rw [hxb]
      rw [← hxb] at hx0
      have e1 : xb.toList.isEmpty = (x == []) := by rw [ByteArray.toList_eq, hxd]; cases x <;> rfl
      have e2 := beq_lit xb [46]
      have e3 := beq_lit xb [46, 46]
      rw [hxd] at e2 e3
      have hbn : (i : Int) < n := by omega
      have Hhtk := Lib.hid htk
      have Hhx := Lib.hid hx
      have Hhxb := Lib.hid hxb
      have Hhxd := Lib.hid hxd
      have HhNx := Lib.hid hNx
      clear htk hx hxb hxd hNx
      by_cases hx1 : x = []
      · rw [show (x == []) = true by rw [hx1]; rfl] at e1
        have HN2 := Lib.hid (HhNx.out (some ls) (by rw [hx1]; rfl))
        clear hx1 e2 e3
        go_wp2_with fail
        go_roundw
        case rel => exact ⟨i + 1, ls, by omega, by go_num, HN2, HO, HB⟩
        case measure => simp [intOf]; omega
      · rw [beq_eq_false_iff_ne.2 hx1] at e1
        by_cases hx2 : x = [46]
        · rw [show (x == [46]) = true by rw [hx2]; rfl] at e2
          have HN2 := Lib.hid (HhNx.out (some ls) (by rw [hx2]; rfl))
          clear hx1 hx2 e3
          go_wp2_with fail
          go_roundw
          case rel => exact ⟨i + 1, ls, by omega, by go_num, HN2, HO, HB⟩
          case measure => simp [intOf]; omega
        · rw [beq_eq_false_iff_ne.2 hx2] at e2
          by_cases hx3 : x = [46, 46]
          · rw [show (x == [46, 46]) = true by rw [hx3]; rfl] at e3
            by_cases hls : ls = []
            · subst hls
              have hN2 : Pm.norm (P.take (i + 1)) [] = none := HhNx.out none (by rw [hx3]; rfl)
              have hnn : Pm.norm P [] = none := by
                rw [← List.take_append_drop (i + 1) P, Pm.norm_app, hN2]
              have hnp : Pm.normP s.data.toList = [] := by unfold Pm.normP; rw [← HhP.out, hnn]
              have hne : Pm.normE s.data.toList = 1 := by unfold Pm.normE; rw [← HhP.out, hnn]
              have Hhnp := Lib.hid hnp
              have Hhne := Lib.hid hne
              clear hnp hne
              clear hx1 hx2 hx3 hN2 hnn
              simp only [List.length_nil]
              go_wp2_with fail
              refine bodyPost_ret (results_tmp2 rfl _ _ _) rfl ?_
              exact ⟨by rw [Hhnp.out, Hhne.out]; rfl, Hhb1.out.trans (HB.out.mono hws)⟩
            · have hlp := List.length_pos_iff.2 hls
              have HN2 := Lib.hid (HhNx.out (some ls.dropLast) (by rw [hx3, Pm.norm, if_neg (by decide), if_pos rfl, if_neg hls]; rfl))
              have hdl : ls.dropLast.length = ls.length - 1 := List.length_dropLast
              have hpd : pv ls.dropLast = (pv ls).take (ls.length - 1) := by unfold pv; rw [List.dropLast_eq_take, List.map_take]
              have hO := HO.out
              clear hx1 hx2 hx3 hls HO
              obtain ⟨k, hk⟩ : ∃ k, ls.length = k + 1 := ⟨ls.length - 1, by omega⟩
              rw [hk] at hO hdl hpd hll ⊢
              rw [Nat.add_sub_cancel] at hdl hpd
              have hz : (((k + 1 : Nat) : Int) == 0) = false := by rw [beq_eq_false_iff_ne]; omega
              have hA : ∃ g, A' = some ⟨g, 0, none⟩ ∧ k + 1 ≤ c' := by
                rcases hO.2 with ⟨e, h0⟩ | ⟨g, cap, cur, e, h1, h2, h3, _⟩
                · omega
                · injection e with q1 q2 q3
                  exact ⟨g, q1, by omega⟩
              obtain ⟨g, rfl, hkc⟩ := hA
              have hcut := own_cut hO (k := k) (by omega)
              rw [← hpd] at hcut
              have HC := Lib.hid hcut
              have hz2 : (((k + 1 : Nat) : Int) - 1) = (k : Int) := by omega
              have Hhdl := Lib.hid hdl
              have Hhpd := Lib.hid hpd
              clear hdl hpd
              clear hO hcut hlp hk
              go_wp2_with fail
              go_roundw
              case rel => exact ⟨i + 1, ls.dropLast, by omega, by go_num, HN2, by rw [Hhdl.out]; exact HC, HB⟩
              case measure => simp [intOf]; omega
          · rw [beq_eq_false_iff_ne.2 hx3] at e3
            have HN2 := Lib.hid (HhNx.out (some (ls ++ [x])) (by rw [Pm.norm, if_neg (by rintro (h | h); exact hx1 h; exact hx2 h), if_neg hx3]; rfl))
            have hpx : pv (ls ++ [x]) = pv ls ++ [.string xb] := by rw [Hhxb.out]; simp [pv]
            have hlx : (ls ++ [x]).length = ls.length + 1 := by simp
            have hO := HO.out
            obtain ⟨k, hk⟩ : ∃ k, k = ls.length := ⟨_, rfl⟩
            rw [← hk] at hO hll hlx ⊢
            have Hhpx := Lib.hid hpx
            have Hhlx := Lib.hid hlx
            have Hhk := Lib.hid hk
            clear hpx hlx hk
            clear hx1 hx2 hx3 HO
            go_wp2_with (at_builtin; refine kl_append1 rfl _ _ 56 rfl w1.heap.size 9 i0 (.string ⟨#[]⟩) 1 16 Tryd.underlying56 hi0 hz0 hz1 hz2 rfl (by decide) _ k _ rfl hO 1 #[.string xb] rfl rfl (by simp [Value.oneCell']) (by omega) (by omega) hwr ?_; intro v' w' hown' hbel hsz' hne')
            have HO2 := Lib.hid hown'
            have HB2 := Lib.hid (HB.out.trans hbel)
            clear hO hown' hbel
            go_wp2_with fail
            go_roundw
            case rel => exact ⟨i + 1, ls ++ [x], by omega, by go_num, HN2, by rw [Hhlx.out, Hhpx.out]; exact HO2, HB2⟩
            case measure => simp [intOf]; omega
    · obtain rfl : i = n := by omega
      have hbn : ¬ (i : Int) < i := by omega
      have hrd := owns_rdS HO.out
      have hN := HN.out
      rw [Hhn.out, List.take_length] at hN
      have hwl : Pm.weigh ls ≤ 9001 := by
        have := Pm.weigh_norm P [] ls hN
        have h0 : Pm.weigh [] = 0 := rfl
        have := Hhw8.out
        omega
      have hjl := Pm.weigh_join ls
      have hll := Pm.length_weigh ls
      have hj := refJoin ls (by omega) (by omega) A' c' wr hrd
      have hnp : Pm.normP s.data.toList = Pm.joinP ls := by unfold Pm.normP; rw [← HhP.out, hN]
      have hne : Pm.normE s.data.toList = Pm.joinE ls := by unfold Pm.normE; rw [← HhP.out, hN]
      obtain ⟨k, hk⟩ : ∃ k, k = ls.length := ⟨_, rfl⟩
      rw [← hnp, ← hne] at hj
      rw [← hk] at hj ⊢
      have Hhj := Lib.hid hj
      clear hj
      clear hrd hN hwl hjl hll hnp hne hk HO HN
      go_wp2_with fail
      refine Hhj.out.mono ?_
      rintro e w2 ⟨rfl, hb2⟩
      have hbE := Hhb1.out.trans ((HB.out.trans (hb2.mono hwr)).mono hws)
      go_wp2_with fail
      refine bodyPost_ret (results_tmp2 rfl _ _ _) rfl ?_
      exact ⟨rfl, hbE⟩
end Go.Proofs.YtidmjepfpjfkoaaDoor
