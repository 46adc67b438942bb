/-
  Walk: any content has just the parts and the mark of the document; digests are composed just so; any size has just so many parts.
-/
import Derived.Test.YtgdjfijkbemkeaaEtO
import Derived.Test.YtgdjfijkbemkeaaEtG
namespace Go.Proofs.Ytgdjfijkbemkeaa
open Go.RowKit
set_option maxHeartbeats 4000000
set_option maxRecDepth 20000
set_option linter.unusedVariables false
attribute [local irreducible] dArr

theorem etagTells (s : ByteArray) (v : Value) (ds : List (List UInt8)) (hd : ∀ d ∈ ds, d.length = 32) (n : Int) (hn0 : -9223372036854775808 ≤ n) (hn1 : n ≤ 9223372036854775807) (w : World) (hrd : RdD v ds w.heap.size w) :
    Calls Try.prog 8 #[.string s, v, .int .i64 n] w fun e w' => e = .returned (.bool true) ∧ Below w.heap.size w w' := by
  obtain ⟨i0, hi0, hz0, hs0, hb0⟩ := d32b
  obtain ⟨A, c, rfl⟩ := hrd.slice
  by_cases h12 : 1200 < s.size
  · have g1 : (1200 : Int) < (s.size : Int) := by omega
    clear h12
    go_enter Try.func8, Try.ntmps8
    go_wp2_with fail
    refine (awake05 _).mono ?_
    rintro e w1 ⟨rfl, hb1⟩
    go_wp2_with fail
    go_ret
    exact ⟨rfl, hb1⟩
  · by_cases h40 : 40 < ds.length
    · have g1 : ¬ (1200 : Int) < (s.size : Int) := by omega
      have g2 : (40 : Int) < (ds.length : Int) := by omega
      clear h12 h40
      go_enter Try.func8, Try.ntmps8
      go_wp2_with fail
      refine (awake05 _).mono ?_
      rintro e w1 ⟨rfl, hb1⟩
      go_wp2_with fail
      go_ret
      exact ⟨rfl, hb1⟩
    · have g1 : ¬ (1200 : Int) < (s.size : Int) := by omega
      have g2 : ¬ (40 : Int) < (ds.length : Int) := by omega
      obtain ⟨ps, hps⟩ : ∃ ps, ps = Em.parts s.data.toList := ⟨_, rfl⟩
      obtain ⟨M, hM⟩ : ∃ M, M = Em.mark s.data.toList := ⟨_, rfl⟩
      obtain ⟨C, hC⟩ : ∃ C, C = Em.comp ds := ⟨_, rfl⟩
      have ccut := fun w => etagCut s (by omega) w
      have rcut := fun w => refCut s (by omega) w
      have cof := fun w => etagOf s (by omega) w
      have rof := fun w => refOf5 s (by omega) w
      have ccomp := fun v w h => composed v ds (by omega) hd w h
      have rcomp := fun v w h => refComp v ds (by omega) hd w h
      have ccnt := fun w => count5 n hn0 hn1 w
      have rcnt := fun w => refCount5 n hn0 hn1 w
      have hpl : ps.length ≤ 1000 := by rw [hps]; unfold Em.parts; rw [Em.partsTo_length]; unfold Em.np; show (s.size + 15) / 16 ≤ _; omega
      rw [← hps] at ccut rcut
      rw [← hM] at cof rof
      rw [← hC] at ccomp rcomp
      generalize Em.np n.toNat = N at *
      have hM2 := eql_d_run M M true (deq_self _)
      have hC2 := eql_d_run C C true (deq_self _)
      have hgd := eqGuard_d
      have hd40 : ds.length ≤ 40 := by omega
      have Hccut := Lib.hid ccut
      have Hrcut := Lib.hid rcut
      have Hcof := Lib.hid cof
      have Hrof := Lib.hid rof
      have Hccomp := Lib.hid ccomp
      have Hrcomp := Lib.hid rcomp
      have Hccnt := Lib.hid ccnt
      have Hrcnt := Lib.hid rcnt
      have Hhps := Lib.hid hps
      have HhM := Lib.hid hM
      have HhC := Lib.hid hC
      have Hhpl := Lib.hid hpl
      have Hhrd := Lib.hid hrd
      have HhM2 := Lib.hid hM2
      have HhC2 := Lib.hid hC2
      have Hhgd := Lib.hid hgd
      have Hhd40 := Lib.hid hd40
      clear ccut rcut cof rof ccomp rcomp ccnt rcnt hps hM hC hpl hrd hM2 hC2 hgd hd40
      clear h12 h40 hd
      go_enter Try.func8, Try.ntmps8
      go_wp2_with fail
      refine (awake05 _).mono ?_
      rintro e w1 ⟨rfl, hb1⟩
      have k1 := (Kn.start w).call hb1
      clear hb1
      go_wp2_with fail
      refine (Hccut.out _).mono ?_
      rintro e w2 ⟨v2, n2, rfl, hr2, hb2⟩
      have k2 := k1.call hb2
      obtain ⟨A2, c2, rfl⟩ := hr2.slice
      have hn2 : n2 ≤ 1000 := by have h := hr2.1; unfold pv at h; rw [List.length_map] at h; rw [← h]; exact Hhpl.out
      clear k1 hb2
      go_wp2_with fail
      refine (Hrcut.out _).mono ?_
      rintro e w3 ⟨v3, n3, rfl, hr3, hb3⟩
      have k3 := k2.call hb3
      obtain ⟨A3, c3, rfl⟩ := hr3.slice
      obtain rfl : n3 = n2 := by rw [← hr3.1, ← hr2.1]
      have hr2' := (hr2.below hb3).mono hb3.size
      clear k2 hb3 hr2
      have Hhr2' := Lib.hid hr2'
      have Hhr3 := Lib.hid hr3
      have Hhn2 := Lib.hid hn2
      clear hr2' hr3 hn2
      go_wp2_with fail
      refine (same5 A2 A3 n3 c2 c3 (by have := Hhn2.out; omega) ps _ Hhr2'.out Hhr3.out).mono ?_
      rintro e w4 ⟨rfl, hb4⟩
      have k4 := k3.call hb4
      clear k3 hb4 Hhr2' Hhr3
      go_wp2_with fail
      refine (Hcof.out _).mono ?_
      rintro e w5 ⟨rfl, hb5⟩
      have k5 := k4.call hb5
      clear k4 hb5
      go_wp2_with fail
      refine (Hrof.out _).mono ?_
      rintro e w6 ⟨rfl, hb6⟩
      have k6 := k5.call hb6
      have hown := owns_empty32 w6 w6.heap.size 50 (Nat.le_refl _)
      have hrd6 := ((Hhrd.out.below k6.below).mono k6.base).below ((Below.refl _ w6).alloc (Nat.le_refl _) (.cells #[] 50))
      have hM2 := HhM2.out
      have hgd := Hhgd.out
      have hsz6 := size_alloc w6 (.cells #[] 50)
      have Hhown := Lib.hid hown
      have Hhrd6 := Lib.hid hrd6
      have Hhsz6 := Lib.hid hsz6
      clear hown hrd6 hsz6
      clear k5 hb6
      go_wp2_with (refine kl_guard rfl ?_; refine kl_append_rdD rfl _ _ 62 rfl w6.heap.size 50 i0 (.agg (dArr [])) Try.underlying62 hi0 hz0 hs0 hb0 zcells _ 0 [] rfl Hhown.out _ ds _ rfl Hhrd6.out (by have := Hhd40.out; omega) (by rw [Hhsz6.out]; omega) ?_; intro v7 w7 hown7 hbel7 hsz7)
      have hb67 : Below w6.heap.size w6 w7 := ((Below.refl _ w6).alloc (Nat.le_refl _) (.cells #[] 50)).trans hbel7
      have k7 := k6.call hb67
      rw [Nat.zero_add, List.nil_append] at hown7
      refine (Hccomp.out _ _ (rdD_of_own hown7)).mono ?_
      rintro e w8 ⟨rfl, hb8⟩
      have k8 := k7.call hb8
      have hrd8 := (Hhrd.out.below k8.below).mono k8.base
      have Hhrd8 := Lib.hid hrd8
      clear hrd8
      clear k6 k7 hb8 hb67 hown7 hbel7 hsz7 Hhown Hhrd6 Hhsz6
      go_wp2_with fail
      refine (Hrcomp.out _ _ Hhrd8.out).mono ?_
      rintro e w9 ⟨rfl, hb9⟩
      have k9 := k8.call hb9
      have hC2 := HhC2.out
      clear k8 hb9
      go_wp2_with fail
      refine (Hccnt.out _).mono ?_
      rintro e w10 ⟨rfl, rfl⟩
      go_wp2_with fail
      refine (Hrcnt.out _).mono ?_
      rintro e w11 ⟨rfl, rfl⟩
      go_wp2_with fail
      go_ret
      exact ⟨rfl, k9.below⟩
end Go.Proofs.Ytgdjfijkbemkeaa
