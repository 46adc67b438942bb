/-
  Walks: the reference's Compose and Of.
-/
import Derived.Test.YtgdjfijkbemkeaaEtE
import Derived.Test.YtgdjfijkbemkeaaShaI
namespace Go.Proofs.Ytgdjfijkbemkeaa
open Go.RowKit
set_option maxHeartbeats 2000000
set_option maxRecDepth 20000
set_option linter.unusedVariables false

theorem refComp (v : Value) (ds : List (List UInt8)) (hlen : ds.length ≤ 1000) (hd : ∀ d ∈ ds, d.length = 32) (w : World) (hrd : RdD v ds w.heap.size w) :
    Calls Try.prog 45 #[v] w fun e w' => e = .returned (.agg (dArr (Em.comp ds))) ∧ Below w.heap.size w w' := by
  obtain ⟨i0, hi0, hz0, hs0⟩ := d32
  obtain ⟨A, c, rfl⟩ := hrd.slice
  obtain ⟨n, hn⟩ : ∃ n, n = ds.length := ⟨_, rfl⟩
  obtain ⟨D, hD⟩ : ∃ D, D = Em.comp ds := ⟨_, rfl⟩
  obtain ⟨L, hL⟩ : ∃ L : Nat → List UInt8, L = fun k => (ds.take k).flatten := ⟨_, rfl⟩
  have hL0 : L 0 = [] := by rw [hL]; rfl
  have hLl : ∀ k, k ≤ n → (L k).length = 32 * k := fun k hk => by rw [hL]; exact flat_take ds hd k (by omega)
  have hLn : L n = ds.flatten := by rw [hL, hn]; simp
  have hLs : ∀ k (h : k < ds.length), L (k + 1) = L k ++ ds[k] := fun k h => by
    rw [hL]; simp only [List.take_succ_eq_append_getElem h, List.flatten_append]; simp
  rw [← hn] at hrd hlen ⊢
  rw [← hD]
  have Hhrd := Lib.hid hrd
  have Hhn := Lib.hid hn
  have HhD := Lib.hid hD
  have HhL := Lib.hid hL
  have HhL0 := Lib.hid hL0
  have HhLl := Lib.hid hLl
  have HhLn := Lib.hid hLn
  have HhLs := Lib.hid hLs
  clear hrd hn hD hL hL0 hLl hLn hLs
  go_enter Try.func45, Try.ntmps45
  go_wp2_with (refine kl_alloc rfl 50 rfl (dArr []) i0 hi0 _ hz0 rfl ?_)
  have k1 := (Kn.start w).alloc (.cells (dArr []) 50)
  generalize w.alloc (.cells (dArr []) 50) = w1 at *
  have K1 := Lib.hid k1
  clear k1
  go_loopw [3, 4] (fun sv iv wr => ∃ (i : Nat) (s : ByteArray), i ≤ n ∧ iv = .int .i64 (i : Int) ∧ sv = .string s ∧ Hid (s.data.toList = L i) ∧ s.size = 32 * i ∧
      Hid (Kn w.heap.size w [(w.heap.size, .cells (dArr []) 50)] wr)) (fun _ iv _ => n - (intOf iv).toNat)
  case atStart => exact ⟨0, _, by omega, rfl, rfl, by rw [HhL0.out]; exact rfl, rfl, K1⟩
  case round =>
    obtain ⟨i, s, hi, rfl, rfl, HS, hsz, K⟩ := hrel
    clear K1
    by_cases hin : i < n
    · have hil : i < ds.length := by rw [← Hhn.out]; exact hin
      have hrd := Hhrd.out
      rw [Hhn.out] at hrd
      obtain ⟨b, off, hA, hcn, hb, hrng⟩ := hrd.at_ hil
      rw [← Hhn.out] at hcn
      have hLs := HhLs.out i hil
      have hdl := hd _ (List.getElem_mem hil)
      generalize ds[i] = d at *
      subst hA
      clear hil hrd
      have hbi : (0 : Int) ≤ i := by omega
      have hbn : (i : Int) < n := by omega
      have HR := Lib.hid hrng
      clear hrng hd
      have HhLs := Lib.hid hLs
      have Hhdl := Lib.hid hdl
      clear hLs hdl
      go_wp2_with fail
      go_loopw [3, 5] (fun sv jv wx => ∃ (j : Nat) (t : ByteArray), j ≤ 32 ∧ jv = .int .i64 (j : Int) ∧ sv = .string t ∧ Hid (t.data.toList = L i ++ d.take j) ∧ t.size = 32 * i + j ∧
          Hid (Kn w.heap.size w [(w.heap.size, .cells (dArr []) 50)] wx)) (fun _ jv _ => 32 - (intOf jv).toNat)
      case atStart => exact ⟨0, _, by omega, rfl, rfl, by show _ = _; rw [HS.out]; simp, by omega, K⟩
      case round =>
        obtain ⟨j, t, hj, rfl, rfl, HT, htz, KX⟩ := hrel
        by_cases hj32 : j < 32
        · have hjd : j < d.length := by rw [Hhdl.out]; exact hj32
          have hu : d[j]? = some d[j] := List.getElem?_eq_getElem hjd
          have htk : d.take (j + 1) = d.take j ++ [d[j]] := List.take_succ_eq_append_getElem hjd
          generalize d[j] = u at *
          have hx : wr.cell? ⟨b, off + i * 32 + j, none⟩ = some (Value.int .u8 (u.toNat : Int)) := by
            rw [Below.cell KX.out.below hb]
            refine HR.out j _ ?_
            rw [Array.getElem?_toList, dArr_get _ _ hj32]
            simp [hu]
          have hj0 : (0 : Int) ≤ j := by omega
          have hj1 : (j : Int) < 32 := by omega
          have Hhtk := Lib.hid htk
          have Hhu := Lib.hid hu
          clear htk hu
          clear HR hjd
          go_wp2_with (refine kl_string rfl 91 9 5 _ rfl Try.underlying91 Try.underlying5 Try.underlying9 wr.heap.size 0 1 1 rfl [u] rfl (fun j' u' hj' => by
            have hj'0 : j' = 0 := by have := (List.getElem?_eq_some_iff.1 hj').1; simpa using this
            subst hj'0
            have hu' : u = u' := by simpa using hj'
            subst hu'
            rw [cell_of_row _ _ _ _ _ _ (heap_alloc_new _ _)]; rfl) ?_)
          refine ⟨⟨j + 1, _, by omega, by go_num, rfl, ?_, ?_, KX.out.alloc' _⟩, by simp [intOf]; omega⟩
          · show _ = _
            rw [Hhtk.out, ← List.append_assoc, ← HT.out]; simp
          · rw [ByteArray.size_append, htz]; rfl
        · obtain rfl : j = 32 := by omega
          have hdt : d.take 32 = d := List.take_of_length_le (by rw [Hhdl.out]; exact Nat.le_refl _)
          rw [hdt, ← HhLs.out] at HT
          clear hdt
          go_wp2_with fail
          exact ⟨⟨i + 1, t, by omega, by go_num, rfl, HT, by omega, KX⟩, by simp [intOf]; omega⟩
    · obtain rfl : i = n := by omega
      have hq1 : (i : Int) / 256 = ((i / 256 : Nat) : Int) := by omega
      obtain ⟨q, hq⟩ : ∃ q, q = i / 256 := ⟨_, rfl⟩
      obtain ⟨m, hm⟩ : ∃ m, m = i % 256 := ⟨_, rfl⟩
      have hq4 : q < 4 := by omega
      have hm4 : m < 256 := by omega
      have i1 : (i : Int).tdiv 256 = (q : Int) := by rw [Int.tdiv_eq_ediv_of_nonneg (by omega)]; omega
      have i2 : (i : Int).tmod 256 = (m : Int) := by rw [Int.tmod_eq_emod_of_nonneg (by omega)]; omega
      have i3 : (q : Int).tmod 256 = (q : Int) := by rw [Int.tmod_eq_emod_of_nonneg (by omega)]; omega
      have i4 : (i : Int) / 256 = (q : Int) := by omega
      have i5 : (i : Int) % 256 = (m : Int) := by omega
      have i6 : (q : Int) % 256 = (q : Int) := by omega
      clear hq1
      have Hhq := Lib.hid hq
      have Hhm := Lib.hid hm
      clear hq hm
      obtain ⟨r, hr⟩ : ∃ r : ByteArray, r = s ++ ⟨#[45]⟩ ++ ⟨[UInt8.ofNat q, UInt8.ofNat m].toArray⟩ := ⟨_, rfl⟩
      have hrl : r.data.toList = L i ++ [45] ++ beput (i % 65536) 2 := by
        have hbp : [UInt8.ofNat q, UInt8.ofNat m] = beput (i % 65536) 2 := by
          have b0 := beput_get 2 (i % 65536) 0 (by omega)
          have b1 := beput_get 2 (i % 65536) 1 (by omega)
          have bl := beput_length (i % 65536) 2
          rw [Hhq.out, Hhm.out]
          apply List.ext_getElem?
          intro j
          match j with
          | 0 => show some _ = _; rw [b1]; congr 2; omega
          | 1 => show some _ = _; rw [b0]; congr 2; omega
          | j + 2 => rw [List.getElem?_eq_none (by simp), List.getElem?_eq_none (by omega)]
        rw [hr, ← HS.out, ← hbp]; simp
      have hof := fun w => refOf r (by rw [show r.size = r.data.toList.length from rfl, hrl]; simp only [List.length_append, beput_length, HhLl.out i (by omega), List.length_singleton]; omega) w
      rw [hrl, show Sm.digest (L i ++ [45] ++ beput (i % 65536) 2) = D from by rw [HhD.out, HhLn.out]; unfold Em.comp; rw [← Hhn.out]] at hof
      have k5 := K.out.alloc' (.cells #[Value.int .u8 (q : Int), Value.int .u8 (m : Int)] 5)
      have hcw : ∀ j u, [UInt8.ofNat q, UInt8.ofNat m][j]? = some u → (wr.alloc (.cells #[Value.int .u8 (q : Int), Value.int .u8 (m : Int)] 5)).cell? ⟨wr.heap.size, 0 + j, none⟩ = some (Value.int .u8 (u.toNat : Int)) := by
        intro j u hj
        rw [cell_of_row _ _ _ _ _ _ (heap_alloc_new _ _)]
        match j, hj with
        | 0, hj => have : UInt8.ofNat q = u := by simpa using hj
                   subst this; simp [UInt8.toNat_ofNat']; omega
        | 1, hj => have : UInt8.ofNat m = u := by simpa using hj
                   subst this; simp [UInt8.toNat_ofNat']; omega
      have Hhr := Lib.hid hr
      have Hhrl := Lib.hid hrl
      have Hhof := Lib.hid hof
      have Hk5 := Lib.hid k5
      clear hr hrl hof k5
      go_wp2_with (refine kl_string rfl 91 9 5 _ rfl Try.underlying91 Try.underlying5 Try.underlying9 wr.heap.size 0 2 2 rfl [UInt8.ofNat q, UInt8.ofNat m] rfl (fun j' u' hj' => by
            exact hcw j' u' hj') ?_)
      refine (show Calls Try.prog 30 #[.string (s ++ ⟨#[45]⟩ ++ ⟨#[UInt8.ofNat q, UInt8.ofNat m]⟩)] _ _ from by
        rw [show s ++ ⟨#[45]⟩ ++ ⟨#[UInt8.ofNat q, UInt8.ofNat m]⟩ = r from Hhr.out.symm]; exact Hhof.out _).mono ?_
      rintro e w4 ⟨rfl, hb4⟩
      have k4 := Hk5.out.call hb4
      have HRES := setRow_heap w4 w.heap.size _ (dArr D) _ _ (k4.get 0 rfl)
      have HBR := below_setRow (g := w.heap.size) k4.below (by omega) (dArr D)
      have K3 := Lib.hid (k4.get 0 rfl)
      have HRES' := Lib.hid HRES
      clear k4 hb4 HRES hcw
      go_wp2_with (refine wpList_store_row rfl 50 _ _ rfl w.heap.size (dArr D) rfl rfl _ _ K3.out (by rw [d32s, dArr_size]) (by rw [dArr_size, dArr_size]) (dArr_one _) ?_)
      refine bodyPost_ret (results_cell_row rfl _ _ _ _ _ _ _ rfl HRES'.out Try.underlying50 rfl (by rw [d32s, dArr_size])) rfl ⟨rfl, HBR⟩
end Go.Proofs.Ytgdjfijkbemkeaa
