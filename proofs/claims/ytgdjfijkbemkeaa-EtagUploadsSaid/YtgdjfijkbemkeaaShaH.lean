/-
  Walks: the reference's padded, taken, right.
-/
import Derived.Test.YtgdjfijkbemkeaaShaG
namespace Go.Proofs.Ytgdjfijkbemkeaa
open Go.RowKit
set_option maxHeartbeats 1000000
set_option maxRecDepth 20000
set_option linter.unusedVariables false

theorem refRight (x : Nat) (n : Nat) (hx : x < 4294967296) (h0 : 0 < n) (h1 : n < 32) (w : World) :
    Calls Try.prog 64 #[.int .u32 x, .int .u64 n] w fun e w' => e = .returned (.int .u32 (Sm.rr x n : Nat)) ∧ w' = w := by
  obtain ⟨R, hR⟩ : ∃ R, R = Sm.rr x n := ⟨_, rfl⟩
  have h := Sm.rr_ref x n hx h0 h1
  rw [← hR] at h ⊢
  have hc : ((x : Int) / 2 ^ n + (x : Int) * 2 ^ (32 - n) % 4294967296) % 4294967296 = (R : Int) := by
    rw [← h, Int.natCast_emod, Int.natCast_add, Int.natCast_ediv, Int.natCast_emod, Int.natCast_mul, Int.natCast_pow, Int.natCast_pow]; rfl
  have H := Lib.hid hc
  clear h hR hc
  go_enter Try.func64, Try.ntmps64
  go_wp2
  go_ret
  rw [H.out]
  exact ⟨rfl, rfl⟩

theorem padded (s : ByteArray) (hs : s.size ≤ 1099511627776) (w : World) :
    Calls Try.prog 62 #[.string s] w fun e w' => e = .returned (.string ⟨(s.data.toList ++ Sm.padB s.data.toList).toArray⟩) ∧ Below w.heap.size w w' := by
  obtain ⟨P, hP⟩ : ∃ P : ByteArray, P = ⟨(s.data.toList ++ Sm.padB s.data.toList).toArray⟩ := ⟨_, rfl⟩
  rw [← hP]
  have hPl : P.data.toList = s.data.toList ++ Sm.padB s.data.toList := by rw [hP]
  clear hP
  have hsl : s.data.toList.length = s.size := rfl
  unfold Sm.padB at hPl
  rw [hsl] at hPl
  obtain ⟨l, hll⟩ : ∃ l, l = s.data.toList := ⟨_, rfl⟩
  rw [← hll] at hPl hsl
  have HSLL := hll.symm
  clear hll
  obtain ⟨n, hn⟩ : ∃ n, n = s.size := ⟨_, rfl⟩
  rw [← hn] at hPl hs
  obtain ⟨z, hz⟩ : ∃ z, z = (119 - n % 64) % 64 := ⟨_, rfl⟩
  rw [← hz] at hPl
  obtain ⟨N, hN⟩ : ∃ N, N = 8 * n := ⟨_, rfl⟩
  rw [← hN] at hPl
  have hw8 : IntKind.i64.wrap (8 * (s.size : Int)) = (N : Int) := by rw [IntKind.wrap_i64]; omega
  have hw9 : IntKind.u64.wrap (N : Int) = (N : Int) := by rw [IntKind.wrap_u64]; omega
  have hn1 : ¬ 9223372036854775807 < s.size + 1 := by omega
  have HP := Lib.hid hPl
  have HSL := Lib.hid hsl
  have HZ := Lib.hid hz
  have HN := Lib.hid hN
  have HNS := Lib.hid hn
  have hNb : N ≤ 8796093022208 := by omega
  clear hPl hsl hz hN hn
  obtain ⟨t0, ht0⟩ : ∃ t : ByteArray, t = s ++ ⟨#[128]⟩ := ⟨_, rfl⟩
  have ht0l : t0.data.toList = l ++ [128] ++ List.replicate 0 0 := by rw [ht0]; simp [HSLL]
  have HT0 := Lib.hid ht0
  have HT0L := Lib.hid ht0l
  clear ht0 ht0l HSLL
  go_enter Try.func62, Try.ntmps62
  go_wp2_with (refine kl_string rfl 91 9 5 _ rfl Try.underlying91 Try.underlying5 Try.underlying9 _ _ _ _ rfl [128] rfl (fun j u hj => by rw [Nat.zero_add, cell_of_row _ _ _ _ _ _ (heap_alloc_new _ _)]; match j, hj with | 0, hj => cases hj; rfl) ?_)
  rw [← HT0.out]
  have hb0 : Below w.heap.size w (w.alloc (Obj.cells #[Value.int IntKind.u8 128] 5)) := (Below.refl _ _).alloc (Nat.le_refl _) _
  generalize w.alloc (Obj.cells #[Value.int IntKind.u8 128] 5) = w1 at *
  go_loopw [0] (fun sv wr => ∃ (t : ByteArray) (j : Nat), j ≤ z ∧ sv = .string t ∧ Hid (t.data.toList = l ++ [128] ++ List.replicate j 0) ∧ Below w.heap.size w wr) (fun sv _ => 2000000000000 - strSize (some sv))
  case atStart => exact ⟨t0, 0, by omega, rfl, HT0L, hb0⟩
  case round =>
    obtain ⟨t, j, hj, rfl, HT, hb⟩ := hrel
    have hts : t.size = n + 1 + j := by
      have h : t.data.toList.length = n + 1 + j := by rw [HT.out, List.length_append, List.length_append, HSL.out, HNS.out, List.length_replicate]; rfl
      exact h
    obtain ⟨q, hq⟩ : ∃ q, q = t.size := ⟨_, rfl⟩
    have hqz : z < 64 := by have := HZ.out; omega
    have hrem : (q : Int).tmod 64 = ((q % 64 : Nat) : Int) := by rw [Int.tmod_eq_emod_of_nonneg (by omega)]; omega
    have hqs : t.size = q := hq.symm
    have hqj : q = n + 1 + j := by omega
    have HQJ := Lib.hid hqj
    have hnq : ¬ 9223372036854775807 < q + 1 := by omega
    by_cases hjz : j < z
    · have hne : ¬ (((q % 64 : Nat) : Int) = 56) := by have := HZ.out; omega
      obtain ⟨t1, ht1⟩ : ∃ x : ByteArray, x = t ++ ⟨#[0]⟩ := ⟨_, rfl⟩
      have ht1l : t1.data.toList = l ++ [128] ++ List.replicate (j + 1) 0 := by
        rw [ht1, List.replicate_succ', ← List.append_assoc, ← HT.out]; simp
      have ht1s : t1.size = q + 1 := by rw [ht1, ByteArray.size_append, hqs]; rfl
      have HT1 := Lib.hid ht1
      have HT1L := Lib.hid ht1l
      have HT1S := Lib.hid ht1s
      generalize q % 64 = q64 at *
      clear ht1 ht1l ht1s hq hts hqj
      go_wp2_with (refine kl_string rfl 91 9 5 _ rfl Try.underlying91 Try.underlying5 Try.underlying9 _ _ _ _ rfl [0] rfl (fun j u hj => by rw [Nat.zero_add, cell_of_row _ _ _ _ _ _ (heap_alloc_new _ _)]; match j, hj with | 0, hj => cases hj; rfl) ?_)
      rw [← HT1.out]
      go_roundw
      case rel => exact ⟨t1, j + 1, by omega, rfl, HT1L.out, hb.alloc hb.size _⟩
      case measure => have := HT1S.out; have := HQJ.out; simp only [strSize, hqs]; omega
    · obtain rfl : j = z := by omega
      have hne : ((q % 64 : Nat) : Int) = 56 := by have := HZ.out; omega
      generalize q % 64 = q64 at *
      clear hq hts hqj
      go_wp2_with fail
      obtain ⟨wq, h⟩ : ∃ x : World, x = wr := ⟨_, rfl⟩
      subst h
      have HB := Lib.hid (rfl : t = t)
      go_loopw [0, 4] (fun sv iv wr => ∃ (t2 : ByteArray) (m : Nat) (i : Int), m ≤ 8 ∧ i = 56 - 8 * (m : Int) ∧ sv = .string t2 ∧ iv = .int .i64 i ∧ Hid (t2.data.toList = t.data.toList ++ (beput N 8).take m) ∧ Below w.heap.size w wr) (fun _ iv _ => (intOf iv + 100).toNat)
      case atStart => exact ⟨t, 0, 56, by omega, by omega, rfl, rfl, by simp [Hid], hb⟩
      case round =>
        obtain ⟨t2, m, i, hm, hi, rfl, rfl, HT2, hb2⟩ := hrel
        have ht2s : t2.size = q + m := by
          have h : t2.data.toList.length = q + m := by
            rw [HT2.out, List.length_append, List.length_take, beput_length, Nat.min_eq_left hm]
            have : t.data.toList.length = q := hqs
            omega
          exact h
        have hqb := HQJ.out
        have hn2 : ¬ 9223372036854775807 < q + m + 1 := by omega
        by_cases hm8 : m < 8
        · have hg := beput_get 8 N (7 - m) (by omega)
          rw [show 8 - 1 - (7 - m) = m by omega] at hg
          have hpw : (256 : Nat) ^ (7 - m) = 2 ^ (56 - 8 * m) := by
            rw [show (256 : Nat) = 2 ^ 8 from rfl, ← Nat.pow_mul, show 8 * (7 - m) = 56 - 8 * m by omega]
          rw [hpw] at hg
          have htk : (beput N 8).take (m + 1) = (beput N 8).take m ++ [UInt8.ofNat (N / 2 ^ (56 - 8 * m) % 256)] := by
            rw [List.take_add_one, hg]; rfl
          have hin : i = ((56 - 8 * m : Nat) : Int) := by omega
          obtain ⟨e, he⟩ : ∃ e, e = 56 - 8 * m := ⟨_, rfl⟩
          rw [← he] at htk hin
          have he2 : e ≤ 56 := by omega
          subst hin
          have hdv : (N : Int) / 2 ^ e = ((N / 2 ^ e : Nat) : Int) := by rw [Int.natCast_ediv, Int.natCast_pow]; rfl
          obtain ⟨x, hx⟩ : ∃ x, x = N / 2 ^ e := ⟨_, rfl⟩
          rw [← hx] at htk hdv
          obtain ⟨t3, ht3⟩ : ∃ y : ByteArray, y = t2 ++ ⟨#[UInt8.ofNat (x % 256)]⟩ := ⟨_, rfl⟩
          have ht3l : t3.data.toList = t.data.toList ++ (beput N 8).take (m + 1) := by
            rw [ht3, htk, ← List.append_assoc, ← HT2.out]; simp
          have HT3 := Lib.hid ht3
          have HT3L := Lib.hid ht3l
          have HI := Lib.hid hi
          clear ht3 ht3l hg hpw htk hx hi he hqb
          go_wp2_with (refine kl_string rfl 91 9 5 _ rfl Try.underlying91 Try.underlying5 Try.underlying9 _ _ _ _ rfl [UInt8.ofNat (x % 256)] rfl (fun j u hj => by
            rw [Nat.zero_add, cell_of_row _ _ _ _ _ _ (heap_alloc_new _ _)]
            match j, hj with
            | 0, hj => cases hj; simp [UInt8.toNat_ofNat']) ?_)
          rw [← HT3.out]
          go_roundw
          case rel => exact ⟨t3, m + 1, _, by omega, by have := HI.out; omega, rfl, rfl, HT3L.out, hb2.alloc hb2.size _⟩
          case measure => simp [intOf]; omega
        · obtain rfl : m = 8 := by omega
          have hi8 : i = -8 := by omega
          subst hi8
          have hPt : P = t2 := by
            have h : P.data.toList = t2.data.toList := by
              rw [HP.out, HT2.out, HT.out, List.take_of_length_le (by rw [beput_length]; exact Nat.le_refl _)]
              simp only [List.append_assoc]
            cases P; cases t2; simp only at h; congr 1; exact Array.toList_inj.mp h
          have HPT := Lib.hid hPt
          clear hPt
          go_wp2_with fail
          go_ret
          exact ⟨by rw [HPT.out]; rfl, hb2⟩

theorem kl_build {P : Program} {w : World} {ops : Array Oper} {rest : List Oper} {o : Oper} {a : Act} {Q : Exit → Act → World → Prop}
    (hgd : o.guard = none) (T : TypeId) (parts : Array (Nat × Operand)) (ho : o.op = .build T parts) (v : Value)
    (hr : (Instr.build T (parts.map fun (i, x) => (i, a.eval x))).run P w = .ok v w)
    (h : wpList P ops Q rest (a.put o.dst v) w) : wpList P ops Q (o :: rest) a w := by
  refine wpList_plain hgd fun K hK => ?_
  unfold Oper.wp execOp
  rw [ho]
  simp only [Sem.run_bind, hr, Result.andThen_ok]
  exact hK _ _ h

theorem refTaken (w : World) :
    Calls Try.prog 63 #[] w fun e w' => e = .returned (.agg (wArr Sm.kT)) ∧ Below w.heap.size w w' := by
  obtain ⟨i0, hi0, hz0, hs0⟩ := w64
  have hD1 := heap_alloc_new w (.cells (wArr []) 93)
  have HRES := setRow_heap _ w.heap.size _ (wArr Sm.kT) _ _ hD1
  have HBR := below_setRow (g := w.heap.size) ((Below.refl w.heap.size w).alloc (Nat.le_refl _) (.cells (wArr []) 93)) (Nat.le_refl _) (wArr Sm.kT)
  have HD1 := Lib.hid hD1
  have HRES' := Lib.hid HRES
  clear hD1 HRES
  go_enter Try.func63, Try.ntmps63
  go_wp2_with (first | refine kl_alloc rfl 93 rfl (wArr []) i0 hi0 _ hz0 rfl ?_ | refine kl_build rfl 93 _ rfl (.agg (wArr Sm.kT)) ?hb ?_ | refine wpList_store_row rfl 93 _ _ rfl w.heap.size (wArr Sm.kT) rfl rfl _ _ HD1.out (by rw [w64s, wArr_size]) (by rw [wArr_size, wArr_size]) (wArr_one _) ?_)
  case hb =>
    rw [Sm.kT_eq]
    kernel_rfl
  refine bodyPost_ret (results_cell_row rfl _ _ _ _ _ _ _ rfl HRES'.out Try.underlying93 rfl (by rw [w64s, wArr_size])) rfl ⟨rfl, HBR⟩
end Go.Proofs.Ytgdjfijkbemkeaa
