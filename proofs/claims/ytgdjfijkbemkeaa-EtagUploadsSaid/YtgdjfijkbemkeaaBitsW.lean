import Derived.Test.YtgdjfijkbemkeaaRows
import Derived.Test.YtgdjfijkbemkeaaBitsM
import Derived.Test.YtgdjfijkbemkeaaK
namespace Go.Proofs.Ytgdjfijkbemkeaa
open Go.RowKit
set_option maxHeartbeats 400000
set_option maxRecDepth 20000

def bitArr (v k : Nat) : Array Value := Array.ofFn (n := 64) fun i => .int .i64 (if i.val < k then ((v / 2 ^ i.val % 2 : Nat) : Int) else 0)
theorem bitArr_size (v k : Nat) : (bitArr v k).size = 64 := by simp [bitArr]
theorem bitArr_get (v k i : Nat) (hi : i < 64) : (bitArr v k)[i]? = some (.int .i64 (if i < k then ((v / 2 ^ i % 2 : Nat) : Int) else 0)) := by
  simp [bitArr, hi]
theorem bitArr_succ (v k : Nat) (hk : k < 64) : (bitArr v k).setIfInBounds k (.int .i64 ((v / 2 ^ k % 2 : Nat) : Int)) = bitArr v (k + 1) := by
  apply Array.ext_getElem?
  intro i
  rw [Array.getElem?_setIfInBounds]
  by_cases h : k = i
  · subst h; rw [if_pos rfl, bitArr_size, if_pos hk, bitArr_get _ _ _ hk, if_pos (by omega)]
  · rw [if_neg h]
    by_cases hi : i < 64
    · rw [bitArr_get _ _ _ hi, bitArr_get _ _ _ hi]
      by_cases hik : i < k
      · rw [if_pos hik, if_pos (by omega)]
      · rw [if_neg hik, if_neg (by omega)]
    · rw [Array.getElem?_eq_none (by rw [bitArr_size]; omega), Array.getElem?_eq_none (by rw [bitArr_size]; omega)]
theorem bitArr_one (v k : Nat) : (bitArr v k).all (·.oneCell') = true := by
  rw [Array.all_eq_true_iff_forall_mem]; intro x hx; simp [bitArr] at hx; obtain ⟨i, rfl⟩ := hx; rfl

theorem bitArr_zero (v : Nat) : bitArr v 0 = Array.replicate 64 (.int .i64 0) := by
  apply Array.ext_getElem?
  intro i
  by_cases hi : i < 64
  · rw [bitArr_get _ _ _ hi, if_neg (by omega)]; simp [hi]
  · rw [Array.getElem?_eq_none (by rw [bitArr_size]; omega), Array.getElem?_eq_none (by simp; omega)]

theorem info_arr64 : (Try.prog.info? 87).map (fun i => (i.zero, i.size)) = some (some (.agg (Array.replicate 64 (.int .i64 0))), 64) := by kernel_rfl
theorem arr64 (V : Nat) : ∃ i, Try.prog.info? 87 = some i ∧ i.zero = some (.agg (bitArr V 0)) ∧ i.size = 64 := by
  have h := info_arr64
  cases hi : Try.prog.info? 87 with
  | none => rw [hi] at h; cases h
  | some i =>
    rw [hi] at h
    simp only [Option.map_some, Option.some.injEq, Prod.mk.injEq] at h
    exact ⟨i, rfl, by rw [h.1, bitArr_zero], h.2⟩
theorem arr64s : (Try.prog.info? 87).map (·.size) = some 64 := by kernel_rfl

theorem refBits (V : Nat) (hV : V < 18446744073709551616) (w : World) :
    Calls Try.prog 55 #[.int .u64 V] w fun e w' => e = .returned (.agg (bitArr V 64)) ∧ Below w.heap.size w w' := by
  obtain ⟨i, hi, hz, hs⟩ := arr64 V
  go_enter Try.func55, Try.ntmps55
  go_wp2_with (refine kl_alloc rfl 87 rfl (bitArr V 0) i hi _ hz rfl ?_)
  go_loopw [0, 4] (fun v i wr => ∃ k : Nat, k ≤ 64 ∧ i = .int .i64 k ∧ v = .int .u64 ((V / 2 ^ k : Nat) : Int) ∧ wr.heap[w.heap.size]? = some (.cells (bitArr V 0) 87 (0, 0)) ∧ wr.heap[w.heap.size + 1]? = some (.cells (bitArr V k) 87 (0, 0)) ∧ Below w.heap.size w wr)
    (fun _ i _ => 64 - (intOf i).toNat)
  case atStart =>
    exact ⟨0, by omega, rfl, by simp, heap_alloc2_old _ _ _, heap_alloc2_new _ _ _, ((Below.refl _ _).alloc (Nat.le_refl _) _).alloc (by simp) _⟩
  case round =>
    obtain ⟨k, hk, rfl, rfl, H1, H2, hb⟩ := hrel
    have hV2 : V / 2 ^ k ≤ V := Nat.div_le_self _ _
    have hV3 : V / 2 ^ k / 2 = V / 2 ^ (k + 1) := by rw [Nat.div_div_eq_div_mul, Nat.pow_succ]
    obtain ⟨u, hu⟩ : ∃ u, u = V / 2 ^ k := ⟨_, rfl⟩
    rw [← hu] at hV2 hV3 ⊢
    by_cases hlt : k < 64
    · have hc : wr.cell? ⟨w.heap.size + 1, k, none⟩ = some (.int .i64 0) := by
        rw [cell_of_row _ _ _ _ _ _ H2, bitArr_get _ _ _ hlt, if_neg (by omega)]
      have hf := frozen_of_row _ _ k _ _ H2
      have HH1 := Lib.hid H1
      have HH2 := Lib.hid H2
      have HV3 := Lib.hid hV3
      have Hu := Lib.hid hu
      clear H1 H2 hu hV3
      go_wp2
      go_roundw
      case rel =>
        refine ⟨k + 1, by omega, by go_num, by rw [← HV3.out]; go_num, ?_, ?_, hb.setCell (by simp) _⟩
        · rw [heap_setCell_other _ _ _ _ (by simp)]; exact HH1.out
        · have e := heap_setCell_same _ _ k _ _ (.int .i64 ((V / 2 ^ k % 2 : Nat) : Int)) HH2.out
          rw [bitArr_succ _ _ hlt, ← Hu.out] at e
          rw [← e]
          congr 3
      case measure => simp [intOf]; omega
    · obtain rfl : k = 64 := by omega
      have H3 := setRow_heap wr w.heap.size _ (bitArr V 64) _ _ H1
      go_wp2_with (first | (refine wpList_load_row rfl 87 _ rfl _ rfl _ _ _ _ H2 Try.underlying87 rfl (by rw [arr64s, bitArr_size]) ?_) | (refine wpList_store_row rfl 87 _ _ rfl _ _ rfl rfl _ _ H1 (by rw [arr64s, bitArr_size]) (by simp [bitArr_size]) (bitArr_one _ _) ?_))
      refine bodyPost_ret (results_cell_row rfl _ _ _ _ _ _ _ rfl H3 Try.underlying87 rfl (by rw [arr64s, bitArr_size])) rfl ⟨rfl, below_setRow hb (by simp) _⟩

theorem clamp_any (n : Int) (w : World) :
    Calls Try.prog 57 #[.int .i64 n] w fun e w' => e = .returned (.int .i64 (Bm.clamp n : Nat)) ∧ w = w' := by
  have h1 : n < 0 → (Bm.clamp n : Int) = 0 := by unfold Bm.clamp; omega
  have h2 : 64 < n → (Bm.clamp n : Int) = 64 := by unfold Bm.clamp; omega
  have h3 : 0 ≤ n → n ≤ 64 → (Bm.clamp n : Int) = n := by unfold Bm.clamp; omega
  have H1 := Lib.hid h1
  have H2 := Lib.hid h2
  have H3 := Lib.hid h3
  clear h1 h2 h3
  go_enter Try.func57, Try.ntmps57
  go_wp2
  all_goals go_ret
  · rw [H1.out (by assumption)]; exact ⟨rfl, rfl⟩
  · rw [H2.out (by assumption)]; exact ⟨rfl, rfl⟩
  · rw [H3.out (by assumption) (by assumption)]; exact ⟨rfl, rfl⟩

/-- a row of small numbers, as a slice -/
def SlBits (w : World) (p : Option Addr) (xs : List Nat) : Prop :=
  xs = [] ∨ ∃ b o, p = some ⟨b, o, none⟩ ∧ ∀ (j x : Nat), xs[j]? = some x → w.cell? ⟨b, o + j, none⟩ = some (.int .i64 (x : Int))

theorem refWhole (xs : List Nat) (hx : ∀ x ∈ xs, x ≤ 1) (hn : xs.length ≤ 64) (p : Option Addr) (c : Nat) (w : World) (hp : SlBits w p xs) :
    Calls Try.prog 56 #[.slice p xs.length c] w fun e w' => e = .returned (.int .u64 (Bm.wh xs : Nat)) ∧ w = w' := by
  obtain ⟨n, hnn⟩ : ∃ n, n = xs.length := ⟨_, rfl⟩
  rw [← hnn] at hn ⊢
  have HN := Lib.hid hnn
  clear hnn
  rcases Nat.eq_zero_or_pos n with h0 | h0
  · subst h0
    have : xs = [] := List.length_eq_zero_iff.1 HN.out.symm
    subst this
    go_enter Try.func56, Try.ntmps56
    go_wp2
    go_loop [3, 4] (fun v i => v = .int .u64 0 ∧ i = .int .i64 (-1)) (fun _ _ => 0)
    case atStart => exact ⟨rfl, rfl⟩
    case round =>
      obtain ⟨rfl, rfl⟩ := hrel
      go_wp2
      go_ret
      exact ⟨rfl, rfl⟩
  · obtain ⟨b, o, rfl, hc⟩ : ∃ b o, p = some ⟨b, o, none⟩ ∧ ∀ (j x : Nat), xs[j]? = some x → w.cell? ⟨b, o + j, none⟩ = some (.int .i64 (x : Int)) := by
      rcases hp with h | h
      · subst h; have h1 := HN.out; rw [List.length_nil] at h1; omega
      · exact h
    have HC := Lib.hid hc
    clear hc hp
    go_enter Try.func56, Try.ntmps56
    go_wp2
    go_loop [3, 4] (fun v i => ∃ k : Nat, k ≤ n ∧ i = .int .i64 ((k : Int) - 1) ∧ v = .int .u64 (Bm.wh (xs.drop k) : Nat)) (fun _ i => (intOf i + 1).toNat)
    case atStart => exact ⟨n, by omega, rfl, by rw [List.drop_eq_nil_of_le (by rw [HN.out]; omega)]; rfl⟩
    case round =>
      obtain ⟨k, hk, rfl, rfl⟩ := hrel
      by_cases hk0 : 1 ≤ k
      · obtain ⟨m, rfl⟩ : ∃ m, k = m + 1 := ⟨k - 1, by omega⟩
        have hm : m < xs.length := by rw [← HN.out]; omega
        have hg : xs[m]? = some xs[m] := List.getElem?_eq_getElem hm
        have hcell := HC.out m _ hg
        have hd := Bm.wh_drop xs m _ hg
        have hb := hx _ (List.getElem_mem hm)
        have hl := Bm.wh_lt (xs.drop (m + 1)) (fun x h => hx x (List.mem_of_mem_drop h))
        have hp2 : 2 ^ (xs.drop (m + 1)).length ≤ 2 ^ 63 := Nat.pow_le_pow_right (by decide) (by rw [List.length_drop, ← HN.out]; omega)
        have hl2 : Bm.wh (xs.drop (m + 1)) < 9223372036854775808 := by omega
        clear hl hp2
        obtain ⟨x, hxx⟩ : ∃ x, x = xs[m] := ⟨_, rfl⟩
        rw [← hxx] at hcell hd hb
        obtain ⟨u, hu⟩ : ∃ u, u = Bm.wh (xs.drop (m + 1)) := ⟨_, rfl⟩
        rw [← hu] at hl2 hd ⊢
        have HD := Lib.hid hd
        clear hd hxx hu hg
        have e1 : ((m + 1 : Nat) : Int) - 1 = (m : Int) := by omega
        rw [e1]
        clear e1
        have hlt : m < n := by omega
        go_wp2
        go_round
        case rel => exact ⟨m, by omega, by go_num, by rw [HD.out]; go_num⟩
        case measure => simp [intOf]
      · obtain rfl : k = 0 := by omega
        go_wp2
        go_ret
        exact ⟨rfl, rfl⟩

theorem bitArr_slBits (V : Nat) (k : Nat) (hk : k ≤ 64) (w : World) (b : Nat) (t : TypeId) (fz : Nat × Nat) (h : w.heap[b]? = some (.cells (bitArr V 64) t fz)) :
    SlBits w (some ⟨b, 0, none⟩) (Bm.bitsOf V k) := by
  refine .inr ⟨b, 0, rfl, fun j x hx => ?_⟩
  have hj : j < k := by have := (List.getElem?_eq_some_iff.1 hx).1; rwa [Bm.bitsOf_length] at this
  rw [Bm.bitsOf_get _ _ _ hj] at hx
  rw [cell_of_row _ _ _ _ _ _ h, Nat.zero_add, bitArr_get _ _ _ (by omega), if_pos (by omega)]
  simp at hx; rw [hx]

theorem sl64 (w : World) (b k : Nat) (hk : k ≤ 64) : (Instr.sliceAt 87 (.pointer (some ⟨b, 0, none⟩)) none (some (.int .i64 (k : Int))) none).run Try.prog w = .ok (.slice (some ⟨b, 0, none⟩) k 64) w := by
  have h1 : Try.prog.arrayLen 87 = 64 := by kernel_rfl
  have h2 : Try.prog.elem 87 = 3 := by kernel_rfl
  have h3 : (Try.prog.info? 3).map (·.size) = some 1 := by kernel_rfl
  rw [run_sliceAt_array_h w 87 ⟨b, 0, none⟩ (by rw [h1, h2]; exact Try.underlying87) .i64 k (by omega) (by rw [h1]; omega), h1, h2]
  cases hi : Try.prog.info? 3 with
  | none => rw [hi] at h3; cases h3
  | some i =>
    rw [hi] at h3
    simp only [Option.map_some, Option.some.injEq] at h3
    simp only [sizeOf, typeInfo, Sem.run_bind, run_program, hi, Sem.run_pure, Result.andThen_ok, h3, slicedAt, Int.toNat_natCast]
    simp [Addr.add]

theorem refLow (V : Nat) (n : Int) (hV : V < 18446744073709551616) (w : World) :
    Calls Try.prog 14 #[.int .u64 V, .int .i64 n] w fun e w' => e = .returned (.int .u64 (V % 2 ^ Bm.clamp n : Nat)) ∧ Below w.heap.size w w' := by
  obtain ⟨i, hi, hz, hs⟩ := arr64 V
  have hcl : Bm.clamp n ≤ 64 := by unfold Bm.clamp; omega
  have hfin := Bm.wh_bitsOf (Bm.clamp n) V
  have hlen := Bm.bitsOf_length V (Bm.clamp n)
  have hle := Bm.bitsOf_le V (Bm.clamp n)
  have hcall := clamp_any n
  generalize Bm.clamp n = k at *
  have HF := Lib.hid hfin
  have HL := Lib.hid hlen
  have hsl := fun w b => sl64 w b k hcl
  clear hfin hlen
  go_enter Try.func14, Try.ntmps14
  go_wp2_with fail
  refine (refBits V hV _).mono ?_
  rintro e w1 ⟨rfl, hb1⟩
  go_wp2_with (first | (refine kl_alloc rfl 87 rfl (bitArr V 0) i hi _ hz rfl ?_) | (refine kl_store_new rfl 87 _ _ rfl _ rfl rfl _ _ (by rw [arr64s, bitArr_size]) (by simp [bitArr_size]) (bitArr_one _ _) ?_) | (go_at_call 57; refine (hcall _).mono ?_; rintro e w' ⟨rfl, rfl⟩))
  have hw := refWhole (Bm.bitsOf V k) hle (by rw [HL.out]; exact hcl) (some ⟨w1.heap.size, 0, none⟩) 64 (w1.alloc (Obj.cells (bitArr V 64) 87)) (bitArr_slBits V k hcl _ _ _ _ (heap_alloc_new _ _))
  rw [HL.out, HF.out] at hw
  refine hw.mono ?_
  rintro e w' ⟨rfl, rfl⟩
  go_wp2
  go_ret
  exact ⟨rfl, hb1.alloc hb1.size _⟩

/-- the bits, the first k of them flipped -/
def flipArr (v k : Nat) : Array Value := Array.ofFn (n := 64) fun i => .int .i64 (if i.val < k then ((1 - v / 2 ^ i.val % 2 : Nat) : Int) else ((v / 2 ^ i.val % 2 : Nat) : Int))
theorem flipArr_size (v k : Nat) : (flipArr v k).size = 64 := by simp [flipArr]
theorem flipArr_get (v k i : Nat) (hi : i < 64) : (flipArr v k)[i]? = some (.int .i64 (if i < k then ((1 - v / 2 ^ i % 2 : Nat) : Int) else ((v / 2 ^ i % 2 : Nat) : Int))) := by
  simp only [flipArr, Array.getElem?_ofFn, hi, dif_pos]
theorem flipArr_zero (v : Nat) : flipArr v 0 = bitArr v 64 := by
  apply Array.ext_getElem?
  intro i
  by_cases hi : i < 64
  · rw [flipArr_get _ _ _ hi, bitArr_get _ _ _ hi, if_neg (by omega), if_pos (by omega)]
  · rw [Array.getElem?_eq_none (by rw [flipArr_size]; omega), Array.getElem?_eq_none (by rw [bitArr_size]; omega)]
theorem flipArr_succ (v k : Nat) (hk : k < 64) : (flipArr v k).setIfInBounds k (.int .i64 ((1 - v / 2 ^ k % 2 : Nat) : Int)) = flipArr v (k + 1) := by
  apply Array.ext_getElem?
  intro i
  rw [Array.getElem?_setIfInBounds]
  by_cases h : k = i
  · subst h; rw [if_pos rfl, flipArr_size, if_pos hk, flipArr_get _ _ _ hk, if_pos (by omega)]
  · rw [if_neg h]
    by_cases hi : i < 64
    · rw [flipArr_get _ _ _ hi, flipArr_get _ _ _ hi]
      by_cases hik : i < k
      · rw [if_pos hik, if_pos (by omega)]
      · rw [if_neg hik, if_neg (by omega)]
    · rw [Array.getElem?_eq_none (by rw [flipArr_size]; omega), Array.getElem?_eq_none (by rw [flipArr_size]; omega)]
theorem flipArr_slBits (V : Nat) (k : Nat) (hk : k ≤ 64) (w : World) (b : Nat) (t : TypeId) (fz : Nat × Nat) (h : w.heap[b]? = some (.cells (flipArr V k) t fz)) :
    SlBits w (some ⟨b, 0, none⟩) ((Bm.bitsOf V k).map (1 - ·)) := by
  refine Or.inr ⟨b, 0, rfl, fun j x hx => ?_⟩
  have hj : j < k := by have := (List.getElem?_eq_some_iff.1 hx).1; rwa [List.length_map, Bm.bitsOf_length] at this
  rw [List.getElem?_map, Bm.bitsOf_get _ _ _ hj] at hx
  rw [cell_of_row _ _ _ _ _ _ h, Nat.zero_add, flipArr_get _ _ _ (by omega), if_pos hj]
  simp only [Option.map_some, Option.some.injEq] at hx; rw [hx]

theorem refSigned (V : Nat) (n : Int) (hV : V < 18446744073709551616) (w : World) :
    Calls Try.prog 16 #[.int .u64 V, .int .i64 n] w fun e w' => e = .returned (.int .i64 (Bm.sgn V (Bm.clamp n))) ∧ Below w.heap.size w w' := by
  obtain ⟨i, hi, hz, hs⟩ := arr64 V
  have hcl : Bm.clamp n ≤ 64 := by unfold Bm.clamp; omega
  have hcall := clamp_any n
  generalize Bm.clamp n = k at *
  rcases Nat.eq_zero_or_pos k with h0 | h0
  · subst h0
    go_enter Try.func16, Try.ntmps16
    go_wp2_with fail
    refine (hcall _).mono ?_
    rintro e w1 ⟨rfl, rfl⟩
    go_wp2
    go_ret
    exact ⟨by simp [Bm.sgn], Below.refl _ _⟩
  obtain ⟨m, rfl⟩ : ∃ m, k = m + 1 := ⟨k - 1, by omega⟩
  have hcast : ((m + 1 : Nat) : Int) = (m : Int) + 1 := by omega
  have hne : (((m : Int) + 1) == 0) = false := by simp; omega
  have hmlt : m < 64 := by omega
  have hcell : ∀ w1 : World, (w1.alloc (.cells (bitArr V 64) 87)).cell? ⟨w1.heap.size, m, none⟩ = some (.int .i64 ((V / 2 ^ m % 2 : Nat) : Int)) := fun w1 => by
    rw [cell_of_row _ _ _ _ _ _ (heap_alloc_new _ _), bitArr_get _ _ _ hmlt, if_pos hmlt]
  have hu2 : V / 2 ^ m % 2 < 2 := by omega
  have hlo := Bm.sgn_low V m
  have hhi := Bm.sgn_high V m
  obtain ⟨u, hu⟩ : ∃ u, u = V / 2 ^ m % 2 := ⟨_, rfl⟩
  rw [← hu] at hcell hu2 hlo hhi
  have hsl := fun w b => sl64 w b (m + 1) hcl
  rw [hcast] at hcall hsl
  have hpm : 2 ^ (m + 1) ≤ 2 ^ 64 := Nat.pow_le_pow_right (by decide) hcl
  have hps : 2 ^ (m + 1) = 2 * 2 ^ m := by rw [Nat.pow_succ, Nat.mul_comm]
  have hlt2 : V % 2 ^ (m + 1) < 2 ^ (m + 1) := Nat.mod_lt _ (Nat.two_pow_pos _)
  have hlow : u = 0 → V % 2 ^ (m + 1) < 2 ^ m := fun h => by
    have h1 := Bm.bit_top V m
    rw [← hu, h, Nat.mul_zero, Nat.add_zero] at h1
    rw [h1]; exact Nat.mod_lt _ (Nat.two_pow_pos _)
  clear hu
  have HCELL := Lib.hid hcell
  have HSL := Lib.hid hsl
  have HC := Lib.hid hcast
  have HLO := Lib.hid hlo
  have HHI := Lib.hid hhi
  clear hcast hlo hhi
  by_cases hu0 : u = 0
  · have hsg := HLO.out hu0
    have hl := hlow hu0
    subst hu0
    have hw := fun w p hp => refWhole (Bm.bitsOf V (m + 1)) (Bm.bitsOf_le _ _) (by rw [Bm.bitsOf_length]; exact hcl) p 64 w hp
    rw [Bm.bitsOf_length, Bm.wh_bitsOf] at hw
    rw [hsg]
    generalize V % 2 ^ (m + 1) = r at *
    have hr63 : r < 9223372036854775808 := by
      have : 2 ^ m ≤ 2 ^ 63 := Nat.pow_le_pow_right (by decide) (by omega)
      omega
    clear hsg hl hpm hps hlt2 hlow HLO HHI
    go_enter Try.func16, Try.ntmps16
    go_wp2_with fail
    refine (hcall _).mono ?_
    rintro e w1 ⟨rfl, rfl⟩
    go_wp2_with fail
    refine (refBits V hV _).mono ?_
    rintro e w1 ⟨rfl, hb1⟩
    go_wp2_with (first | (refine kl_alloc rfl 87 rfl (bitArr V 0) i hi _ hz rfl ?_) | (refine kl_store_new rfl 87 _ _ rfl _ rfl rfl _ _ (by rw [arr64s, bitArr_size]) (by simp [bitArr_size]) (bitArr_one _ _) ?_))
    refine (hw _ _ (bitArr_slBits V (m + 1) hcl _ _ _ _ (heap_alloc_new _ _))).mono ?_
    rintro e w' ⟨rfl, rfl⟩
    go_wp2
    go_ret
    exact ⟨rfl, hb1.alloc hb1.size _⟩
  · obtain rfl : u = 1 := by omega
    obtain ⟨hsg, hge⟩ := HHI.out hu0
    have hfl := Bm.wh_flip (Bm.bitsOf V (m + 1)) (Bm.bitsOf_le _ _)
    rw [Bm.bitsOf_length, Bm.wh_bitsOf] at hfl
    have hw := fun w p hp => refWhole ((Bm.bitsOf V (m + 1)).map (1 - ·)) (fun x hx => by simp at hx; obtain ⟨a, _, rfl⟩ := hx; omega) (by rw [List.length_map, Bm.bitsOf_length]; exact hcl) p 64 w hp
    rw [List.length_map, Bm.bitsOf_length] at hw
    rw [hsg]
    generalize V % 2 ^ (m + 1) = r at *
    obtain ⟨f, hf⟩ : ∃ f, f = Bm.wh ((Bm.bitsOf V (m + 1)).map (1 - ·)) := ⟨_, rfl⟩
    rw [← hf] at hfl hw
    have hr63 : f < 9223372036854775808 := by
      have : 2 ^ m ≤ 2 ^ 63 := Nat.pow_le_pow_right (by decide) (by omega)
      omega
    have hend : - (f : Int) - 1 = (r : Int) - ((2 ^ (m + 1) : Nat) : Int) := by omega
    rw [← hend]
    clear hsg hge hpm hps hlt2 hlow HLO HHI hf hfl hend HCELL
    have hcell1 : ∀ w1 : World, (w1.alloc (.cells (bitArr V 64) 87)).cell? ⟨w1.heap.size, m, none⟩ = some (.int .i64 1) := hcell
    clear hcell
    go_enter Try.func16, Try.ntmps16
    go_wp2_with fail
    refine (hcall _).mono ?_
    rintro e w1 ⟨rfl, rfl⟩
    go_wp2_with fail
    refine (refBits V hV _).mono ?_
    rintro e w1 ⟨rfl, hb1⟩
    go_wp2_with (first | (refine kl_alloc rfl 87 rfl (bitArr V 0) i hi _ hz rfl ?_) | (refine kl_store_new rfl 87 _ _ rfl _ rfl rfl _ _ (by rw [arr64s, bitArr_size]) (by simp [bitArr_size]) (bitArr_one _ _) ?_))
    go_loopw [6] (fun j wr => ∃ k : Nat, k ≤ m + 1 ∧ j = .int .i64 (k : Int) ∧ wr.heap[w1.heap.size]? = some (.cells (flipArr V k) 87 (0, 0)) ∧ Below w.heap.size w wr)
      (fun j _ => m + 1 - (intOf j).toNat)
    case atStart => exact ⟨0, by omega, rfl, by rw [flipArr_zero]; exact heap_alloc_new _ _, hb1.alloc hb1.size _⟩
    case round =>
      obtain ⟨k, hk, rfl, H1, hb⟩ := hrel
      have hbs := hb1.size
      by_cases hlt : k < m + 1
      · have hc : wr.cell? ⟨w1.heap.size, k, none⟩ = some (.int .i64 ((V / 2 ^ k % 2 : Nat) : Int)) := by
          rw [cell_of_row _ _ _ _ _ _ H1, flipArr_get _ _ _ (by omega), if_neg (by omega)]
        have hfz := frozen_of_row _ _ k _ _ H1
        have hx2 : V / 2 ^ k % 2 < 2 := by omega
        have hset := heap_setCell_same wr w1.heap.size k _ _ (.int .i64 ((1 - V / 2 ^ k % 2 : Nat) : Int)) H1
        rw [flipArr_succ _ _ (by omega)] at hset
        have hval : 1 - ((V / 2 ^ k % 2 : Nat) : Int) = ((1 - V / 2 ^ k % 2 : Nat) : Int) := by omega
        generalize V / 2 ^ k % 2 = x at *
        have HH1 := Lib.hid H1
        have HSET := Lib.hid hset
        have HVAL := Lib.hid hval
        clear H1 hset hval hcell1 hsl
        have hlt' : (k : Int) < (m : Int) + 1 := by omega
        go_wp2
        go_roundw
        case rel =>
          refine ⟨k + 1, by omega, by go_num, ?_, hb.setCell (by simpa using hbs) _⟩
          rw [HVAL.out]; exact HSET.out
        case measure => simp [intOf]; omega
      · obtain rfl : k = m + 1 := by omega
        have hsl2 := HSL.out
        rw [← HC.out] at hsl2
        have hnlt : ¬ ((m : Int) + 1 < (m : Int) + 1) := by omega
        rw [show (((m + 1 : Nat) : Int)) = (m : Int) + 1 from HC.out]
        have HW := hw wr _ (flipArr_slBits V (m + 1) hcl _ _ _ _ H1)
        clear hcell1 hsl hsl2 H1
        have hsl3 := HSL.out
        go_wp2_with fail
        refine HW.mono ?_
        rintro e w' ⟨rfl, rfl⟩
        go_wp2
        go_ret
        exact ⟨rfl, hb⟩
