import Derived.Test.YtgdjfijkbemkeaaBitsW
namespace Go.Proofs.Ytgdjfijkbemkeaa
open Go.RowKit
set_option maxHeartbeats 400000
set_option maxRecDepth 20000
set_option linter.unusedVariables false

theorem refCount (V : Nat) (hV : V < 18446744073709551616) (w : World) :
    Calls Try.prog 20 #[.int .u64 V] w fun e w' => e = .returned (.int .i64 (Bm.pop V 64 : Nat)) ∧ Below w.heap.size w w' := by
  obtain ⟨i, hi, hz, hs⟩ := arr64 V
  go_enter Try.func20, Try.ntmps20
  go_wp2_with fail
  refine (refBits V hV _).mono ?_
  rintro e w1 ⟨rfl, hb1⟩
  have hblk := heap_alloc_new w1 (Obj.cells (bitArr V 64) 87)
  have HB := Lib.hid hblk
  clear hblk
  go_wp2_with (first | (refine kl_alloc rfl 87 rfl (bitArr V 0) i hi _ hz rfl ?_) | (refine kl_store_new rfl 87 _ _ rfl _ rfl rfl _ _ (by rw [arr64s, bitArr_size]) (by simp [bitArr_size]) (bitArr_one _ _) ?_))
  have hb2 := hb1.alloc hb1.size (Obj.cells (bitArr V 64) 87)
  generalize w1.alloc (Obj.cells (bitArr V 64) 87) = wr at *
  go_loop [3, 5] (fun c j => ∃ k : Nat, k ≤ 64 ∧ j = .int .i64 (k : Int) ∧ c = .int .i64 (Bm.pop V k : Nat)) (fun _ j => 64 - (intOf j).toNat)
  case atStart => exact ⟨0, by omega, rfl, rfl⟩
  case round =>
    obtain ⟨k, hk, rfl, rfl⟩ := hrel
    have hpl := Bm.pop_le V k
    have hps : Bm.pop V (k + 1) = Bm.pop V k + V / 2 ^ k % 2 := rfl
    by_cases hlt : k < 64
    · have hc : wr.cell? ⟨w1.heap.size, k, none⟩ = some (.int .i64 ((V / 2 ^ k % 2 : Nat) : Int)) := by
        rw [cell_of_row _ _ _ _ _ _ HB.out, bitArr_get _ _ _ (by omega), if_pos (by omega)]
      have hx2 : V / 2 ^ k % 2 < 2 := by omega
      generalize V / 2 ^ k % 2 = x at *
      generalize Bm.pop V k = q at *
      have HP := Lib.hid hps
      clear hps
      go_wp2
      go_round
      case rel => exact ⟨k + 1, by omega, by go_num, by rw [HP.out]; go_num⟩
      case measure => simp [intOf]; omega
    · obtain rfl : k = 64 := by omega
      clear hps
      go_wp2
      go_ret
      exact ⟨rfl, hb2⟩

theorem count (V : Nat) (hV : V < 18446744073709551616) (w : World) :
    Calls Try.prog 19 #[.int .u64 V] w fun e w' => e = .returned (.int .i64 (Bm.pop V 64 : Nat)) ∧ w = w' := by
  have hfin := Bm.pop_le V 64
  obtain ⟨p, hp⟩ : ∃ p, p = Bm.pop V 64 := ⟨_, rfl⟩
  rw [← hp] at hfin ⊢
  have HP := Lib.hid hp
  clear hp
  go_enter Try.func19, Try.ntmps19
  go_wp2
  go_loop [0, 3] (fun v c => ∃ (u q : Nat), u < 18446744073709551616 ∧ v = .int .u64 (u : Int) ∧ c = .int .i64 (q : Int) ∧ Hid (q + Bm.pop u 64 = p)) (fun v _ => (intOf v).toNat)
  case atStart => exact ⟨V, 0, hV, rfl, rfl, by rw [HP.out, Nat.zero_add]; rfl⟩
  case round =>
    obtain ⟨u, q, hu, rfl, rfl, HQ⟩ := hrel
    by_cases h0 : u = 0
    · subst h0
      go_wp2
      go_ret
      have h1 := HQ.out
      rw [Bm.pop_zero] at h1
      exact ⟨by rw [← h1]; rfl, rfl⟩
    · have h1 := Bm.pop_strip 64 u h0 hu
      have h2 := Bm.and_pred_lt u h0
      have h3 := bits_and_u64_nat u (u - 1) hu (by omega)
      have h4 := HQ.out
      have hq : q ≤ 64 := by omega
      obtain ⟨u', hu'⟩ : ∃ u', u' = u &&& (u - 1) := ⟨_, rfl⟩
      rw [← hu'] at h1 h2 h3
      have h5 : Hid (q + 1 + Bm.pop u' 64 = p) := by show _ = _; omega
      have hne : ((u : Int) != 0) = true := by simp; omega
      rw [show (((u - 1 : Nat)) : Int) = (u : Int) - 1 by omega] at h3
      clear hu' h1 h4
      go_wp2
      go_round
      case rel => exact ⟨u', q + 1, by omega, rfl, by go_num, h5⟩
      case measure => simp [intOf]; omega

theorem rotate (x : Nat) (n : Int) (hx : x < 4294967296) (w : World) :
    Calls Try.prog 11 #[.int .u32 x, .int .i64 n] w fun e w' => e = .returned (.int .u32 (Bm.rotl x (n % 32).toNat : Nat)) ∧ w = w' := by
  have e1 : bits .and .u32 (n % 4294967296) 31 = n % 32 := by
    have := bits_mask .u32 32 (by decide) (fun n h0 h1 => by rw [IntKind.wrap_u32]; omega) 5 (by decide) (n % 4294967296) (by omega) (by omega)
    rw [show ((2 : Int) ^ 5 - 1) = 31 from rfl, show ((2 : Int) ^ 5) = 32 from rfl] at this
    rw [this]; omega
  have h1 : 0 ≤ n % 32 := by omega
  have h2 : n % 32 < 32 := by omega
  have h3 := Bm.rot_or x (n % 32).toNat hx (by omega)
  rw [show 32 - (n % 32).toNat = (32 - n % 32).toNat by omega] at h3
  generalize n % 32 = k at *
  have HR := Lib.hid h3
  clear h3
  go_enter Try.func11, Try.ntmps11
  go_wp2
  go_ret
  rw [HR.out]
  exact ⟨rfl, rfl⟩

theorem refRotate (x : Nat) (n : Int) (hx : x < 4294967296) (w : World) :
    Calls Try.prog 12 #[.int .u32 x, .int .i64 n] w fun e w' => e = .returned (.int .u32 (Bm.rotl x (n % 32).toNat : Nat)) ∧ w = w' := by
  have h1 : 0 ≤ n % 32 := by omega
  have h2 : n % 32 < 32 := by omega
  have h3 : n.tmod 32 < 0 → n.tmod 32 + 32 = n % 32 := by
    intro h
    have := Int.tmod_eq_emod (a := n) (b := 32)
    split at this <;> omega
  have h4 : 0 ≤ n.tmod 32 → n.tmod 32 = n % 32 := by
    intro h
    have := Int.tmod_eq_emod (a := n) (b := 32)
    split at this <;> omega
  have h5 : -32 < n.tmod 32 ∧ n.tmod 32 < 32 := by
    have := Int.tmod_eq_emod (a := n) (b := 32)
    split at this <;> omega
  obtain ⟨t, ht⟩ : ∃ t, t = n.tmod 32 := ⟨_, rfl⟩
  rw [← ht] at h3 h4 h5
  have H3 := Lib.hid h3
  have H4 := Lib.hid h4
  obtain ⟨h5a, h5b⟩ := h5
  clear h3 h4
  obtain ⟨k, hk⟩ : ∃ k : Nat, (k : Int) = n % 32 := ⟨(n % 32).toNat, by omega⟩
  rw [← hk] at h1 h2 H3 H4 ⊢
  clear hk
  rw [Int.toNat_natCast]
  have hz := Bm.rotl_zero x hx
  have HZ := Lib.hid hz
  clear hz
  go_enter Try.func12, Try.ntmps12
  have HT := Lib.hid ht
  have ht2 : n.tmod 32 = t := ht.symm
  clear ht
  by_cases hneg : t < 0
  all_goals
    go_wp2
    first | rw [H3.out (by omega)] | rw [H4.out (by omega)]
  all_goals
    go_loop [0, 5] (fun v j => ∃ i : Nat, i ≤ k ∧ j = .int .i64 (i : Int) ∧ v = .int .u32 (Bm.rotl x i : Nat)) (fun _ j => k - (intOf j).toNat)
    case atStart => exact ⟨0, by omega, rfl, by rw [HZ.out]⟩
    case round =>
      obtain ⟨i, hi, rfl, rfl⟩ := hrel
      by_cases hlt : i < k
      · have hr := Bm.rotl_succ x i hx (by omega)
        have hl := Bm.rotl_lt x i hx (by omega)
        rw [Bm.rotl_one] at hr
        obtain ⟨r, hrr⟩ : ∃ r, r = Bm.rotl x i := ⟨_, rfl⟩
        rw [← hrr] at hr hl ⊢
        have HR := Lib.hid hr
        clear hr hrr ht2
        go_wp2
        go_round
        case rel => exact ⟨i + 1, by omega, by go_num, by rw [← HR.out]; go_num⟩
        case measure => simp [intOf]; omega
      · obtain rfl : i = k := by omega
        clear ht2
        go_wp2
        go_ret
        exact ⟨rfl, rfl⟩

theorem low (V : Nat) (n : Int) (hV : V < 18446744073709551616) (w : World) :
    Calls Try.prog 13 #[.int .u64 V, .int .i64 n] w fun e w' => e = .returned (.int .u64 (V % 2 ^ Bm.clamp n : Nat)) ∧ w = w' := by
  have h1 : n < 1 → V % 2 ^ Bm.clamp n = 0 := fun h => by
    have : Bm.clamp n = 0 := by unfold Bm.clamp; omega
    rw [this]; omega
  have h2 : 64 ≤ n → V % 2 ^ Bm.clamp n = V := fun h => by
    have : Bm.clamp n = 64 := by unfold Bm.clamp; omega
    rw [this]; exact Nat.mod_eq_of_lt (by omega)
  have h3 : 1 ≤ n → n < 64 → IntKind.u64.wrap ((V : Int) * 2 ^ (64 - n).toNat) / 2 ^ (64 - n).toNat = ((V % 2 ^ Bm.clamp n : Nat) : Int) := fun ha hb => by
    have hk : Bm.clamp n = n.toNat := by unfold Bm.clamp; omega
    have hk2 : (64 - n).toNat = 64 - n.toNat := by omega
    rw [hk, hk2, ← Bm.low_shift V n.toNat (by omega), IntKind.wrap_u64, Int.natCast_ediv, Int.natCast_emod, Int.natCast_mul, Int.natCast_pow]
    rfl
  have H1 := Lib.hid h1
  have H2 := Lib.hid h2
  have H3 := Lib.hid h3
  clear h1 h2 h3
  go_enter Try.func13, Try.ntmps13
  go_wp2
  all_goals go_ret
  · rw [H1.out (by assumption)]; exact ⟨rfl, rfl⟩
  · rw [H2.out (by assumption)]; exact ⟨rfl, rfl⟩
  · rw [← H3.out (by assumption) (by assumption)]; exact ⟨rfl, rfl⟩

theorem signed (V : Nat) (n : Int) (hV : V < 18446744073709551616) (w : World) :
    Calls Try.prog 15 #[.int .u64 V, .int .i64 n] w fun e w' => e = .returned (.int .i64 (Bm.sgn V (Bm.clamp n))) ∧ w = w' := by
  have h1 : n < 1 → Bm.sgn V (Bm.clamp n) = 0 := fun h => by
    have : Bm.clamp n = 0 := by unfold Bm.clamp; omega
    rw [this]; rfl
  have h3 : 1 ≤ n → n ≤ 64 → wrap64 (IntKind.u64.wrap ((V : Int) * 2 ^ (64 - n).toNat)) / 2 ^ (64 - n).toNat = Bm.sgn V (Bm.clamp n) := fun ha hb => by
    have hk : Bm.clamp n = n.toNat := by unfold Bm.clamp; omega
    have hk2 : (64 - n).toNat = 64 - n.toNat := by omega
    rw [hk, hk2, ← Bm.sgn_shift V n.toNat (by omega) (by omega), IntKind.wrap_u64, Int.natCast_emod, Int.natCast_mul, Int.natCast_pow]
    rfl
  have h2 : 64 < n → wrap64 (IntKind.u64.wrap (V : Int)) = Bm.sgn V (Bm.clamp n) := fun h => by
    have : Bm.clamp n = 64 := by unfold Bm.clamp; omega
    rw [this, ← Bm.sgn_shift V 64 (by omega) (by omega), IntKind.wrap_u64]
    simp
  have H1 := Lib.hid h1
  have H2 := Lib.hid h2
  have H3 := Lib.hid h3
  clear h1 h2 h3
  go_enter Try.func15, Try.ntmps15
  go_wp2
  all_goals go_ret
  · rw [H1.out (by assumption)]; exact ⟨rfl, rfl⟩
  · rw [H2.out (by assumption)]; exact ⟨rfl, rfl⟩
  · rw [H3.out (by assumption) (by assumption)]; exact ⟨rfl, rfl⟩

/-- does a number fit so many bits? -/
def fitsB (v n : Int) : Bool := decide (1 ≤ n ∧ Bm.sgn (v % 18446744073709551616).toNat (Bm.clamp n) = v)

theorem fits (v n : Int) (hv : -9223372036854775808 ≤ v) (hv2 : v ≤ 9223372036854775807) (w : World) :
    Calls Try.prog 17 #[.int .i64 v, .int .i64 n] w fun e w' => e = .returned (.bool (fitsB v n)) ∧ w = w' := by
  have hu : IntKind.u64.wrap v = (((v % 18446744073709551616).toNat : Nat) : Int) := by rw [IntKind.wrap_u64]; omega
  have hul : (v % 18446744073709551616).toNat < 18446744073709551616 := by omega
  by_cases h1 : n < 1
  · have hB : fitsB v n = false := by unfold fitsB; exact decide_eq_false (by omega)
    rw [hB]
    clear hu hul hB
    have hg : ¬ (1 ≤ n) := by omega
    have hg2 : decide (1 ≤ n) = false := decide_eq_false hg
    go_enter Try.func17, Try.ntmps17
    go_wp2
    go_ret
    exact ⟨rfl, rfl⟩
  · have hcall := signed (v % 18446744073709551616).toNat n hul
    have hB : fitsB v n = (Bm.sgn (v % 18446744073709551616).toNat (Bm.clamp n) == v) := by
      unfold fitsB
      by_cases h : Bm.sgn (v % 18446744073709551616).toNat (Bm.clamp n) = v
      · rw [decide_eq_true ⟨by omega, h⟩, beq_iff_eq.2 h]
      · rw [decide_eq_false (fun hh => h hh.2), beq_eq_false_iff_ne.2 h]
    rw [hB]
    generalize Bm.sgn (v % 18446744073709551616).toNat (Bm.clamp n) = s at *
    generalize (v % 18446744073709551616).toNat = u at *
    have hg : 1 ≤ n := by omega
    clear hB h1
    go_enter Try.func17, Try.ntmps17
    go_wp2_with (go_at_call 15; refine (hcall _).mono ?_; rintro e w' ⟨rfl, rfl⟩)
    go_ret
    exact ⟨rfl, rfl⟩

theorem refFits (v n : Int) (hv : -9223372036854775808 ≤ v) (hv2 : v ≤ 9223372036854775807) (w : World) :
    Calls Try.prog 18 #[.int .i64 v, .int .i64 n] w fun e w' => e = .returned (.bool (fitsB v n)) ∧ w = w' := by
  by_cases h1 : n < 1
  · have hB : fitsB v n = false := by unfold fitsB; exact decide_eq_false (by omega)
    rw [hB]
    clear hB
    go_enter Try.func18, Try.ntmps18
    go_wp2
    go_ret
    exact ⟨rfl, rfl⟩
  by_cases h2 : 63 < n
  · have hB : fitsB v n = true := by
      unfold fitsB
      have : Bm.clamp n = 64 := by unfold Bm.clamp; omega
      rw [this, Bm.sgn_full v hv hv2]; exact decide_eq_true ⟨by omega, rfl⟩
    rw [hB]
    clear hB
    go_enter Try.func18, Try.ntmps18
    go_wp2
    go_ret
    exact ⟨rfl, rfl⟩
  obtain ⟨k, rfl⟩ : ∃ k : Nat, n = (k : Int) + 1 := ⟨(n - 1).toNat, by omega⟩
  have hk : k < 63 := by omega
  have hB : fitsB v (k + 1) = (decide (-((2 ^ k : Nat) : Int) ≤ v) && decide (v < ((2 ^ k : Nat) : Int))) := by
    unfold fitsB
    have : Bm.clamp ((k : Int) + 1) = k + 1 := by unfold Bm.clamp; omega
    rw [this]
    have h := Bm.sgn_fits v hv hv2 (k + 1) (by omega) (by omega)
    rw [Nat.add_sub_cancel] at h
    rw [← Bool.decide_and, decide_eq_decide, h]
    constructor
    · exact fun hh => hh.2
    · exact fun hh => ⟨by omega, hh⟩
  have HB := Lib.hid hB
  clear hB
  have hp63 : 2 ^ k ≤ 2 ^ 62 := Nat.pow_le_pow_right (by decide) (by omega)
  have hp0 : 0 < 2 ^ k := Nat.two_pow_pos _
  go_enter Try.func18, Try.ntmps18
  go_wp2
  go_loop [5, 6] (fun m j => ∃ i : Nat, i ≤ k ∧ j = .int .i64 ((i : Int) + 1) ∧ m = .int .i64 ((2 ^ i : Nat) : Int)) (fun _ j => k + 1 - (intOf j).toNat)
  case atStart => exact ⟨0, by omega, rfl, rfl⟩
  case round =>
    obtain ⟨i, hi, rfl, rfl⟩ := hrel
    by_cases hlt : i < k
    · have hpi : 2 ^ i ≤ 2 ^ 61 := Nat.pow_le_pow_right (by decide) (by omega)
      have hps : 2 ^ (i + 1) = 2 ^ i * 2 := Nat.pow_succ 2 i
      have HP := Lib.hid hps
      clear hps hp63
      obtain ⟨q, hq⟩ : ∃ q, q = 2 ^ i := ⟨_, rfl⟩
      rw [← hq] at hpi HP ⊢
      have hq2 : q ≤ 2305843009213693952 := by omega
      clear hpi hq hp0
      go_wp2
      go_round
      case rel => exact ⟨i + 1, by omega, by go_num, by rw [HP.out]; go_num⟩
      case measure => simp [intOf]; omega
    · obtain rfl : i = k := by omega
      obtain ⟨q, hq⟩ : ∃ q, q = 2 ^ i := ⟨_, rfl⟩
      rw [← hq] at hp63 HB hp0 ⊢
      have hq2 : q ≤ 4611686018427387904 := by omega
      clear hp63 hq
      go_wp2
      all_goals go_ret
      · rw [HB.out]
        have hle : -(q : Int) ≤ v := by assumption
        exact ⟨by rw [decide_eq_true hle]; rfl, rfl⟩
      · rw [HB.out]
        have hle : ¬ -(q : Int) ≤ v := by omega
        exact ⟨by rw [decide_eq_false hle]; rfl, rfl⟩

theorem turn1 (V O : Nat) (a b : Nat) (ta tb : TypeId) (hab : a ≠ b) (w : World) (hO : O < 18446744073709551616) (hV : V < 18446744073709551616)
    (h1 : w.heap[a]? = some (.cells #[.int .u64 (O : Int)] ta (0, 0))) (h2 : w.heap[b]? = some (.cells #[.int .u64 (V : Int)] tb (0, 0))) :
    Calls Try.prog 58 #[.pointer (some ⟨a, 0, none⟩), .pointer (some ⟨b, 0, none⟩)] w fun e w' => e = .returned (.tuple #[]) ∧
      w'.heap[a]? = some (.cells #[.int .u64 ((O * 2 % 18446744073709551616 + V % 2 : Nat) : Int)] ta (0, 0)) ∧ w'.heap[b]? = some (.cells #[.int .u64 ((V / 2 : Nat) : Int)] tb (0, 0)) ∧
      Ch w w' [a, b] := by
  have c1 := cell_of_one h1
  have c2 := cell_of_one h2
  have f1 := free_of_one h1
  have f2 := free_of_one h2
  have e1 : bits .or .u64 ((O : Int) * 2 % 18446744073709551616) (bits .and .u64 V 1) = ((O * 2 % 18446744073709551616 + V % 2 : Nat) : Int) := by
    have ha : bits .and .u64 V 1 = ((V % 2 : Nat) : Int) := by
      have := bits_and_u64_nat V 1 hV (by omega)
      rw [Nat.and_one_is_mod] at this
      exact this
    rw [ha, bits_join .u64 64 (by decide) (fun n h0 h1 => by rw [IntKind.wrap_u64]; omega) 1 _ _ (by omega) (by omega) (by omega) (by omega) (by omega) (by omega)]
    omega
  have s1 := one_setCell (u := .int .u64 ((O * 2 % 18446744073709551616 + V % 2 : Nat) : Int)) h1
  have s2 : (w.setCell ⟨a, 0, none⟩ (.int .u64 ((O * 2 % 18446744073709551616 + V % 2 : Nat) : Int))).heap[b]? = _ := (heap_setCell_other w _ b _ (fun h => hab h.symm)).trans h2
  have s3 := one_setCell (u := .int .u64 ((V / 2 : Nat) : Int)) s2
  have s4 := (heap_setCell_other (w.setCell ⟨a, 0, none⟩ (.int .u64 ((O * 2 % 18446744073709551616 + V % 2 : Nat) : Int))) ⟨b, 0, none⟩ a (.int .u64 ((V / 2 : Nat) : Int)) hab).trans s1
  have S3 := Lib.hid s3
  have S4 := Lib.hid s4
  have hba : b ≠ a := fun h => hab h.symm
  clear s1 s2 s3 s4 h1 h2
  have hw : IntKind.u64.wrap ((O : Int) * 2) = (O : Int) * 2 % 18446744073709551616 := by rw [IntKind.wrap_u64]
  go_enter Try.func58, Try.ntmps58
  go_wp2
  go_end0
  exact ⟨rfl, S4.out, S3.out, ((Ch.refl _ _).setCell (by simp) _).setCell (by simp) _⟩

theorem turn (V : Nat) (n : Int) (hV : V < 18446744073709551616) (w : World) :
    Calls Try.prog 21 #[.int .u64 V, .int .i64 n] w fun e w' => e = .returned (.int .u64 (Bm.rev V (Bm.clamp n) : Nat)) ∧ Below w.heap.size w w' := by
  have hcl : Bm.clamp n ≤ 64 := by unfold Bm.clamp; omega
  have hmin1 : n ≤ 64 → 0 ≤ n → n = (Bm.clamp n : Nat) := by unfold Bm.clamp; omega
  have hmin2 : 64 < n → Bm.clamp n = 64 := by unfold Bm.clamp; omega
  have hmin3 : n < 0 → Bm.clamp n = 0 := by unfold Bm.clamp; omega
  generalize Bm.clamp n = k at *
  go_enter Try.func21, Try.ntmps21
  have H1 := Lib.hid hmin1
  have H2 := Lib.hid hmin2
  have H3 := Lib.hid hmin3
  clear hmin1 hmin2 hmin3
  have hrl := Bm.rev_lt V
  have HRL := Lib.hid hrl
  clear hrl
  by_cases hb : n ≤ 64
  all_goals
    go_wp2
    go_loopw [10] (fun j wr => ∃ i : Nat, i ≤ k ∧ j = .int .i64 (i : Int) ∧ wr.heap[w.heap.size]? = some (.cells #[.int .u64 ((V / 2 ^ i : Nat) : Int)] 23 (0, 0)) ∧ wr.heap[w.heap.size + 1]? = some (.cells #[.int .u64 ((Bm.rev V i : Nat) : Int)] 23 (0, 0)) ∧ Below w.heap.size w wr)
      (fun j _ => k - (intOf j).toNat)
    case atStart => exact ⟨0, by omega, rfl, by simpa using heap_alloc2_old _ _ _, heap_alloc2_new _ _ _, ((Below.refl _ _).alloc (Nat.le_refl _) _).alloc (by simp) _⟩
    case round =>
      obtain ⟨i, hi, rfl, G1, G2, hbb⟩ := hrel
      by_cases hlt : i < k
      · have hr := HRL.out i
        have hp : 2 ^ i ≤ 2 ^ 63 := Nat.pow_le_pow_right (by decide) (by omega)
        have hV2 : V / 2 ^ i ≤ V := Nat.div_le_self _ _
        have ht := turn1 (V / 2 ^ i) (Bm.rev V i) (w.heap.size + 1) w.heap.size _ _ (by omega) wr (by omega) (by omega) G2 G1
        have e1 : Bm.rev V i * 2 % 18446744073709551616 + V / 2 ^ i % 2 = Bm.rev V (i + 1) := by simp only [Bm.rev]; omega
        have e2 : V / 2 ^ i / 2 = V / 2 ^ (i + 1) := by rw [Nat.div_div_eq_div_mul, Nat.pow_succ]
        rw [e1, e2] at ht
        have G2' := Lib.hid G2
        clear e1 e2 hr hp hV2 G1 G2
        have hnn : (i : Int) < n ∨ 64 < n := by
          by_cases h : 64 < n
          · exact Or.inr h
          · refine Or.inl ?_
            by_cases h0 : 0 ≤ n
            · have := H1.out (by omega) h0; omega
            · have := H3.out (by omega); omega
        have HN := Lib.hid hnn
        clear hnn
        have hcond : (i : Int) < 64 := by omega
        have hcond2 : n ≤ 64 → (i : Int) < n := fun h => by rcases HN.out with h1 | h1 <;> omega
        have hsz := lt_of_block G2'
        first
          | (have hc3 := hcond2 (by assumption)
             clear hcond2
             go_wp2_with (refine ht.mono ?_; rintro e w2 ⟨rfl, K1, K2, hch⟩)
             skip)
          | (clear hcond2
             go_wp2_with (refine ht.mono ?_; rintro e w2 ⟨rfl, K1, K2, hch⟩)
             skip)
        go_roundw
        case rel => exact ⟨i + 1, by omega, by go_num, K2, K1, hch.below hbb (by omega) (by simp)⟩
        case measure => simp [intOf]; omega
      · obtain rfl : i = k := by omega
        have hnn : ¬ ((i : Int) < n) ∨ 64 < n := by
          by_cases h : 64 < n
          · exact Or.inr h
          · refine Or.inl ?_
            by_cases h0 : 0 ≤ n
            · have := H1.out (by omega) h0; omega
            · have := H3.out (by omega); omega
        have HN := Lib.hid hnn
        clear hnn
        have hcond : 64 < n → ¬ ((i : Int) < 64) := fun h => by have := H2.out h; omega
        have hcond2 : n ≤ 64 → ¬ ((i : Int) < n) := fun h => by rcases HN.out with h1 | h1 <;> omega
        have hc := cell_of_one G2
        have HG1 := Lib.hid G1
        have HG2 := Lib.hid G2
        clear G1 G2
        first
          | (have hc3 := hcond2 (by assumption)
             clear hcond2 hcond
             go_wp2
             skip)
          | (have hc3 := hcond (by assumption)
             clear hcond2 hcond
             go_wp2
             skip)
        go_ret
        exact ⟨rfl, hbb⟩
