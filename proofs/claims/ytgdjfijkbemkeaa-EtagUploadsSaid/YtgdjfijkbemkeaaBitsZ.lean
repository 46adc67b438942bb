import Derived.Test.YtgdjfijkbemkeaaBitsY
namespace Go.Proofs.Ytgdjfijkbemkeaa
open Go.RowKit
set_option maxHeartbeats 400000
set_option maxRecDepth 20000
set_option linter.unusedVariables false

def beval (l : List UInt8) : Nat := l.foldl (fun v c => v * 256 + c.toNat) 0
/-- what Get tells: the number, and the error -/
def getN (l : List UInt8) : Nat := if l = [] ∨ 8 < l.length then 0 else beval l
def getE (l : List UInt8) : Nat := if l = [] then 3 else if 8 < l.length then 4 else 0

theorem beval_append (l : List UInt8) (c : UInt8) : beval (l ++ [c]) = beval l * 256 + c.toNat := by simp [beval]
theorem beval_from (l : List UInt8) : ∀ v : Nat, l.foldl (fun v c => v * 256 + c.toNat) v < (v + 1) * 256 ^ l.length := by
  induction l with
  | nil => intro v; simp
  | cons c l ih =>
    intro v
    have h1 := ih (v * 256 + c.toNat)
    have h2 := c.toNat_lt
    have h3 : (v * 256 + c.toNat + 1) * 256 ^ l.length ≤ ((v + 1) * 256) * 256 ^ l.length := Nat.mul_le_mul_right _ (by omega)
    rw [List.foldl_cons, List.length_cons, Nat.pow_succ, Nat.mul_comm (256 ^ l.length) 256, ← Nat.mul_assoc]
    omega
theorem beval_lt (l : List UInt8) : beval l < 256 ^ l.length := by
  have := beval_from l 0
  simpa [beval] using this

theorem get_cases (s : ByteArray) : Hid (s.data.toList.length = s.size) ∧ Hid (s.size = 0 → getN s.data.toList = 0 ∧ getE s.data.toList = 3) ∧
    Hid (8 < s.size → getN s.data.toList = 0 ∧ getE s.data.toList = 4) ∧ Hid (1 ≤ s.size → s.size ≤ 8 → getN s.data.toList = beval s.data.toList ∧ getE s.data.toList = 0) := by
  have hz : s.data.toList = [] → getN s.data.toList = 0 ∧ getE s.data.toList = 3 := fun h => by rw [h]; exact ⟨rfl, rfl⟩
  have hz2 : s.size = 0 → s.data.toList = [] := fun h => List.length_eq_zero_iff.1 (by simpa using h)
  have hlen : s.data.toList.length = s.size := by simp
  have hl : 8 < s.size → getN s.data.toList = 0 ∧ getE s.data.toList = 4 := fun h => by
    have h1 : s.data.toList ≠ [] := fun e => by rw [e] at hlen; simp at hlen; omega
    unfold getN getE
    rw [if_pos (Or.inr (by omega)), if_neg h1, if_pos (by omega)]; exact ⟨rfl, rfl⟩
  have hg : 1 ≤ s.size → s.size ≤ 8 → getN s.data.toList = beval s.data.toList ∧ getE s.data.toList = 0 := fun h h8 => by
    have h1 : s.data.toList ≠ [] := fun e => by rw [e] at hlen; simp at hlen; omega
    unfold getN getE
    rw [if_neg (by rintro (h2 | h2); exact h1 h2; omega), if_neg h1, if_neg (by omega)]; exact ⟨rfl, rfl⟩
  exact ⟨hlen, fun h => hz (hz2 h), hl, hg⟩

theorem get (s : ByteArray) (hs : s.size ≤ maxLen) (w : World) :
    Calls Try.prog 25 #[.string s] w fun e w' => e = .returned (.tuple #[.int .u64 (getN s.data.toList : Nat), .int .i64 (getE s.data.toList : Nat)]) ∧ Below w.heap.size w w' := by
  unfold maxLen at hs
  obtain ⟨HLEN, HZ, HL, HG⟩ := get_cases s
  obtain ⟨n, hn⟩ : ∃ n, n = getN s.data.toList := ⟨_, rfl⟩
  obtain ⟨e0, he0⟩ : ∃ n, n = getE s.data.toList := ⟨_, rfl⟩
  rw [← hn, ← he0] at HZ HL HG
  rw [← hn, ← he0]
  clear hn he0
  by_cases h0 : s.size = 0
  · have hb : s.toList.isEmpty = true := by rw [ByteArray.toList_eq, List.length_eq_zero_iff.1 (HLEN.out.trans h0)]; rfl
    go_enter Try.func25, Try.ntmps25
    go_wp2
    go_ret2
    obtain ⟨r1, r2⟩ := HZ.out h0
    rw [r1, r2]; exact ⟨rfl, Below.refl _ _⟩
  have hb : s.toList.isEmpty = false := by
    rw [ByteArray.toList_eq, List.isEmpty_eq_false_iff]
    intro e; apply h0; rw [← HLEN.out, e]; rfl
  have h1 : 1 ≤ s.size := by omega
  by_cases h8 : 8 < s.size
  · go_enter Try.func25, Try.ntmps25
    go_wp2
    go_ret2
    obtain ⟨r1, r2⟩ := HL.out h8
    rw [r1, r2]; exact ⟨rfl, Below.refl _ _⟩
  obtain ⟨r1, r2⟩ := HG.out h1 (by omega)
  rw [r1, r2]
  clear r1 r2 h0 HZ HL HG
  have hs8 : (s.size : Int) ≤ 8 := by omega
  go_enter Try.func25, Try.ntmps25
  go_wp2_with (refine kl_bytes rfl 9 91 5 _ rfl Try.underlying9 Try.underlying91 Try.underlying5 s rfl ?_; intro c w1 hcap hbel hsz hcells; have HC := Lib.hid hcells; clear hcells)
  go_loop [4, 17] (fun v i => ∃ k : Nat, k ≤ s.size ∧ i = .int .i64 (k : Int) ∧ v = .int .u64 (beval (s.data.toList.take k) : Nat)) (fun _ i => s.size - (intOf i).toNat)
  case atStart => exact ⟨0, by omega, rfl, rfl⟩
  case round =>
    obtain ⟨k, hk, rfl, rfl⟩ := hrel
    by_cases hlt : k < s.size
    · have hk2 : k < s.data.toList.length := by rw [HLEN.out]; exact hlt
      have hg := List.getElem?_eq_getElem hk2
      have hcell := HC.out k _ hg
      have hb1 := beval_append (s.data.toList.take k) s.data.toList[k]
      rw [← List.take_succ_eq_append_getElem hk2] at hb1
      have hbl := beval_lt (s.data.toList.take k)
      rw [List.length_take, Nat.min_eq_left (by omega)] at hbl
      have hp : 256 ^ k ≤ 256 ^ 7 := Nat.pow_le_pow_right (by decide) (by omega)
      have hu := (s.data.toList[k]).toNat_lt
      generalize (s.data.toList[k]).toNat = u at *
      obtain ⟨b, hbb⟩ : ∃ b, b = beval (s.data.toList.take k) := ⟨_, rfl⟩
      rw [← hbb] at hb1 hbl ⊢
      have hb2 : b < 72057594037927936 := by omega
      have hor : bits .or .u64 ((b : Int) * 256) (u : Int) = ((b * 256 + u : Nat) : Int) := by
        rw [bits_join .u64 64 (by decide) (fun n h0 h1 => by rw [IntKind.wrap_u64]; omega) 8 _ _ (by omega) (by omega) (by omega) (by omega) (by omega) (by omega)]
        omega
      have HB1 := Lib.hid hb1
      clear hb1 hbl hp hbb hg
      go_wp2
      go_round
      case rel => exact ⟨k + 1, by omega, by go_num, by rw [HB1.out]; go_num⟩
      case measure => simp [intOf]; omega
    · obtain rfl : k = s.size := by omega
      rw [List.take_of_length_le (by rw [HLEN.out]; omega)]
      go_wp2
      go_ret2
      exact ⟨rfl, hbel⟩

theorem refGet (s : ByteArray) (hs : s.size ≤ maxLen) (w : World) :
    Calls Try.prog 26 #[.string s] w fun e w' => e = .returned (.tuple #[.int .u64 (getN s.data.toList : Nat), .int .i64 (getE s.data.toList : Nat)]) ∧ w = w' := by
  unfold maxLen at hs
  obtain ⟨HLEN, HZ, HL, HG⟩ := get_cases s
  obtain ⟨n, hn⟩ : ∃ n, n = getN s.data.toList := ⟨_, rfl⟩
  obtain ⟨e0, he0⟩ : ∃ n, n = getE s.data.toList := ⟨_, rfl⟩
  rw [← hn, ← he0] at HZ HL HG
  rw [← hn, ← he0]
  clear hn he0
  by_cases h0 : s.size = 0
  · have hb : ((s.size : Int) == 0) = true := by simpa using h0
    go_enter Try.func26, Try.ntmps26
    go_wp2
    go_ret2
    obtain ⟨r1, r2⟩ := HZ.out h0
    rw [r1, r2]; exact ⟨rfl, rfl⟩
  have hb : ((s.size : Int) == 0) = false := by simpa using h0
  have h1 : 1 ≤ s.size := by omega
  by_cases h8 : 8 < s.size
  · go_enter Try.func26, Try.ntmps26
    go_wp2
    go_ret2
    obtain ⟨r1, r2⟩ := HL.out h8
    rw [r1, r2]; exact ⟨rfl, rfl⟩
  obtain ⟨r1, r2⟩ := HG.out h1 (by omega)
  rw [r1, r2]
  clear r1 r2 h0 HZ HL HG
  have hs8 : (s.size : Int) ≤ 8 := by omega
  go_enter Try.func26, Try.ntmps26
  go_wp2
  go_loop [4, 5] (fun v i => ∃ k : Nat, k ≤ s.size ∧ i = .int .i64 (k : Int) ∧ v = .int .u64 (beval (s.data.toList.take k) : Nat)) (fun _ i => s.size - (intOf i).toNat)
  case atStart => exact ⟨0, by omega, rfl, rfl⟩
  case round =>
    obtain ⟨k, hk, rfl, rfl⟩ := hrel
    by_cases hlt : k < s.size
    · have hk2 : k < s.data.toList.length := by rw [HLEN.out]; exact hlt
      have hb1 := beval_append (s.data.toList.take k) s[k]
      have hts : s.data.toList.take (k + 1) = s.data.toList.take k ++ [s[k]] := by
        rw [List.take_succ_eq_append_getElem hk2]; rfl
      rw [← hts] at hb1
      have hbl := beval_lt (s.data.toList.take k)
      rw [List.length_take, Nat.min_eq_left (by omega)] at hbl
      have hp : 256 ^ k ≤ 256 ^ 7 := Nat.pow_le_pow_right (by decide) (by omega)
      have hu := (s[k]).toNat_lt
      obtain ⟨b, hbb⟩ : ∃ b, b = beval (s.data.toList.take k) := ⟨_, rfl⟩
      rw [← hbb] at hb1 hbl ⊢
      have hb2 : b < 72057594037927936 := by omega
      have hu2 : ((s[k]).toNat : Int) < 256 := by omega
      have HB1 := Lib.hid hb1
      clear hb1 hbl hp hbb hts hu
      go_wp2
      go_round
      case rel => exact ⟨k + 1, by omega, by go_num, by rw [HB1.out]; go_num⟩
      case measure => simp [intOf]; omega
    · obtain rfl : k = s.size := by omega
      rw [List.take_of_length_le (by rw [HLEN.out]; omega)]
      go_wp2
      go_ret2
      exact ⟨rfl, rfl⟩

/-- a number's bytes -/
def beput (v : Nat) : Nat → List UInt8
  | 0 => []
  | k + 1 => beput (v / 256) k ++ [UInt8.ofNat (v % 256)]
theorem beput_length (v k : Nat) : (beput v k).length = k := by
  induction k generalizing v with
  | zero => rfl
  | succ k ih => simp [beput, ih]
theorem beput_get (k : Nat) : ∀ (v j : Nat), j < k → (beput v k)[k - 1 - j]? = some (UInt8.ofNat (v / 256 ^ j % 256)) := by
  induction k with
  | zero => intro v j h; omega
  | succ k ih =>
    intro v j h
    by_cases hj : j = 0
    · subst hj
      have hl := beput_length (v / 256) k
      rw [beput, Nat.add_sub_cancel, Nat.sub_zero, List.getElem?_append_right (by omega), hl, Nat.sub_self]
      simp
    · have e : k + 1 - 1 - j = k - 1 - (j - 1) := by omega
      rw [beput, List.getElem?_append_left (by rw [beput_length]; omega), e, ih _ _ (by omega), Nat.div_div_eq_div_mul, ← Nat.pow_succ', show (j - 1).succ = j by omega]

theorem mod_pow_succ (v k : Nat) : v % 256 ^ (k + 1) = v % 256 + 256 * (v / 256 % 256 ^ k) := by
  rw [Nat.pow_succ, Nat.mul_comm (256 ^ k) 256, Nat.mod_mul]
theorem beval_beput (k : Nat) : ∀ v, beval (beput v k) = v % 256 ^ k := by
  induction k with
  | zero => intro v; simp [beput, beval]; omega
  | succ k ih =>
    intro v
    rw [beput, beval_append, ih, mod_pow_succ]
    have : (UInt8.ofNat (v % 256)).toNat = v % 256 := by simp [UInt8.toNat_ofNat']
    rw [this]; omega

/-- what Put tells: the bytes, and the error -/
def putOk (v : Nat) (n : Int) : Bool := decide (1 ≤ n ∧ n ≤ 8 ∧ v < 256 ^ n.toNat)
def putS (v : Nat) (n : Int) : List UInt8 := if putOk v n then beput v n.toNat else []
def putE (v : Nat) (n : Int) : Nat := if putOk v n then 0 else 1

/-- the row of bytes, the last k of them laid -/
def putArr (v n k : Nat) : Array Value := Array.ofFn (n := n) fun i => .int .u8 (if n - 1 - i.val < k then ((v / 256 ^ (n - 1 - i.val) % 256 : Nat) : Int) else 0)
theorem putArr_size (v n k : Nat) : (putArr v n k).size = n := by simp [putArr]
theorem putArr_get (v n k i : Nat) (hi : i < n) : (putArr v n k)[i]? = some (.int .u8 (if n - 1 - i < k then ((v / 256 ^ (n - 1 - i) % 256 : Nat) : Int) else 0)) := by
  simp only [putArr, Array.getElem?_ofFn, hi, dif_pos]
theorem putArr_succ (v n k : Nat) (hk : k < n) : (putArr v n k).setIfInBounds (n - 1 - k) (.int .u8 ((v / 256 ^ k % 256 : Nat) : Int)) = putArr v n (k + 1) := by
  apply Array.ext_getElem?
  intro i
  rw [Array.getElem?_setIfInBounds]
  by_cases h : n - 1 - k = i
  · subst h
    rw [if_pos rfl, putArr_size, if_pos (by omega), putArr_get _ _ _ _ (by omega), show n - 1 - (n - 1 - k) = k by omega, if_pos (by omega)]
  · rw [if_neg h]
    by_cases hi : i < n
    · rw [putArr_get _ _ _ _ hi, putArr_get _ _ _ _ hi]
      by_cases hik : n - 1 - i < k
      · rw [if_pos hik, if_pos (by omega)]
      · rw [if_neg hik, if_neg (by omega)]
    · rw [Array.getElem?_eq_none (by rw [putArr_size]; omega), Array.getElem?_eq_none (by rw [putArr_size]; omega)]
theorem putArr_zero (v n : Nat) : putArr v n 0 = Array.replicate n (.int .u8 0) := by
  apply Array.ext_getElem?
  intro i
  by_cases hi : i < n
  · rw [putArr_get _ _ _ _ hi, if_neg (by omega)]; simp [hi]
  · rw [Array.getElem?_eq_none (by rw [putArr_size]; omega), Array.getElem?_eq_none (by simp; omega)]
theorem putArr_full (v n j : Nat) (u : UInt8) (h : (beput v n)[j]? = some u) : (putArr v n n)[j]? = some (.int .u8 (u.toNat : Int)) := by
  have hj : j < n := by have := (List.getElem?_eq_some_iff.1 h).1; rwa [beput_length] at this
  have h2 := beput_get n v (n - 1 - j) (by omega)
  rw [show n - 1 - (n - 1 - j) = j by omega, h] at h2
  rw [putArr_get _ _ _ _ hj, if_pos (by omega), Option.some.inj h2]
  simp [UInt8.toNat_ofNat']

theorem put (V : Nat) (n : Int) (hV : V < 18446744073709551616) (w : World) :
    Calls Try.prog 23 #[.int .u64 V, .int .i64 n] w fun e w' => e = .returned (.tuple #[.string ⟨(putS V n).toArray⟩, .int .i64 (putE V n : Nat)]) ∧ Below w.heap.size w w' := by
  by_cases h1 : n < 1
  · have : putOk V n = false := by unfold putOk; exact decide_eq_false (by omega)
    have hs : putS V n = [] := by unfold putS; rw [this]; rfl
    have he : putE V n = 1 := by unfold putE; rw [this]; rfl
    rw [hs, he]
    clear hs he this
    go_enter Try.func23, Try.ntmps23
    go_wp2
    go_ret2
    exact ⟨rfl, Below.refl _ _⟩
  by_cases h8 : 8 < n
  · have : putOk V n = false := by unfold putOk; exact decide_eq_false (by omega)
    have hs : putS V n = [] := by unfold putS; rw [this]; rfl
    have he : putE V n = 1 := by unfold putE; rw [this]; rfl
    rw [hs, he]
    clear hs he this
    go_enter Try.func23, Try.ntmps23
    go_wp2
    go_ret2
    exact ⟨rfl, Below.refl _ _⟩
  obtain ⟨k, rfl⟩ : ∃ k : Nat, n = (k : Int) := ⟨n.toNat, by omega⟩
  have hk1 : 1 ≤ k := by omega
  have hk8 : k ≤ 8 := by omega
  have hlow := low V (8 * (k : Int)) hV
  have hcl : Bm.clamp (8 * (k : Int)) = 8 * k := by unfold Bm.clamp; omega
  rw [hcl] at hlow
  have hp : 2 ^ (8 * k) = 256 ^ k := by rw [Nat.pow_mul]
  rw [hp] at hlow
  have hg1 : ¬ ((k : Int) < 1) := by omega
  have hg2 : ¬ (8 < (k : Int)) := by omega
  clear h1 h8
  by_cases hfit : V < 256 ^ k
  · have hok : putOk V k = true := by unfold putOk; exact decide_eq_true ⟨by omega, by omega, by simpa using hfit⟩
    have hs : putS V k = beput V k := by unfold putS; rw [hok]; simp
    have he : putE V k = 0 := by unfold putE; rw [hok]; rfl
    rw [hs, he]
    rw [Nat.mod_eq_of_lt hfit] at hlow
    clear hs he hok hfit hp hcl
    have hmk : ∀ w : World, (Instr.makeSlice 91 (.int .i64 (k : Int)) (.int .i64 (k : Int))).run Try.prog w = .ok (.slice (some ⟨w.heap.size, 0, none⟩) k k) (w.alloc (.cells (putArr V k 0) 5)) := fun w => by
      rw [putArr_zero, ← madeCells_rep]
      exact run_make_row' 91 5 (.int .u8 0) 1 Try.underlying91 (by kernel_rfl) rfl .i64 .i64 k (by omega) (by omega) w
    have hs8 : (k : Int) ≤ 8 := by omega
    go_enter Try.func23, Try.ntmps23
    go_wp2_with (go_at_call 13; refine (hlow _).mono ?_; rintro e w' ⟨rfl, rfl⟩)
    go_loopw [26] (fun j wr => ∃ i : Nat, i ≤ k ∧ j = .int .i64 (i : Int) ∧ wr.heap[w.heap.size]? = some (.cells (putArr V k i) 5 (0, 0)) ∧ Below w.heap.size w wr) (fun j _ => k - (intOf j).toNat)
    case atStart => exact ⟨0, by omega, rfl, heap_alloc_new _ _, (Below.refl _ _).alloc (Nat.le_refl _) _⟩
    case round =>
      obtain ⟨i, hi, rfl, H1, hb⟩ := hrel
      by_cases hlt : i < k
      · have hc : wr.cell? ⟨w.heap.size, k - 1 - i, none⟩ = some (.int .u8 0) := by
          rw [cell_of_row _ _ _ _ _ _ H1, putArr_get _ _ _ _ (by omega), if_neg (by omega)]
        have hf := frozen_of_row _ _ (k - 1 - i) _ _ H1
        have hset := heap_setCell_same wr w.heap.size (k - 1 - i) _ _ (.int .u8 ((V / 256 ^ i % 256 : Nat) : Int)) H1
        rw [putArr_succ _ _ _ hlt] at hset
        have hx : (V : Int) / 2 ^ (8 * i) % 256 = ((V / 256 ^ i % 256 : Nat) : Int) := by
          rw [Int.natCast_emod, Int.natCast_ediv, Int.natCast_pow]
          rw [show (256 : Nat) = 2 ^ 8 from rfl, Int.natCast_pow, ← Int.pow_mul]; rfl
        obtain ⟨m, hm⟩ : ∃ m, m = k - 1 - i := ⟨_, rfl⟩
        rw [← hm] at hc hf hset
        have hmi : (k : Int) - 1 - i = (m : Int) := by omega
        have hmk2 : m < k := by omega
        generalize V / 256 ^ i % 256 = x at *
        have HSET := Lib.hid hset
        have HX := Lib.hid hx
        clear hset hx H1 hm
        go_wp2
        go_roundw
        case rel => exact ⟨i + 1, by omega, by go_num, by rw [HX.out]; exact HSET.out, hb.setCell (Nat.le_refl _) _⟩
        case measure => simp [intOf]; omega
      · obtain rfl : i = k := by omega
        clear hmk
        go_wp2_with (refine kl_string rfl 91 9 5 _ rfl Try.underlying91 Try.underlying5 Try.underlying9 _ _ _ _ rfl (beput V i) (beput_length _ _) (fun j u hj => by rw [Nat.zero_add, cell_of_row _ _ _ _ _ _ H1]; exact putArr_full _ _ _ _ hj) ?_)
        go_ret2
        exact ⟨rfl, hb⟩
  · have hok : putOk V k = false := by unfold putOk; exact decide_eq_false (fun h => hfit (by simpa using h.2.2))
    have hs : putS V k = [] := by unfold putS; rw [hok]; rfl
    have he : putE V k = 1 := by unfold putE; rw [hok]; rfl
    rw [hs, he]
    have hne : V % 256 ^ k ≠ V := fun h => hfit (h ▸ Nat.mod_lt _ (Nat.pow_pos (by decide)))
    have hne2 : (((V % 256 ^ k : Nat) : Int) != (V : Int)) = true := by rw [bne_iff_ne]; omega
    generalize V % 256 ^ k = r at *
    clear hs he hok hfit hp hcl hne
    go_enter Try.func23, Try.ntmps23
    go_wp2_with (go_at_call 13; refine (hlow _).mono ?_; rintro e w' ⟨rfl, rfl⟩)
    go_ret2
    exact ⟨rfl, Below.refl _ _⟩

theorem beput_cons (k : Nat) : ∀ v, beput v (k + 1) = UInt8.ofNat (v / 256 ^ k % 256) :: beput v k := by
  induction k with
  | zero => intro v; simp [beput]
  | succ k ih =>
    intro v
    rw [beput, ih, beput, Nat.div_div_eq_div_mul, ← Nat.pow_succ']; rfl

theorem refPut (V : Nat) (n : Int) (hV : V < 18446744073709551616) (w : World) :
    Calls Try.prog 24 #[.int .u64 V, .int .i64 n] w fun e w' => e = .returned (.tuple #[.string ⟨(putS V n).toArray⟩, .int .i64 (putE V n : Nat)]) ∧ Below w.heap.size w w' := by
  by_cases h1 : n < 1
  · have : putOk V n = false := by unfold putOk; exact decide_eq_false (by omega)
    have hs : putS V n = [] := by unfold putS; rw [this]; rfl
    have he : putE V n = 1 := by unfold putE; rw [this]; rfl
    rw [hs, he]
    clear hs he this
    go_enter Try.func24, Try.ntmps24
    go_wp2
    go_ret2
    exact ⟨rfl, Below.refl _ _⟩
  by_cases h8 : 8 < n
  · have : putOk V n = false := by unfold putOk; exact decide_eq_false (by omega)
    have hs : putS V n = [] := by unfold putS; rw [this]; rfl
    have he : putE V n = 1 := by unfold putE; rw [this]; rfl
    rw [hs, he]
    clear hs he this
    go_enter Try.func24, Try.ntmps24
    go_wp2
    go_ret2
    exact ⟨rfl, Below.refl _ _⟩
  obtain ⟨k, rfl⟩ : ∃ k : Nat, n = (k : Int) := ⟨n.toNat, by omega⟩
  have hk1 : 1 ≤ k := by omega
  have hk8 : k ≤ 8 := by omega
  have hok : putOk V k = decide (V < 256 ^ k) := by
    unfold putOk
    rw [decide_eq_decide]
    constructor
    · exact fun h => by simpa using h.2.2
    · exact fun h => ⟨by omega, by omega, by simpa using h⟩
  have hs : V < 256 ^ k → putS V k = beput V k ∧ putE V k = 0 := fun h => by
    unfold putS putE; rw [hok, decide_eq_true h]; simp
  have hs2 : ¬ V < 256 ^ k → putS V k = [] ∧ putE V k = 1 := fun h => by
    unfold putS putE; rw [hok, decide_eq_false h]; exact ⟨rfl, rfl⟩
  generalize putS V k = S at *
  generalize putE V k = E at *
  have HS := Lib.hid hs
  have HS2 := Lib.hid hs2
  clear hs hs2 hok
  have hg1 : ¬ ((k : Int) < 1) := by omega
  have hg2 : ¬ (8 < (k : Int)) := by omega
  go_enter Try.func24, Try.ntmps24
  go_wp2
  go_loopw [0, 6, 7] (fun v s j wr => ∃ i : Nat, i ≤ k ∧ j = .int .i64 (i : Int) ∧ v = .int .u64 ((V / 256 ^ i : Nat) : Int) ∧ s = .string ⟨(beput V i).toArray⟩ ∧ Below w.heap.size w wr) (fun _ _ j _ => k - (intOf j).toNat)
  case atStart => exact ⟨0, by omega, rfl, by simp, rfl, Below.refl _ _⟩
  case round =>
    obtain ⟨i, hi, rfl, rfl, rfl, hb⟩ := hrel
    have hbs := hb.size
    have hdl : V / 256 ^ i ≤ V := Nat.div_le_self _ _
    by_cases hlt : i < k
    · have hdd : V / 256 ^ i / 256 = V / 256 ^ (i + 1) := by rw [Nat.div_div_eq_div_mul, Nat.pow_succ]
      have hcons := beput_cons i V
      have hlen := beput_length V i
      obtain ⟨x, hx⟩ : ∃ x, x = V / 256 ^ i := ⟨_, rfl⟩
      rw [← hx] at hdl hdd hcons ⊢
      have HD := Lib.hid hdd
      have HC := Lib.hid hcons
      have HL := Lib.hid hlen
      have hsz : (⟨(beput V i).toArray⟩ : ByteArray).size ≤ 8 := by
        show (beput V i).toArray.size ≤ 8
        rw [List.size_toArray, HL.out]; omega
      obtain ⟨sb, hsb⟩ : ∃ sb : ByteArray, sb = ⟨(beput V i).toArray⟩ := ⟨_, rfl⟩
      rw [← hsb] at hsz ⊢
      have HSB := Lib.hid hsb
      clear hdd hcons hlen hx hsb
      have hu8 : (UInt8.ofNat (x % 256)).toNat = x % 256 := by simp [UInt8.toNat_ofNat']
      have HU := Lib.hid hu8
      clear hu8
      go_wp2_with (refine kl_string rfl 91 9 5 _ rfl Try.underlying91 Try.underlying5 Try.underlying9 _ _ _ _ rfl [UInt8.ofNat (x % 256)] rfl (fun j u hj => by
          match j, hj with
          | 0, hj =>
            simp only [List.getElem?_cons_zero, Option.some.injEq] at hj
            subst hj
            rw [Nat.zero_add, cell_of_row _ _ _ _ _ _ (heap_alloc_new _ _), HU.out]
            simp
          | j + 1, hj => simp at hj) ?_)
      go_roundw
      case rel =>
        refine ⟨i + 1, by omega, by go_num, by rw [← HD.out]; go_num, ?_, hb.alloc hbs _⟩
        rw [HC.out, HSB.out]
        congr 1
      case measure => simp [intOf]; omega
    · obtain rfl : i = k := by omega
      have hz : ((V / 256 ^ i : Nat) : Int) = 0 ↔ V < 256 ^ i := by
        have := Nat.div_eq_zero_iff (a := V) (b := 256 ^ i)
        have hp : 0 < 256 ^ i := Nat.pow_pos (by decide)
        omega
      by_cases hfit : V < 256 ^ i
      · have h0 : (((V / 256 ^ i : Nat) : Int) != 0) = false := by simpa using hz.2 hfit
        obtain ⟨r1, r2⟩ := HS.out hfit
        have R1 := Lib.hid r1
        have R2 := Lib.hid r2
        generalize V / 256 ^ i = x at *
        clear r1 r2 hz hfit
        go_wp2
        go_ret2
        rw [R1.out, R2.out]; exact ⟨rfl, hb⟩
      · have h0 : (((V / 256 ^ i : Nat) : Int) != 0) = true := by rw [bne_iff_ne]; exact fun h => hfit (hz.1 h)
        obtain ⟨r1, r2⟩ := HS2.out hfit
        have R1 := Lib.hid r1
        have R2 := Lib.hid r2
        generalize V / 256 ^ i = x at *
        clear r1 r2 hz hfit
        go_wp2
        go_ret2
        rw [R1.out, R2.out]; exact ⟨rfl, hb⟩
