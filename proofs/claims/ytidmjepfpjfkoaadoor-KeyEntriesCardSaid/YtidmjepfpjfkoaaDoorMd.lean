/-
  Plain laws: what the reference's Cut, part, Right, Join come to.
  The reference's Cut, Right, Parts as contracts in our words.
  The reference's Parent.
  The reference's Join.
  The reference's Join as a contract; a row that is read, in the print's words.
  The reference's Within.
  The reference's Compare.
-/
import Derived.Test.YtidmjepfpjfkoaaDoorMb
import Derived.Test.YtidmjepfpjfkoaaDoorPPathTellsx3
import Derived.Test.YtidmjepfpjfkoaaDoorMc
namespace Go.Proofs.YtidmjepfpjfkoaaDoor
open Go.RowKit Go.Proofs.YtidmjepfpjfkoaaDoorW.PrintWords Go.Proofs.YtidmjepfpjfkoaaDoorW.PrintLast Go.Proofs.YtidmjepfpjfkoaaDoorW.PrintMore
set_option linter.unusedVariables false
set_option linter.unusedSimpArgs false

/-- a text -/
abbrev tx (l : List UInt8) : ByteArray := ⟨l.toArray⟩
theorem tx_data (s : ByteArray) : tx s.data.toList = s := rfl
def txs (ps : List (List UInt8)) : List ByteArray := ps.map tx
theorem txs_length (ps : List (List UInt8)) : (txs ps).length = ps.length := by simp [txs]
theorem bt_get (s : ByteArray) (i : Nat) (h : i < s.data.toList.length) : bt s (i : Int) = (s.data.toList[i].toNat : Int) := by
  have h2 : i < s.size := h
  unfold bt
  rw [dif_pos (by simpa using h2)]
  rfl
theorem wrap_up {i : Nat} (h : i ≤ 1000000) : wrap64 ((i : Int) + 1) = ((i + 1 : Nat) : Int) := by unfold wrap64; omega
theorem extract_tx (s : ByteArray) (f i : Nat) : s.extract f i = tx ((s.data.toList.drop f).take (i - f)) := by
  have : (s.extract f i).data.toList = (s.data.toList.drop f).take (i - f) := by
    rw [ByteArray.data_extract, Array.toList_extract]
  rw [← this]

theorem refCut_l0 (s : ByteArray) (hs : s.size ≤ 1000000) : ∀ (d k : Nat) (acc : List ByteArray) (f i : Nat), i + d = s.size → d + 1 < k → f ≤ i → acc.length ≤ i → 47 ∉ (s.data.toList.drop f).take (i - f) →
    PPathTells.shoalsyncref03_Cut.l0 k s acc (f : Int) (i : Int) = some (acc ++ txs (Pm.cut (s.data.toList.drop f))) := by
  intro d
  induction d with
  | zero =>
    intro k acc f i hi hk hf ha hn
    obtain ⟨k, rfl⟩ : ∃ m, k = m + 2 := ⟨k - 2, by omega⟩
    have hl : s.data.toList.length = s.size := rfl
    have e0 : (i : Int) = s.size := by omega
    simp only [PPathTells.shoalsyncref03_Cut.l0]
    rw [if_pos (by omega), if_pos e0, if_pos (by omega), if_pos (by omega), if_pos (by omega), wrap_up (by omega), if_neg (by omega)]
    have e1 : (s.data.toList.drop f).take (i - f) = s.data.toList.drop f := List.take_of_length_le (by rw [List.length_drop, hl]; omega)
    rw [e1] at hn
    rw [Pm.cut_plain _ hn, Int.toNat_natCast, Int.toNat_natCast, extract_tx, e1]
    rfl
  | succ d ih =>
    intro k acc f i hi hk hf ha hn
    obtain ⟨k, rfl⟩ : ∃ m, k = m + 1 := ⟨k - 1, by omega⟩
    have hl : s.data.toList.length = s.size := rfl
    have hil : i < s.data.toList.length := by omega
    simp only [PPathTells.shoalsyncref03_Cut.l0]
    rw [if_pos (by omega), if_neg (by omega), if_pos (by omega), if_pos (by omega), bt_get s i hil]
    have htk : (s.data.toList.drop f).take (i + 1 - f) = (s.data.toList.drop f).take (i - f) ++ [s.data.toList[i]] := by
      rw [show i + 1 - f = i - f + 1 by omega, List.take_succ_eq_append_getElem (by rw [List.length_drop]; omega)]
      congr 2
      rw [List.getElem_drop]
      congr 1; omega
    by_cases hc : s.data.toList[i] = 47
    · rw [if_pos (by rw [hc]; rfl), if_pos (by omega), if_pos (by omega), if_pos (by omega), wrap_up (by omega)]
      rw [ih k _ (i + 1) (i + 1) (by omega) (by omega) (Nat.le_refl _) (by simp; omega) (by simp)]
      have hsplit : s.data.toList.drop f = (s.data.toList.drop f).take (i - f) ++ 47 :: s.data.toList.drop (i + 1) := by
        have h1 := (List.take_append_drop (i - f) (s.data.toList.drop f)).symm
        rw [List.drop_drop, show f + (i - f) = i by omega, List.drop_eq_getElem_cons hil, hc] at h1
        exact h1
      conv => rhs; rw [hsplit, Pm.cut_append, Pm.cut_plain _ hn]
      rw [Int.toNat_natCast, Int.toNat_natCast, extract_tx]
      simp [txs]
    · rw [if_neg (by
        intro e
        apply hc
        apply UInt8.toNat_inj.1
        have : ((s.data.toList[i].toNat : Nat) : Int) = ((47 : UInt8).toNat : Int) := e
        omega), wrap_up (by omega)]
      exact ih k acc f (i + 1) (by omega) (by omega) (by omega) (by omega) (by
        rw [htk]
        intro h
        rcases List.mem_append.1 h with h | h
        · exact hn h
        · exact hc (List.mem_singleton.1 h).symm)
theorem refCut_f (s : ByteArray) (hs : s.size ≤ 1000000) (k : Nat) (hk : s.size + 1 < k) : PPathTells.shoalsyncref03_Cut.f k s = some (txs (Pm.cut s.data.toList)) := by
  have h := refCut_l0 s hs s.size k [] 0 0 (by omega) hk (Nat.le_refl _) (Nat.le_refl _) (by simp)
  unfold PPathTells.shoalsyncref03_Cut.f
  simpa using h

/-! ### part -/
theorem refPart_l0 (s : ByteArray) (hs : s.size ≤ 1000000) : ∀ (d k i : Nat), i + d = s.size → d < k →
    PPathTells.shoalsyncref03_part.l0 k s (i : Int) = some (!((s.data.toList.drop i).contains 0) && !((s.data.toList.drop i).contains 47)) := by
  intro d
  induction d with
  | zero =>
    intro k i hi hk
    obtain ⟨k, rfl⟩ : ∃ m, k = m + 1 := ⟨k - 1, by omega⟩
    have hl : s.data.toList.length = s.size := rfl
    simp only [PPathTells.shoalsyncref03_part.l0]
    rw [if_neg (by omega), List.drop_of_length_le (by omega)]
    rfl
  | succ d ih =>
    intro k i hi hk
    obtain ⟨k, rfl⟩ : ∃ m, k = m + 1 := ⟨k - 1, by omega⟩
    have hl : s.data.toList.length = s.size := rfl
    have hil : i < s.data.toList.length := by omega
    simp only [PPathTells.shoalsyncref03_part.l0]
    rw [if_pos (by omega), if_pos (by omega), bt_get s i hil, wrap_up (by omega), ih k (i + 1) (by omega) (by omega), List.drop_eq_getElem_cons hil]
    generalize s.data.toList[i] = c
    by_cases h0 : c = 0
    · subst h0
      rw [if_pos (by rfl)]; simp
    · rw [if_neg (by intro e; apply h0; apply UInt8.toNat_inj.1; have e2 : ((c.toNat : Nat) : Int) = 0 := e; show c.toNat = 0; omega)]
      by_cases h47 : c = 47
      · subst h47
        rw [if_pos (by rfl)]; simp
      · rw [if_neg (by intro e; apply h47; apply UInt8.toNat_inj.1; have e2 : ((c.toNat : Nat) : Int) = 47 := e; show c.toNat = 47; omega)]
        have h1 : (0 == c) = false := by rw [beq_eq_false_iff_ne]; exact fun e => h0 e.symm
        have h2 : (47 == c) = false := by rw [beq_eq_false_iff_ne]; exact fun e => h47 e.symm
        rw [List.contains_cons, List.contains_cons, h1, h2, Bool.false_or, Bool.false_or]
theorem refPart_f (s : ByteArray) (hs : s.size ≤ 1000000) (hn : 47 ∉ s.data.toList) (k : Nat) (hk : s.size + 1 < k) : PPathTells.shoalsyncref03_part.f k s = some (Pm.part s.data.toList) := by
  obtain ⟨k, rfl⟩ : ∃ m, k = m + 1 := ⟨k - 1, by omega⟩
  have h := refPart_l0 s hs s.size k 0 (by omega) (by omega)
  have h47 : s.data.toList.contains 47 = false := by rw [← Bool.not_eq_true, List.contains_iff_mem]; exact hn
  rw [List.drop_zero, h47] at h
  unfold PPathTells.shoalsyncref03_part.f Pm.part
  rw [ByteArray.toList_eq]
  simp only [PPathTells.shoalsyncref03_part.j0]
  have h' : PPathTells.shoalsyncref03_part.l0 k s 0 = some (!(s.data.toList.contains 0) && !false) := h
  generalize s.data.toList = l at *
  by_cases h1 : l = []
  · subst h1; rfl
  · rw [if_neg h1]
    by_cases h2 : l = [46]
    · subst h2; rfl
    · rw [if_neg h2]
      by_cases h3 : l = [46, 46]
      · subst h3; rfl
      · have e1 : (l == []) = false := by rw [beq_eq_false_iff_ne]; exact h1
        have e2 : (l == [46]) = false := by rw [beq_eq_false_iff_ne]; exact h2
        have e3 : (l == [46, 46]) = false := by rw [beq_eq_false_iff_ne]; exact h3
        rw [e1, e2, e3, if_neg (by simp), h']; simp

/-! ### Right -/
theorem rdOf_txs (ps : List (List UInt8)) (i : Nat) (h : i < ps.length) : rdOf ByteArray.empty (txs ps) (i : Int) = tx ps[i] := by
  unfold rdOf txs
  rw [Int.toNat_natCast, List.getD_eq_getElem?_getD, List.getElem?_map, List.getElem?_eq_getElem h]; rfl
theorem tx_size (l : List UInt8) : (tx l).size = l.length := by show l.toArray.size = _; simp
theorem tx_list (l : List UInt8) : (tx l).data.toList = l := by simp
theorem refRight_l0 (ps : List (List UInt8)) (hps : ∀ x ∈ ps, x.length ≤ 1000000 ∧ 47 ∉ x) (hlen : ps.length ≤ 1000000) : ∀ (d k i : Nat) (b : Bool), i + d = ps.length → d + 1000002 < k →
    PPathTells.shoalsyncref03_Right.l0 k (txs ps) b (i : Int) = some (if (ps.drop i).all Pm.part then (if b || (ps.drop i).any (fun x => decide (24 < x.length)) then 4 else 0) else 2) := by
  intro d
  induction d with
  | zero =>
    intro k i b hi hk
    obtain ⟨k, rfl⟩ : ∃ m, k = m + 1 := ⟨k - 1, by omega⟩
    simp only [PPathTells.shoalsyncref03_Right.l0]
    rw [if_neg (by rw [txs_length]; omega), List.drop_of_length_le (by omega)]
    cases b <;> simp
  | succ d ih =>
    intro k i b hi hk
    obtain ⟨k, rfl⟩ : ∃ m, k = m + 1 := ⟨k - 1, by omega⟩
    have hil : i < ps.length := by omega
    obtain ⟨hx1, hx2⟩ := hps _ (List.getElem_mem hil)
    simp only [PPathTells.shoalsyncref03_Right.l0]
    rw [if_pos (by rw [txs_length]; omega), if_pos (by omega), rdOf_txs ps i hil, wrap_up (by omega), List.drop_eq_getElem_cons hil]
    rw [refPart_f (tx ps[i]) (by rw [tx_size]; exact hx1) (by rw [tx_list]; exact hx2) k (by rw [tx_size]; omega), tx_list]
    have i1 := ih k (i + 1) true (by omega) (by omega)
    have i2 := ih k (i + 1) (decide (24 < ps[i].length)) (by omega) (by omega)
    simp only [Option.bind_some]
    rw [i1]
    have e24 : decide (((tx ps[i]).size : Int) > 24) = decide (24 < ps[i].length) := by rw [tx_size]; apply decide_eq_decide.2; omega
    rw [e24, i2]
    generalize ps[i] = x at *
    cases hp : Pm.part x
    · simp [hp]
    · cases b
      · simp [hp]
      · simp [hp]
theorem cut_len_le (l : List UInt8) : (Pm.cut l).length ≤ l.length + 1 := by rw [Pm.cut_length]; have := List.count_le_length (a := (47 : UInt8)) (l := l); omega
theorem cut_part_le : ∀ (l : List UInt8), ∀ x ∈ Pm.cut l, x.length ≤ l.length
  | [], x, h => by simp [Pm.cut] at h; subst h; simp
  | c :: l, x, h => by
    by_cases hc : c = 47
    · subst hc
      rw [Pm.cut_slash] at h
      rcases List.mem_cons.1 h with rfl | h
      · simp
      · have := cut_part_le l x h; simp; omega
    · obtain ⟨y, r, hy⟩ : ∃ y r, Pm.cut l = y :: r := by
        cases h' : Pm.cut l with
        | nil => exact absurd h' (Pm.cut_ne l)
        | cons x r => exact ⟨x, r, rfl⟩
      rw [Pm.cut_other hc l hy] at h
      rcases List.mem_cons.1 h with rfl | h
      · have := cut_part_le l y (by rw [hy]; simp); simp; omega
      · have := cut_part_le l x (by rw [hy]; simp [h]); simp; omega
theorem refRight_f (s : ByteArray) (hs : s.size ≤ 20000) (k : Nat) (hk : 1100000 < k) : PPathTells.shoalsyncref03_Right.f k s = some ((Pm.right s.data.toList : Nat) : Int) := by
  have hl : s.data.toList.length = s.size := rfl
  unfold PPathTells.shoalsyncref03_Right.f
  rw [refCut_f s (by omega) k (by omega)]
  simp only [Option.bind_some]
  obtain ⟨k, rfl⟩ : ∃ m, k = m + 1 := ⟨k - 1, by omega⟩
  simp only [PPathTells.shoalsyncref03_Right.j0]
  have hlen := cut_len_le s.data.toList
  have key := fun b => refRight_l0 (Pm.cut s.data.toList) (fun x hx => ⟨by have := cut_part_le s.data.toList x hx; omega, Pm.cut_no _ x hx⟩) (by omega) (Pm.cut s.data.toList).length k 0 b (by omega) (by omega)
  simp only [List.drop_zero] at key
  have key' : ∀ b, PPathTells.shoalsyncref03_Right.l0 k (txs (Pm.cut s.data.toList)) b 0 = _ := key
  rw [key', key', txs_length]
  unfold Pm.right
  rw [hl]
  by_cases ha : (Pm.cut s.data.toList).all Pm.part = true
  · simp only [ha, ↓reduceIte]
    by_cases h64 : 64 < s.size
    · rw [if_pos (by omega), if_pos (by simp), if_pos (.inl h64)]; rfl
    · rw [if_neg (by omega)]
      by_cases h6 : 6 < (Pm.cut s.data.toList).length
      · rw [if_pos (by simp; omega), if_pos (.inr (.inl h6))]; rfl
      · by_cases h24 : (Pm.cut s.data.toList).any (fun x => decide (24 < x.length)) = true
        · rw [if_pos (by rw [h24]; simp), if_pos (.inr (.inr h24))]; rfl
        · rw [if_neg (by simp only [Bool.or_eq_true, decide_eq_true_eq, not_or]; exact ⟨by omega, h24⟩), if_neg (by rintro (h | h | h); exact h64 h; exact h6 h; exact h24 h)]; rfl
  · rw [if_neg ha, if_neg ha, if_neg ha]; split <;> rfl
end Go.Proofs.YtidmjepfpjfkoaaDoor

namespace Go.Proofs.YtidmjepfpjfkoaaDoor
open Go Go.RowKit Go.Proofs.YtidmjepfpjfkoaaDoorW.PrintWords Go.Proofs.YtidmjepfpjfkoaaDoorW.PrintLast Go.Proofs.YtidmjepfpjfkoaaDoorW.PrintMore
set_option maxHeartbeats 2000000
set_option maxRecDepth 20000
set_option linter.unusedVariables false
set_option linter.unusedSimpArgs false

theorem rd_of_own {w : World} {base : Nat} {e : TypeId} {v : Value} {n : Nat} {xs : List Value} (h : w.ownsRow base e 1 v n xs) : RdS v n xs w.heap.size w := by
  obtain ⟨hl, h⟩ := h
  refine ⟨by simpa using hl, ?_⟩
  rcases h with ⟨rfl, rfl⟩ | ⟨g, cap, cur, rfl, hg, hh, hc, _, _, hx⟩
  · exact .inl ⟨rfl, rfl⟩
  · refine .inr ⟨_, cap, rfl, hc, .inr ⟨g, 0, rfl, lt_of_block hh, fun j u hj => ?_⟩⟩
    rw [Nat.zero_add, cell_of_row _ _ _ _ _ _ hh]
    rw [← hx, List.getElem?_take] at hj
    split at hj
    · simpa using hj
    · cases hj
theorem rd_of_R {w : World} {base : Nat} {e : Nat} {ok : Nat → Prop} {v : Value} {ps : List (List UInt8)} (h : Kd.string.R e w base ok v (txs ps)) : RdS v ps.length (pv ps) w.heap.size w := by
  have ho := Kd.own_of_R h
  rw [txs_length] at ho
  have he : encs Value.string (txs ps) = pv ps := by
    unfold txs pv
    unfold encs
    rw [List.map_map]
    rfl
  rw [he] at ho
  exact rd_of_own ho
theorem refRight (s : ByteArray) (hs : s.size ≤ 20000) (w : World) :
    Calls Tryd.prog 50 #[.string s] w fun e w' => e = .returned (.int .i64 (Pm.right s.data.toList : Nat)) ∧ Below w.heap.size w w' :=
  PPathTells.shoalsyncref03_Right.calls 1100001 s _ w (refRight_f s hs _ (by omega))
theorem refCut (s : ByteArray) (hs : s.size ≤ 1000000) (w : World) :
    Calls Tryd.prog 76 #[.string s] w fun e w' => ∃ v, e = .returned v ∧ RdS v (Pm.cut s.data.toList).length (pv (Pm.cut s.data.toList)) w'.heap.size w' ∧ Below w.heap.size w w' :=
  (PPathTells.shoalsyncref03_Cut.calls (s.size + 2) s _ w (refCut_f s hs _ (by omega))).mono fun e w' ⟨v, h1, h2, h3⟩ => ⟨v, h1, rd_of_R h2, h3⟩

theorem refParts (s : ByteArray) (hs : s.size ≤ 20000) (w : World) :
    Calls Tryd.prog 53 #[.string s] w fun e w' => ∃ v, e = .returned v ∧ RdS v (Pm.parts s.data.toList).length (pv (Pm.parts s.data.toList)) w'.heap.size w' ∧ Below w.heap.size w w' := by
  have h1 := refRight s hs w
  have h2 := fun w2 => refCut s (by omega) w2
  obtain ⟨r, hr⟩ : ∃ r, r = Pm.right s.data.toList := ⟨_, rfl⟩
  have hp : Pm.parts s.data.toList = if r = 0 then Pm.cut s.data.toList else [] := by unfold Pm.parts; rw [← hr]
  obtain ⟨P, hP⟩ : ∃ P, P = Pm.parts s.data.toList := ⟨_, rfl⟩
  obtain ⟨C, hC⟩ : ∃ C, C = Pm.cut s.data.toList := ⟨_, rfl⟩
  rw [← hr] at h1
  rw [← hP, ← hC] at hp
  rw [← hC] at h2
  rw [← hP]
  clear hr hP hC
  have Hh1 := Lib.hid h1
  have Hh2 := Lib.hid h2
  have Hhp := Lib.hid hp
  clear h1 h2 hp
  go_enter Tryd.func53, Tryd.ntmps53
  go_wp2_with fail
  refine Hh1.out.mono ?_
  rintro e w2 ⟨rfl, hb⟩
  by_cases hr : r = 0
  · have hp2 : P = C := by rw [Hhp.out, if_pos hr]
    subst hp2
    subst hr
    have H2 := Lib.hid (Hh2.out w2)
    go_wp2_with fail
    refine H2.out.mono ?_
    rintro e w3 ⟨v, rfl, hv, hb2⟩
    have hb3 := hb.trans (hb2.mono hb.size)
    go_wp2_with fail
    go_ret
    exact ⟨_, rfl, hv, hb3⟩
  · have hp2 : P = [] := by rw [Hhp.out, if_neg hr]
    subst hp2
    have hne : (((r : Nat) : Int) == 0) = false := by rw [beq_eq_false_iff_ne]; omega
    clear Hh2
    go_wp2_with fail
    go_ret
    exact ⟨.slice none 0 0, rfl, ⟨rfl, .inl ⟨rfl, rfl⟩⟩, hb⟩
end Go.Proofs.YtidmjepfpjfkoaaDoor

namespace Go.Proofs.YtidmjepfpjfkoaaDoor
open Go Go.RowKit
set_option maxHeartbeats 2000000
set_option maxRecDepth 20000
set_option linter.unusedVariables false
set_option linter.unusedSimpArgs false

theorem last_slash : ∀ l : List UInt8, (47 : UInt8) ∈ l → ∃ a b, l = a ++ 47 :: b ∧ (47 : UInt8) ∉ b
  | [], h => absurd h (by simp)
  | c :: l, h => by
    by_cases hl : (47 : UInt8) ∈ l
    · obtain ⟨a, b, h1, h2⟩ := last_slash l hl
      exact ⟨c :: a, b, by rw [h1]; rfl, h2⟩
    · rcases List.mem_cons.1 h with h | h
      · exact ⟨[], l, by rw [← h]; rfl, hl⟩
      · exact absurd h hl
theorem par_short (p : List UInt8) (h : (Pm.parts p).length < 2) : par p = false := by
  unfold par
  unfold Pm.parts at h
  by_cases hr : Pm.right p = 0
  · rw [if_pos hr, Pm.cut_length] at h
    have h0 : p.count 47 = 0 := by omega
    have : (47 : UInt8) ∉ p := List.count_eq_zero.1 h0
    simp [this]
  · simp [hr]
theorem par_long (p : List UInt8) (h : ¬ (Pm.parts p).length < 2) : par p = true ∧ ∃ a b : List UInt8, p = a ++ 47 :: b ∧ (Pm.parts p)[(Pm.parts p).length - 1]? = some b ∧ parS p = a := by
  unfold Pm.parts at h ⊢
  by_cases hr : Pm.right p = 0
  · rw [if_pos hr] at h ⊢
    rw [Pm.cut_length] at h
    have hm : (47 : UInt8) ∈ p := List.count_pos_iff.1 (by omega)
    obtain ⟨a, b, h1, h2⟩ := last_slash p hm
    have hpar : par p = true := by unfold par; rw [hr]; simp [hm]
    refine ⟨hpar, a, b, h1, ?_, ?_⟩
    · have : Pm.cut p = Pm.cut a ++ [b] := by rw [h1, Pm.cut_append, Pm.cut_plain b h2]
      rw [this]
      simp
    · unfold parS
      rw [if_pos hpar, h1, par_cut a b h2]
  · rw [if_neg hr] at h
    simp at h

theorem refParent (s : ByteArray) (hs : s.size ≤ 20000) (w : World) :
    Calls Tryd.prog 49 #[.string s] w fun e w' => e = .returned (.tuple #[.string ⟨(parS s.data.toList).toArray⟩, .bool (par s.data.toList)]) ∧ Below w.heap.size w w' := by
  have h1 := refParts s hs w
  have hlen : (Pm.parts s.data.toList).length ≤ 1000000 := by
    have hc := cut_le s.data.toList
    have hl : s.data.toList.length = s.size := rfl
    unfold Pm.parts
    split
    · omega
    · simp
  by_cases hk : (Pm.parts s.data.toList).length < 2
  · have hp := par_short _ hk
    have hps : parS s.data.toList = [] := by unfold parS; rw [hp]; rfl
    rw [hp, hps]
    obtain ⟨n, hn⟩ : ∃ n, n = (Pm.parts s.data.toList).length := ⟨_, rfl⟩
    rw [← hn] at h1 hk hlen
    clear hn hp hps
    have Hh1 := Lib.hid h1
    clear h1
    go_enter Tryd.func49, Tryd.ntmps49
    go_wp2_with fail
    refine Hh1.out.mono ?_
    rintro e w2 ⟨v, rfl, hv, hb⟩
    obtain ⟨A, c, rfl⟩ := hv.slice
    have hk2 : (n : Int) < 2 := by omega
    clear hv
    go_wp2_with fail
    (try simp only [Exit.inBlock, Exit.then])
    refine bodyPost_ret (results_tmp2 rfl _ _ _) rfl ?_
    exact ⟨rfl, hb⟩
  · obtain ⟨hp, a, b, h3, h4, h5⟩ := par_long _ hk
    rw [hp, h5]
    obtain ⟨n, hn⟩ : ∃ n, n = (Pm.parts s.data.toList).length := ⟨_, rfl⟩
    obtain ⟨P, hP⟩ : ∃ P, P = pv (Pm.parts s.data.toList) := ⟨_, rfl⟩
    have h6 : P[n - 1]? = some (.string ⟨b.toArray⟩) := by
      rw [hP, hn]; unfold pv; rw [List.getElem?_map, h4]; rfl
    rw [← hn, ← hP] at h1
    rw [← hn] at hk hlen
    have hsz : s.size = a.length + 1 + b.length := by show s.data.toList.length = _; rw [h3]; simp; omega
    have hex : s.extract 0 a.length = ⟨a.toArray⟩ := by
      have this : (s.extract 0 a.length).data.toList = a := by rw [Lib.extract_data, h3]; simp
      exact congrArg (fun l => (⟨List.toArray l⟩ : ByteArray)) this
    rw [← hex]
    obtain ⟨B, hB⟩ : ∃ B : ByteArray, B = ⟨b.toArray⟩ := ⟨_, rfl⟩
    have hBs : B.size = b.length := by rw [hB]; show b.toArray.size = _; simp
    rw [← hB] at h6
    obtain ⟨i, hi⟩ : ∃ i : Nat, i = a.length := ⟨_, rfl⟩
    rw [← hi] at hsz ⊢
    rw [← hBs] at hsz
    clear hn hp h3 h4 h5 hP hex hB hBs hi
    have Hh1 := Lib.hid h1
    have Hh6 := Lib.hid h6
    clear h1 h6
    go_enter Tryd.func49, Tryd.ntmps49
    go_wp2_with fail
    refine Hh1.out.mono ?_
    rintro e w2 ⟨v, rfl, hv, hb⟩
    obtain ⟨A, c, rfl⟩ := hv.slice
    have hk2 : ¬ (n : Int) < 2 := by omega
    obtain ⟨b2, off, hA, hcn, hbb, hcell⟩ := hv.at_ (i := n - 1) (by omega)
    have hx := hcell (n - 1) _ Hh6.out
    subst hA
    have hin : (n : Int) - 1 = ((n - 1 : Nat) : Int) := by omega
    have hsi : (s.size : Int) - 1 - (B.size : Int) = (i : Int) := by omega
    have hw1 : wrap64 ((n : Int) - 1) = ((n - 1 : Nat) : Int) := by unfold wrap64; omega
    clear hcell hv
    go_wp2_with fail
    (try simp only [Exit.inBlock, Exit.then])
    refine bodyPost_ret (results_tmp2 rfl _ _ _) rfl ?_
    have hii : i + 1 + B.size - 1 - B.size = i := by omega
    refine ⟨?_, hb⟩
    show Ending.returned (.tuple #[.string (s.extract 0 (i + 1 + B.size - 1 - B.size)), .bool true]) = _
    rw [hii]
end Go.Proofs.YtidmjepfpjfkoaaDoor

namespace Go.Proofs.YtidmjepfpjfkoaaDoor
open Go Go.RowKit Go.Proofs.YtidmjepfpjfkoaaDoorW.PrintWords Go.Proofs.YtidmjepfpjfkoaaDoorW.PrintLast Go.Proofs.YtidmjepfpjfkoaaDoorW.PrintMore
set_option maxHeartbeats 2000000
set_option maxRecDepth 20000
set_option linter.unusedVariables false
set_option linter.unusedSimpArgs false

/-- what has been put together of the first i -/
def joinI (ps : List (List UInt8)) (i : Nat) : List UInt8 := Pm.joinS (ps.take i)
theorem joinS_snoc : ∀ (ps : List (List UInt8)) (x : List UInt8), ps ≠ [] → Pm.joinS (ps ++ [x]) = Pm.joinS ps ++ 47 :: x
  | [], x, h => absurd rfl h
  | [y], x, _ => by simp [Pm.joinS]
  | y :: z :: r, x, _ => by
    have h := joinS_snoc (z :: r) x (by simp)
    rw [show (y :: z :: r) ++ [x] = y :: ((z :: r) ++ [x]) from rfl, Pm.joinS_cons y (by simp), h, Pm.joinS_cons y (by simp)]
    simp
theorem joinI_zero (ps : List (List UInt8)) : joinI ps 0 = [] := rfl
theorem joinI_one (ps : List (List UInt8)) (h : 0 < ps.length) : joinI ps 1 = ps[0] := by
  cases ps with
  | nil => simp at h
  | cons x r => rfl
theorem joinI_succ (ps : List (List UInt8)) (i : Nat) (h : i < ps.length) (h0 : 0 < i) : joinI ps (i + 1) = joinI ps i ++ 47 :: ps[i] := by
  unfold joinI
  rw [List.take_succ_eq_append_getElem h]
  exact joinS_snoc _ _ (by
    intro he
    have := congrArg List.length he
    rw [List.length_take, List.length_nil] at this
    omega)
theorem cut_one (x : List UInt8) : (Pm.cut x).length > 1 ↔ x.contains 47 = true := by
  rw [Pm.cut_length, List.contains_iff_mem]
  constructor
  · intro h; exact List.count_pos_iff.1 (by omega)
  · intro h; have := List.count_pos_iff.2 h; omega
theorem joinI_all (ps : List (List UInt8)) : joinI ps ps.length = Pm.joinS ps := by unfold joinI; rw [List.take_length]

theorem refJoin_l0 (ps : List (List UInt8)) (hj : ∀ i, i ≤ ps.length → (joinI ps i).length ≤ 20000) (hps : ∀ x ∈ ps, x.length ≤ 20000) (hlen : ps.length ≤ 20000) : ∀ (d k i : Nat), i + d = ps.length → d + 1200000 < k → (∀ j (h : j < ps.length), j < i → ps[j].contains 47 = false) →
    PPathTells.shoalsyncref03_Join.l0 k (txs ps) (tx (joinI ps i)) (i : Int) = some (tx (Pm.joinP ps), ((Pm.joinE ps : Nat) : Int)) := by
  intro d
  induction d with
  | zero =>
    intro k i hi hk hb
    obtain ⟨k, rfl⟩ : ∃ m, k = m + 1 := ⟨k - 1, by omega⟩
    obtain rfl : i = ps.length := by omega
    have hn : ps.any (fun x => x.contains 47) = false := by
      rw [Bool.eq_false_iff]
      intro h
      obtain ⟨x, hx, h⟩ := List.any_eq_true.1 h
      obtain ⟨j, hj, rfl⟩ := List.getElem_of_mem hx
      rw [hb j hj hj] at h
      cases h
    have hE : Pm.joinE ps = Pm.right (Pm.joinS ps) := by unfold Pm.joinE; rw [hn]; rfl
    have hsz : (tx (joinI ps ps.length)).size ≤ 20000 := by rw [tx_size]; exact hj _ (Nat.le_refl _)
    unfold PPathTells.shoalsyncref03_Join.l0
    rw [txs_length, if_neg (by omega), refRight_f _ hsz k (by omega), tx_list, joinI_all]
    unfold Pm.joinP
    rw [hE]
    show (if ((Pm.right (Pm.joinS ps) : Nat) : Int) = 0 then _ else _) = _
    by_cases h0 : Pm.right (Pm.joinS ps) = 0
    · rw [if_pos (by omega), if_pos h0, h0]; rfl
    · rw [if_neg (by omega), if_neg h0]
  | succ d ih =>
    intro k i hi hk hb
    obtain ⟨k, rfl⟩ : ∃ m, k = m + 1 := ⟨k - 1, by omega⟩
    have hil : i < ps.length := by omega
    have hxl := hps _ (List.getElem_mem hil)
    have hjl := hj i (by omega)
    unfold PPathTells.shoalsyncref03_Join.l0
    rw [txs_length, if_pos (by omega), if_pos (by omega), rdOf_txs ps i hil, refCut_f _ (by rw [tx_size]; omega) k (by rw [tx_size]; omega), tx_list]
    show (if ((txs (Pm.cut ps[i])).length : Int) > 1 then _ else _) = _
    rw [txs_length]
    by_cases hc : ps[i].contains 47 = true
    · have h1 := (cut_one ps[i]).2 hc
      have ha : ps.any (fun x => x.contains 47) = true := List.any_eq_true.2 ⟨_, List.getElem_mem hil, hc⟩
      have hE : Pm.joinE ps = 2 := by unfold Pm.joinE; rw [if_pos ha]
      rw [if_pos (by omega)]
      unfold Pm.joinP
      rw [hE]
      rfl
    · have h1 : ¬ (Pm.cut ps[i]).length > 1 := fun h => hc ((cut_one ps[i]).1 h)
      have hb2 : ∀ j (h : j < ps.length), j < i + 1 → ps[j].contains 47 = false := fun j h hji => by
        rcases Nat.lt_or_ge j i with h3 | h3
        · exact hb j h h3
        · obtain rfl : j = i := by omega
          simpa using hc
      have hI := ih k (i + 1) (by omega) (by omega) hb2
      rw [if_neg (by omega)]
      by_cases h0 : 0 < i
      · have hs1 : (tx (joinI ps i) ++ (⟨#[47]⟩ : ByteArray)).size = (joinI ps i).length + 1 := by rw [ByteArray.size_append, tx_size]; rfl
        have hs : (tx (joinI ps i) ++ (⟨#[47]⟩ : ByteArray)) ++ tx ps[i] = tx (joinI ps (i + 1)) := by
          rw [joinI_succ ps i hil h0]
          apply ByteArray.ext
          apply Array.ext'
          simp
        rw [if_pos (by omega), if_pos (by rw [tx_size]; omega), if_pos (by rw [hs1, tx_size]; omega), hs, wrap_up (by omega)]
        exact hI
      · obtain rfl : i = 0 := by omega
        have hs : tx (joinI ps 0) ++ tx ps[0] = tx (joinI ps (0 + 1)) := by
          rw [joinI_zero, joinI_one ps hil]
          apply ByteArray.ext
          apply Array.ext'
          simp
        rw [if_neg (by omega), if_pos (by rw [tx_size, tx_size]; omega), hs, wrap_up (by omega)]
        exact hI
end Go.Proofs.YtidmjepfpjfkoaaDoor

namespace Go.Proofs.YtidmjepfpjfkoaaDoor
open Go Go.RowKit Go.Proofs.YtidmjepfpjfkoaaDoorW.PrintWords Go.Proofs.YtidmjepfpjfkoaaDoorW.PrintLast Go.Proofs.YtidmjepfpjfkoaaDoorW.PrintMore
set_option maxHeartbeats 2000000
set_option maxRecDepth 20000
set_option linter.unusedVariables false
set_option linter.unusedSimpArgs false

theorem joinI_le : ∀ (ps : List (List UInt8)) (i : Nat), (joinI ps i).length ≤ (Pm.joinS ps).length
  | [], i => by unfold joinI; simp
  | x :: r, 0 => by unfold joinI; rw [List.take_zero]; exact Nat.zero_le _
  | x :: r, i + 1 => by
    have ih := joinI_le r i
    unfold joinI at ih ⊢
    rw [List.take_succ_cons]
    by_cases h : r.take i = []
    · rw [h]
      cases r with
      | nil => exact Nat.le_refl _
      | cons y r => rw [Pm.joinS_cons x (r := y :: r) (by simp)]; simp [Pm.joinS]
    · have hr : r ≠ [] := fun e => h (by rw [e]; simp)
      rw [Pm.joinS_cons x h, Pm.joinS_cons x hr]
      simp only [List.length_append, List.length_cons]
      omega
theorem joinS_part : ∀ (ps : List (List UInt8)), ∀ x ∈ ps, x.length ≤ (Pm.joinS ps).length
  | [], x, h => absurd h (by simp)
  | [y], x, h => by simp at h; subst h; simp [Pm.joinS]
  | y :: z :: r, x, h => by
    rw [Pm.joinS_cons y (by simp)]
    simp only [List.length_append, List.length_cons]
    rcases List.mem_cons.1 h with rfl | h
    · omega
    · have := joinS_part (z :: r) x h; omega
theorem C_of_rd {w : World} {A : Option Addr} {c : Nat} {ps : List (List UInt8)} (hl : ps.length ≤ 1000000) (h : RdS (.slice A ps.length c) ps.length (pv ps) w.heap.size w) : Kd.string.C w A (txs ps).length (txs ps) := by
  refine Kd.C_of_reads (d := ByteArray.empty) ⟨rfl, by rw [txs_length]; omega, fun h0 => ?_⟩
  rw [txs_length] at h0
  obtain ⟨b, off, hA, _, _, hcell⟩ := h.at_ h0
  refine ⟨_, hA, fun j hj => ?_⟩
  rw [txs_length] at hj
  have := hcell j _ (pv_get ps j hj)
  rw [show (txs ps).getD j ByteArray.empty = tx ps[j] from by
    unfold txs
    rw [List.getD_eq_getElem?_getD, List.getElem?_map, List.getElem?_eq_getElem hj]; rfl]
  have ha : (⟨b, off, none⟩ : Addr).add j = ⟨b, off + j, none⟩ := by simp [Addr.add]
  rw [ha]
  exact this
theorem rd_cap {w : World} {A : Option Addr} {n c B : Nat} {xs : List Value} (h : RdS (.slice A n c) n xs B w) : n ≤ c := by
  rcases h.2 with ⟨h1, h2⟩ | ⟨ad, c', h1, h2, _⟩
  · omega
  · injection h1 with _ _ h3
    omega
theorem refJoin (ps : List (List UInt8)) (hj : (Pm.joinS ps).length ≤ 20000) (hlen : ps.length ≤ 20000) (A : Option Addr) (c : Nat) (w : World)
    (hrd : RdS (.slice A ps.length c) ps.length (pv ps) w.heap.size w) :
    Calls Tryd.prog 45 #[.slice A ps.length c] w fun e w' =>
      e = .returned (.tuple #[.string ⟨(Pm.joinP ps).toArray⟩, .int .i64 (Pm.joinE ps : Nat)]) ∧ Below w.heap.size w w' := by
  have hl := refJoin_l0 ps (fun i _ => Nat.le_trans (joinI_le ps i) hj) (fun x hx => Nat.le_trans (joinS_part ps x hx) hj) hlen ps.length 1300000 0 (by omega) (by omega) (fun j _ h => absurd h (by omega))
  have h := PPathTells.shoalsyncref03_Join.calls 1300000 A c (txs ps) _ _ w (C_of_rd (by omega) hrd) (by rw [txs_length]; exact rd_cap hrd) hl
  rw [txs_length] at h
  exact h
end Go.Proofs.YtidmjepfpjfkoaaDoor

namespace Go.Proofs.YtidmjepfpjfkoaaDoor
open Go Go.RowKit
set_option maxHeartbeats 2000000
set_option maxRecDepth 20000
set_option linter.unusedVariables false
set_option linter.unusedSimpArgs false

theorem within_short (p d : List UInt8) (h : (Pm.cut p).length ≤ (Pm.cut d).length) : Pm.within p d = false := by
  rw [Bool.eq_false_iff]
  intro hw
  obtain ⟨r, hr, he⟩ := (Pm.within_iff p d).1 hw
  have := congrArg List.length he
  rw [List.length_append] at this
  have h0 : 0 < r.length := List.length_pos_iff.2 hr
  omega
theorem within_differ (p d : List UInt8) (i : Nat) (hx : i < (Pm.cut p).length) (hy : i < (Pm.cut d).length) (h : (Pm.cut p)[i] ≠ (Pm.cut d)[i]) : Pm.within p d = false := by
  rw [Bool.eq_false_iff]
  intro hw
  obtain ⟨r, hr, he⟩ := (Pm.within_iff p d).1 hw
  apply h
  simp only [he]
  rw [List.getElem_append_left hy]
theorem within_long (p d : List UInt8) (h : (Pm.cut d).length < (Pm.cut p).length) (ha : ∀ i (hx : i < (Pm.cut p).length) (hy : i < (Pm.cut d).length), (Pm.cut p)[i] = (Pm.cut d)[i]) : Pm.within p d = true := by
  refine (Pm.within_iff p d).2 ⟨(Pm.cut p).drop (Pm.cut d).length, ?_, ?_⟩
  · intro he
    have := congrArg List.length he
    rw [List.length_drop, List.length_nil] at this
    omega
  · conv => lhs; rw [← List.take_append_drop (Pm.cut d).length (Pm.cut p)]
    congr 1
    apply List.ext_getElem
    · rw [List.length_take]; omega
    · intro i h1 h2
      rw [List.getElem_take]
      exact ha i (by omega) h2

theorem refWithin (p d : ByteArray) (hp : p.size ≤ 100000) (hd : d.size ≤ 100000) (w : World) :
    Calls Tryd.prog 56 #[.string p, .string d] w fun e w' => e = .returned (.bool (Pm.within p.data.toList d.data.toList)) ∧ Below w.heap.size w w' := by
  have h1 := refCut p (by omega) w
  have h2 := fun w2 => refCut d (by omega) w2
  have hs := within_short p.data.toList d.data.toList
  have hdf := within_differ p.data.toList d.data.toList
  have hlg := within_long p.data.toList d.data.toList
  have hnl := cut_le p.data.toList
  have hml := cut_le d.data.toList
  rw [show p.data.toList.length = p.size from rfl] at hnl
  rw [show d.data.toList.length = d.size from rfl] at hml
  generalize Pm.within p.data.toList d.data.toList = r at *
  generalize Pm.cut p.data.toList = X at *
  generalize Pm.cut d.data.toList = Y at *
  obtain ⟨n, hn⟩ : ∃ n, n = X.length := ⟨_, rfl⟩
  obtain ⟨m, hm⟩ : ∃ m, m = Y.length := ⟨_, rfl⟩
  rw [← hn] at h1 hnl
  rw [← hm] at h2 hml
  have Hh1 := Lib.hid h1
  have Hh2 := Lib.hid h2
  have Hhs := Lib.hid hs
  have Hhdf := Lib.hid hdf
  have Hhlg := Lib.hid hlg
  have Hhn := Lib.hid hn
  have Hhm := Lib.hid hm
  clear h1 h2 hs hdf hlg hn hm
  go_enter Tryd.func56, Tryd.ntmps56
  go_wp2_with fail
  refine Hh1.out.mono ?_
  rintro e w2 ⟨v, rfl, hv, hb2⟩
  obtain ⟨A, c, rfl⟩ := hv.slice
  have H2 := Lib.hid (Hh2.out w2)
  have Hhv := Lib.hid hv
  clear hv
  go_wp2_with fail
  refine H2.out.mono ?_
  rintro e w3 ⟨v, rfl, hv3, hb3⟩
  obtain ⟨A', c', rfl⟩ := hv3.slice
  have hv2 := (Hhv.out.below hb3).mono hb3.size
  have hb4 := hb2.trans (hb3.mono hb2.size)
  have hws := hb4.size
  clear H2 Hh1 Hh2 Hhv hb2 hb3
  have Hhv2 := Lib.hid hv2
  have Hhv3 := Lib.hid hv3
  clear hv2 hv3
  by_cases hnm : (n : Int) ≤ m
  · have HR : Hid (r = false) := Hhs.out (by rw [← Hhn.out, ← Hhm.out]; omega)
    go_wp2_with fail
    go_ret
    exact ⟨by rw [HR.out]; rfl, hb4⟩
  · go_wp2_with fail
    go_loopw [7] (fun iv wr => ∃ i : Nat, i ≤ m ∧ iv = .int .i64 (i : Int) ∧ Hid (∀ j (hx : j < X.length) (hy : j < Y.length), j < i → X[j] = Y[j]) ∧ Hid (Kn w3.heap.size w3 [] wr)) (fun iv _ => m - (intOf iv).toNat)
    case atStart => exact ⟨0, by omega, rfl, fun j _ _ h => absurd h (by omega), Kn.start w3⟩
    case round =>
      obtain ⟨i, hi, rfl, HB, K⟩ := hrel
      by_cases hin : i < m
      · have hin2 : i < n := by omega
        obtain ⟨b, off, hA, hc, hb, hcell⟩ := Hhv2.out.at_ hin2
        obtain ⟨b', off', hA', hc', hb', hcell'⟩ := Hhv3.out.at_ hin
        subst hA
        subst hA'
        have hil : i < X.length := by rw [← Hhn.out]; exact hin2
        have hjl : i < Y.length := by rw [← Hhm.out]; exact hin
        have hx1 := hcell i _ (pv_get X i hil)
        have hx2 := hcell' i _ (pv_get Y i hjl)
        obtain ⟨x, hx⟩ : ∃ x : ByteArray, x = ⟨X[i].toArray⟩ := ⟨_, rfl⟩
        obtain ⟨y, hy⟩ : ∃ y : ByteArray, y = ⟨Y[i].toArray⟩ := ⟨_, rfl⟩
        rw [← hx] at hx1
        rw [← hy] at hx2
        have hq : (x.toList == y.toList) = decide (X[i] = Y[i]) := by
          rw [hx, hy, ByteArray.toList_eq, ByteArray.toList_eq]; exact Bool.eq_iff_iff.2 (by simp)
        have hr1 : ∀ wS, Kn w3.heap.size w3 [] wS → wS.cell? ⟨b, off + i, none⟩ = some (.string x) := fun wS hS => (Below.cell hS.below (p := ⟨b, off + i, none⟩) hb).trans hx1
        have hr2 : ∀ wS, Kn w3.heap.size w3 [] wS → wS.cell? ⟨b', off' + i, none⟩ = some (.string y) := fun wS hS => (Below.cell hS.below (p := ⟨b', off' + i, none⟩) hb').trans hx2
        have hbi : (0 : Int) ≤ i := by omega
        have hbn : (i : Int) < n := by omega
        have hbm : (i : Int) < m := by omega
        obtain ⟨q, hqq⟩ : ∃ q, q = decide (X[i] = Y[i]) := ⟨_, rfl⟩
        rw [← hqq] at hq
        have HQ : Hid (X[i] = Y[i] ↔ q = true) := by show _ ↔ _; rw [hqq, decide_eq_true_iff]
        have Hhr1 := Lib.hid hr1
        have Hhr2 := Lib.hid hr2
        clear hr1 hr2
        have HIL := Lib.hid hil
        have HJL := Lib.hid hjl
        clear hx1 hx2 hcell hcell' hx hy hqq
        go_wp2_with fail
        refine wp_region_abs w3.heap.size w3 [] ((true, 0) :: (true, 1) :: (true, 2) :: (true, 3) :: (true, 4) :: (true, 5) :: (true, 6) :: (true, 7) :: (true, 8) :: []) (by kernel_rfl) (by kernel_rfl) K.out.drew ?_
        (apply ab_pure
         · (simp only [List.getElem?_toArray, List.getElem?_cons_succ, List.getElem?_cons_zero]; rfl)
         · rfl
         · (intro wS hS; go_simp; try exact rfl)
         simp only [Act.put, List.setIfInBounds_toArray, List.set_cons_zero, List.set_cons_succ])
        (apply ab_pure
         · (simp only [List.getElem?_toArray, List.getElem?_cons_succ, List.getElem?_cons_zero]; rfl)
         · rfl
         · (intro wS hS; go_simp; try exact rfl)
         simp only [Act.put, List.setIfInBounds_toArray, List.set_cons_zero, List.set_cons_succ])
        (apply ab_pure
         · (simp only [List.getElem?_toArray, List.getElem?_cons_succ, List.getElem?_cons_zero]; rfl)
         · rfl
         · (intro wS hS; go_simp; try exact rfl)
         simp only [Act.put, List.setIfInBounds_toArray, List.set_cons_zero, List.set_cons_succ])
        (apply ab_pure
         · (simp only [List.getElem?_toArray, List.getElem?_cons_succ, List.getElem?_cons_zero]; rfl)
         · rfl
         · (intro wS hS; have hc := Hhr1.out wS hS; go_simp; try exact rfl)
         simp only [Act.put, List.setIfInBounds_toArray, List.set_cons_zero, List.set_cons_succ])
        (apply ab_pure
         · (simp only [List.getElem?_toArray, List.getElem?_cons_succ, List.getElem?_cons_zero]; rfl)
         · rfl
         · (intro wS hS; go_simp; try exact rfl)
         simp only [Act.put, List.setIfInBounds_toArray, List.set_cons_zero, List.set_cons_succ])
        (apply ab_pure
         · (simp only [List.getElem?_toArray, List.getElem?_cons_succ, List.getElem?_cons_zero]; rfl)
         · rfl
         · (intro wS hS; go_simp; try exact rfl)
         simp only [Act.put, List.setIfInBounds_toArray, List.set_cons_zero, List.set_cons_succ])
        (apply ab_pure
         · (simp only [List.getElem?_toArray, List.getElem?_cons_succ, List.getElem?_cons_zero]; rfl)
         · rfl
         · (intro wS hS; go_simp; try exact rfl)
         simp only [Act.put, List.setIfInBounds_toArray, List.set_cons_zero, List.set_cons_succ])
        (apply ab_pure
         · (simp only [List.getElem?_toArray, List.getElem?_cons_succ, List.getElem?_cons_zero]; rfl)
         · rfl
         · (intro wS hS; have hc := Hhr2.out wS hS; go_simp; try exact rfl)
         simp only [Act.put, List.setIfInBounds_toArray, List.set_cons_zero, List.set_cons_succ])
        (apply ab_pure
         · (simp only [List.getElem?_toArray, List.getElem?_cons_succ, List.getElem?_cons_zero]; rfl)
         · rfl
         · (intro wS hS; go_simp; try exact rfl)
         simp only [Act.put, List.setIfInBounds_toArray, List.set_cons_zero, List.set_cons_succ])
        refine ab_end ?_
        intro wE hE
        have K2 := Lib.hid hE
        clear hE K
        cases q with
        | true =>
          have HB2 : Hid (∀ j (hx : j < X.length) (hy : j < Y.length), j < i + 1 → X[j] = Y[j]) := fun j hx hy h => by
            rcases Nat.lt_or_ge j i with h3 | h3
            · exact HB.out j hx hy h3
            · obtain rfl : j = i := by omega
              exact HQ.out.2 rfl
          go_wp2_with fail
          go_roundw
          case rel => exact ⟨i + 1, by omega, by go_num, HB2, K2⟩
          case measure => simp [intOf]; omega
        | false =>
          have HR : Hid (r = false) := Hhdf.out i HIL.out HJL.out (fun h => by have := HQ.out.1 h; cases this)
          go_wp2_with fail
          go_ret
          exact ⟨by rw [HR.out]; rfl, hb4.trans (K2.out.below.mono hws)⟩
      · obtain rfl : i = m := by omega
        have hbn : ¬ (i : Int) < i := by omega
        have HR : Hid (r = true) := Hhlg.out (by rw [← Hhn.out, ← Hhm.out]; omega) (fun j hx hy => HB.out j hx hy (by rw [Hhm.out]; exact hy))
        go_wp2_with fail
        go_ret
        exact ⟨by rw [HR.out]; rfl, hb4.trans (K.out.below.mono hws)⟩
end Go.Proofs.YtidmjepfpjfkoaaDoor

namespace Go.Proofs.YtidmjepfpjfkoaaDoor
open Go Go.RowKit
set_option maxHeartbeats 2000000
set_option maxRecDepth 20000
set_option linter.unusedVariables false
set_option linter.unusedSimpArgs false

theorem cmpL_len (xs ys : List (List UInt8)) (i : Nat) (h : ¬ (i < xs.length ∧ i < ys.length)) (hi : i ≤ xs.length) (hj : i ≤ ys.length) :
    Pm.cmpL (xs.drop i) (ys.drop i) = if xs.length < ys.length then -1 else if ys.length < xs.length then 1 else 0 := by
  by_cases h1 : i < xs.length
  · have h2 : ¬ i < ys.length := fun h2 => h ⟨h1, h2⟩
    rw [List.drop_eq_getElem_cons h1, List.drop_of_length_le (show ys.length ≤ i by omega), Pm.cmpL, if_neg (by omega), if_pos (by omega)]
  · rw [List.drop_of_length_le (show xs.length ≤ i by omega)]
    by_cases h2 : i < ys.length
    · rw [List.drop_eq_getElem_cons h2, Pm.cmpL, if_pos (by omega)]
    · rw [List.drop_of_length_le (show ys.length ≤ i by omega), Pm.cmpL, if_neg (by omega), if_neg (by omega)]

theorem refCompare (p d : ByteArray) (hp : p.size ≤ 100000) (hd : d.size ≤ 100000) (w : World) :
    Calls Tryd.prog 55 #[.string p, .string d] w fun e w' => e = .returned (.int .i64 (Pm.compare p.data.toList d.data.toList)) ∧ Below w.heap.size w w' := by
  have h1 := refCut p (by omega) w
  have h2 := fun w2 => refCut d (by omega) w2
  have hnl := cut_le p.data.toList
  have hml := cut_le d.data.toList
  rw [show p.data.toList.length = p.size from rfl] at hnl
  rw [show d.data.toList.length = d.size from rfl] at hml
  unfold Pm.compare
  generalize Pm.cut p.data.toList = X at *
  generalize Pm.cut d.data.toList = Y at *
  obtain ⟨r, hr⟩ : ∃ r, r = Pm.cmpL X Y := ⟨_, rfl⟩
  obtain ⟨n, hn⟩ : ∃ n, n = X.length := ⟨_, rfl⟩
  obtain ⟨m, hm⟩ : ∃ m, m = Y.length := ⟨_, rfl⟩
  rw [← hr]
  rw [← hn] at h1 hnl
  rw [← hm] at h2 hml
  have Hh1 := Lib.hid h1
  have Hh2 := Lib.hid h2
  have Hhr := Lib.hid hr
  have Hhn := Lib.hid hn
  have Hhm := Lib.hid hm
  clear h1 h2 hr hn hm
  go_enter Tryd.func55, Tryd.ntmps55
  go_wp2_with fail
  refine Hh1.out.mono ?_
  rintro e w2 ⟨v, rfl, hv, hb2⟩
  obtain ⟨A, c, rfl⟩ := hv.slice
  have H2 := Lib.hid (Hh2.out w2)
  have Hhv := Lib.hid hv
  clear hv
  go_wp2_with fail
  refine H2.out.mono ?_
  rintro e w3 ⟨v, rfl, hv3, hb3⟩
  obtain ⟨A', c', rfl⟩ := hv3.slice
  have hv2 := (Hhv.out.below hb3).mono hb3.size
  have hb4 := hb2.trans (hb3.mono hb2.size)
  have hws := hb4.size
  clear H2 Hh1 Hh2 Hhv hb2 hb3
  have Hhv2 := Lib.hid hv2
  have Hhv3 := Lib.hid hv3
  clear hv2 hv3
  go_wp2_with fail
  go_loopw [7] (fun iv wr => ∃ i : Nat, i ≤ n ∧ i ≤ m ∧ iv = .int .i64 (i : Int) ∧ Hid (r = Pm.cmpL (X.drop i) (Y.drop i)) ∧ Hid (Kn w3.heap.size w3 [] wr)) (fun iv _ => n - (intOf iv).toNat)
  case atStart => exact ⟨0, by omega, by omega, rfl, by show r = _; rw [Hhr.out]; rfl, Kn.start w3⟩
  case round =>
    obtain ⟨i, hi, hj, rfl, HB, K⟩ := hrel
    have hbi : (0 : Int) ≤ i := by omega
    by_cases hin : i < n ∧ i < m
    · obtain ⟨hin, hjm⟩ := hin
      obtain ⟨b, off, hA, hc, hb, hcell⟩ := Hhv2.out.at_ hin
      obtain ⟨b', off', hA', hc', hb', hcell'⟩ := Hhv3.out.at_ hjm
      subst hA
      subst hA'
      have hil : i < X.length := by rw [← Hhn.out]; exact hin
      have hjl : i < Y.length := by rw [← Hhm.out]; exact hjm
      have hx1 := hcell i _ (pv_get X i hil)
      have hx2 := hcell' i _ (pv_get Y i hjl)
      have hst := cmpL_step X Y i hil hjl
      obtain ⟨x, hx⟩ : ∃ x : ByteArray, x = ⟨X[i].toArray⟩ := ⟨_, rfl⟩
      obtain ⟨y, hy⟩ : ∃ y : ByteArray, y = ⟨Y[i].toArray⟩ := ⟨_, rfl⟩
      rw [← hx] at hx1
      rw [← hy] at hx2
      have hl : Op.bytesLess x.toList y.toList = decide (X[i] < Y[i]) := by
        rw [hx, hy, ByteArray.toList_eq, ByteArray.toList_eq]; exact Go.Proofs.bytesLess_eq _ _
      have he : (x.toList == y.toList) = decide (X[i] = Y[i]) := by
        rw [hx, hy, ByteArray.toList_eq, ByteArray.toList_eq]; exact Bool.eq_iff_iff.2 (by simp)
      have hr1 : ∀ wS, Kn w3.heap.size w3 [] wS → wS.cell? ⟨b, off + i, none⟩ = some (.string x) := fun wS hS => (Below.cell hS.below (p := ⟨b, off + i, none⟩) hb).trans hx1
      have hr2 : ∀ wS, Kn w3.heap.size w3 [] wS → wS.cell? ⟨b', off' + i, none⟩ = some (.string y) := fun wS hS => (Below.cell hS.below (p := ⟨b', off' + i, none⟩) hb').trans hx2
      have hbn : (i : Int) < n := by omega
      have hbm : (i : Int) < m := by omega
      obtain ⟨l, hll⟩ : ∃ l, l = decide (X[i] < Y[i]) := ⟨_, rfl⟩
      obtain ⟨q, hqq⟩ : ∃ q, q = decide (X[i] = Y[i]) := ⟨_, rfl⟩
      rw [← hll] at hl
      rw [← hqq] at he
      have hres : Hid (if l = true then r = -1 else if q = true then r = Pm.cmpL (X.drop (i + 1)) (Y.drop (i + 1)) else r = 1) := by
        show if l = true then r = -1 else if q = true then r = Pm.cmpL (X.drop (i + 1)) (Y.drop (i + 1)) else r = 1
        unfold Pm.cmpB at hst
        by_cases h1 : X[i] < Y[i]
        · rw [if_pos (by rw [hll]; exact decide_eq_true h1), HB.out, hst]; simp [h1]
        · rw [if_neg (by rw [hll]; simpa using h1)]
          by_cases h2 : X[i] = Y[i]
          · rw [if_pos (by rw [hqq]; exact decide_eq_true h2), HB.out, hst, h2]; simp [Pm.lt_irr]
          · have h3 : Y[i] < X[i] := Classical.byContradiction fun h3 => h2 (Pm.lt_tri h1 h3)
            rw [if_neg (by rw [hqq]; simpa using h2), HB.out, hst]; simp [h1, h3]
      have Hhr1 := Lib.hid hr1
      have Hhr2 := Lib.hid hr2
      clear hr1 hr2
      clear hx1 hx2 hcell hcell' hx hy hqq hll hst hil hjl
      go_wp2_with fail
      refine wp_region_abs w3.heap.size w3 [] ((true, 0) :: (true, 1) :: (true, 2) :: (true, 3) :: (true, 4) :: (true, 5) :: (true, 6) :: (true, 7) :: (true, 8) :: []) (by kernel_rfl) (by kernel_rfl) K.out.drew ?_
      (apply ab_pure
       · (simp only [List.getElem?_toArray, List.getElem?_cons_succ, List.getElem?_cons_zero]; rfl)
       · rfl
       · (intro wS hS; go_simp; try exact rfl)
       simp only [Act.put, List.setIfInBounds_toArray, List.set_cons_zero, List.set_cons_succ])
      (apply ab_pure
       · (simp only [List.getElem?_toArray, List.getElem?_cons_succ, List.getElem?_cons_zero]; rfl)
       · rfl
       · (intro wS hS; go_simp; try exact rfl)
       simp only [Act.put, List.setIfInBounds_toArray, List.set_cons_zero, List.set_cons_succ])
      (apply ab_pure
       · (simp only [List.getElem?_toArray, List.getElem?_cons_succ, List.getElem?_cons_zero]; rfl)
       · rfl
       · (intro wS hS; go_simp; try exact rfl)
       simp only [Act.put, List.setIfInBounds_toArray, List.set_cons_zero, List.set_cons_succ])
      (apply ab_pure
       · (simp only [List.getElem?_toArray, List.getElem?_cons_succ, List.getElem?_cons_zero]; rfl)
       · rfl
       · (intro wS hS; have hc := Hhr1.out wS hS; go_simp; try exact rfl)
       simp only [Act.put, List.setIfInBounds_toArray, List.set_cons_zero, List.set_cons_succ])
      (apply ab_pure
       · (simp only [List.getElem?_toArray, List.getElem?_cons_succ, List.getElem?_cons_zero]; rfl)
       · rfl
       · (intro wS hS; go_simp; try exact rfl)
       simp only [Act.put, List.setIfInBounds_toArray, List.set_cons_zero, List.set_cons_succ])
      (apply ab_pure
       · (simp only [List.getElem?_toArray, List.getElem?_cons_succ, List.getElem?_cons_zero]; rfl)
       · rfl
       · (intro wS hS; go_simp; try exact rfl)
       simp only [Act.put, List.setIfInBounds_toArray, List.set_cons_zero, List.set_cons_succ])
      (apply ab_pure
       · (simp only [List.getElem?_toArray, List.getElem?_cons_succ, List.getElem?_cons_zero]; rfl)
       · rfl
       · (intro wS hS; go_simp; try exact rfl)
       simp only [Act.put, List.setIfInBounds_toArray, List.set_cons_zero, List.set_cons_succ])
      (apply ab_pure
       · (simp only [List.getElem?_toArray, List.getElem?_cons_succ, List.getElem?_cons_zero]; rfl)
       · rfl
       · (intro wS hS; have hc := Hhr2.out wS hS; go_simp; try exact rfl)
       simp only [Act.put, List.setIfInBounds_toArray, List.set_cons_zero, List.set_cons_succ])
      (apply ab_pure
       · (simp only [List.getElem?_toArray, List.getElem?_cons_succ, List.getElem?_cons_zero]; rfl)
       · rfl
       · (intro wS hS; go_simp; try exact rfl)
       simp only [Act.put, List.setIfInBounds_toArray, List.set_cons_zero, List.set_cons_succ])
      refine ab_end ?_
      intro wE hE
      have K2 := Lib.hid hE
      clear hE K
      cases l with
      | true =>
        have HR : Hid (r = -1) := hres.out
        go_wp2_with fail
        go_ret
        exact ⟨by rw [HR.out]; rfl, hb4.trans (K2.out.below.mono hws)⟩
      | false =>
        go_wp2_with fail
        refine wp_region_abs w3.heap.size w3 [] ((true, 0) :: (true, 1) :: (true, 2) :: (true, 3) :: (true, 4) :: (true, 5) :: (true, 6) :: (true, 7) :: (true, 8) :: []) (by kernel_rfl) (by kernel_rfl) K2.out.drew ?_
        (apply ab_pure
         · (simp only [List.getElem?_toArray, List.getElem?_cons_succ, List.getElem?_cons_zero]; rfl)
         · rfl
         · (intro wS hS; go_simp; try exact rfl)
         simp only [Act.put, List.setIfInBounds_toArray, List.set_cons_zero, List.set_cons_succ])
        (apply ab_pure
         · (simp only [List.getElem?_toArray, List.getElem?_cons_succ, List.getElem?_cons_zero]; rfl)
         · rfl
         · (intro wS hS; go_simp; try exact rfl)
         simp only [Act.put, List.setIfInBounds_toArray, List.set_cons_zero, List.set_cons_succ])
        (apply ab_pure
         · (simp only [List.getElem?_toArray, List.getElem?_cons_succ, List.getElem?_cons_zero]; rfl)
         · rfl
         · (intro wS hS; go_simp; try exact rfl)
         simp only [Act.put, List.setIfInBounds_toArray, List.set_cons_zero, List.set_cons_succ])
        (apply ab_pure
         · (simp only [List.getElem?_toArray, List.getElem?_cons_succ, List.getElem?_cons_zero]; rfl)
         · rfl
         · (intro wS hS; have hc := Hhr1.out wS hS; go_simp; try exact rfl)
         simp only [Act.put, List.setIfInBounds_toArray, List.set_cons_zero, List.set_cons_succ])
        (apply ab_pure
         · (simp only [List.getElem?_toArray, List.getElem?_cons_succ, List.getElem?_cons_zero]; rfl)
         · rfl
         · (intro wS hS; go_simp; try exact rfl)
         simp only [Act.put, List.setIfInBounds_toArray, List.set_cons_zero, List.set_cons_succ])
        (apply ab_pure
         · (simp only [List.getElem?_toArray, List.getElem?_cons_succ, List.getElem?_cons_zero]; rfl)
         · rfl
         · (intro wS hS; go_simp; try exact rfl)
         simp only [Act.put, List.setIfInBounds_toArray, List.set_cons_zero, List.set_cons_succ])
        (apply ab_pure
         · (simp only [List.getElem?_toArray, List.getElem?_cons_succ, List.getElem?_cons_zero]; rfl)
         · rfl
         · (intro wS hS; go_simp; try exact rfl)
         simp only [Act.put, List.setIfInBounds_toArray, List.set_cons_zero, List.set_cons_succ])
        (apply ab_pure
         · (simp only [List.getElem?_toArray, List.getElem?_cons_succ, List.getElem?_cons_zero]; rfl)
         · rfl
         · (intro wS hS; have hc := Hhr2.out wS hS; go_simp; try exact rfl)
         simp only [Act.put, List.setIfInBounds_toArray, List.set_cons_zero, List.set_cons_succ])
        (apply ab_pure
         · (simp only [List.getElem?_toArray, List.getElem?_cons_succ, List.getElem?_cons_zero]; rfl)
         · rfl
         · (intro wS hS; go_simp; try exact rfl)
         simp only [Act.put, List.setIfInBounds_toArray, List.set_cons_zero, List.set_cons_succ])
        refine ab_end ?_
        intro wE hE
        have K3 := Lib.hid hE
        clear hE K2
        cases q with
        | true =>
          have HB2 : Hid (r = Pm.cmpL (X.drop (i + 1)) (Y.drop (i + 1))) := hres.out
          go_wp2_with fail
          go_roundw
          case rel => exact ⟨i + 1, by omega, by omega, by go_num, HB2, K3⟩
          case measure => simp [intOf]; omega
        | false =>
          have HR : Hid (r = 1) := hres.out
          go_wp2_with fail
          go_ret
          exact ⟨by rw [HR.out]; rfl, hb4.trans (K3.out.below.mono hws)⟩
    · have hr2 := HB.out
      rw [cmpL_len X Y i (by rw [← Hhn.out, ← Hhm.out]; exact hin) (by rw [← Hhn.out]; exact hi) (by rw [← Hhm.out]; exact hj), ← Hhn.out, ← Hhm.out] at hr2
      have hbe := hb4.trans (K.out.below.mono hws)
      by_cases hnm : (n : Int) < m
      · have HR : Hid (r = -1) := by show r = -1; rw [hr2, if_pos (by omega)]
        have hbn : ¬ (i : Int) < n := by omega
        clear hr2
        go_wp2_with fail
        go_ret
        exact ⟨by rw [HR.out]; rfl, hbe⟩
      · by_cases hmn : (m : Int) < n
        · have HR : Hid (r = 1) := by show r = 1; rw [hr2, if_neg (by omega), if_pos (by omega)]
          have hbn : (i : Int) < n := by omega
          have hbm : ¬ (i : Int) < m := by omega
          clear hr2
          go_wp2_with fail
          go_ret
          exact ⟨by rw [HR.out]; rfl, hbe⟩
        · have HR : Hid (r = 0) := by show r = 0; rw [hr2, if_neg (by omega), if_neg (by omega)]
          have hbn : ¬ (i : Int) < n := by omega
          clear hr2
          go_wp2_with fail
          go_ret
          exact ⟨by rw [HR.out]; rfl, hbe⟩
end Go.Proofs.YtidmjepfpjfkoaaDoor
