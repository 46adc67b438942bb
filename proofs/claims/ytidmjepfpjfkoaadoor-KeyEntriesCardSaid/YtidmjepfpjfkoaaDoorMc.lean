/-
  Walks: path.cut; what is handed back as a row of texts.
  Walks: slices.IndexFunc, ContainsFunc over texts, at a function that turns nothing of what there is; path.Right.
  Walks: path.Right, Parts.
  Walks: path.Parts.
  Walks: path.Parent.
  Walks: path.Join.
  Walks: path.Within, Sort$1, cmp.Compare of texts.
  Walks: slices.Compare of rows of texts, path.Compare.
  The reference's Same, at rows that are the same.
-/
import Derived.Test.YtidmjepfpjfkoaaDoorMb
import Derived.Test.YtidmjepfpjfkoaaDoorShelf
import Derived.Test.YtidmjepfpjfkoaaDoorMa
import Derived.Lib.SplitLaws
import Derived.Lib.CountLaws
import Derived.Lib.CutLaws
import Derived.Lib.LastIndexByte
import Derived.Lib.IndexAny
import Derived.Sort.Walk0
namespace Go.Proofs.YtidmjepfpjfkoaaDoor
open Go Go.RowKit
set_option maxHeartbeats 2000000
set_option maxRecDepth 20000
set_option linter.unusedVariables false
set_option linter.unusedSimpArgs false

theorem idx47 : ∀ l : List UInt8, (Lib.index l [47] = -1 ∧ 47 ∉ l) ∨ ∃ a b, l = a ++ 47 :: b ∧ 47 ∉ a ∧ Lib.index l [47] = (a.length : Int)
  | [] => .inl ⟨rfl, by simp⟩
  | c :: l => by
    by_cases hc : c = 47
    · subst hc
      exact .inr ⟨[], l, rfl, by simp, by rw [Lib.index]; simp⟩
    · have hp : ([47] : List UInt8).isPrefixOf (c :: l) = false := by
        have : (47 == c) = false := by rw [beq_eq_false_iff_ne]; exact fun e => hc e.symm
        simp [List.isPrefixOf, this]
      rcases idx47 l with ⟨h1, h2⟩ | ⟨a, b, h1, h2, h3⟩
      · exact .inl ⟨by rw [Lib.index, hp, h1]; rfl, by
          intro h
          rcases List.mem_cons.1 h with h | h
          · exact hc h.symm
          · exact h2 h⟩
      · refine .inr ⟨c :: a, b, by rw [h1]; rfl, ?_, ?_⟩
        · intro h
          rcases List.mem_cons.1 h with h | h
          · exact hc h.symm
          · exact h2 h
        · rw [Lib.index, hp, h3]
          have : ((a.length : Int) == -1) = false := by rw [beq_eq_false_iff_ne]; omega
          rw [this]
          simp
def slashB : ByteArray := ⟨#[47]⟩
theorem split_cut : ∀ (n : Nat) (s : ByteArray), s.size ≤ n → (Lib.splitB slashB 0 (Lib.countB s slashB) s) = (Pm.cut s.data.toList).map fun l => (⟨l.toArray⟩ : ByteArray) := by
  intro n
  induction n with
  | zero =>
    intro s hs
    have hl : s.data.toList = [] := List.length_eq_zero_iff.1 (by show s.size = 0; omega)
    have hm : Lib.indexB s slashB = -1 := by show Lib.index s.data.toList [47] = -1; rw [hl]; rfl
    rw [Lib.countB_miss _ _ hm, Lib.splitB_zero, hl]
    show [s] = [_]
    have : s = ⟨#[]⟩ := by
      obtain ⟨d⟩ := s
      have : d = #[] := Array.eq_empty_of_size_eq_zero (by simpa using hl)
      rw [this]
    rw [this]
  | succ n ih =>
    intro s hs
    rcases idx47 s.data.toList with ⟨h1, h2⟩ | ⟨a, b, h1, h2, h3⟩
    · have hm : Lib.indexB s slashB = -1 := h1
      rw [Lib.countB_miss _ _ hm, Lib.splitB_zero, Pm.cut_plain _ h2]
      rfl
    · have hm : Lib.indexB s slashB = (a.length : Int) := h3
      have hsz : s.size = a.length + 1 + b.length := by show s.data.toList.length = _; rw [h1]; simp; omega
      have hd : (s.extract (a.length + slashB.size) s.size).data.toList = b := by
        show (s.extract (a.length + 1) s.size).data.toList = b
        rw [Lib.extract_data, h1, show a ++ 47 :: b = (a ++ [47]) ++ b by simp, List.drop_append_of_le_length (by simp), List.drop_of_length_le (by simp), List.nil_append]
        exact List.take_of_length_le (by omega)
      have ha : (s.extract 0 (a.length + 0)).data.toList = a := by
        rw [Lib.extract_data, h1]; simp
      rw [Lib.countB_hit _ _ _ (by decide) hm, Nat.add_comm 1, Lib.splitB_hit _ _ _ _ _ hm, ih _ (by
        show (s.extract (a.length + slashB.size) s.size).data.toList.length ≤ n
        rw [hd]; omega), hd, h1, Pm.cut_append, Pm.cut_plain a h2]
      show _ :: _ = _ :: _
      congr 1
      exact congrArg (fun l => (⟨List.toArray l⟩ : ByteArray)) ha

/-- the library's own number, whatever it is -/
def Gl (w : World) : Prop := ∃ m : Int, w.cell? ⟨0, 0, none⟩ = some (.int .i64 m)
theorem Gl.lt {w : World} (h : Gl w) : 0 < w.heap.size := by
  obtain ⟨m, h⟩ := h
  rcases Nat.eq_zero_or_pos w.heap.size with h0 | h0
  · unfold World.cell? at h
    rw [Array.getElem?_eq_none (by omega)] at h
    cases h
  · exact h0
theorem Gl.below {B : Nat} {w w' : World} (h : Gl w) (hb : Below B w w') (hB : 0 < B) : Gl w' := by
  obtain ⟨m, h⟩ := h
  refine ⟨m, ?_⟩
  rw [← h]
  unfold World.cell?
  rw [hb.block 0 hB]

/-- texts as values -/
def pv (ps : List (List UInt8)) : List Value := ps.map fun l => Value.string ⟨l.toArray⟩
def RetS (xs : List Value) (w : World) (e : Ending) (w' : World) : Prop := ∃ v n, e = .returned v ∧ RdS v n xs w'.heap.size w' ∧ Below w.heap.size w w'
theorem RdS.slice {v : Value} {n B : Nat} {xs : List Value} {w : World} (h : RdS v n xs B w) : ∃ A c, v = .slice A n c := by
  rcases h.2 with ⟨rfl, rfl⟩ | ⟨ad, c, rfl, _⟩
  · exact ⟨none, 0, rfl⟩
  · exact ⟨some ad, c, rfl⟩
theorem RdS.mono {v : Value} {n B B' : Nat} {xs : List Value} {w : World} (h : RdS v n xs B w) (hB : B ≤ B') : RdS v n xs B' w :=
  ⟨h.1, h.2.imp id fun ⟨ad, c, h1, h2, h3⟩ => ⟨ad, c, h1, h2, h3.imp id fun ⟨b, off, h4, h5, h6⟩ => ⟨b, off, h4, by omega, h6⟩⟩⟩

theorem pathCut (s : ByteArray) (hs : s.size ≤ 1000000) (w : World) (hg : Gl w) :
    Calls Tryd.prog 78 #[.string s] w fun e w' => e = .returned (.slice (some ⟨w.heap.size, 0, none⟩) (Pm.cut s.data.toList).length (Pm.cut s.data.toList).length) ∧ w' = w.alloc (.cells (pv (Pm.cut s.data.toList)).toArray 9) := by
  obtain ⟨m, hm⟩ := hg
  have h := Tryd.strings_Split s slashB m w (by omega) hm (by decide)
  have hc := split_cut s.size s (Nat.le_refl _)
  have hl : Lib.countB s slashB + 1 = (Pm.cut s.data.toList).length := by
    rw [← Lib.splitB_all slashB (by decide) 0 _ s rfl, hc, List.length_map]
  rw [hl, hc, List.map_map] at h
  obtain ⟨X, hX⟩ : ∃ X, X = pv (Pm.cut s.data.toList) := ⟨_, rfl⟩
  rw [show (Pm.cut s.data.toList).map (Value.string ∘ fun l => (⟨l.toArray⟩ : ByteArray)) = X from hX.symm] at h
  rw [← hX]
  generalize (Pm.cut s.data.toList).length = n at *
  have H := Lib.hid h
  clear h hm hc hl hX
  go_enter Tryd.func78, Tryd.ntmps78
  go_wp2_with fail
  refine H.out.mono ?_
  rintro e w' ⟨rfl, rfl⟩
  go_wp2_with fail
  go_ret
  exact ⟨rfl, rfl⟩
theorem cells_rd {w : World} {b : Nat} {e : TypeId} {xs : List Value} {c : Nat} (h : w.heap[b]? = some (.cells xs.toArray e)) (hc : xs.length ≤ c) : RdS (.slice (some ⟨b, 0, none⟩) xs.length c) xs.length xs w.heap.size w :=
  ⟨rfl, .inr ⟨_, c, rfl, hc, .inr ⟨b, 0, rfl, lt_of_block h, fun j u hj => by rw [Nat.zero_add, cell_of_row _ _ _ _ _ _ h]; simpa using hj⟩⟩⟩
end Go.Proofs.YtidmjepfpjfkoaaDoor

namespace Go.Proofs.YtidmjepfpjfkoaaDoor
open Go Go.RowKit
set_option maxHeartbeats 2000000
set_option maxRecDepth 20000
set_option linter.unusedVariables false
set_option linter.unusedSimpArgs false

/-- a function's number g answers p of a text, and turns nothing of what there is -/
structure Pd (g : Nat) (p : List UInt8 → Bool) : Prop where
  en : ∀ args w, (callFunc g args).run Tryd.prog w = .ok (.enter g args) w
  says : ∀ (x : List UInt8) (w : World), x.length ≤ 100000 → Gl w → Calls Tryd.prog g #[.string ⟨x.toArray⟩] w fun e w' => e = .returned (.bool (p x)) ∧ Below w.heap.size w w'

theorem pv_get (ps : List (List UInt8)) (i : Nat) (h : i < ps.length) : (pv ps)[i]? = some (.string ⟨ps[i].toArray⟩) := by
  unfold pv; rw [List.getElem?_map, List.getElem?_eq_getElem h]; rfl
theorem findIdx_at {p : List UInt8 → Bool} {ps : List (List UInt8)} {i : Nat} (h : i < ps.length) (hp : p ps[i] = true) (hb : ∀ j (hj : j < ps.length), j < i → p ps[j] = false) : ps.findIdx p = i := by
  rw [List.findIdx_eq h]
  exact ⟨hp, fun j hj => by have := hb j (by omega) hj; simpa using this⟩
theorem findIdx_none {p : List UInt8 → Bool} {ps : List (List UInt8)} (hb : ∀ j (hj : j < ps.length), p ps[j] = false) : ps.findIdx p = ps.length := by
  rw [List.findIdx_eq_length]
  intro x hx
  obtain ⟨j, hj, rfl⟩ := List.getElem_of_mem hx
  simpa using hb j hj

theorem indexFunc (g : Nat) (p : List UInt8 → Bool) (hP : Pd g p) (ps : List (List UInt8)) (hps : ∀ x ∈ ps, x.length ≤ 100000) (hlen : ps.length ≤ 1000000) (A : Option Addr) (c : Nat) (w : World) (hG : Gl w)
    (hrd : RdS (.slice A ps.length c) ps.length (pv ps) w.heap.size w) :
    Calls Tryd.prog 103 #[.slice A ps.length c, .func (.func g) #[] #[]] w fun e w' =>
      e = .returned (.int .i64 (if ps.findIdx p < ps.length then (ps.findIdx p : Int) else -1)) ∧ Below w.heap.size w w' := by
  have en := hP.en
  have says := hP.says
  have hgl := hG.lt
  obtain ⟨r, hr⟩ : ∃ r : Int, r = (if ps.findIdx p < ps.length then (ps.findIdx p : Int) else -1) := ⟨_, rfl⟩
  rw [← hr]
  obtain ⟨n, hn⟩ : ∃ n, n = ps.length := ⟨_, rfl⟩
  rw [← hn] at hrd hlen ⊢
  have Hsays := Lib.hid says
  have Hhrd := Lib.hid hrd
  have Hhn := Lib.hid hn
  have Hhr := Lib.hid hr
  have Hhps := Lib.hid hps
  have HhG := Lib.hid hG
  clear says hrd hn hr hps hG
  clear hP
  go_enter Tryd.func103, Tryd.ntmps103
  go_wp2_with fail
  go_loopw [8] (fun iv wr => ∃ i : Nat, i ≤ n ∧ iv = .int .i64 (i : Int) ∧ Hid (∀ j (hj : j < ps.length), j < i → p ps[j] = false) ∧ Below w.heap.size w wr) (fun iv _ => n - (intOf iv).toNat)
  case atStart => exact ⟨0, by omega, rfl, fun j _ h => absurd h (by omega), Below.refl _ _⟩
  case round =>
    obtain ⟨i, hi, rfl, HB, hb⟩ := hrel
    have hbi : (0 : Int) ≤ i := by omega
    by_cases hin : i < n
    · obtain ⟨b, off, hA, hcn, hbb, hcell⟩ := Hhrd.out.at_ hin
      have hil : i < ps.length := by rw [← Hhn.out]; exact hin
      have hx := (hb.cell (p := ⟨b, off + i, none⟩) hbb).trans (hcell i _ (pv_get ps i hil))
      have hxl := Hhps.out _ (List.getElem_mem hil)
      have hbn : (i : Int) < n := by omega
      have hsay := Hsays.out ps[i] wr hxl (HhG.out.below hb hgl)
      obtain ⟨q, hq⟩ : ∃ q, q = p ps[i] := ⟨_, rfl⟩
      rw [← hq] at hsay
      obtain ⟨x, hxx⟩ : ∃ x : ByteArray, x = ⟨ps[i].toArray⟩ := ⟨_, rfl⟩
      rw [← hxx] at hx hsay
      subst hA
      have Hhsay := Lib.hid hsay
      have Hhq := Lib.hid hq
      have Hhxx := Lib.hid hxx
      clear hsay hq hxx
      clear hcell hxl
      have HIL := Lib.hid hil
      go_wp2_with fail
      refine Hhsay.out.mono ?_
      rintro e w2 ⟨rfl, hb2⟩
      have hb3 := hb.trans (hb2.mono hb.size)
      clear hb2
      cases q with
      | true =>
        have hr1 : r = (i : Int) := by
          rw [Hhr.out, findIdx_at HIL.out Hhq.out.symm HB.out, if_pos HIL.out]
        have HR1 := Lib.hid hr1
        clear hr1
        go_wp2_with fail
        go_ret
        exact ⟨by rw [HR1.out]; rfl, hb3⟩
      | false =>
        have HB2 : Hid (∀ j (hj : j < ps.length), j < i + 1 → p ps[j] = false) := fun j hj h => by
          rcases Nat.lt_or_ge j i with h3 | h3
          · exact HB.out j hj h3
          · obtain rfl : j = i := by omega
            exact Hhq.out.symm
        go_wp2_with fail
        go_roundw
        case rel => exact ⟨i + 1, by omega, by go_num, HB2, hb3⟩
        case measure => simp [intOf]; omega
    · obtain rfl : i = n := by omega
      have hbn : ¬ (i : Int) < i := by omega
      have hr1 : r = -1 := by
        rw [Hhr.out, findIdx_none (fun j hj => HB.out j hj (by rw [Hhn.out]; exact hj)), if_neg (Nat.lt_irrefl _)]
      have HR1 := Lib.hid hr1
      clear hr1
      go_wp2_with fail
      go_ret
      exact ⟨by rw [HR1.out]; rfl, hb⟩

theorem containsFunc (g : Nat) (p : List UInt8 → Bool) (hP : Pd g p) (ps : List (List UInt8)) (hps : ∀ x ∈ ps, x.length ≤ 100000) (hlen : ps.length ≤ 1000000) (A : Option Addr) (c : Nat) (w : World) (hG : Gl w)
    (hrd : RdS (.slice A ps.length c) ps.length (pv ps) w.heap.size w) :
    Calls Tryd.prog 74 #[.slice A ps.length c, .func (.func g) #[] #[]] w fun e w' =>
      e = .returned (.bool (ps.any p)) ∧ Below w.heap.size w w' := by
  have h := indexFunc g p hP ps hps hlen A c w hG hrd
  obtain ⟨r, hr⟩ : ∃ r : Int, r = (if ps.findIdx p < ps.length then (ps.findIdx p : Int) else -1) := ⟨_, rfl⟩
  rw [← hr] at h
  have ha : decide (0 ≤ r) = ps.any p := by
    rw [hr]
    by_cases hf : ps.findIdx p < ps.length
    · rw [if_pos hf, decide_eq_true (by omega)]
      symm
      rw [List.any_eq_true]
      exact ⟨_, List.getElem_mem hf, List.findIdx_getElem (w := hf)⟩
    · rw [if_neg hf, decide_eq_false (by omega)]
      symm
      rw [Bool.eq_false_iff]
      intro h
      rw [List.any_eq_true] at h
      exact hf (List.findIdx_lt_length.2 h)
  generalize ps.length = n at *
  have Hh := Lib.hid h
  have Hha := Lib.hid ha
  have Hhr := Lib.hid hr
  clear h ha hr
  clear hP hrd
  go_enter Tryd.func74, Tryd.ntmps74
  go_wp2_with fail
  refine Hh.out.mono ?_
  rintro e w' ⟨rfl, hb⟩
  go_wp2_with fail
  go_ret
  exact ⟨by rw [← Hha.out]; rfl, hb⟩

/-! ### Right -/
theorem beq_lit (x : ByteArray) (l : List UInt8) : (x.toList == l) = (x.data.toList == l) := by rw [ByteArray.toList_eq]
theorem idxByte0 : ∀ l : List UInt8, decide (0 ≤ Lib.indexByte l 0) = l.contains 0
  | [] => rfl
  | c :: l => by
    rw [Lib.indexByte, List.contains_cons, ← idxByte0 l]
    by_cases hc : c = 0
    · subst hc; rfl
    · have h1 : (c == 0) = false := by rw [beq_eq_false_iff_ne]; exact hc
      have h2 : (0 == c) = false := by rw [beq_eq_false_iff_ne]; exact fun e => hc e.symm
      have hge := Lib.indexByte_ge l 0
      rw [h1, h2, Bool.false_or]
      by_cases hm : Lib.indexByte l 0 = -1
      · rw [hm]; rfl
      · have h3 : (Lib.indexByte l 0 == -1) = false := by rw [beq_eq_false_iff_ne]; exact hm
        rw [h3]
        apply decide_eq_decide.2
        simp
        omega
theorem wrong_says (x : List UInt8) (w : World) : Calls Tryd.prog 77 #[.string ⟨x.toArray⟩] w fun e w' => e = .returned (.bool (!Pm.part x)) ∧ w' = w := by
  obtain ⟨s, hs⟩ : ∃ s : ByteArray, s = ⟨x.toArray⟩ := ⟨_, rfl⟩
  have hd : s.data.toList = x := by rw [hs]
  rw [← hs]
  obtain ⟨q, hq⟩ : ∃ q, q = !Pm.part x := ⟨_, rfl⟩
  rw [← hq]
  unfold Pm.part at hq
  have hi := Tryd.strings_IndexByte s 0 w
  have h0 := idxByte0 x
  rw [← hd] at h0 hq
  have e1 : s.toList.isEmpty = (s.data.toList == []) := by rw [ByteArray.toList_eq]; cases s.data.toList <;> rfl
  have e2 := beq_lit s [46]
  have e3 := beq_lit s [46, 46]
  rw [show ((0 : Int).toNat.toUInt8) = (0 : UInt8) from rfl] at hi
  obtain ⟨r, hr⟩ : ∃ r, r = Lib.indexByte s.data.toList 0 := ⟨_, rfl⟩
  rw [← hr] at hi h0
  have hq4 : q = ((s.data.toList == []) || (s.data.toList == [46]) || (s.data.toList == [46, 46]) || decide (0 ≤ r)) := by rw [hq, h0]; cases (s.data.toList == []) <;> cases (s.data.toList == [46]) <;> cases (s.data.toList == [46, 46]) <;> simp
  rw [← e1, ← e2, ← e3] at hq4
  clear hq h0 hr hd hs e1 e2 e3
  obtain ⟨b1, h1⟩ : ∃ b, s.toList.isEmpty = b := ⟨_, rfl⟩
  obtain ⟨b2, h2⟩ : ∃ b, (s.toList == [46]) = b := ⟨_, rfl⟩
  obtain ⟨b3, h3⟩ : ∃ b, (s.toList == [46, 46]) = b := ⟨_, rfl⟩
  rw [h1, h2, h3] at hq4
  have Hhq4 := Lib.hid hq4
  have Hhi := Lib.hid hi
  clear hq4 hi
  cases b1 with
  | true =>
    go_enter Tryd.func77, Tryd.ntmps77
    go_wp2_with fail
    go_ret
    exact ⟨by rw [Hhq4.out]; rfl, rfl⟩
  | false =>
    cases b2 with
    | true =>
      go_enter Tryd.func77, Tryd.ntmps77
      go_wp2_with fail
      go_ret
      exact ⟨by rw [Hhq4.out]; rfl, rfl⟩
    | false =>
      cases b3 with
      | true =>
        go_enter Tryd.func77, Tryd.ntmps77
        go_wp2_with fail
        go_ret
        exact ⟨by rw [Hhq4.out]; rfl, rfl⟩
      | false =>
        go_enter Tryd.func77, Tryd.ntmps77
        go_wp2_with fail
        refine Hhi.out.mono ?_
        rintro e w' ⟨rfl, rfl⟩
        go_wp2_with fail
        go_ret
        exact ⟨by rw [Hhq4.out]; rfl, rfl⟩
end Go.Proofs.YtidmjepfpjfkoaaDoor

namespace Go.Proofs.YtidmjepfpjfkoaaDoor
open Go Go.RowKit
set_option maxHeartbeats 2000000
set_option maxRecDepth 20000
set_option linter.unusedVariables false
set_option linter.unusedSimpArgs false

theorem long_says (x : List UInt8) (w : World) : Calls Tryd.prog 79 #[.string ⟨x.toArray⟩] w fun e w' => e = .returned (.bool (decide (24 < x.length))) ∧ w' = w := by
  obtain ⟨s, hs⟩ : ∃ s : ByteArray, s = ⟨x.toArray⟩ := ⟨_, rfl⟩
  have hd : s.size = x.length := by rw [hs]; show x.toArray.size = _; simp
  rw [← hs, ← hd]
  have hq : decide ((24 : Int) < (s.size : Int)) = decide (24 < s.size) := by apply decide_eq_decide.2; omega
  rw [← hq]
  clear hs hd hq
  go_enter Tryd.func79, Tryd.ntmps79
  go_wp2_with fail
  go_ret
  exact ⟨rfl, rfl⟩
theorem pd_wrong : Pd 77 (fun x => !Pm.part x) :=
  ⟨enters_of Tryd.func77 (by kernel_rfl) rfl, fun x w _ _ => (wrong_says x w).mono fun e w' ⟨h1, h2⟩ => ⟨h1, by rw [h2]; exact Below.refl _ _⟩⟩
theorem pd_long : Pd 79 (fun x => decide (24 < x.length)) :=
  ⟨enters_of Tryd.func79 (by kernel_rfl) rfl, fun x w _ _ => (long_says x w).mono fun e w' ⟨h1, h2⟩ => ⟨h1, by rw [h2]; exact Below.refl _ _⟩⟩
theorem cut_le (l : List UInt8) : (Pm.cut l).length ≤ l.length + 1 := by rw [Pm.cut_length]; have := List.count_le_length (a := (47 : UInt8)) (l := l); omega
theorem part_le : ∀ (l : List UInt8), ∀ x ∈ Pm.cut l, x.length ≤ l.length
  | [], x, h => by simp [Pm.cut] at h; subst h; simp
  | c :: l, x, h => by
    by_cases hc : c = 47
    · subst hc
      rw [Pm.cut_slash] at h
      rcases List.mem_cons.1 h with rfl | h
      · simp
      · have := part_le l x h; simp; omega
    · obtain ⟨y, r, hy⟩ : ∃ y r, Pm.cut l = y :: r := by
        cases h' : Pm.cut l with
        | nil => exact absurd h' (Pm.cut_ne l)
        | cons x r => exact ⟨x, r, rfl⟩
      rw [Pm.cut_other hc l hy] at h
      rcases List.mem_cons.1 h with rfl | h
      · have := part_le l y (by rw [hy]; simp); simp; omega
      · have := part_le l x (by rw [hy]; simp [h]); simp; omega
theorem not_all (ps : List (List UInt8)) : ps.all Pm.part = !(ps.any fun x => !Pm.part x) := by
  rw [List.not_any_eq_all_not]; simp

theorem pathRight (s : ByteArray) (hs : s.size ≤ 100000) (w : World) (hG : Gl w) :
    Calls Tryd.prog 39 #[.string s] w fun e w' => e = .returned (.int .i64 (Pm.right s.data.toList : Nat)) ∧ Below w.heap.size w w' := by
  have hl : s.data.toList.length = s.size := rfl
  have hcut := pathCut s (by omega) w hG
  obtain ⟨ps, hps⟩ : ∃ ps, ps = Pm.cut s.data.toList := ⟨_, rfl⟩
  have hlen := cut_le s.data.toList
  have hpl : ∀ x ∈ ps, x.length ≤ 100000 := fun x hx => by have := part_le s.data.toList x (by rw [← hps]; exact hx); omega
  have hGl := hG.lt
  have hB : Below w.heap.size w (w.alloc (.cells (pv ps).toArray 9)) := (Below.refl _ w).alloc (Nat.le_refl _) _
  have hG2 := hG.below hB hGl
  have hpvl : (pv ps).length = ps.length := by simp [pv]
  have hrd := cells_rd (c := ps.length) (heap_alloc_new w (.cells (pv ps).toArray 9)) (by rw [hpvl]; exact Nat.le_refl _)
  rw [hpvl] at hrd
  rw [← hps] at hcut hlen
  have c1 := containsFunc _ _ pd_wrong ps hpl (by omega) _ _ _ hG2 hrd
  have hc1 := not_all ps
  obtain ⟨r, hr⟩ : ∃ r, r = Pm.right s.data.toList := ⟨_, rfl⟩
  have hr2 := hr
  unfold Pm.right at hr2
  rw [← hps, hl, hc1] at hr2
  rw [← hr]
  obtain ⟨b1, hb1⟩ : ∃ b, b = ps.any (fun x => !Pm.part x) := ⟨_, rfl⟩
  obtain ⟨b2, hb2⟩ : ∃ b, b = ps.any (fun x => decide (24 < x.length)) := ⟨_, rfl⟩
  rw [← hb1] at c1 hr2
  rw [← hb2] at hr2
  have c2 := fun w3 (h3 : Below (w.alloc (.cells (pv ps).toArray 9)).heap.size (w.alloc (.cells (pv ps).toArray 9)) w3) => containsFunc _ _ pd_long ps hpl (by omega) _ _ w3 (hG2.below h3 hG2.lt) ((hrd.below h3).mono h3.size)
  rw [← hb2] at c2
  obtain ⟨n, hn⟩ : ∃ n, n = ps.length := ⟨_, rfl⟩
  rw [← hn] at hcut c1 c2 hr2
  generalize w.alloc (.cells (pv ps).toArray 9) = w1 at *
  have hwb := hB.size
  have Hhcut := Lib.hid hcut
  have Hc1 := Lib.hid c1
  have Hc2 := Lib.hid c2
  have Hhr2 := Lib.hid hr2
  have Hhr := Lib.hid hr
  have Hhb1 := Lib.hid hb1
  have Hhb2 := Lib.hid hb2
  have Hhn := Lib.hid hn
  have Hhps := Lib.hid hps
  clear hcut c1 c2 hr2 hr hb1 hb2 hn hps
  clear hrd hpl hpvl hG hG2 hl hlen hc1
  go_enter Tryd.func39, Tryd.ntmps39
  go_wp2_with fail
  refine Hhcut.out.mono ?_
  rintro e w2 ⟨rfl, rfl⟩
  go_wp2_with fail
  refine Hc1.out.mono ?_
  rintro e w3 ⟨rfl, hb3⟩
  have c3 := Hc2.out w3 hb3
  have hB3 := hB.trans (hb3.mono hwb)
  cases b1 with
  | true =>
    have HR : Hid (r = 2) := by show r = 2; rw [Hhr2.out, if_neg (by simp)]
    clear c3
    go_wp2_with fail
    go_ret
    exact ⟨by rw [HR.out]; rfl, hB3⟩
  | false =>
    have hr3 : r = if 64 < s.size ∨ 6 < n ∨ b2 = true then 4 else 0 := by rw [Hhr2.out, if_pos (by simp)]
    by_cases h64 : (64 : Int) < (s.size : Int)
    · have HR : Hid (r = 4) := by show r = 4; rw [hr3, if_pos (.inl (by omega))]
      clear c3 hr3
      go_wp2_with fail
      go_ret
      exact ⟨by rw [HR.out]; rfl, hB3⟩
    · by_cases h6 : (6 : Int) < (n : Int)
      · have HR : Hid (r = 4) := by show r = 4; rw [hr3, if_pos (.inr (.inl (by omega)))]
        clear c3 hr3
        go_wp2_with fail
        go_ret
        exact ⟨by rw [HR.out]; rfl, hB3⟩
      · have hr4 : r = if b2 = true then 4 else 0 := by
          rw [hr3]
          cases b2
          · rw [if_neg (by rintro (h | h | h); omega; omega; cases h), if_neg (by simp)]
          · rw [if_pos (.inr (.inr rfl)), if_pos rfl]
        have HC3 := Lib.hid c3
        have Hhr4 := Lib.hid hr4
        clear hr4
        clear c3 hr3
        go_wp2_with fail
        refine HC3.out.mono ?_
        rintro e w4 ⟨rfl, hb4⟩
        have hB4 := hB3.trans (hb4.mono hB3.size)
        cases b2 with
        | true =>
          have HR : Hid (r = 4) := Hhr4.out
          go_wp2_with fail
          go_ret
          exact ⟨by rw [HR.out]; rfl, hB4⟩
        | false =>
          have HR : Hid (r = 0) := Hhr4.out
          go_wp2_with fail
          go_ret
          exact ⟨by rw [HR.out]; rfl, hB4⟩
end Go.Proofs.YtidmjepfpjfkoaaDoor

namespace Go.Proofs.YtidmjepfpjfkoaaDoor
open Go Go.RowKit
set_option maxHeartbeats 2000000
set_option maxRecDepth 20000
set_option linter.unusedVariables false
set_option linter.unusedSimpArgs false

theorem pv_length (ps : List (List UInt8)) : (pv ps).length = ps.length := by simp [pv]
theorem pathParts (s : ByteArray) (hs : s.size ≤ 100000) (w : World) (hG : Gl w) :
    Calls Tryd.prog 52 #[.string s] w fun e w' => RetS (pv (Pm.parts s.data.toList)) w e w' := by
  have h1 := pathRight s hs w hG
  have h2 := fun w2 (h : Below w.heap.size w w2) => pathCut s (by omega) w2 (hG.below h hG.lt)
  obtain ⟨r, hr⟩ : ∃ r, r = Pm.right s.data.toList := ⟨_, rfl⟩
  have hp : Pm.parts s.data.toList = if r = 0 then Pm.cut s.data.toList else [] := by unfold Pm.parts; rw [← hr]
  obtain ⟨P, hP⟩ : ∃ P, P = Pm.parts s.data.toList := ⟨_, rfl⟩
  obtain ⟨C, hC⟩ : ∃ C, C = Pm.cut s.data.toList := ⟨_, rfl⟩
  rw [← hr] at h1
  rw [← hP, ← hC] at hp
  rw [← hC] at h2
  rw [← hP]
  clear hr hP hC hG
  have Hh1 := Lib.hid h1
  have Hh2 := Lib.hid h2
  have Hhp := Lib.hid hp
  clear h1 h2 hp
  go_enter Tryd.func52, Tryd.ntmps52
  go_wp2_with fail
  refine Hh1.out.mono ?_
  rintro e w2 ⟨rfl, hb⟩
  by_cases hr : r = 0
  · have hp2 : P = C := by rw [Hhp.out, if_pos hr]
    subst hp2
    subst hr
    have H2 := Lib.hid (Hh2.out w2 hb)
    go_wp2_with fail
    refine H2.out.mono ?_
    rintro e w3 ⟨rfl, rfl⟩
    go_wp2_with fail
    go_ret
    refine ⟨.slice (some ⟨w2.heap.size, 0, none⟩) P.length P.length, P.length, rfl, ?_, hb.alloc hb.size _⟩
    have := cells_rd (c := P.length) (heap_alloc_new w2 (.cells (pv P).toArray 9)) (by rw [pv_length]; exact Nat.le_refl _)
    rw [pv_length] at this
    exact this
  · have hp2 : P = [] := by rw [Hhp.out, if_neg hr]
    subst hp2
    have hne : (((r : Nat) : Int) == 0) = false := by rw [beq_eq_false_iff_ne]; omega
    clear Hh2
    go_wp2_with fail
    go_ret
    exact ⟨.slice none 0 0, 0, rfl, ⟨rfl, .inl ⟨rfl, rfl⟩⟩, hb⟩
end Go.Proofs.YtidmjepfpjfkoaaDoor

namespace Go.Proofs.YtidmjepfpjfkoaaDoor
open Go Go.RowKit
set_option maxHeartbeats 2000000
set_option maxRecDepth 20000
set_option linter.unusedVariables false
set_option linter.unusedSimpArgs false

theorem last47 (s : ByteArray) : (Lib.lastIndexByte s 47 = -1 ∧ (47 : UInt8) ∉ s.data.toList) ∨
    ∃ a b, s.data.toList = a ++ 47 :: b ∧ (47 : UInt8) ∉ b ∧ Lib.lastIndexByte s 47 = (a.length : Int) := by
  have hat : ∀ (j : Nat) (h : j < s.data.toList.length), s.data[j]! = s.data.toList[j] := by
    intro j h
    have h' : j < s.data.size := by simpa using h
    rw [getElem!_pos s.data j h']
    simp
  have h47 : ∀ u : UInt8, (u.toNat : Int) = 47 → u = 47 := fun u h => UInt8.toNat_inj.1 (by
    have : (47 : UInt8).toNat = 47 := rfl
    omega)
  rcases Lib.lastIndexByte_spec s 47 with ⟨h1, h2⟩ | ⟨i, hi, h1, h2, h3⟩
  · refine .inl ⟨h1, fun hm => ?_⟩
    obtain ⟨j, hj, he⟩ := List.getElem_of_mem hm
    exact h2 j hj (by rw [hat j hj, he]; rfl)
  · have hi' : i < s.data.toList.length := hi
    have hl : s.data.toList[i] = 47 := h47 _ (by rw [← hat i hi']; exact h2)
    refine .inr ⟨s.data.toList.take i, s.data.toList.drop (i + 1), ?_, ?_, ?_⟩
    · conv => lhs; rw [← List.take_append_drop i s.data.toList, List.drop_eq_getElem_cons hi', hl]
    · intro hm
      obtain ⟨j, hj, he⟩ := List.getElem_of_mem hm
      rw [List.getElem_drop] at he
      rw [List.length_drop] at hj
      exact h3 (i + 1 + j) (by omega) (by show _ < s.data.toList.length; omega) (by rw [hat (i + 1 + j) (by omega), he]; rfl)
    · rw [h1, List.length_take, Nat.min_eq_left (by omega)]
/-- has a parent -/
def par (p : List UInt8) : Bool := Pm.right p == 0 && p.contains 47
def parS (p : List UInt8) : List UInt8 := if par p then Pm.joinS (Pm.cut p).dropLast else []
theorem par_cut (a b : List UInt8) (hb : (47 : UInt8) ∉ b) : Pm.joinS (Pm.cut (a ++ 47 :: b)).dropLast = a := by
  rw [Pm.cut_append, Pm.cut_plain b hb, List.dropLast_concat, Pm.join_cut]

theorem right_three (p : List UInt8) : Pm.right p = 0 ∨ Pm.right p = 2 ∨ Pm.right p = 4 := by
  unfold Pm.right
  split
  · split
    · exact .inr (.inr rfl)
    · exact .inl rfl
  · exact .inr (.inl rfl)

theorem pathParent (s : ByteArray) (hs : s.size ≤ 100000) (w : World) (hG : Gl w) :
    Calls Tryd.prog 48 #[.string s] w fun e w' => e = .returned (.tuple #[.string ⟨(parS s.data.toList).toArray⟩, .bool (par s.data.toList)]) ∧ Below w.heap.size w w' := by
  have h1 := pathRight s hs w hG
  have h2 := Tryd.strings_LastIndexByte s 47 (by omega) w
  obtain ⟨P, hP⟩ : ∃ P : ByteArray, P = ⟨(parS s.data.toList).toArray⟩ := ⟨_, rfl⟩
  obtain ⟨b, hb⟩ : ∃ b, b = par s.data.toList := ⟨_, rfl⟩
  have hb2 := hb
  unfold par at hb2
  have hP2 := hP
  unfold parS at hP2
  rw [← hb] at hP2 ⊢
  rw [← hP]
  rcases last47 s with ⟨h3, h4⟩ | ⟨a, c, h3, h4, h5⟩
  · rw [h3] at h2
    have hbf : b = false := by rw [hb2]; simp [h4]
    subst hbf
    have hPf : P = ⟨#[]⟩ := by rw [hP2]; rfl
    subst hPf
    clear hb hb2 hP hP2 h3 h4 h1
    have Hh2 := Lib.hid h2
    clear h2
    go_enter Tryd.func48, Tryd.ntmps48
    go_wp2_with fail
    refine Hh2.out.mono ?_
    rintro e w2 ⟨rfl, rfl⟩
    go_wp2_with fail
    (try simp only [Exit.inBlock, Exit.then])
    refine bodyPost_ret (results_tmp2 rfl _ _ _) rfl ?_
    exact ⟨rfl, Below.refl _ _⟩
  · obtain ⟨r, hr⟩ : ∃ r, r = Pm.right s.data.toList := ⟨_, rfl⟩
    have hc : s.data.toList.contains 47 = true := by rw [h3]; simp
    rw [← hr, hc, Bool.and_true] at hb2
    rw [← hr] at h1
    rw [h3, par_cut a c h4] at hP2
    have hal : a.length < s.size := by show _ < s.data.toList.length; rw [h3]; simp
    have hex : s.extract 0 a.length = ⟨a.toArray⟩ := by
      have this : (s.extract 0 a.length).data.toList = a := by rw [Lib.extract_data, h3]; simp
      exact congrArg (fun l => (⟨List.toArray l⟩ : ByteArray)) this
    obtain ⟨i, hi⟩ : ∃ i : Nat, i = a.length := ⟨_, rfl⟩
    rw [h5, ← hi] at h2
    rw [← hi] at hex hal
    have hrr : r = 0 ∨ r = 2 ∨ r = 4 := hr ▸ right_three _
    clear hb hP h3 h4 h5 hr hc hi hG
    have Hh1 := Lib.hid h1
    have Hh2 := Lib.hid h2
    have Hhb2 := Lib.hid hb2
    have HhP2 := Lib.hid hP2
    have Hhex := Lib.hid hex
    clear h1 h2 hb2 hP2 hex
    go_enter Tryd.func48, Tryd.ntmps48
    go_wp2_with fail
    refine Hh2.out.mono ?_
    rintro e w2 ⟨rfl, rfl⟩
    have hi0 : ¬ (i : Int) < 0 := by omega
    go_wp2_with fail
    refine Hh1.out.mono ?_
    rintro e w2 ⟨rfl, hbw⟩
    rcases hrr with hr | hr | hr
    · subst hr
      have hbt : b = true := by rw [Hhb2.out]; rfl
      subst hbt
      have hP3 : P = s.extract 0 i := by rw [Hhex.out, HhP2.out]; rfl
      subst hP3
      go_wp2_with fail
      (try simp only [Exit.inBlock, Exit.then])
      refine bodyPost_ret (results_tmp2 rfl _ _ _) rfl ?_
      exact ⟨rfl, hbw⟩
    · subst hr
      have hbt : b = false := by rw [Hhb2.out]; rfl
      subst hbt
      have hP3 : P = ⟨#[]⟩ := by rw [HhP2.out]; rfl
      subst hP3
      go_wp2_with fail
      (try simp only [Exit.inBlock, Exit.then])
      refine bodyPost_ret (results_tmp2 rfl _ _ _) rfl ?_
      exact ⟨rfl, hbw⟩
    · subst hr
      have hbt : b = false := by rw [Hhb2.out]; rfl
      subst hbt
      have hP3 : P = ⟨#[]⟩ := by rw [HhP2.out]; rfl
      subst hP3
      go_wp2_with fail
      (try simp only [Exit.inBlock, Exit.then])
      refine bodyPost_ret (results_tmp2 rfl _ _ _) rfl ?_
      exact ⟨rfl, hbw⟩
end Go.Proofs.YtidmjepfpjfkoaaDoor

namespace Go.Proofs.YtidmjepfpjfkoaaDoor
open Go Go.RowKit
set_option maxHeartbeats 2000000
set_option maxRecDepth 20000
set_option linter.unusedVariables false
set_option linter.unusedSimpArgs false

theorem lib_join : ∀ ps : List (List UInt8), Lib.join ps [47] = Pm.joinS ps
  | [] => rfl
  | [x] => Lib.join_one x [47]
  | x :: y :: r => by
    have h := lib_join (y :: r)
    rw [Lib.join_cons] at h ⊢
    rw [Pm.joinS, ← h]
    simp [Lib.joinTail]
theorem has_slash (s : ByteArray) (w : World) :
    Calls Tryd.prog 82 #[.string s, .string slashB] w fun e w' => e = .returned (.bool (s.data.toList.contains 47)) ∧ w' = w := by
  have h := Tryd.strings_Contains_one s 47 w
  rw [← Lib.contains_iff_indexByte] at h
  exact h
theorem rowJoin (ps : List (List UInt8)) (hj : (Pm.joinS ps).length ≤ 100000) (hlen : ps.length ≤ 1000000) (A : Option Addr) (c : Nat) (w : World)
    (hrd : RdS (.slice A ps.length c) ps.length (pv ps) w.heap.size w) :
    Calls Tryd.prog 83 #[.slice A ps.length c, .string slashB] w fun e w' => e = .returned (.string ⟨(Pm.joinS ps).toArray⟩) ∧ Below w.heap.size w w' := by
  rcases Nat.eq_zero_or_pos ps.length with h0 | h0
  · obtain rfl := List.length_eq_zero_iff.1 h0
    exact (Tryd.strings_Join_none A c slashB w).mono fun e w' ⟨h1, h2⟩ => ⟨h1, by rw [h2]; exact Below.refl _ _⟩
  · obtain ⟨b, off, hA, hcn, hbb, hcell⟩ := hrd.at_ h0
    subst hA
    have hm : (ps.map fun l => (⟨l.toArray⟩ : ByteArray)).map (·.data.toList) = ps := by
      rw [List.map_map]; exact (List.map_congr_left (fun l _ => rfl)).trans (List.map_id ps)
    have h := Tryd.strings_Join b off c (ps.map fun l => (⟨l.toArray⟩ : ByteArray)) slashB w (fun j x hx => by
      rw [List.getElem?_map] at hx
      refine hcell j _ ?_
      unfold pv
      rw [List.getElem?_map]
      cases hp : ps[j]? with
      | none => rw [hp] at hx; cases hx
      | some l => rw [hp] at hx; simp only [Option.map_some, Option.some.injEq] at hx ⊢; rw [hx]) hbb (by rw [List.length_map]; omega) (by rw [List.length_map]; omega) (by
        rw [hm, show slashB.data.toList = [47] from rfl, lib_join]; omega)
    rw [hm, show slashB.data.toList = [47] from rfl, lib_join, List.length_map] at h
    exact h

theorem pathJoin (ps : List (List UInt8)) (hj : (Pm.joinS ps).length ≤ 100000) (hlen : ps.length ≤ 1000000) (A : Option Addr) (c : Nat) (w : World) (hG : Gl w)
    (hrd : RdS (.slice A ps.length c) ps.length (pv ps) w.heap.size w) :
    Calls Tryd.prog 44 #[.slice A ps.length c] w fun e w' =>
      e = .returned (.tuple #[.string ⟨(Pm.joinP ps).toArray⟩, .int .i64 (Pm.joinE ps : Nat)]) ∧ Below w.heap.size w w' := by
  have hgl := hG.lt
  have hJ := fun w2 (h : Below w.heap.size w w2) => rowJoin ps hj hlen A c w2 ((hrd.below h).mono h.size)
  obtain ⟨J, hJJ⟩ : ∃ J : ByteArray, J = ⟨(Pm.joinS ps).toArray⟩ := ⟨_, rfl⟩
  have hJl : J.data.toList = Pm.joinS ps := by rw [hJJ]
  have hJs : J.size ≤ 100000 := by show J.data.toList.length ≤ _; rw [hJl]; exact hj
  have hR := fun w2 (h : Below w.heap.size w w2) => pathRight J hJs w2 (hG.below h hgl)
  rw [hJl] at hR
  rw [← hJJ] at hJ
  obtain ⟨r, hr⟩ : ∃ r, r = Pm.right (Pm.joinS ps) := ⟨_, rfl⟩
  rw [← hr] at hR
  obtain ⟨E, hE⟩ : ∃ E, E = Pm.joinE ps := ⟨_, rfl⟩
  obtain ⟨P, hP⟩ : ∃ P : ByteArray, P = ⟨(Pm.joinP ps).toArray⟩ := ⟨_, rfl⟩
  have hE2 : E = if ps.any (fun x => x.contains 47) then 2 else r := by rw [hE, hr]; rfl
  have hP2 : P = if E = 0 then J else ⟨#[]⟩ := by
    rw [hP, hJJ]; unfold Pm.joinP; rw [← hE]; split <;> rfl
  have hrr : r = 0 ∨ r = 2 ∨ r = 4 := hr ▸ right_three _
  rw [← hE, ← hP]
  obtain ⟨n, hn⟩ : ∃ n, n = ps.length := ⟨_, rfl⟩
  rw [← hn] at hrd hlen hJ ⊢
  clear hE hP hr hJl hJJ hJs hj
  have HhJ := Lib.hid hJ
  have HhR := Lib.hid hR
  have HhE2 := Lib.hid hE2
  have HhP2 := Lib.hid hP2
  have Hhrd := Lib.hid hrd
  have Hhn := Lib.hid hn
  have HhG := Lib.hid hG
  clear hJ hR hE2 hP2 hrd hn hG
  go_enter Tryd.func44, Tryd.ntmps44
  go_wp2_with fail
  go_loopw [10] (fun iv wr => ∃ i : Nat, i ≤ n ∧ iv = .int .i64 (i : Int) ∧ Hid (∀ j (hj : j < ps.length), j < i → ps[j].contains 47 = false) ∧ Below w.heap.size w wr) (fun iv _ => n - (intOf iv).toNat)
  case atStart => exact ⟨0, by omega, rfl, fun j _ h => absurd h (by omega), Below.refl _ _⟩
  case round =>
    obtain ⟨i, hi, rfl, HB, hb⟩ := hrel
    have hbi : (0 : Int) ≤ i := by omega
    by_cases hin : i < n
    · obtain ⟨b, off, hA, hcn, hbb, hcell⟩ := Hhrd.out.at_ hin
      have hil : i < ps.length := by rw [← Hhn.out]; exact hin
      have hx := (hb.cell (p := ⟨b, off + i, none⟩) hbb).trans (hcell i _ (pv_get ps i hil))
      have hbn : (i : Int) < n := by omega
      have hsay := has_slash ⟨ps[i].toArray⟩ wr
      obtain ⟨q, hq⟩ : ∃ q, q = ps[i].contains 47 := ⟨_, rfl⟩
      rw [show (⟨ps[i].toArray⟩ : ByteArray).data.toList = ps[i] from rfl, ← hq] at hsay
      obtain ⟨x, hxx⟩ : ∃ x : ByteArray, x = ⟨ps[i].toArray⟩ := ⟨_, rfl⟩
      rw [← hxx] at hx hsay
      subst hA
      have Hhsay := Lib.hid hsay
      have Hhq := Lib.hid hq
      have Hhxx := Lib.hid hxx
      clear hsay hq hxx
      clear hcell
      have HIL := Lib.hid hil
      go_wp2_with fail
      refine Hhsay.out.mono ?_
      rintro e w2 ⟨rfl, rfl⟩
      cases q with
      | true =>
        have ha : ps.any (fun x => x.contains 47) = true := List.any_eq_true.2 ⟨_, List.getElem_mem HIL.out, Hhq.out.symm⟩
        have he : E = 2 := by rw [HhE2.out, if_pos ha]
        have HE := Lib.hid he
        have HP : Hid (P = ⟨#[]⟩) := by show P = _; rw [HhP2.out, he]; rfl
        clear ha he
        go_wp2_with fail
        (try simp only [Exit.inBlock, Exit.then])
        refine bodyPost_ret (results_tmp2 rfl _ _ _) rfl ?_
        exact ⟨by rw [HE.out, HP.out]; rfl, hb⟩
      | false =>
        have HB2 : Hid (∀ j (hj : j < ps.length), j < i + 1 → ps[j].contains 47 = false) := fun j hj h => by
          rcases Nat.lt_or_ge j i with h3 | h3
          · exact HB.out j hj h3
          · obtain rfl : j = i := by omega
            exact Hhq.out.symm
        go_wp2_with fail
        go_roundw
        case rel => exact ⟨i + 1, by omega, by go_num, HB2, hb⟩
        case measure => simp [intOf]; omega
    · obtain rfl : i = n := by omega
      have hbn : ¬ (i : Int) < i := by omega
      have ha : ps.any (fun x => x.contains 47) = false := by
        rw [Bool.eq_false_iff]
        intro h
        obtain ⟨x, hx, h⟩ := List.any_eq_true.1 h
        obtain ⟨j, hj, rfl⟩ := List.getElem_of_mem hx
        rw [HB.out j hj (by rw [Hhn.out]; exact hj)] at h
        cases h
      have HE : Hid (E = r) := by show E = r; rw [HhE2.out, ha]; rfl
      have HJ := Lib.hid (HhJ.out wr hb)
      clear ha
      go_wp2_with fail
      refine HJ.out.mono ?_
      rintro e w2 ⟨rfl, hb2⟩
      have hb3 := hb.trans (hb2.mono hb.size)
      have HR := Lib.hid (HhR.out w2 hb3)
      clear hb2
      go_wp2_with fail
      refine HR.out.mono ?_
      rintro e w3 ⟨rfl, hb4⟩
      have hb5 := hb3.trans (hb4.mono hb3.size)
      clear hb4
      rcases hrr with hr | hr | hr
      · subst hr
        have HP : Hid (P = J) := by show P = J; rw [HhP2.out, HE.out]; rfl
        go_wp2_with fail
        (try simp only [Exit.inBlock, Exit.then])
        refine bodyPost_ret (results_tmp2 rfl _ _ _) rfl ?_
        exact ⟨by rw [HE.out, HP.out]; rfl, hb5⟩
      · subst hr
        have HP : Hid (P = ⟨#[]⟩) := by show P = _; rw [HhP2.out, HE.out]; rfl
        go_wp2_with fail
        (try simp only [Exit.inBlock, Exit.then])
        refine bodyPost_ret (results_tmp2 rfl _ _ _) rfl ?_
        exact ⟨by rw [HE.out, HP.out]; rfl, hb5⟩
      · subst hr
        have HP : Hid (P = ⟨#[]⟩) := by show P = _; rw [HhP2.out, HE.out]; rfl
        go_wp2_with fail
        (try simp only [Exit.inBlock, Exit.then])
        refine bodyPost_ret (results_tmp2 rfl _ _ _) rfl ?_
        exact ⟨by rw [HE.out, HP.out]; rfl, hb5⟩
end Go.Proofs.YtidmjepfpjfkoaaDoor

namespace Go.Proofs.YtidmjepfpjfkoaaDoor
open Go Go.RowKit
set_option maxHeartbeats 2000000
set_option maxRecDepth 20000
set_option linter.unusedVariables false
set_option linter.unusedSimpArgs false

theorem pathWithin (p d : ByteArray) (hd : d.size ≤ 1000000) (w : World) :
    Calls Tryd.prog 41 #[.string p, .string d] w fun e w' => e = .returned (.bool (Pm.within p.data.toList d.data.toList)) ∧ w' = w := by
  have h := Tryd.strings_HasPrefix p (d ++ slashB) w
  have he : Lib.hasPrefix p.data.toList (d ++ slashB).data.toList = Pm.within p.data.toList d.data.toList := by
    unfold Pm.within Lib.hasPrefix
    rw [ByteArray.data_append, Array.toList_append]
    rfl
  rw [he] at h
  clear he
  have Hh := Lib.hid h
  clear h
  go_enter Tryd.func41, Tryd.ntmps41
  have hd2 : (d.size : Int) ≤ 1000000 := by omega
  go_wp2_with fail
  refine Hh.out.mono ?_
  rintro e w' ⟨rfl, rfl⟩
  go_wp2_with fail
  go_ret
  exact ⟨rfl, rfl⟩
theorem pathWrong (s : ByteArray) (hs : s.size ≤ 100000) (w : World) (hG : Gl w) :
    Calls Tryd.prog 89 #[.string s] w fun e w' => e = .returned (.bool (Pm.right s.data.toList != 0)) ∧ Below w.heap.size w w' := by
  have h := pathRight s hs w hG
  have hrr := right_three s.data.toList
  obtain ⟨r, hr⟩ : ∃ r, r = Pm.right s.data.toList := ⟨_, rfl⟩
  rw [← hr] at h hrr ⊢
  clear hr hG
  have Hh := Lib.hid h
  clear h
  go_enter Tryd.func89, Tryd.ntmps89
  go_wp2_with fail
  refine Hh.out.mono ?_
  rintro e w' ⟨rfl, hb⟩
  go_wp2_with fail
  go_ret
  refine ⟨?_, hb⟩
  rcases hrr with rfl | rfl | rfl <;> rfl
theorem isNaN (s : ByteArray) (w : World) :
    Calls Tryd.prog 136 #[.string s] w fun e w' => e = .returned (.bool false) ∧ w' = w := by
  go_enter Tryd.func136, Tryd.ntmps136
  go_wp2_with fail
  go_ret
  refine ⟨?_, rfl⟩
  simp
theorem cmpText (a b : List UInt8) (w : World) :
    Calls Tryd.prog 105 #[.string ⟨a.toArray⟩, .string ⟨b.toArray⟩] w fun e w' => e = .returned (.int .i64 (Pm.cmpB a b)) ∧ w' = w := by
  obtain ⟨x, hx⟩ : ∃ x : ByteArray, x = ⟨a.toArray⟩ := ⟨_, rfl⟩
  obtain ⟨y, hy⟩ : ∃ y : ByteArray, y = ⟨b.toArray⟩ := ⟨_, rfl⟩
  have h1 := isNaN x w
  have h2 := isNaN y w
  have hl : Op.bytesLess x.toList y.toList = decide (a < b) := by
    rw [hx, hy, ByteArray.toList_eq, ByteArray.toList_eq]; exact Go.Proofs.bytesLess_eq _ _
  have he : (x.toList == y.toList) = decide (a = b) := by
    rw [hx, hy, ByteArray.toList_eq, ByteArray.toList_eq]; exact Bool.eq_iff_iff.2 (by simp)
  obtain ⟨r, hr⟩ : ∃ r, r = Pm.cmpB a b := ⟨_, rfl⟩
  have hr2 := hr
  unfold Pm.cmpB at hr2
  rw [← hx, ← hy, ← hr]
  clear hr
  have Hh1 := Lib.hid h1
  have Hh2 := Lib.hid h2
  have Hhx := Lib.hid hx
  have Hhy := Lib.hid hy
  clear h1 h2 hx hy
  go_enter Tryd.func105, Tryd.ntmps105
  go_wp2_with fail
  refine Hh1.out.mono ?_
  rintro e w' ⟨rfl, rfl⟩
  go_wp2_with fail
  refine Hh2.out.mono ?_
  rintro e w' ⟨rfl, rfl⟩
  by_cases ha : a < b
  · have HR : Hid (r = -1) := by show r = -1; rw [hr2, if_pos ha]
    rw [decide_eq_true ha] at hl
    clear he hr2 ha
    go_wp2_with fail
    go_ret
    exact ⟨by rw [HR.out]; rfl, rfl⟩
  · rw [decide_eq_false ha] at hl
    by_cases hb : b < a
    · have HR : Hid (r = 1) := by show r = 1; rw [hr2, if_neg ha, if_pos hb]
      have hne : ¬ a = b := fun h => Pm.lt_irr a (by rw [← h] at hb; exact hb)
      rw [decide_eq_false hne] at he
      clear hr2 ha hb hne
      go_wp2_with fail
      go_ret
      exact ⟨by rw [HR.out]; rfl, rfl⟩
    · have HR : Hid (r = 0) := by show r = 0; rw [hr2, if_neg ha, if_neg hb]
      have heq : a = b := Pm.lt_tri ha hb
      rw [decide_eq_true heq] at he
      clear hr2 ha hb heq
      go_wp2_with fail
      go_ret
      exact ⟨by rw [HR.out]; rfl, rfl⟩
end Go.Proofs.YtidmjepfpjfkoaaDoor

namespace Go.Proofs.YtidmjepfpjfkoaaDoor
open Go Go.RowKit
set_option maxHeartbeats 2000000
set_option maxRecDepth 20000
set_option linter.unusedVariables false
set_option linter.unusedSimpArgs false

theorem cmpL_step (xs ys : List (List UInt8)) (i : Nat) (hx : i < xs.length) (hy : i < ys.length) :
    Pm.cmpL (xs.drop i) (ys.drop i) = if Pm.cmpB xs[i] ys[i] = 0 then Pm.cmpL (xs.drop (i + 1)) (ys.drop (i + 1)) else Pm.cmpB xs[i] ys[i] := by
  rw [List.drop_eq_getElem_cons hx, List.drop_eq_getElem_cons hy, Pm.cmpL]
  unfold Pm.cmpB
  by_cases h1 : xs[i] < ys[i]
  · simp [h1]
  · by_cases h2 : ys[i] < xs[i]
    · simp [h1, h2]
    · simp [h1, h2]
theorem cmpB_three (a b : List UInt8) : Pm.cmpB a b = -1 ∨ Pm.cmpB a b = 0 ∨ Pm.cmpB a b = 1 := by
  unfold Pm.cmpB
  split
  · exact .inl rfl
  · split
    · exact .inr (.inr rfl)
    · exact .inr (.inl rfl)

theorem slicesCompare (xs ys : List (List UInt8)) (hxl : xs.length ≤ 1000000) (hyl : ys.length ≤ 1000000) (A A' : Option Addr) (c c' : Nat) (w : World)
    (hrx : RdS (.slice A xs.length c) xs.length (pv xs) w.heap.size w) (hry : RdS (.slice A' ys.length c') ys.length (pv ys) w.heap.size w) :
    Calls Tryd.prog 80 #[.slice A xs.length c, .slice A' ys.length c'] w fun e w' => e = .returned (.int .i64 (Pm.cmpL xs ys)) ∧ w' = w := by
  obtain ⟨r, hr⟩ : ∃ r, r = Pm.cmpL xs ys := ⟨_, rfl⟩
  rw [← hr]
  obtain ⟨n, hn⟩ : ∃ n, n = xs.length := ⟨_, rfl⟩
  obtain ⟨m, hm⟩ : ∃ m, m = ys.length := ⟨_, rfl⟩
  rw [← hn] at hrx hxl ⊢
  rw [← hm] at hry hyl ⊢
  have Hhrx := Lib.hid hrx
  have Hhry := Lib.hid hry
  have Hhn := Lib.hid hn
  have Hhm := Lib.hid hm
  have Hhr := Lib.hid hr
  clear hrx hry hn hm hr
  go_enter Tryd.func80, Tryd.ntmps80
  go_wp2_with fail
  go_loopw [11] (fun iv wr => ∃ i : Nat, i ≤ n ∧ i ≤ m ∧ iv = .int .i64 (i : Int) ∧ Hid (r = Pm.cmpL (xs.drop i) (ys.drop i)) ∧ wr = w) (fun iv _ => n - (intOf iv).toNat)
  case atStart => exact ⟨0, by omega, by omega, rfl, by show r = _; rw [Hhr.out]; rfl, rfl⟩
  case round =>
    obtain ⟨i, hi, him, rfl, HB, rfl⟩ := hrel
    have hbi : (0 : Int) ≤ i := by omega
    by_cases hin : i < n
    · obtain ⟨b, off, hA, hcn, hbb, hcell⟩ := Hhrx.out.at_ hin
      have hil : i < xs.length := by rw [← Hhn.out]; exact hin
      have hx := hcell i _ (pv_get xs i hil)
      have hbn : (i : Int) < n := by omega
      subst hA
      by_cases hjm : i < m
      · obtain ⟨b2, off2, hA2, hcn2, hbb2, hcell2⟩ := Hhry.out.at_ hjm
        have hjl : i < ys.length := by rw [← Hhm.out]; exact hjm
        have hy := hcell2 i _ (pv_get ys i hjl)
        have hbm : ¬ (i : Int) ≥ m := by omega
        have hbm2 : (i : Int) < m := by omega
        subst hA2
        have hs := cmpL_step xs ys i hil hjl
        have hc := cmpText xs[i] ys[i] wr
        have h3 := cmpB_three xs[i] ys[i]
        obtain ⟨q, hq⟩ : ∃ q, q = Pm.cmpB xs[i] ys[i] := ⟨_, rfl⟩
        rw [← hq] at hc hs h3
        generalize (⟨xs[i].toArray⟩ : ByteArray) = x at *
        generalize (⟨ys[i].toArray⟩ : ByteArray) = y at *
        have Hhs := Lib.hid hs
        have Hhc := Lib.hid hc
        clear hs hc
        clear hcell hcell2 hq hil hjl
        go_wp2_with fail
        refine Hhc.out.mono ?_
        rintro e w2 ⟨rfl, rfl⟩
        rcases h3 with h3 | h3 | h3
        · subst h3
          have HR : Hid (r = -1) := by show r = -1; rw [HB.out, Hhs.out]; rfl
          go_wp2_with fail
          go_ret
          exact ⟨by rw [HR.out]; rfl, rfl⟩
        · subst h3
          have HB2 : Hid (r = Pm.cmpL (xs.drop (i + 1)) (ys.drop (i + 1))) := by show r = _; rw [HB.out, Hhs.out]; rfl
          go_wp2_with fail
          go_roundw
          case rel => exact ⟨i + 1, by omega, by omega, by go_num, HB2, by simp⟩
          case measure => simp [intOf]; omega
        · subst h3
          have HR : Hid (r = 1) := by show r = 1; rw [HB.out, Hhs.out]; rfl
          go_wp2_with fail
          go_ret
          exact ⟨by rw [HR.out]; rfl, rfl⟩
      · have hbm : (i : Int) ≥ m := by omega
        have HR : Hid (r = 1) := by
          show r = 1
          rw [HB.out, List.drop_eq_getElem_cons hil, List.drop_of_length_le (show ys.length ≤ i by rw [← Hhm.out]; omega), Pm.cmpL]
        generalize (⟨xs[i].toArray⟩ : ByteArray) = x at hx
        clear hcell hil
        go_wp2_with fail
        go_ret
        exact ⟨by rw [HR.out]; rfl, rfl⟩
    · obtain rfl : i = n := by omega
      have hbn : ¬ (i : Int) < i := by omega
      have hd : xs.drop i = [] := List.drop_of_length_le (by rw [← Hhn.out]; omega)
      have hr2 := HB.out
      rw [hd] at hr2
      by_cases hlm : (i : Int) < m
      · have HR : Hid (r = -1) := by
          show r = -1
          rw [hr2, List.drop_eq_getElem_cons (show i < ys.length by rw [← Hhm.out]; omega), Pm.cmpL]
        clear hr2 hd
        go_wp2_with fail
        go_ret
        exact ⟨by rw [HR.out]; rfl, rfl⟩
      · have HR : Hid (r = 0) := by
          show r = 0
          rw [hr2, List.drop_of_length_le (show ys.length ≤ i by rw [← Hhm.out]; omega), Pm.cmpL]
        clear hr2 hd
        go_wp2_with fail
        go_ret
        exact ⟨by rw [HR.out]; rfl, rfl⟩

theorem pathCompareW (s t : ByteArray) (hs : s.size ≤ 100000) (ht : t.size ≤ 100000) (w : World) (hG : Gl w) :
    Calls Tryd.prog 40 #[.string s, .string t] w fun e w' => e = .returned (.int .i64 (Pm.compare s.data.toList t.data.toList)) ∧ w' = (w.alloc (.cells (pv (Pm.cut s.data.toList)).toArray 9)).alloc (.cells (pv (Pm.cut t.data.toList)).toArray 9) := by
  have h1 := pathCut s (by omega) w hG
  obtain ⟨X, hX⟩ : ∃ X, X = Pm.cut s.data.toList := ⟨_, rfl⟩
  obtain ⟨Y, hY⟩ : ∃ Y, Y = Pm.cut t.data.toList := ⟨_, rfl⟩
  have hXl : X.length ≤ 1000000 := by have := cut_le s.data.toList; rw [← hX] at this; have h : s.data.toList.length = s.size := rfl; omega
  have hYl : Y.length ≤ 1000000 := by have := cut_le t.data.toList; rw [← hY] at this; have h : t.data.toList.length = t.size := rfl; omega
  have hc : Pm.compare s.data.toList t.data.toList = Pm.cmpL X Y := by rw [hX, hY]; rfl
  rw [hc, ← hX, ← hY]
  rw [← hX] at h1
  have hb1 : Below w.heap.size w (w.alloc (.cells (pv X).toArray 9)) := (Below.refl _ w).alloc (Nat.le_refl _) _
  have hr1 := cells_rd (c := X.length) (heap_alloc_new w (.cells (pv X).toArray 9)) (by rw [pv_length]; exact Nat.le_refl _)
  rw [pv_length] at hr1
  generalize hw1 : w.alloc (.cells (pv X).toArray 9) = w1 at *
  have h2 := pathCut t (by omega) w1 (hG.below hb1 hG.lt)
  rw [← hY] at h2
  have hb2 : Below w1.heap.size w1 (w1.alloc (.cells (pv Y).toArray 9)) := (Below.refl _ w1).alloc (Nat.le_refl _) _
  have hr2 := cells_rd (c := Y.length) (heap_alloc_new w1 (.cells (pv Y).toArray 9)) (by rw [pv_length]; exact Nat.le_refl _)
  rw [pv_length] at hr2
  have hr3 := (hr1.below hb2).mono hb2.size
  have hb3 := hb1.trans (hb2.mono hb1.size)
  generalize hw2 : w1.alloc (.cells (pv Y).toArray 9) = w2 at *
  have h3 := slicesCompare X Y hXl hYl _ _ _ _ w2 hr3 hr2
  generalize X.length = n at *
  generalize Y.length = m at *
  generalize Pm.cmpL X Y = r at *
  generalize w.heap.size = p1 at *
  generalize w1.heap.size = p2 at *
  clear hX hY hw1 hw2 hr1 hr2 hr3 hb1 hb2 hXl hYl hc hG
  have Hh1 := Lib.hid h1
  have Hh2 := Lib.hid h2
  have Hh3 := Lib.hid h3
  clear h1 h2 h3
  go_enter Tryd.func40, Tryd.ntmps40
  go_wp2_with fail
  refine Hh1.out.mono ?_
  rintro e w' ⟨rfl, rfl⟩
  go_wp2_with fail
  refine Hh2.out.mono ?_
  rintro e w' ⟨rfl, rfl⟩
  go_wp2_with fail
  refine Hh3.out.mono ?_
  rintro e w' ⟨rfl, rfl⟩
  go_wp2_with fail
  go_ret
  exact ⟨rfl, rfl⟩
theorem pathCompare (s t : ByteArray) (hs : s.size ≤ 100000) (ht : t.size ≤ 100000) (w : World) (hG : Gl w) :
    Calls Tryd.prog 40 #[.string s, .string t] w fun e w' => e = .returned (.int .i64 (Pm.compare s.data.toList t.data.toList)) ∧ Below w.heap.size w w' :=
  (pathCompareW s t hs ht w hG).mono fun e w' ⟨h1, h2⟩ => ⟨h1, by rw [h2]; exact ((Below.refl _ w).alloc (Nat.le_refl _) _).alloc (by rw [size_alloc]; omega) _⟩
end Go.Proofs.YtidmjepfpjfkoaaDoor

namespace Go.Proofs.YtidmjepfpjfkoaaDoor
open Go Go.RowKit
set_option maxHeartbeats 2000000
set_option maxRecDepth 20000
set_option linter.unusedVariables false
set_option linter.unusedSimpArgs false

theorem same3 (A A' : Option Addr) (n c c' : Nat) (hn : n ≤ 1000000) (ps : List (List UInt8)) (w : World) (h1 : RdS (.slice A n c) n (pv ps) w.heap.size w) (h2 : RdS (.slice A' n c') n (pv ps) w.heap.size w) :
    Calls Tryd.prog 51 #[.slice A n c, .slice A' n c'] w fun e w' => e = .returned (.bool true) ∧ Below w.heap.size w w' := by
  have Hh1 := Lib.hid h1
  have Hh2 := Lib.hid h2
  clear h1 h2
  go_enter Tryd.func51, Tryd.ntmps51
  go_wp2_with fail
  go_loopw [5] (fun iv wr => ∃ i : Nat, i ≤ n ∧ iv = .int .i64 (i : Int) ∧ Hid (Kn w.heap.size w [] wr)) (fun iv _ => n - (intOf iv).toNat)
  case atStart => exact ⟨0, by omega, rfl, Kn.start w⟩
  case round =>
    obtain ⟨i, hi, rfl, K⟩ := hrel
    by_cases hin : i < n
    · obtain ⟨b, off, hA, hc, hb, hcell⟩ := Hh1.out.at_ hin
      obtain ⟨b', off', hA', hc', hb', hcell'⟩ := Hh2.out.at_ hin
      subst hA
      subst hA'
      have hil : i < (pv ps).length := by rw [Hh1.out.1]; exact hin
      obtain ⟨x, hx⟩ : ∃ x : ByteArray, (pv ps)[i]? = some (.string x) := by
        unfold pv at hil ⊢
        rw [List.getElem?_map, List.getElem?_eq_getElem (by simpa using hil)]
        exact ⟨_, rfl⟩
      have hx1 := hcell i _ hx
      have hx2 := hcell' i _ hx
      have hr1 : ∀ wS, Kn w.heap.size w [] wS → wS.cell? ⟨b, off + i, none⟩ = some (.string x) := fun wS hS => (Below.cell hS.below (p := ⟨b, off + i, none⟩) hb).trans hx1
      have hr2 : ∀ wS, Kn w.heap.size w [] wS → wS.cell? ⟨b', off' + i, none⟩ = some (.string x) := fun wS hS => (Below.cell hS.below (p := ⟨b', off' + i, none⟩) hb').trans hx2
      have hbi : (0 : Int) ≤ i := by omega
      have hbn : (i : Int) < n := by omega
      have Hhr1 := Lib.hid hr1
      have Hhr2 := Lib.hid hr2
      have Hhx := Lib.hid hx
      clear hr1 hr2 hx
      clear hx1 hx2 hcell hcell' hil
      go_wp2_with fail
      refine wp_region_abs w.heap.size w [] ((true, 0) :: (true, 1) :: (true, 2) :: (true, 3) :: (true, 4) :: (true, 5) :: (true, 6) :: (true, 7) :: (true, 8) :: []) (by kernel_rfl) (by kernel_rfl) K.out.drew ?_
      (apply ab_pure
       · (simp only [List.getElem?_toArray, List.getElem?_cons_succ, List.getElem?_cons_zero]; rfl)
       · rfl
       · (intro wS hS; go_simp; try exact rfl)
       simp only [Act.put, List.setIfInBounds_toArray, List.set_cons_zero, List.set_cons_succ])
      (apply ab_pure
       · (simp only [List.getElem?_toArray, List.getElem?_cons_succ, List.getElem?_cons_zero]; rfl)
       · rfl
       · (intro wS hS; go_simp; try exact rfl)
       simp only [Act.put, List.setIfInBounds_toArray, List.set_cons_zero, List.set_cons_succ])
      (apply ab_pure
       · (simp only [List.getElem?_toArray, List.getElem?_cons_succ, List.getElem?_cons_zero]; rfl)
       · rfl
       · (intro wS hS; go_simp; try exact rfl)
       simp only [Act.put, List.setIfInBounds_toArray, List.set_cons_zero, List.set_cons_succ])
      (apply ab_pure
       · (simp only [List.getElem?_toArray, List.getElem?_cons_succ, List.getElem?_cons_zero]; rfl)
       · rfl
       · (intro wS hS; have hc := Hhr1.out wS hS; go_simp; try exact rfl)
       simp only [Act.put, List.setIfInBounds_toArray, List.set_cons_zero, List.set_cons_succ])
      (apply ab_pure
       · (simp only [List.getElem?_toArray, List.getElem?_cons_succ, List.getElem?_cons_zero]; rfl)
       · rfl
       · (intro wS hS; go_simp; try exact rfl)
       simp only [Act.put, List.setIfInBounds_toArray, List.set_cons_zero, List.set_cons_succ])
      (apply ab_pure
       · (simp only [List.getElem?_toArray, List.getElem?_cons_succ, List.getElem?_cons_zero]; rfl)
       · rfl
       · (intro wS hS; go_simp; try exact rfl)
       simp only [Act.put, List.setIfInBounds_toArray, List.set_cons_zero, List.set_cons_succ])
      (apply ab_pure
       · (simp only [List.getElem?_toArray, List.getElem?_cons_succ, List.getElem?_cons_zero]; rfl)
       · rfl
       · (intro wS hS; go_simp; try exact rfl)
       simp only [Act.put, List.setIfInBounds_toArray, List.set_cons_zero, List.set_cons_succ])
      (apply ab_pure
       · (simp only [List.getElem?_toArray, List.getElem?_cons_succ, List.getElem?_cons_zero]; rfl)
       · rfl
       · (intro wS hS; have hc := Hhr2.out wS hS; go_simp; try exact rfl)
       simp only [Act.put, List.setIfInBounds_toArray, List.set_cons_zero, List.set_cons_succ])
      (apply ab_pure
       · (simp only [List.getElem?_toArray, List.getElem?_cons_succ, List.getElem?_cons_zero]; rfl)
       · rfl
       · (intro wS hS; go_simp; try exact rfl)
       simp only [Act.put, List.setIfInBounds_toArray, List.set_cons_zero, List.set_cons_succ])
      refine ab_end ?_
      intro wE hE
      have K2 := Lib.hid hE
      clear hE K
      go_wp2_with fail
      go_roundw
      case rel => exact ⟨i + 1, by omega, by go_num, K2⟩
      case measure => simp [intOf]; omega
    · obtain rfl : i = n := by omega
      have hbn : ¬ (i : Int) < i := by omega
      go_wp2_with fail
      go_ret
      exact ⟨rfl, K.out.below⟩
end Go.Proofs.YtidmjepfpjfkoaaDoor
