/-
  Walks: slices.IndexFunc, ContainsFunc over texts, at a function that turns nothing of what there is; path.Right.
-/
import Derived.Test.YtidmjepfpjfkoaaDoorPaS
namespace Go.Proofs.YtidmjepfpjfkoaaDoor
open Go Go.RowKit
set_option maxHeartbeats 2000000
set_option maxRecDepth 20000
set_option linter.unusedVariables false
set_option linter.unusedSimpArgs false

/-- a function's number g answers p of a text, and turns nothing of what there is -/
structure Pd (g : Nat) (p : List UInt8 → Bool) : Prop where
  en : ∀ args w, (callFunc g args).run Tryd.prog w = .ok (.enter g args) w
  says : ∀ (x : List UInt8) (w : World), x.length ≤ 100000 → Gl w → Calls Tryd.prog g #[.string ⟨x.toArray⟩] w fun e w' => e = .returned (.bool (p x)) ∧ Below w.heap.size w w'

theorem pv_get (ps : List (List UInt8)) (i : Nat) (h : i < ps.length) : (pv ps)[i]? = some (.string ⟨ps[i].toArray⟩) := by
  unfold pv; rw [List.getElem?_map, List.getElem?_eq_getElem h]; rfl
theorem findIdx_at {p : List UInt8 → Bool} {ps : List (List UInt8)} {i : Nat} (h : i < ps.length) (hp : p ps[i] = true) (hb : ∀ j (hj : j < ps.length), j < i → p ps[j] = false) : ps.findIdx p = i := by
  rw [List.findIdx_eq h]
  exact ⟨hp, fun j hj => by have := hb j (by omega) hj; simpa using this⟩
theorem findIdx_none {p : List UInt8 → Bool} {ps : List (List UInt8)} (hb : ∀ j (hj : j < ps.length), p ps[j] = false) : ps.findIdx p = ps.length := by
  rw [List.findIdx_eq_length]
  intro x hx
  obtain ⟨j, hj, rfl⟩ := List.getElem_of_mem hx
  simpa using hb j hj

theorem indexFunc (g : Nat) (p : List UInt8 → Bool) (hP : Pd g p) (ps : List (List UInt8)) (hps : ∀ x ∈ ps, x.length ≤ 100000) (hlen : ps.length ≤ 1000000) (A : Option Addr) (c : Nat) (w : World) (hG : Gl w)
    (hrd : RdS (.slice A ps.length c) ps.length (pv ps) w.heap.size w) :
    Calls Tryd.prog 103 #[.slice A ps.length c, .func (.func g) #[] #[]] w fun e w' =>
      e = .returned (.int .i64 (if ps.findIdx p < ps.length then (ps.findIdx p : Int) else -1)) ∧ Below w.heap.size w w' := by
  have en := hP.en
  have says := hP.says
  have hgl := hG.lt
  obtain ⟨r, hr⟩ : ∃ r : Int, r = (if ps.findIdx p < ps.length then (ps.findIdx p : Int) else -1) := ⟨_, rfl⟩
  rw [← hr]
  obtain ⟨n, hn⟩ : ∃ n, n = ps.length := ⟨_, rfl⟩
  rw [← hn] at hrd hlen ⊢
  have Hsays := Lib.hid says
  have Hhrd := Lib.hid hrd
  have Hhn := Lib.hid hn
  have Hhr := Lib.hid hr
  have Hhps := Lib.hid hps
  have HhG := Lib.hid hG
  clear says hrd hn hr hps hG
  clear hP
  go_enter Tryd.func103, Tryd.ntmps103
  go_wp2_with fail
  go_loopw [8] (fun iv wr => ∃ i : Nat, i ≤ n ∧ iv = .int .i64 (i : Int) ∧ Hid (∀ j (hj : j < ps.length), j < i → p ps[j] = false) ∧ Below w.heap.size w wr) (fun iv _ => n - (intOf iv).toNat)
  case atStart => exact ⟨0, by omega, rfl, fun j _ h => absurd h (by omega), Below.refl _ _⟩
  case round =>
    obtain ⟨i, hi, rfl, HB, hb⟩ := hrel
    have hbi : (0 : Int) ≤ i := by omega
    by_cases hin : i < n
    · obtain ⟨b, off, hA, hcn, hbb, hcell⟩ := Hhrd.out.at_ hin
      have hil : i < ps.length := by rw [← Hhn.out]; exact hin
      have hx := (hb.cell (p := ⟨b, off + i, none⟩) hbb).trans (hcell i _ (pv_get ps i hil))
      have hxl := Hhps.out _ (List.getElem_mem hil)
      have hbn : (i : Int) < n := by omega
      have hsay := Hsays.out ps[i] wr hxl (HhG.out.below hb hgl)
      obtain ⟨q, hq⟩ : ∃ q, q = p ps[i] := ⟨_, rfl⟩
      rw [← hq] at hsay
      obtain ⟨x, hxx⟩ : ∃ x : ByteArray, x = ⟨ps[i].toArray⟩ := ⟨_, rfl⟩
      rw [← hxx] at hx hsay
      subst hA
      have Hhsay := Lib.hid hsay
      have Hhq := Lib.hid hq
      have Hhxx := Lib.hid hxx
      clear hsay hq hxx
      clear hcell hxl
      have HIL := Lib.hid hil
      go_wp2_with fail
      refine Hhsay.out.mono ?_
      rintro e w2 ⟨rfl, hb2⟩
      have hb3 := hb.trans (hb2.mono hb.size)
      clear hb2
      cases q with
      | true =>
        have hr1 : r = (i : Int) := by
          rw [Hhr.out, findIdx_at HIL.out Hhq.out.symm HB.out, if_pos HIL.out]
        have HR1 := Lib.hid hr1
        clear hr1
        go_wp2_with fail
        go_ret
        exact ⟨by rw [HR1.out]; rfl, hb3⟩
      | false =>
        have HB2 : Hid (∀ j (hj : j < ps.length), j < i + 1 → p ps[j] = false) := fun j hj h => by
          rcases Nat.lt_or_ge j i with h3 | h3
          · exact HB.out j hj h3
          · obtain rfl : j = i := by omega
            exact Hhq.out.symm
        go_wp2_with fail
        go_roundw
        case rel => exact ⟨i + 1, by omega, by go_num, HB2, hb3⟩
        case measure => simp [intOf]; omega
    · obtain rfl : i = n := by omega
      have hbn : ¬ (i : Int) < i := by omega
      have hr1 : r = -1 := by
        rw [Hhr.out, findIdx_none (fun j hj => HB.out j hj (by rw [Hhn.out]; exact hj)), if_neg (Nat.lt_irrefl _)]
      have HR1 := Lib.hid hr1
      clear hr1
      go_wp2_with fail
      go_ret
      exact ⟨by rw [HR1.out]; rfl, hb⟩

theorem containsFunc (g : Nat) (p : List UInt8 → Bool) (hP : Pd g p) (ps : List (List UInt8)) (hps : ∀ x ∈ ps, x.length ≤ 100000) (hlen : ps.length ≤ 1000000) (A : Option Addr) (c : Nat) (w : World) (hG : Gl w)
    (hrd : RdS (.slice A ps.length c) ps.length (pv ps) w.heap.size w) :
    Calls Tryd.prog 74 #[.slice A ps.length c, .func (.func g) #[] #[]] w fun e w' =>
      e = .returned (.bool (ps.any p)) ∧ Below w.heap.size w w' := by
  have h := indexFunc g p hP ps hps hlen A c w hG hrd
  obtain ⟨r, hr⟩ : ∃ r : Int, r = (if ps.findIdx p < ps.length then (ps.findIdx p : Int) else -1) := ⟨_, rfl⟩
  rw [← hr] at h
  have ha : decide (0 ≤ r) = ps.any p := by
    rw [hr]
    by_cases hf : ps.findIdx p < ps.length
    · rw [if_pos hf, decide_eq_true (by omega)]
      symm
      rw [List.any_eq_true]
      exact ⟨_, List.getElem_mem hf, List.findIdx_getElem (w := hf)⟩
    · rw [if_neg hf, decide_eq_false (by omega)]
      symm
      rw [Bool.eq_false_iff]
      intro h
      rw [List.any_eq_true] at h
      exact hf (List.findIdx_lt_length.2 h)
  generalize ps.length = n at *
  have Hh := Lib.hid h
  have Hha := Lib.hid ha
  have Hhr := Lib.hid hr
  clear h ha hr
  clear hP hrd
  go_enter Tryd.func74, Tryd.ntmps74
  go_wp2_with fail
  refine Hh.out.mono ?_
  rintro e w' ⟨rfl, hb⟩
  go_wp2_with fail
  go_ret
  exact ⟨by rw [← Hha.out]; rfl, hb⟩

/-! ### Right -/
theorem beq_lit (x : ByteArray) (l : List UInt8) : (x.toList == l) = (x.data.toList == l) := by rw [ByteArray.toList_eq]
theorem idxByte0 : ∀ l : List UInt8, decide (0 ≤ Lib.indexByte l 0) = l.contains 0
  | [] => rfl
  | c :: l => by
    rw [Lib.indexByte, List.contains_cons, ← idxByte0 l]
    by_cases hc : c = 0
    · subst hc; rfl
    · have h1 : (c == 0) = false := by rw [beq_eq_false_iff_ne]; exact hc
      have h2 : (0 == c) = false := by rw [beq_eq_false_iff_ne]; exact fun e => hc e.symm
      have hge := Lib.indexByte_ge l 0
      rw [h1, h2, Bool.false_or]
      by_cases hm : Lib.indexByte l 0 = -1
      · rw [hm]; rfl
      · have h3 : (Lib.indexByte l 0 == -1) = false := by rw [beq_eq_false_iff_ne]; exact hm
        rw [h3]
        apply decide_eq_decide.2
        simp
        omega
theorem wrong_says (x : List UInt8) (w : World) : Calls Tryd.prog 77 #[.string ⟨x.toArray⟩] w fun e w' => e = .returned (.bool (!Pm.part x)) ∧ w' = w := by
  obtain ⟨s, hs⟩ : ∃ s : ByteArray, s = ⟨x.toArray⟩ := ⟨_, rfl⟩
  have hd : s.data.toList = x := by rw [hs]
  rw [← hs]
  obtain ⟨q, hq⟩ : ∃ q, q = !Pm.part x := ⟨_, rfl⟩
  rw [← hq]
  unfold Pm.part at hq
  have hi := Tryd.strings_IndexByte s 0 w
  have h0 := idxByte0 x
  rw [← hd] at h0 hq
  have e1 : s.toList.isEmpty = (s.data.toList == []) := by rw [ByteArray.toList_eq]; cases s.data.toList <;> rfl
  have e2 := beq_lit s [46]
  have e3 := beq_lit s [46, 46]
  rw [show ((0 : Int).toNat.toUInt8) = (0 : UInt8) from rfl] at hi
  obtain ⟨r, hr⟩ : ∃ r, r = Lib.indexByte s.data.toList 0 := ⟨_, rfl⟩
  rw [← hr] at hi h0
  have hq4 : q = ((s.data.toList == []) || (s.data.toList == [46]) || (s.data.toList == [46, 46]) || decide (0 ≤ r)) := by rw [hq, h0]; cases (s.data.toList == []) <;> cases (s.data.toList == [46]) <;> cases (s.data.toList == [46, 46]) <;> simp
  rw [← e1, ← e2, ← e3] at hq4
  clear hq h0 hr hd hs e1 e2 e3
  obtain ⟨b1, h1⟩ : ∃ b, s.toList.isEmpty = b := ⟨_, rfl⟩
  obtain ⟨b2, h2⟩ : ∃ b, (s.toList == [46]) = b := ⟨_, rfl⟩
  obtain ⟨b3, h3⟩ : ∃ b, (s.toList == [46, 46]) = b := ⟨_, rfl⟩
  rw [h1, h2, h3] at hq4
  have Hhq4 := Lib.hid hq4
  have Hhi := Lib.hid hi
  clear hq4 hi
  cases b1 with
  | true =>
    go_enter Tryd.func77, Tryd.ntmps77
    go_wp2_with fail
    go_ret
    exact ⟨by rw [Hhq4.out]; rfl, rfl⟩
  | false =>
    cases b2 with
    | true =>
      go_enter Tryd.func77, Tryd.ntmps77
      go_wp2_with fail
      go_ret
      exact ⟨by rw [Hhq4.out]; rfl, rfl⟩
    | false =>
      cases b3 with
      | true =>
        go_enter Tryd.func77, Tryd.ntmps77
        go_wp2_with fail
        go_ret
        exact ⟨by rw [Hhq4.out]; rfl, rfl⟩
      | false =>
        go_enter Tryd.func77, Tryd.ntmps77
        go_wp2_with fail
        refine Hhi.out.mono ?_
        rintro e w' ⟨rfl, rfl⟩
        go_wp2_with fail
        go_ret
        exact ⟨by rw [Hhq4.out]; rfl, rfl⟩
end Go.Proofs.YtidmjepfpjfkoaaDoor
