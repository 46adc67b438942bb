/-
  Plain laws: what keys tell: the paths, each with all it is within, in the order of paths.
  Walks: slices.IndexFunc, ContainsFunc over texts, at a function that has caught one box.
  Walks: key.Fold's inner functions: a path is added; a path is within the one that is caught.
  What key.Fold holds to while it goes through the keys; rows of entries.
  Rows of entries, as key.Fold tells them.
  Walks: key.Fold.
  Plain laws: a path's first parts, joined: the path, and what it is within.
-/
import Derived.Test.YtidmjepfpjfkoaaDoorMj
import Derived.Test.YtidmjepfpjfkoaaDoorMc
import Derived.RangeFuncBox
import Derived.Test.YtidmjepfpjfkoaaDoorMf
import Derived.Test.YtidmjepfpjfkoaaDoorMk
import Derived.Test.YtidmjepfpjfkoaaDoorMe
import Derived.Deep.DeepCutAuto
namespace Go.Proofs.YtidmjepfpjfkoaaDoor.Km
open Go
set_option linter.unusedVariables false

theorem last47' : ∀ p : By, (47 : UInt8) ∈ p → ∃ a b, p = a ++ 47 :: b ∧ (47 : UInt8) ∉ b
  | [], h => by cases h
  | c :: l, h => by
    by_cases hl : (47 : UInt8) ∈ l
    · obtain ⟨a, b, e, hb⟩ := last47' l hl
      exact ⟨c :: a, b, by rw [e]; rfl, hb⟩
    · rcases List.mem_cons.1 h with h | h
      · exact ⟨[], l, by rw [h]; rfl, hl⟩
      · exact absurd h hl
/-- a path, or what it is within -/
def inC (p x : By) : Prop := x = p ∨ Pm.within p x = true
theorem par_is {p : By} (h : par p = true) : Pm.right p = 0 ∧ ∃ a b, p = a ++ 47 :: b ∧ (47 : UInt8) ∉ b ∧ YtidmjepfpjfkoaaDoor.parS p = a := by
  have h2 := h
  unfold par at h2
  simp only [Bool.and_eq_true, beq_iff_eq] at h2
  obtain ⟨hr, hc⟩ := h2
  obtain ⟨a, b, e, hb⟩ := last47' p (by simpa using hc)
  refine ⟨hr, a, b, e, hb, ?_⟩
  unfold YtidmjepfpjfkoaaDoor.parS
  rw [if_pos h, e, par_cut a b hb]
theorem cut_last (a b : By) (hb : (47 : UInt8) ∉ b) : Pm.cut (a ++ 47 :: b) = Pm.cut a ++ [b] := by rw [Pm.cut_append, Pm.cut_plain b hb]
theorem within_last (a b x : By) (hb : (47 : UInt8) ∉ b) : Pm.within (a ++ 47 :: b) x = true ↔ x = a ∨ Pm.within a x = true := by
  rw [Pm.within_iff, cut_last a b hb]
  constructor
  · rintro ⟨r, hr, e⟩
    have e2 : (Pm.cut a) = Pm.cut x ++ r.dropLast := by
      have h := congrArg List.dropLast e
      rw [List.dropLast_concat, List.dropLast_append_of_ne_nil hr] at h
      exact h
    by_cases h0 : r.dropLast = []
    · rw [h0, List.append_nil] at e2
      exact .inl (Pm.cut_inj e2).symm
    · exact .inr ((Pm.within_iff a x).2 ⟨_, h0, e2⟩)
  · rintro (rfl | h)
    · exact ⟨[b], by simp, rfl⟩
    · obtain ⟨r, hr, e⟩ := (Pm.within_iff a x).1 h
      exact ⟨r ++ [b], by simp, by rw [e, List.append_assoc]⟩
theorem inC_par {p x : By} (h : par p = true) : inC p x ↔ x = p ∨ inC (YtidmjepfpjfkoaaDoor.parS p) x := by
  obtain ⟨_, a, b, e, hb, hS⟩ := par_is h
  unfold inC
  rw [hS]
  conv => lhs; rw [e]
  rw [within_last a b x hb, ← e]
theorem inC_no {p x : By} (hr : Pm.right p = 0) (h : par p = false) : inC p x ↔ x = p := by
  have h47 : (47 : UInt8) ∉ p := by
    unfold par at h
    rw [hr] at h
    simpa using h
  unfold inC
  constructor
  · rintro (h | h)
    · exact h
    · obtain ⟨r, hr, e⟩ := (Pm.within_iff p x).1 h
      rw [Pm.cut_plain p h47] at e
      have hl := congrArg List.length e
      have h1 := List.length_pos_iff.2 hr
      have h2 := List.length_pos_iff.2 (Pm.cut_ne x)
      simp at hl
      omega
  · exact .inl
theorem right_par {p : By} (h : par p = true) : Pm.right (YtidmjepfpjfkoaaDoor.parS p) = 0 ∧ (YtidmjepfpjfkoaaDoor.parS p).length < p.length := by
  obtain ⟨hr, a, b, e, hb, hS⟩ := par_is h
  rw [hS]
  refine ⟨?_, by rw [e]; simp⟩
  rw [e] at hr
  unfold Pm.right at hr ⊢
  rw [cut_last a b hb, List.all_append, List.any_append] at hr
  split at hr
  · rename_i h1
    rw [Bool.and_eq_true] at h1
    rw [if_pos h1.1]
    split at hr
    · cases hr
    · rename_i h2
      rw [if_neg]
      intro h3
      apply h2
      rcases h3 with h3 | h3 | h3
      · left; rw [List.length_append]; omega
      · right; left; rw [List.length_append]; omega
      · right; right; rw [h3]; rfl
  · cases hr
theorem inC_right : ∀ (n : Nat) (p x : By), p.length < n → Pm.right p = 0 → inC p x → Pm.right x = 0
  | 0, _, _, h, _, _ => by omega
  | n + 1, p, x, hl, hr, h => by
    cases hp : par p with
    | true =>
      obtain ⟨h1, h2⟩ := right_par hp
      rcases (inC_par hp).1 h with rfl | h
      · exact hr
      · exact inC_right n _ x (by omega) h1 h
    | false =>
      rw [(inC_no hr hp).1 h]; exact hr

/-! ### what keys tell -/
theorem par_right {k : By} (h : parE k = 0) : Pm.right (parS k) = 0 := by
  unfold parS
  rw [if_pos h]
  unfold parE at h
  by_cases h1 : Pm.right (unS (rst k)) = 0
  · exact h1
  · exfalso
    rw [if_pos h1] at h
    split at h
    · cases h
    · split at h <;> cases h
def InF (ks : List By) (x : By) : Prop := ∃ k ∈ ks, parE k = 0 ∧ inC (parS k) x
theorem InF.right {ks : List By} {x : By} (h : InF ks x) : Pm.right x = 0 := by
  obtain ⟨k, _, h1, h2⟩ := h
  exact inC_right _ _ x (Nat.lt_succ_self _) (par_right h1) h2
structure FS (ks xs : List By) : Prop where
  up : xs.Pairwise (fun a b => Pm.compare a b = -1)
  mem : ∀ x, x ∈ xs ↔ InF ks x
theorem FS.of {ks ps xs : List By} (h : Pm.IsSort ps xs) (hp : ∀ x, x ∈ ps ↔ InF ks x) : FS ks xs :=
  ⟨h.up, fun x => by rw [h.mem, hp]; exact ⟨fun h => h.1, fun h => ⟨h, h.right⟩⟩⟩
theorem FS.sort {ks xs ys : List By} (h : FS ks xs) (h2 : FS ks ys) : Pm.IsSort xs ys :=
  ⟨h2.up, fun x => by rw [h2.mem, h.mem]; exact ⟨fun h => ⟨h, h.right⟩, fun h => h.1⟩⟩
theorem FS.unique {ks xs ys : List By} (h : FS ks xs) (h2 : FS ks ys) : xs = ys := (h.sort h).unique (h.sort h2)
def seen (ks : List By) (p : By) (d : Bool) : Bool := ks.any fun k => parE k == 0 && (parS k == p && parD k == d)
def dirOf (ks : List By) (p : By) : Bool := seen ks p true || ks.any fun k => parE k == 0 && Pm.within (parS k) p
theorem seen_iff {ks : List By} {p : By} {d : Bool} : seen ks p d = true ↔ ∃ k ∈ ks, parE k = 0 ∧ parS k = p ∧ parD k = d := by
  unfold seen
  rw [List.any_eq_true]
  simp only [Bool.and_eq_true, beq_iff_eq]
theorem FS.dir {ks xs : List By} (h : FS ks xs) (i : Nat) (hi : i < xs.length) : (seen ks xs[i] true || (xs.drop i).any fun q => Pm.within q xs[i]) = dirOf ks xs[i] := by
  unfold dirOf
  congr 1
  rw [Bool.eq_iff_iff, List.any_eq_true, List.any_eq_true]
  simp only [Bool.and_eq_true, beq_iff_eq]
  constructor
  · rintro ⟨q, hq, hw⟩
    obtain ⟨k, hk, h1, h2⟩ := (h.mem q).1 (List.mem_of_mem_drop hq)
    refine ⟨k, hk, h1, ?_⟩
    rcases h2 with rfl | h2
    · exact hw
    · exact Pm.within_trans h2 hw
  · rintro ⟨k, hk, h1, hw⟩
    have hm : parS k ∈ xs := (h.mem _).2 ⟨k, hk, h1, .inl rfl⟩
    refine ⟨parS k, ?_, hw⟩
    obtain ⟨j, hj, e⟩ := List.getElem_of_mem hm
    have hc := Pm.within_compare hw
    have hij : i < j := by
      rcases Nat.lt_trichotomy i j with h3 | h3 | h3
      · exact h3
      · subst h3
        rw [e, show Pm.compare (parS k) (parS k) = 0 from Pm.cmpL_self _] at hc
        cases hc
      · have h4 := List.pairwise_iff_getElem.1 h.up j i hj hi h3
        rw [e] at h4
        have h5 : Pm.compare xs[i] (parS k) = - Pm.compare (parS k) xs[i] := Pm.cmpL_neg _ _
        rw [hc, h4] at h5
        cases h5
    rw [List.mem_iff_getElem]
    exact ⟨j - i, by rw [List.length_drop]; omega, by rw [List.getElem_drop, ← e]; congr 1; omega⟩
end Go.Proofs.YtidmjepfpjfkoaaDoor.Km

namespace Go.Proofs.YtidmjepfpjfkoaaDoor
open Go Go.RowKit
set_option maxHeartbeats 2000000
set_option maxRecDepth 20000
set_option linter.unusedVariables false
set_option linter.unusedSimpArgs false

/-- behind an append to the row: a box that lies ahead of it is kept; the new row is put into it -/
theorem box_add {W w1 : World} {n₀ B : Nat} {t e : TypeId} {v v' : Value} {k m : Nat} {xs ys : List Value} {tmp : Obj} (hv : Boxed W B t v) (hrow : W.ownsRow n₀ e 1 v k xs) (hn₀ : n₀ ≤ W.heap.size) (hown' : w1.ownsRow n₀ e 1 v' m ys)
    (hgrow : (W.alloc tmp).grownBy w1 v.ownBlock) (hB : B < n₀) :
    Boxed w1 B t v ∧ Boxed (w1.setCell ⟨B, 0, none⟩ v') B t v' ∧ (w1.setCell ⟨B, 0, none⟩ v').ownsRow n₀ e 1 v' m ys ∧ Below B W (w1.setCell ⟨B, 0, none⟩ v') := by
  have hob : ∀ b, some b = v.ownBlock → n₀ ≤ b := fun b hb => (hrow.lt b hb.symm).1
  have hv1 : Boxed w1 B t v := (hv.alloc tmp).kept hgrow fun e' => by have := hob _ e'; omega
  refine ⟨hv1, hv1.set _, ownsRow_setCell_below hown' hB v', ?_⟩
  exact (((Below.refl B W).alloc (by omega) tmp).grown hgrow (by rw [World.size_alloc]; omega) fun k e' => by have := hob _ e'.symm; omega).setCell (p := ⟨B, 0, none⟩) (Nat.le_refl B) v'
/-- a function's number g, with the box B, answers p of a text behind w0, and turns nothing of what there is -/
structure PdB (g B : Nat) (p : List UInt8 → Bool) (w0 : World) : Prop where
  en : ∀ args w, (callFunc g args).run Tryd.prog w = .ok (.enter g args) w
  says : ∀ (x : List UInt8) (w : World), Below w0.heap.size w0 w → x.length ≤ 100000 → Calls Tryd.prog g #[.string ⟨x.toArray⟩, .pointer (some ⟨B, 0, none⟩)] w fun e w' => e = .returned (.bool (p x)) ∧ Below w.heap.size w w'

theorem indexFuncB (g B : Nat) (p : List UInt8 → Bool) (w : World) (hP : PdB g B p w) (ps : List (List UInt8)) (hps : ∀ x ∈ ps, x.length ≤ 100000) (hlen : ps.length ≤ 1000000) (A : Option Addr) (c : Nat)
    (hrd : RdS (.slice A ps.length c) ps.length (pv ps) w.heap.size w) :
    Calls Tryd.prog 103 #[.slice A ps.length c, .func (.func g) #[] #[.pointer (some ⟨B, 0, none⟩)]] w fun e w' =>
      e = .returned (.int .i64 (if ps.findIdx p < ps.length then (ps.findIdx p : Int) else -1)) ∧ Below w.heap.size w w' := by
  have en := hP.en
  have says := hP.says
  obtain ⟨r, hr⟩ : ∃ r : Int, r = (if ps.findIdx p < ps.length then (ps.findIdx p : Int) else -1) := ⟨_, rfl⟩
  rw [← hr]
  obtain ⟨n, hn⟩ : ∃ n, n = ps.length := ⟨_, rfl⟩
  rw [← hn] at hrd hlen ⊢
  have Hsays := Lib.hid says
  have Hhrd := Lib.hid hrd
  have Hhn := Lib.hid hn
  have Hhr := Lib.hid hr
  have Hhps := Lib.hid hps
  clear says hrd hn hr hps
  clear hP
  go_enter Tryd.func103, Tryd.ntmps103
  go_wp2_with fail
  go_loopw [8] (fun iv wr => ∃ i : Nat, i ≤ n ∧ iv = .int .i64 (i : Int) ∧ Hid (∀ j (hj : j < ps.length), j < i → p ps[j] = false) ∧ Below w.heap.size w wr) (fun iv _ => n - (intOf iv).toNat)
  case atStart => exact ⟨0, by omega, rfl, fun j _ h => absurd h (by omega), Below.refl _ _⟩
  case round =>
    obtain ⟨i, hi, rfl, HB, hb⟩ := hrel
    have hbi : (0 : Int) ≤ i := by omega
    by_cases hin : i < n
    · obtain ⟨b, off, hA, hcn, hbb, hcell⟩ := Hhrd.out.at_ hin
      have hil : i < ps.length := by rw [← Hhn.out]; exact hin
      have hx := (hb.cell (p := ⟨b, off + i, none⟩) hbb).trans (hcell i _ (pv_get ps i hil))
      have hxl := Hhps.out _ (List.getElem_mem hil)
      have hbn : (i : Int) < n := by omega
      have hsay := Hsays.out ps[i] wr hb hxl
      obtain ⟨q, hq⟩ : ∃ q, q = p ps[i] := ⟨_, rfl⟩
      rw [← hq] at hsay
      obtain ⟨x, hxx⟩ : ∃ x : ByteArray, x = ⟨ps[i].toArray⟩ := ⟨_, rfl⟩
      rw [← hxx] at hx hsay
      subst hA
      have Hhsay := Lib.hid hsay
      have Hhq := Lib.hid hq
      have Hhxx := Lib.hid hxx
      clear hsay hq hxx
      clear hcell hxl
      have HIL := Lib.hid hil
      go_wp2_with fail
      refine Hhsay.out.mono ?_
      rintro e w2 ⟨rfl, hb2⟩
      have hb3 := hb.trans (hb2.mono hb.size)
      clear hb2
      cases q with
      | true =>
        have hr1 : r = (i : Int) := by
          rw [Hhr.out, findIdx_at HIL.out Hhq.out.symm HB.out, if_pos HIL.out]
        have HR1 := Lib.hid hr1
        clear hr1
        go_wp2_with fail
        go_ret
        exact ⟨by rw [HR1.out]; rfl, hb3⟩
      | false =>
        have HB2 : Hid (∀ j (hj : j < ps.length), j < i + 1 → p ps[j] = false) := fun j hj h => by
          rcases Nat.lt_or_ge j i with h3 | h3
          · exact HB.out j hj h3
          · obtain rfl : j = i := by omega
            exact Hhq.out.symm
        go_wp2_with fail
        go_roundw
        case rel => exact ⟨i + 1, by omega, by go_num, HB2, hb3⟩
        case measure => simp [intOf]; omega
    · obtain rfl : i = n := by omega
      have hbn : ¬ (i : Int) < i := by omega
      have hr1 : r = -1 := by
        rw [Hhr.out, findIdx_none (fun j hj => HB.out j hj (by rw [Hhn.out]; exact hj)), if_neg (Nat.lt_irrefl _)]
      have HR1 := Lib.hid hr1
      clear hr1
      go_wp2_with fail
      go_ret
      exact ⟨by rw [HR1.out]; rfl, hb⟩

theorem containsFuncB (g B : Nat) (p : List UInt8 → Bool) (w : World) (hP : PdB g B p w) (ps : List (List UInt8)) (hps : ∀ x ∈ ps, x.length ≤ 100000) (hlen : ps.length ≤ 1000000) (A : Option Addr) (c : Nat)
    (hrd : RdS (.slice A ps.length c) ps.length (pv ps) w.heap.size w) :
    Calls Tryd.prog 74 #[.slice A ps.length c, .func (.func g) #[] #[.pointer (some ⟨B, 0, none⟩)]] w fun e w' =>
      e = .returned (.bool (ps.any p)) ∧ Below w.heap.size w w' := by
  have h := indexFuncB g B p w hP ps hps hlen A c hrd
  obtain ⟨r, hr⟩ : ∃ r : Int, r = (if ps.findIdx p < ps.length then (ps.findIdx p : Int) else -1) := ⟨_, rfl⟩
  rw [← hr] at h
  have ha : decide (0 ≤ r) = ps.any p := by
    rw [hr]
    by_cases hf : ps.findIdx p < ps.length
    · rw [if_pos hf, decide_eq_true (by omega)]
      symm
      rw [List.any_eq_true]
      exact ⟨_, List.getElem_mem hf, List.findIdx_getElem (w := hf)⟩
    · rw [if_neg hf, decide_eq_false (by omega)]
      symm
      rw [Bool.eq_false_iff]
      intro h
      rw [List.any_eq_true] at h
      exact hf (List.findIdx_lt_length.2 h)
  generalize ps.length = n at *
  have Hh := Lib.hid h
  have Hha := Lib.hid ha
  have Hhr := Lib.hid hr
  clear h ha hr
  clear hP hrd
  go_enter Tryd.func74, Tryd.ntmps74
  go_wp2_with fail
  refine Hh.out.mono ?_
  rintro e w' ⟨rfl, hb⟩
  go_wp2_with fail
  go_ret
  exact ⟨by rw [← Hha.out]; rfl, hb⟩

end Go.Proofs.YtidmjepfpjfkoaaDoor

namespace Go.Proofs.YtidmjepfpjfkoaaDoor
open Go Go.RowKit
set_option maxHeartbeats 2000000
set_option maxRecDepth 20000
set_option linter.unusedVariables false
set_option linter.unusedSimpArgs false

theorem addPath (B n0 : Nat) (W : World) (v : Value) (ps : List (List UInt8)) (x : List UInt8) (hB : B < n0) (hn0 : n0 ≤ W.heap.size) (hv : Boxed W B 56 v) (hrow : W.ownsRow n0 9 1 v ps.length (pv ps)) (hlen : ps.length ≤ 1000000) :
    Calls Tryd.prog 73 #[.string (tk x), .pointer (some ⟨B, 0, none⟩)] W fun e W' => e = .returned (.tuple #[]) ∧ ∃ v', Boxed W' B 56 v' ∧ W'.ownsRow n0 9 1 v' (ps ++ [x]).length (pv (ps ++ [x])) ∧ Below B W W' ∧
      (∀ q cs t fr, q ≠ B → t ≠ 9 → W.heap[q]? = some (.cells cs t fr) → W'.heap[q]? = some (.cells cs t fr)) := by
  obtain ⟨i0, hi0, hz0, hz1, hz2⟩ := info_parts info_str
  have hc0 := hv.cell
  have hl : (ps ++ [x]).length = ps.length + 1 := by simp
  have hpv : pv (ps ++ [x]) = pv ps ++ [Value.string (tk x)] := by unfold pv; rw [List.map_append]; rfl
  rw [hl, hpv]
  generalize tk x = s at *
  generalize pv ps = vs at *
  obtain ⟨n, hn⟩ : ∃ n, n = ps.length := ⟨_, rfl⟩
  rw [← hn] at hrow hlen ⊢
  clear hpv hl hn
  go_enter Tryd.func73, Tryd.ntmps73
  go_wp2_with (at_builtin; refine wpList_append_own _ rfl _ _ 56 rfl n0 9 i0 (.string ⟨#[]⟩) 1 16 Tryd.underlying56 hi0 hz0 hz1 hz2 rfl (by decide) _ _ _ rfl (hrow.alloc _) ⟨W.heap.size, 0, none⟩ 1 1 [.string s] rfl rfl (cell_one_new _ _ _) (by simp [Value.oneCell']) (by unfold maxLen; omega) (by omega) (by rw [World.size_alloc]; omega) ?_; intro v' w4 hown' hgrow _; obtain ⟨g', cap', rfl⟩ := ownsRow_succ hown'; obtain ⟨hv1, hrest⟩ := box_add hv hrow hn0 hown' hgrow hB; have hc1 := hv1.cell; have hf1 := hv1.frozen)
  go_end0
  obtain ⟨r1, r2, r5⟩ := hrest
  refine ⟨rfl, _, r1, r2, r5, fun q cs t fr hq ht hk => ?_⟩
  have h1 : (W.alloc (.cells #[.string s] 9)).heap[q]? = some (.cells cs t fr) := blk_old W _ hk
  rw [Below.heap_setCell _ _ _ _ hq]
  refine (hgrow.block q (lt_of_block h1) fun e' => ?_).trans h1
  rcases hrow.2 with ⟨rfl, _⟩ | ⟨g, cap, cur, rfl, _, h2, _⟩
  · cases e'
  · have e2 : q = g := Option.some.inj e'
    rw [e2, h2] at hk
    injection hk with hk
    injection hk with _ h3
    exact ht h3.symm
theorem withinCaught (B : Nat) (p x : List UInt8) (W : World) (hx : x.length ≤ 100000) (hp : p.length ≤ 100000) (hv : Boxed W B 9 (.string (tk p))) :
    Calls Tryd.prog 75 #[.string (tk x), .pointer (some ⟨B, 0, none⟩)] W fun e w' => e = .returned (.bool (Pm.within x p)) ∧ Below W.heap.size W w' := by
  have hw := fun w2 => pathWithin (tk x) (tk p) (by rw [tk_size]; omega) w2
  have hc0 := hv.cell
  rw [show (tk x).data.toList = x from rfl, show (tk p).data.toList = p from rfl] at hw
  obtain ⟨r, hr⟩ : ∃ r, r = Pm.within x p := ⟨_, rfl⟩
  rw [← hr] at hw ⊢
  generalize tk x = s at *
  generalize tk p = t at *
  have Hhw := Lib.hid hw
  have Hhr := Lib.hid hr
  clear hw hr
  go_enter Tryd.func75, Tryd.ntmps75
  go_wp2_with fail
  refine (Hhw.out _).mono ?_
  rintro e w2 ⟨rfl, rfl⟩
  go_wp2_with fail
  go_ret
  exact ⟨rfl, Below.refl _ _⟩
end Go.Proofs.YtidmjepfpjfkoaaDoor

namespace Go.Proofs.YtidmjepfpjfkoaaDoor
open Go Go.RowKit
set_option linter.unusedVariables false
open Classical in
/-- what the map has been told of the keys -/
noncomputable def seenV (l : List Km.By) (v : Value) : Bool := decide (∃ k ∈ l, Km.parE k = 0 ∧ v = .agg #[.string (tk (Km.parS k)), .bool (Km.parD k)])
open Classical in
theorem seenV_iff (l : List Km.By) (v : Value) : seenV l v = true ↔ ∃ k ∈ l, Km.parE k = 0 ∧ v = .agg #[.string (tk (Km.parS k)), .bool (Km.parD k)] := by
  unfold seenV
  exact decide_eq_true_iff
theorem seenV_at (l : List Km.By) (p : Km.By) (d : Bool) : seenV l (.agg #[.string (tk p), .bool d]) = Km.seen l p d := by
  rw [Bool.eq_iff_iff, seenV_iff, Km.seen_iff]
  constructor
  · rintro ⟨k, hk, h1, h2⟩
    simp only [Value.agg.injEq, Array.mk.injEq, List.cons.injEq, Value.string.injEq, Value.bool.injEq, and_true] at h2
    refine ⟨k, hk, h1, ?_, h2.2.symm⟩
    have := congrArg ByteArray.toList h2.1
    rw [tk_list, tk_list] at this
    exact this.symm
  · rintro ⟨k, hk, h1, h2, h3⟩
    exact ⟨k, hk, h1, by rw [h2, h3]⟩
theorem seenV_nil (v : Value) : seenV [] v = false := by
  rw [Bool.eq_false_iff]
  intro h
  obtain ⟨k, hk, _⟩ := (seenV_iff _ _).1 h
  cases hk
theorem seenV_skip (l : List Km.By) (k : Km.By) (h : Km.parE k ≠ 0) : seenV (l ++ [k]) = seenV l := by
  funext v
  rw [Bool.eq_iff_iff, seenV_iff, seenV_iff]
  constructor
  · rintro ⟨q, hq, h1, h2⟩
    rcases List.mem_append.1 hq with hq | hq
    · exact ⟨q, hq, h1, h2⟩
    · rw [List.mem_singleton.1 hq] at h1; exact absurd h1 h
  · rintro ⟨q, hq, h1, h2⟩
    exact ⟨q, List.mem_append_left _ hq, h1, h2⟩
theorem seenV_put (l : List Km.By) (k : Km.By) (h : Km.parE k = 0) : seenV (l ++ [k]) (.agg #[.string (tk (Km.parS k)), .bool (Km.parD k)]) = true ∧ ∀ v, v ≠ .agg #[.string (tk (Km.parS k)), .bool (Km.parD k)] → seenV (l ++ [k]) v = seenV l v := by
  constructor
  · rw [seenV_iff]
    exact ⟨k, by simp, h, rfl⟩
  · intro v hv
    rw [Bool.eq_iff_iff, seenV_iff, seenV_iff]
    constructor
    · rintro ⟨q, hq, h1, h2⟩
      rcases List.mem_append.1 hq with hq | hq
      · exact ⟨q, hq, h1, h2⟩
      · rw [List.mem_singleton.1 hq] at h2; exact absurd h2 hv
    · rintro ⟨q, hq, h1, h2⟩
      exact ⟨q, List.mem_append_left _ hq, h1, h2⟩
theorem InF_skip (l : List Km.By) (k : Km.By) (h : Km.parE k ≠ 0) (x : Km.By) : Km.InF (l ++ [k]) x ↔ Km.InF l x := by
  unfold Km.InF
  constructor
  · rintro ⟨q, hq, h1, h2⟩
    rcases List.mem_append.1 hq with hq | hq
    · exact ⟨q, hq, h1, h2⟩
    · rw [List.mem_singleton.1 hq] at h1; exact absurd h1 h
  · rintro ⟨q, hq, h1, h2⟩
    exact ⟨q, List.mem_append_left _ hq, h1, h2⟩
theorem InF_put (l : List Km.By) (k : Km.By) (h : Km.parE k = 0) (x : Km.By) : Km.InF (l ++ [k]) x ↔ Km.InF l x ∨ Km.inC (Km.parS k) x := by
  unfold Km.InF
  constructor
  · rintro ⟨q, hq, h1, h2⟩
    rcases List.mem_append.1 hq with hq | hq
    · exact .inl ⟨q, hq, h1, h2⟩
    · rw [List.mem_singleton.1 hq] at h2; exact .inr h2
  · rintro (⟨q, hq, h1, h2⟩ | h2)
    · exact ⟨q, List.mem_append_left _ hq, h1, h2⟩
    · exact ⟨k, by simp, h, h2⟩
theorem right_64 {p : Km.By} (h : Pm.right p = 0) : p.length ≤ 64 := by
  unfold Pm.right at h
  split at h
  · split at h
    · cases h
    · rename_i h2; omega
  · cases h
theorem right_pos {p : Km.By} (h : Pm.right p = 0) : 0 < p.length := by
  cases p with
  | nil => cases h
  | cons c l => simp
/-- behind i keys -/
def FI (w : World) (m : Nat) (T : List Km.By) (W : World) : Prop := ∃ ps v n, Boxed W (w.heap.size + 1) 56 v ∧ W.ownsRow (w.heap.size + 2) 9 1 v ps.length (pv ps) ∧
  BMap Tryd.prog 65 4 W w.heap.size n (seenV T) ∧ n ≤ m ∧ ps.length ≤ 70 * m ∧ (∀ x, x ∈ ps ↔ Km.InF T x) ∧ Below w.heap.size w W ∧ w.heap.size + 2 ≤ W.heap.size
/-- .. and some of the next one's paths -/
def FJ (w : World) (m : Nat) (T : List Km.By) (up : Km.By) (ok : Bool) (W : World) : Prop := ∃ ps v n, Boxed W (w.heap.size + 1) 56 v ∧ W.ownsRow (w.heap.size + 2) 9 1 v ps.length (pv ps) ∧
  BMap Tryd.prog 65 4 W w.heap.size n (seenV T) ∧ n ≤ m + 1 ∧ ps.length + (if ok then up.length else 0) ≤ 70 * m + 66 ∧ (ok = true → Pm.right up = 0) ∧
  (∀ x, (x ∈ ps ∨ ok = true ∧ Km.inC up x) ↔ Km.InF T x) ∧ Below w.heap.size w W ∧ w.heap.size + 2 ≤ W.heap.size
theorem FJ.done {w : World} {m : Nat} {T : List Km.By} {up : Km.By} {W : World} (h : FJ w m T up false W) : FI w (m + 1) T W := by
  obtain ⟨ps, v, n, h1, h2, h3, h4, h5, h6, h7, h8, h9⟩ := h
  exact ⟨ps, v, n, h1, h2, h3, h4, by simp at h5; omega, fun x => by rw [← h7]; simp, h8, h9⟩
theorem FI.below {w : World} {m : Nat} {T : List Km.By} {W W' : World} (h : FI w m T W) (hb : Below W.heap.size W W') : FI w m T W' := by
  obtain ⟨ps, v, n, h1, h2, h3, h4, h5, h7, h8, h9⟩ := h
  exact ⟨ps, v, n, (hb.block _ h1.lt).trans h1, own_below h2 hb, h3.below hb h3.lt, h4, h5, h7, h8.trans (hb.mono h8.size), Nat.le_trans h9 hb.size⟩
theorem FI.skip {w : World} {m : Nat} {T T' : List Km.By} {k : Km.By} {W : World} (h : FI w m T W) (hk : Km.parE k ≠ 0) (hT : T ++ [k] = T') : FI w (m + 1) T' W := by
  obtain ⟨ps, v, n, h1, h2, h3, h4, h5, h7, h8, h9⟩ := h
  subst hT
  exact ⟨ps, v, n, h1, h2, by rw [seenV_skip _ _ hk]; exact h3, by omega, by omega, fun x => by rw [h7, InF_skip _ _ hk], h8, h9⟩
theorem FJ.below {w : World} {m : Nat} {T : List Km.By} {up : Km.By} {ok : Bool} {W W' : World} (h : FJ w m T up ok W) (hb : Below W.heap.size W W') : FJ w m T up ok W' := by
  obtain ⟨ps, v, n, h1, h2, h3, h4, h5, h6, h7, h8, h9⟩ := h
  exact ⟨ps, v, n, (hb.block _ h1.lt).trans h1, own_below h2 hb, h3.below hb h3.lt, h4, h5, h6, h7, h8.trans (hb.mono h8.size), Nat.le_trans h9 hb.size⟩
theorem FJ.world {w : World} {m : Nat} {T : List Km.By} {up : Km.By} {ok : Bool} {W : World} (h : FJ w m T up ok W) : Below w.heap.size w W ∧ w.heap.size + 2 ≤ W.heap.size := by
  obtain ⟨ps, v, n, h1, h2, h3, h4, h5, h6, h7, h8, h9⟩ := h
  exact ⟨h8, h9⟩
theorem FI.world {w : World} {m : Nat} {T : List Km.By} {W : World} (h : FI w m T W) : Below w.heap.size w W ∧ w.heap.size + 2 ≤ W.heap.size := by
  obtain ⟨ps, v, n, h1, h2, h3, h4, h5, h7, h8, h9⟩ := h
  exact ⟨h8, h9⟩
/-- the map has been told of the next key -/
theorem FI.told {w : World} {m nn : Nat} {T T' : List Km.By} {k : Km.By} {W W' : World} (h : FI w m T W) (hk : Km.parE k = 0) (hT : T ++ [k] = T') (hg : W.grownBy W' (some w.heap.size)) (hB : BMap Tryd.prog 65 4 W' w.heap.size nn (seenV T')) (hnn : nn ≤ m + 1) :
    FJ w m T' (Km.parS k) true W' := by
  obtain ⟨ps, v, n, h1, h2, h3, h4, h5, h7, h8, h9⟩ := h
  have hr := Km.par_right hk
  have h64 := right_64 hr
  refine ⟨ps, v, nn, h1.kept hg (by simp), h2.kept hg ?_, hB, hnn, by simp; omega, fun _ => hr, fun x => ?_, h8.grown hg (by omega) (fun k hk => by cases hk; exact Nat.le_refl _), Nat.le_trans h9 hg.size⟩
  · cases hv : v.ownBlock with
    | none => exact .inl rfl
    | some b =>
      have := (h2.lt b hv).1
      exact .inr (by simp; omega)
  · rw [← hT, InF_put _ _ hk, h7]; simp
/-- one more path -/
theorem FJ.add {w : World} {m : Nat} {T : List Km.By} {up : Km.By} {W : World} (h : FJ w m T up true W) (hm : m ≤ 1000) :
    Calls Tryd.prog 73 #[.string (tk up), .pointer (some ⟨w.heap.size + 1, 0, none⟩)] W fun e W' => e = .returned (.tuple #[]) ∧ FJ w m T (parS up) (par up) W' ∧
      (∀ q cs t fr, q ≠ w.heap.size + 1 → t ≠ 9 → W.heap[q]? = some (.cells cs t fr) → W'.heap[q]? = some (.cells cs t fr)) := by
  obtain ⟨ps, v, n, h1, h2, h3, h4, h5, h6, h7, h8, h9⟩ := h
  refine (addPath (w.heap.size + 1) (w.heap.size + 2) W v ps up (by omega) h9 h1 h2 (by simp at h5; omega)).mono ?_
  rintro e W' ⟨rfl, v', a1, a2, a3, a4⟩
  have hr := h6 rfl
  refine ⟨rfl, ⟨ps ++ [up], v', n, a1, a2, h3.kept (a3.block _ (by omega)), h4, ?_, fun hp => (Km.right_par hp).1, fun x => ?_, h8.trans (a3.mono (by omega)), Nat.le_trans h9 a3.size⟩, a4⟩
  · simp only [if_true] at h5
    rw [List.length_append, List.length_singleton]
    have hpos := right_pos hr
    cases hp : par up with
    | false => simp; omega
    | true =>
      have := (Km.right_par hp).2
      simp; omega
  · rw [← h7]
    simp only [List.mem_append, List.mem_singleton, true_and]
    cases hp : par up with
    | true => rw [Km.inC_par hp]; simp [or_assoc]
    | false => rw [Km.inC_no hr hp]; simp
end Go.Proofs.YtidmjepfpjfkoaaDoor

namespace Go.Proofs.YtidmjepfpjfkoaaDoor
open Go Go.RowKit
set_option linter.unusedVariables false
/-- an entry's four cells -/
def entV (ks : List Km.By) (x : Km.By) : List Value := [Value.string (tk x), Value.bool (Km.seen ks x false), Value.bool (Km.dirOf ks x), Value.bool (Km.seen ks x true)]
def entsV (ks xs : List Km.By) : List Value := xs.flatMap (entV ks)
theorem entsV_next {ks xs : List Km.By} {i : Nat} (h : i < xs.length) : entsV ks (xs.take (i + 1)) = entsV ks (xs.take i) ++ entV ks xs[i] := by
  unfold entsV
  rw [List.take_succ_eq_append_getElem h, List.flatMap_append]
  simp
theorem info80 : (Tryd.prog.info? 80).map (fun i => (i.zero, i.size, i.bytes)) = some (some (.agg #[.string ⟨#[]⟩, .bool false, .bool false, .bool false]), 4, 24) := by kernel_rfl
theorem n80s : (Tryd.prog.info? 80).map (·.size) = some 4 := by kernel_rfl
theorem n79s : (Tryd.prog.info? 79).map (·.size) = some 4 := by kernel_rfl
theorem info79 : (Tryd.prog.info? 79).map (fun i => (i.zero, i.size, i.bytes)) = some (some (.agg #[.string ⟨#[]⟩, .bool false, .bool false, .bool false]), 4, 24) := by kernel_rfl
/-- a row of texts that is read is another block than a box of slices -/
theorem rd_box {W : World} {b t n N : Nat} {u u' v : Value} {ps : List (List UInt8)} (hb : Boxed W b t u) (hu : ∀ s, u ≠ .string s) (h : RdS v n (pv ps) N W) : RdS v n (pv ps) N (W.setCell ⟨b, 0, none⟩ u') := by
  refine ⟨h.1, h.2.imp id ?_⟩
  rintro ⟨ad, c, h1, h2, h3⟩
  refine ⟨ad, c, h1, h2, h3.imp id ?_⟩
  rintro ⟨q, off, h4, h5, h6⟩
  refine ⟨q, off, h4, h5, fun j x hx => ?_⟩
  have h7 := h6 j x hx
  have hq : q ≠ b := by
    rintro rfl
    unfold World.cell? at h7
    rw [show W.heap[q]? = _ from hb] at h7
    simp only at h7
    have h8 : off + j = 0 := by
      rcases Nat.eq_zero_or_pos (off + j) with h | h
      · exact h
      · rw [Array.getElem?_eq_none (by simp; omega)] at h7; cases h7
    rw [h8] at h7
    simp at h7
    subst h7
    unfold pv at hx
    rw [List.getElem?_map] at hx
    cases hp : ps[j]? with
    | none => rw [hp] at hx; cases hx
    | some p => rw [hp] at hx; exact hu _ (Option.some.inj hx).symm
  unfold World.cell? at h7 ⊢
  rw [Below.heap_setCell _ _ _ _ hq]
  exact h7
theorem own4_below {w w' : World} {base : Nat} {e : TypeId} {size : Nat} {v : Value} {n : Nat} {xs : List Value} (h : w.ownsRow base e size v n xs) (hb : Below w.heap.size w w') : w'.ownsRow base e size v n xs :=
  ⟨h.1, h.2.imp id fun ⟨g, cap, cur, e1, e2, e3, r⟩ => ⟨g, cap, cur, e1, e2, by rw [hb.block g (lt_of_block e3)]; exact e3, r⟩⟩
theorem own4_base {w : World} {base base' : Nat} {e : TypeId} {size : Nat} {v : Value} {n : Nat} {xs : List Value} (h : w.ownsRow base e size v n xs) (hb : base' ≤ base) : w.ownsRow base' e size v n xs :=
  ⟨h.1, h.2.imp id fun ⟨g, cap, cur, e1, e2, r⟩ => ⟨g, cap, cur, e1, Nat.le_trans hb e2, r⟩⟩
theorem tk_inj {a b : List UInt8} (h : tk a = tk b) : a = b := by
  have := congrArg ByteArray.toList h
  rw [tk_list, tk_list] at this
  exact this
section
variable {P : Program} {o : Oper} {a : Act} {w : World}
/-- 'm[k]' whose answer is known -/
theorem mx_look (t : TypeId) (m x : Operand) (hop : o.op = .lookup t m x false) (b : Nat) (hm : a.eval m = .map (some b)) (key : Value) (hx : a.eval x = key) (v : Value)
    (hrun : (Instr.lookup t (.map (some b)) key false).run P w = .ok v w) : (execOp a.eval o).run P w = .ok (.value v) w := by
  unfold execOp
  simp only [hop, hm, hx, Sem.run_bind, hrun, Result.andThen_ok]
  rfl
end
end Go.Proofs.YtidmjepfpjfkoaaDoor

namespace Go.Proofs.YtidmjepfpjfkoaaDoor
open Go Go.RowKit
set_option maxHeartbeats 4000000
set_option maxRecDepth 20000
set_option linter.unusedVariables false
set_option linter.unusedSimpArgs false

theorem keyFold (ks : List Km.By) (hks : ∀ k ∈ ks, k.length ≤ 1000) (hn : ks.length ≤ 1000) (A : Option Addr) (c : Nat) (w : World) (hG : Gl w)
    (hrd : RdS (.slice A ks.length c) ks.length (pv ks) w.heap.size w) :
    Calls Tryd.prog 37 #[.slice A ks.length c] w fun e w' => ∃ v, e = .returned v ∧ ∃ xs, Km.FS ks xs ∧ w'.ownsRow w.heap.size 80 4 v xs.length (entsV ks xs) ∧ Below w.heap.size w w' ∧ xs.length ≤ 70 * ks.length := by
  obtain ⟨i0, hi0, hz0, hz1, hz2⟩ := info_parts info_str
  obtain ⟨i8, hi8, hy0, hy1, hy2⟩ := info_parts info80
  have hgl := hG.lt
  have hmm := @run_makeMap Tryd.prog
  have hpar := fun (k : Km.By) (hk : k.length ≤ 1000) (w2 : World) (h : Below w.heap.size w w2) => keyParse (tk k) (by rw [tk_size]; omega) w2 (hG.below h hgl)
  have hpnt := fun (p : Km.By) (hp : p.length ≤ 64) (w2 : World) (h : Below w.heap.size w w2) => pathParent (tk p) (by rw [tk_size]; omega) w2 (hG.below h hgl)
  have hup := fun (i : Nat) (h : i < ks.length) => List.take_append_getElem h
  obtain ⟨n, hnn⟩ : ∃ n, n = ks.length := ⟨_, rfl⟩
  rw [← hnn] at hrd hn ⊢
  have Hhpar := Lib.hid hpar
  have Hhpnt := Lib.hid hpnt
  have Hhrd := Lib.hid hrd
  have Hhks := Lib.hid hks
  have Hhnn := Lib.hid hnn
  have Hhup := Lib.hid hup
  clear hpar hpnt hrd hks hnn hup
  go_enter Tryd.func37, Tryd.ntmps37
  go_wp2_with fail
  have hFI : FI w 0 (ks.take 0) ((w.alloc (.map #[] 0)).alloc (.cells #[.slice none 0 0] 56)) := by
    refine ⟨[], .slice none 0 0, 0, ?_, World.ownsRow_nil _ _ _ _, ?_, Nat.le_refl _, by simp, fun x => ?_, ((Below.refl _ _).alloc (Nat.le_refl _) _).alloc (by rw [size_alloc]; omega) _, by rw [size_alloc, size_alloc]; omega⟩
    · have h := Boxed.new (w.alloc (.map #[] 0)) 56 (.slice none 0 0)
      rw [size_alloc] at h
      exact h
    · have h := (BMap.made (P := Tryd.prog) (k := 65) (e := 4) w)
      rw [show (fun _ : Value => false) = seenV [] from funext fun v => (seenV_nil v).symm] at h
      exact h.kept (Below.heap_alloc _ _ _ h.lt)
    · simp [Km.InF]
  generalize (w.alloc (.map #[] 0)).alloc (.cells #[.slice none 0 0] 56) = w2 at *
  go_loopw [20] (fun iv wr => ∃ i : Nat, i ≤ n ∧ iv = .int .i64 (i : Int) ∧ Hid (FI w i (ks.take i) wr)) (fun iv _ => n - (intOf iv).toNat)
  case atStart => exact ⟨0, by omega, rfl, hFI⟩
  case round =>
    obtain ⟨i, hi, rfl, HF⟩ := hrel
    have hbi : (0 : Int) ≤ i := by omega
    by_cases hin : i < n
    · obtain ⟨b, off, hA, hcn, hbb, hcell⟩ := Hhrd.out.at_ hin
      have hil : i < ks.length := by rw [← Hhnn.out]; exact hin
      obtain ⟨k, hk⟩ : ∃ k, k = ks[i] := ⟨_, rfl⟩
      have hT := Hhup.out i hil
      rw [← hk] at hT
      have hkl := Hhks.out k (by rw [hk]; exact List.getElem_mem hil)
      have hx := hcell i _ (pv_get ks i hil)
      rw [← hk] at hx
      obtain ⟨ps, v, m, f1, f2, f3, f4, f5, f6, f7, f8⟩ := HF.out
      replace hx := (f7.cell (p := ⟨b, off + i, none⟩) hbb).trans hx
      have hP := Hhpar.out k hkl wr f7
      rw [show (tk k).data.toList = k from rfl] at hP
      have hEr := fun h : Km.parE k = 0 => Km.par_right h
      have hpE : ∀ h : Km.parE k ≠ 0, ks.take (i + 1) = ks.take i ++ [k] ∧ Km.parE k ≠ 0 := fun h => ⟨hT.symm, h⟩
      have hbn : (i : Int) < n := by omega
      obtain ⟨E, hE⟩ : ∃ E, E = Km.parE k := ⟨_, rfl⟩
      obtain ⟨S, hS⟩ : ∃ S, S = Km.parS k := ⟨_, rfl⟩
      obtain ⟨D, hD⟩ : ∃ D, D = Km.parD k := ⟨_, rfl⟩
      rw [← hE] at hEr hpE
      rw [← hS] at hEr
      rw [← hE, ← hS, ← hD] at hP
      rw [show (⟨k.toArray⟩ : ByteArray) = tk k from rfl] at hx
      obtain ⟨X, hX⟩ : ∃ X, X = tk k := ⟨_, rfl⟩
      rw [← hX] at hP hx
      subst hA
      have HhP := Lib.hid hP
      have HhEr := Lib.hid hEr
      have HhE := Lib.hid hE
      have HhS := Lib.hid hS
      have HhD := Lib.hid hD
      have HhT := Lib.hid hT
      have HhX := Lib.hid hX
      have HhpE := Lib.hid hpE
      clear hP hEr hE hS hD hT hX hpE
      clear hcell hkl hk
      go_wp2_with fail
      refine HhP.out.mono ?_
      rintro e w3 ⟨rfl, hb3⟩
      by_cases hE0 : E = 0
      · have hEz : ((E : Int) != 0) = false := by rw [hE0]; rfl
        have hEz2 : ((E : Int) == 0) = true := by rw [hE0]; rfl
        have hk0 : Km.parE k = 0 := by rw [← HhE.out]; exact hE0
        have hr0 := HhEr.out hE0
        have hS64 := right_64 hr0
        obtain ⟨kl, hkl⟩ := nameKey (tk S) D (by rw [tk_size]; omega)
        have hset := seenV_put (ks.take i) k hk0
        rw [HhT.out, ← HhS.out, ← HhD.out] at hset
        have b3 := f3.below (hb3.alloc hb3.size (.cells #[.string (tk S), .bool D] 65)) f3.lt
        have hm63 : m < Go.maxLen := by show m < 2 ^ 63 - 1; omega
        have hfb := hb3.alloc hb3.size (.cells #[.string (tk S), .bool D] 65)
        have Hhset := Lib.hid hset
        have Hhk0 := Lib.hid hk0
        have Hhr0 := Lib.hid hr0
        have Hhfb := Lib.hid hfb
        clear hset hk0 hr0 hfb
        clear hE0 HhpE
        go_upto_region 10 with (refine kl_mapset rfl 120 65 4 _ _ _ rfl nameKeyed Tryd.underlying120 Tryd.underlying4 w.heap.size m _ rfl b3 hm63 (.agg #[.string (tk S), .bool D]) true kl rfl rfl hkl _ Hhset.out.1 Hhset.out.2 ?_; intro w5 hB5 hg5)
        have kbox := heap_alloc_new w3 (.cells #[.string (tk S), .bool D] 65)
        have h8 := HF.out.world.2
        have hs3 := hb3.size
        have kb5 := (hg5.block w3.heap.size (lt_of_block kbox) (by simp; omega)).trans kbox
        have hJ5 := (HF.out.below Hhfb.out).told Hhk0.out HhT.out hg5 hB5 (by omega)
        rw [← HhS.out] at hJ5
        have hadd := hJ5.add (by omega)
        have hc5 := cell_row kb5 (i := 0) (v := .string (tk S)) rfl
        generalize w3.heap.size = p8 at *
        obtain ⟨P1, hP1⟩ : ∃ P1, P1 = w.heap.size + 1 := ⟨_, rfl⟩
        have Hhadd := Lib.hid hadd
        have HhJ5 := Lib.hid hJ5
        have Hkb5 := Lib.hid kb5
        clear hadd hJ5 kb5
        clear kbox hg5 hB5 b3 f1 f2 f3 f6 f7 f8 Hhset hP1
        go_wp2_with fail
        refine Hhadd.out.mono ?_
        rintro e w6 ⟨rfl, hJ6, hkeep⟩
        have kb6 := hkeep p8 _ _ _ (by omega) (by decide) Hkb5.out
        have hc6 := cell_row kb6 (i := 0) (v := .string (tk S)) rfl
        have hpn := Hhpnt.out S hS64 w6 hJ6.world.1
        rw [show (tk S).data.toList = S from rfl] at hpn
        clear hkeep kb6 hc5
        have HhJ6 := Lib.hid hJ6
        have Hhpn := Lib.hid hpn
        clear hJ6 hpn
        go_wp2_with fail
        refine Hhpn.out.mono ?_
        rintro e w7 ⟨rfl, hb7⟩
        have HJ7 := Lib.hid (HhJ6.out.below hb7)
        clear hb7 hc6
        go_wp2_with fail
        go_loopw [10, 11] (fun u o wr => ∃ (up : Km.By) (ok : Bool), u = .string (tk up) ∧ o = .bool ok ∧ Hid (FJ w i (ks.take (i + 1)) up ok wr)) (fun u o _ => match u, o with | .string x, .bool true => x.size + 1 | _, _ => 0)
        case atStart => exact ⟨parS S, par S, rfl, rfl, HJ7⟩
        case round =>
          obtain ⟨up, ok, rfl, rfl, HJ⟩ := hrel
          cases ok with
          | true =>
            have hr0 : Pm.right up = 0 := by
              obtain ⟨_, _, _, _, _, _, _, _, h6, _⟩ := HJ.out
              exact h6 rfl
            have h64 := right_64 hr0
            have hadd := HJ.out.add (by omega)
            have Hhadd := Lib.hid hadd
            have Hhr0 := Lib.hid hr0
            clear hadd hr0
            go_wp2_with fail
            refine Hhadd.out.mono ?_
            rintro e w8 ⟨rfl, hJ8, _⟩
            have hpn := Hhpnt.out up h64 w8 hJ8.world.1
            rw [show (tk up).data.toList = up from rfl] at hpn
            have HhJ8 := Lib.hid hJ8
            have Hhpn := Lib.hid hpn
            clear hJ8 hpn
            go_wp2_with fail
            refine Hhpn.out.mono ?_
            rintro e w9 ⟨rfl, hb9⟩
            have HJ9 := Lib.hid (HhJ8.out.below hb9)
            clear hb9
            go_wp2_with fail
            go_roundw
            case rel => exact ⟨parS up, par up, rfl, rfl, HJ9⟩
            case measure =>
              cases hp : par up with
              | true =>
                have h1 := (Km.right_par hp).2
                show (tk (parS up)).size + 1 < (tk up).size + 1
                rw [tk_size, tk_size]
                omega
              | false => simp
          | false =>
            go_wp2_with fail
            exact ⟨⟨i + 1, by omega, by go_num, Lib.hid HJ.out.done⟩, by simp [intOf]; omega⟩
      · have hEz : ((E : Int) != 0) = true := by rw [bne_iff_ne]; omega
        have hEz2 : ((E : Int) == 0) = false := by rw [beq_eq_false_iff_ne]; omega
        obtain ⟨_, hkE⟩ := HhpE.out hE0
        go_wp2_with fail
        go_roundw
        case rel => exact ⟨i + 1, by omega, by go_num, Lib.hid ((HF.out.below (hb3.alloc hb3.size _)).skip (by rw [← HhE.out]; exact hkE) HhT.out)⟩
        case measure => simp [intOf]; omega
    · obtain rfl : i = n := by omega
      have hbn : ¬ (i : Int) < i := by omega
      obtain ⟨ps, v, m, f1, f2, f3, f4, f5, f6, f7, f8⟩ := HF.out
      have hT : ks.take i = ks := by rw [Hhnn.out, List.take_length]
      rw [hT] at f3 f6
      have hc0 := f1.cell
      have hr2 := owns_rdS f2
      obtain ⟨A1, c1, rfl⟩ := hr2.slice
      have hps : ∀ x ∈ ps, x.length ≤ 100000 := fun x hx => by
        have := right_64 (((f6 x).1 hx).right)
        omega
      have hsort := pathSort ps hps (by omega) A1 c1 wr (hG.below f7 hgl) hr2
      obtain ⟨z, hz⟩ : ∃ z, z = ps.length := ⟨_, rfl⟩
      rw [← hz] at hc0 hsort f5
      have hzk : z ≤ 70 * i := f5
      have Hhsort := Lib.hid hsort
      have Hf6 := Lib.hid f6
      have Hhz := Lib.hid hz
      have HhT := Lib.hid hT
      have Hhr2 := Lib.hid hr2
      have Hf2 := Lib.hid f2
      have Hhzk := Lib.hid hzk
      clear hsort f6 hz hT hr2 f2 hzk
      clear Hhrd Hhpar Hhpnt hps Hhnn Hhks Hhup HF
      go_wp2_with fail
      refine Hhsort.out.mono ?_
      rintro e w2 ⟨v2, xs, rfl, hv2, hb2, hI, hxl⟩
      have hFS := Km.FS.of hI Hf6.out
      have box2 : Boxed w2 (w.heap.size + 1) 56 _ := (hb2.block _ f1.lt).trans f1
      have hcb := box2.cell
      have hfb := box2.frozen
      have hM2 := f3.below hb2 f3.lt
      obtain ⟨A2, c2, rfl⟩ := hv2.slice
      obtain ⟨m2, hm2⟩ : ∃ m2, m2 = xs.length := ⟨_, rfl⟩
      rw [← hm2] at hv2 hxl ⊢
      have hv3 := rd_box (u' := .slice A2 m2 c2) box2 (fun s h => by cases h) hv2
      have box3 := box2.set (.slice A2 m2 c2)
      have hM3 := hM2.kept (Below.heap_setCell w2 ⟨w.heap.size + 1, 0, none⟩ (.slice A2 m2 c2) w.heap.size (by show w.heap.size ≠ w.heap.size + 1; omega))
      have hb3 := (f7.trans (hb2.mono f7.size)).setCell (p := ⟨w.heap.size + 1, 0, none⟩) (by show w.heap.size ≤ w.heap.size + 1; omega) (.slice A2 m2 c2)
      have hs3 : w.heap.size + 2 ≤ (w2.setCell ⟨w.heap.size + 1, 0, none⟩ (.slice A2 m2 c2)).heap.size := by rw [size_setCell]; exact Nat.le_trans f8 hb2.size
      rw [show w2.heap.size = (w2.setCell ⟨w.heap.size + 1, 0, none⟩ (.slice A2 m2 c2)).heap.size from (size_setCell _ _ _).symm] at hv3
      have HhFS := Lib.hid hFS
      have HhM3 := Lib.hid hM3
      have Hhb3 := Lib.hid hb3
      have Hhv3 := Lib.hid hv3
      have Hhm2 := Lib.hid hm2
      have Hbox3 := Lib.hid box3
      clear hFS hM3 hb3 hv3 hm2 box3
      clear hM2 hv2 hI f1 f3 f4 f5 f7 hbn hb2 box2 hc0 Hf2 Hhr2
      go_upto_region 18 with fail
      clear hcb hfb
      generalize w2.setCell ⟨w.heap.size + 1, 0, none⟩ (.slice A2 m2 c2) = w3 at *
      have hc3 := Hbox3.out.cell
      go_wp2_with fail
      go_loopw [12, 57] (fun vo iv wr => ∃ (i : Nat) (V : Value), V = vo ∧ i ≤ m2 ∧ iv = .int .i64 (i : Int) ∧ Hid (Below w3.heap.size w3 wr) ∧ Hid (wr.ownsRow w3.heap.size 80 4 V i (entsV ks (xs.take i)))) (fun _ iv _ => m2 - (intOf iv).toNat)
      case atStart => exact ⟨0, _, rfl, by omega, rfl, Below.refl _ _, World.ownsRow_nil _ _ _ _⟩
      case round =>
        obtain ⟨i, V, rfl, hi, rfl, HB, HO⟩ := hrel
        have hbi : (0 : Int) ≤ i := by omega
        by_cases hin : i < m2
        · obtain ⟨b, off, hA2, hcn, hbb, hcell⟩ := Hhv3.out.at_ hin
          have hil : i < xs.length := by rw [← Hhm2.out]; exact hin
          obtain ⟨x, hx⟩ : ∃ x, x = xs[i] := ⟨_, rfl⟩
          have hxc := (HB.out.cell (p := ⟨b, off + i, none⟩) hbb).trans (hcell i _ (pv_get xs i hil))
          rw [← hx] at hxc
          obtain ⟨X, hX⟩ : ∃ X, X = tk x := ⟨_, rfl⟩
          rw [show (⟨x.toArray⟩ : ByteArray) = X from hX.symm] at hxc
          have hbn : (i : Int) < m2 := by omega
          have k1 := (Kn.start wr).alloc (.cells #[.string X] 9)
          obtain ⟨oM, hoM, hMo⟩ := (HhM3.out.below HB.out HhM3.out.lt).obj
          have k2 := k1.add (blk_old wr _ hoM)
          have HK := Lib.hid k2
          have hxr : Pm.right x = 0 := ((HhFS.out.mem x).1 (by rw [hx]; exact List.getElem_mem hil)).right
          have hx64 := right_64 hxr
          have hXs : X.size ≤ 100000 := by rw [hX, tk_size]; omega
          obtain ⟨F, hF⟩ : ∃ F, F = seenV ks (.agg #[.string X, .bool false]) := ⟨_, rfl⟩
          obtain ⟨M, hM⟩ : ∃ M, M = seenV ks (.agg #[.string X, .bool true]) := ⟨_, rfl⟩
          obtain ⟨kl0, hkl0⟩ := nameKey X false hXs
          obtain ⟨kl1, hkl1⟩ := nameKey X true hXs
          have hlk0 : ∀ wS : World, wS.heap[w.heap.size]? = some oM → (Instr.lookup 120 (.map (some w.heap.size)) (.agg #[.string X, .bool false]) false).run Tryd.prog wS = .ok (.bool F) wS := fun wS h => by
            rw [hF]; exact (hMo wS h).look nameKeyed Tryd.underlying120 Tryd.underlying4 (boolZero wS) hkl0
          have hlk1 : ∀ wS : World, wS.heap[w.heap.size]? = some oM → (Instr.lookup 120 (.map (some w.heap.size)) (.agg #[.string X, .bool true]) false).run Tryd.prog wS = .ok (.bool M) wS := fun wS h => by
            rw [hM]; exact (hMo wS h).look nameKeyed Tryd.underlying120 Tryd.underlying4 (boolZero wS) hkl1
          rw [hX, seenV_at] at hF hM
          subst hA2
          have Hhx := Lib.hid hx
          have HhX := Lib.hid hX
          have Hhxr := Lib.hid hxr
          have HhF := Lib.hid hF
          have HhM := Lib.hid hM
          have Hhlk0 := Lib.hid hlk0
          have Hhlk1 := Lib.hid hlk1
          clear hx hX hxr hF hM hlk0 hlk1
          clear k1 k2 hcell hXs hkl0 hkl1 hMo hoM
          go_upto_region 21 with fail
          generalize wr.alloc (.cells #[.string X] 9) = w4 at *
          refine wp_region_abs wr.heap.size wr [(w.heap.size, oM), (wr.heap.size, .cells #[.string X] 9)] ((true, 0) :: (true, 1) :: (true, 2) :: (true, 3) :: (true, 4) :: (true, 5) :: (true, 6) :: (true, 7) :: (true, 8) :: (true, 9) :: (false, 10) :: (false, 11) :: []) (by kernel_rfl) (by kernel_rfl) HK.out.drew ?_
          clear HK
          (apply ab_pure
           · (simp only [List.getElem?_toArray, List.getElem?_cons_succ, List.getElem?_cons_zero]; rfl)
           · rfl
           · (intro wS hS; have hc := cell_row (hS.get 1 rfl) (i := 0) (v := .string X) rfl; go_simp; try exact rfl)
           simp only [Act.put, List.setIfInBounds_toArray, List.set_cons_zero, List.set_cons_succ])
          (apply ab_pure
           · (simp only [List.getElem?_toArray, List.getElem?_cons_succ, List.getElem?_cons_zero]; rfl)
           · rfl
           · (intro wS hS; go_simp; try exact rfl)
           simp only [Act.put, List.setIfInBounds_toArray, List.set_cons_zero, List.set_cons_succ])
          (apply ab_pure
           · (simp only [List.getElem?_toArray, List.getElem?_cons_succ, List.getElem?_cons_zero]; rfl)
           · rfl
           · (intro wS hS; have hc := cell_row (hS.get 1 rfl) (i := 0) (v := .string X) rfl; go_simp; try exact rfl)
           simp only [Act.put, List.setIfInBounds_toArray, List.set_cons_zero, List.set_cons_succ])
          (apply ab_pure
           · (simp only [List.getElem?_toArray, List.getElem?_cons_succ, List.getElem?_cons_zero]; rfl)
           · rfl
           · (intro wS hS; go_simp; try exact rfl)
           simp only [Act.put, List.setIfInBounds_toArray, List.set_cons_zero, List.set_cons_succ])
          (apply ab_pure
           · (simp only [List.getElem?_toArray, List.getElem?_cons_succ, List.getElem?_cons_zero]; rfl)
           · rfl
           · (intro wS hS; exact mx_look _ _ _ rfl _ rfl _ rfl _ (Hhlk0.out wS (hS.get 0 rfl)))
           simp only [Act.put, List.setIfInBounds_toArray, List.set_cons_zero, List.set_cons_succ])
          (apply ab_pure
           · (simp only [List.getElem?_toArray, List.getElem?_cons_succ, List.getElem?_cons_zero]; rfl)
           · rfl
           · (intro wS hS; go_simp; try exact rfl)
           simp only [Act.put, List.setIfInBounds_toArray, List.set_cons_zero, List.set_cons_succ])
          (apply ab_pure
           · (simp only [List.getElem?_toArray, List.getElem?_cons_succ, List.getElem?_cons_zero]; rfl)
           · rfl
           · (intro wS hS; have hc := cell_row (hS.get 1 rfl) (i := 0) (v := .string X) rfl; go_simp; try exact rfl)
           simp only [Act.put, List.setIfInBounds_toArray, List.set_cons_zero, List.set_cons_succ])
          (apply ab_pure
           · (simp only [List.getElem?_toArray, List.getElem?_cons_succ, List.getElem?_cons_zero]; rfl)
           · rfl
           · (intro wS hS; go_simp; try exact rfl)
           simp only [Act.put, List.setIfInBounds_toArray, List.set_cons_zero, List.set_cons_succ])
          (apply ab_pure
           · (simp only [List.getElem?_toArray, List.getElem?_cons_succ, List.getElem?_cons_zero]; rfl)
           · rfl
           · (intro wS hS; exact mx_look _ _ _ rfl _ rfl _ rfl _ (Hhlk1.out wS (hS.get 0 rfl)))
           simp only [Act.put, List.setIfInBounds_toArray, List.set_cons_zero, List.set_cons_succ])
          (apply ab_pure
           · (simp only [List.getElem?_toArray, List.getElem?_cons_succ, List.getElem?_cons_zero]; rfl)
           · rfl
           · (intro wS hS; go_simp; try exact rfl)
           simp only [Act.put, List.setIfInBounds_toArray, List.set_cons_zero, List.set_cons_succ])
          (apply ab_loud
           · (simp only [List.getElem?_toArray, List.getElem?_cons_succ, List.getElem?_cons_zero]; rfl)
           · rfl
           intro wS hS
           go_wp2_with fail)
          have hpb := hS.lt 1 rfl
          have hpm := hS.lt 0 rfl
          refine ab_on _ (fun x hx => List.mem_cons_of_mem _ hx) (hS.alloc _) ?_
          clear hS
          generalize wS.heap.size = pb at *
          clear wS
          have hne : ∀ x ∈ [(w.heap.size, oM), (wr.heap.size, Obj.cells #[.string X] 9 (0, 0))], x.1 ≠ pb := by
            intro x hx
            rcases List.mem_cons.1 hx with rfl | hx
            · show w.heap.size ≠ pb; omega
            · obtain rfl := List.mem_singleton.1 hx
              show wr.heap.size ≠ pb; omega
          (apply ab_loud
           · (simp only [List.getElem?_toArray, List.getElem?_cons_succ, List.getElem?_cons_zero]; rfl)
           · rfl
           intro wS hS
           go_wp2_with (refine wpList_store_row rfl 80 _ _ rfl pb #[.string X, .bool F, .bool false, .bool M] rfl rfl _ _ (hS.get 0 rfl) n80s rfl (one4 rfl rfl rfl rfl) ?_))
          refine ⟨_, .inl (by kernel_rfl), hS.row (by omega) hne #[.string X, .bool F, .bool false, .bool M], ab_end ?_⟩
          intro wE hE
          have HE := Lib.hid hE
          clear hE hS wS
          have hW3E : Below w3.heap.size w3 wE := HB.out.trans (HE.out.below.mono HB.out.size)
          have hcE := (hW3E.cell (p := ⟨w.heap.size + 1, 0, none⟩) (by show w.heap.size + 1 < w3.heap.size; omega)).trans hc3
          have hrow := HE.out.get 0 rfl
          have hcM := cell_row hrow (i := 3) (v := .bool M) rfl
          have hbs := HB.out.size
          have hdir := HhFS.out.dir i hil
          rw [← Hhx.out, ← HhM.out] at hdir
          have hent : ∀ d, d = Km.dirOf ks x → [Value.string X, .bool F, .bool d, .bool M] = entV ks x := fun d hd => by
            unfold entV
            rw [HhX.out, HhF.out, HhM.out, hd]
          have Hhne := Lib.hid hne
          have Hhdir := Lib.hid hdir
          have Hhrow := Lib.hid hrow
          have Hhent := Lib.hid hent
          have HhW3E := Lib.hid hW3E
          clear hne hdir hrow hent hW3E
          clear hc3
          cases M with
          | true =>
            have kr : Kn wr.heap.size wr [(pb, .cells #[.string X, .bool F, .bool true, .bool true] 80), (w.heap.size, oM), (wr.heap.size, .cells #[.string X] 9)] (wE.setRow pb (Array.setIfInBounds #[.string X, .bool F, .bool false, .bool true] 2 (.bool true))) := HE.out.row (by omega) Hhne.out _
            have HR := Lib.hid kr
            clear kr HE
            go_upto_region 23 with (refine kl_set rfl 4 _ _ rfl pb 2 rfl (.bool true) rfl _ _ Hhrow.out szB (by show 2 < 4; omega) rfl ?_)
            generalize wE.setRow pb (Array.setIfInBounds #[.string X, .bool F, .bool false, .bool true] 2 (.bool true)) = w5 at *
            have HOr := Lib.hid (own4_below HO.out HR.out.below)
            have hbr : w3.heap.size ≤ w5.heap.size := Nat.le_trans hbs HR.out.below.size
            have hr5 := Lib.hid (HR.out.get 0 rfl)
            have HW5 := Lib.hid (HB.out.trans (HR.out.below.mono hbs))
            have hd1 : true = Km.dirOf ks x := by simpa using Hhdir.out
            have hi16 : i < 16777216 := by have := Hhzk.out; omega
            have hnext := entsV_next (ks := ks) hil
            rw [← Hhx.out, ← Hhent.out true hd1] at hnext
            have Hhnext := Lib.hid hnext
            clear hnext
            clear HR hd1 hcE hcM
            go_wp2_with (first | refine wpList_load_row rfl 80 _ rfl pb rfl _ _ _ _ hr5.out Tryd.underlying80 rfl n80s ?_ | (at_builtin; refine kl_append1 rfl _ _ 74 rfl w3.heap.size 80 i8 (.agg #[.string ⟨#[]⟩, .bool false, .bool false, .bool false]) 4 24 Tryd.underlying74 hi8 hy0 hy1 hy2 rfl (by decide) _ i _ rfl HOr.out 1 #[.string X, .bool F, .bool true, .bool true] rfl rfl (by simp [Value.oneCell']) (by omega) (by omega) hbr ?_; intro v' w' hown' hbel hsz' hne'))
            replace hown' := (Hhnext.out ▸ hown' : w'.ownsRow w3.heap.size 80 4 v' (i + 1) (entsV ks (xs.take (i + 1))))
            have HO7 := Lib.hid hown'
            have HB7 := Lib.hid (HW5.out.trans hbel)
            clear hown' hbel HOr hr5 HW5
            go_wp2_with fail
            go_roundw
            case rel => exact ⟨i + 1, v', rfl, by omega, by go_num, HB7, HO7⟩
            case measure => simp [intOf]; omega
          | false =>
            have hrE := ((Hhv3.out.below HhW3E.out).mono HhW3E.out.size)
            have hdr := rd_drop hrE (k := i) (by omega) (if_neg (by omega))
            have hld : (xs.drop i).length = m2 - i := by rw [List.length_drop, ← Hhm2.out]
            have hxs : ∀ y ∈ xs.drop i, y.length ≤ 100000 := fun y hy => by
              have := right_64 (((HhFS.out.mem y).1 (List.mem_of_mem_drop hy)).right)
              omega
            have hbox : Boxed wE wr.heap.size 9 (.string (tk x)) := by rw [← HhX.out]; exact HE.out.get 2 rfl
            have hcf := containsFuncB 75 wr.heap.size (fun q => Pm.within q x) wE ⟨enters_of Tryd.func75 (by kernel_rfl) rfl, fun y W hW hy => withinCaught wr.heap.size x y W hy (by omega) ((hW.block _ hbox.lt).trans hbox)⟩ (xs.drop i) hxs (by have := Hhzk.out; omega) (some ⟨b, off + i, none⟩) (c2 - i) (by rw [hld]; exact hdr)
            rw [hld] at hcf
            obtain ⟨D, hD⟩ : ∃ D, D = (xs.drop i).any (fun q => Pm.within q x) := ⟨_, rfl⟩
            rw [← hD] at hcf
            have Hhcf := Lib.hid hcf
            have HhD := Lib.hid hD
            clear hcf hD
            clear hrE hdr hld hxs hbox
            go_wp2_with fail
            refine Hhcf.out.mono ?_
            rintro e w4' ⟨rfl, hb4⟩
            have k4 := HE.out.call hb4
            have kr : Kn wr.heap.size wr [(pb, .cells #[.string X, .bool F, .bool D, .bool false] 80), (w.heap.size, oM), (wr.heap.size, .cells #[.string X] 9)] (w4'.setRow pb (Array.setIfInBounds #[.string X, .bool F, .bool false, .bool false] 2 (.bool D))) := k4.row (by omega) Hhne.out _
            have HR := Lib.hid kr
            have hrow4 := Lib.hid (k4.get 0 rfl)
            clear kr HE k4 hb4 hcE hcM
            go_upto_region 23 with (refine kl_set rfl 4 _ _ rfl pb 2 rfl (.bool D) rfl _ _ hrow4.out szB (by show 2 < 4; omega) rfl ?_)
            generalize w4'.setRow pb (Array.setIfInBounds #[.string X, .bool F, .bool false, .bool false] 2 (.bool D)) = w5 at *
            have HOr := Lib.hid (own4_below HO.out HR.out.below)
            have hbr : w3.heap.size ≤ w5.heap.size := Nat.le_trans hbs HR.out.below.size
            have hr5 := Lib.hid (HR.out.get 0 rfl)
            have HW5 := Lib.hid (HB.out.trans (HR.out.below.mono hbs))
            have hd1 : D = Km.dirOf ks x := by
              have h := Hhdir.out
              rw [Bool.false_or] at h
              rw [HhD.out]; exact h
            have hi16 : i < 16777216 := by have := Hhzk.out; omega
            have hnext := entsV_next (ks := ks) hil
            rw [← Hhx.out, ← Hhent.out D hd1] at hnext
            have Hhnext := Lib.hid hnext
            clear hnext
            clear HR hd1 hrow4
            go_wp2_with (first | refine wpList_load_row rfl 80 _ rfl pb rfl _ _ _ _ hr5.out Tryd.underlying80 rfl n80s ?_ | (at_builtin; refine kl_append1 rfl _ _ 74 rfl w3.heap.size 80 i8 (.agg #[.string ⟨#[]⟩, .bool false, .bool false, .bool false]) 4 24 Tryd.underlying74 hi8 hy0 hy1 hy2 rfl (by decide) _ i _ rfl HOr.out 1 #[.string X, .bool F, .bool D, .bool false] rfl rfl (by simp [Value.oneCell']) (by omega) (by omega) hbr ?_; intro v' w' hown' hbel hsz' hne'))
            replace hown' := (Hhnext.out ▸ hown' : w'.ownsRow w3.heap.size 80 4 v' (i + 1) (entsV ks (xs.take (i + 1))))
            have HO7 := Lib.hid hown'
            have HB7 := Lib.hid (HW5.out.trans hbel)
            clear hown' hbel HOr hr5 HW5
            go_wp2_with fail
            go_roundw
            case rel => exact ⟨i + 1, v', rfl, by omega, by go_num, HB7, HO7⟩
            case measure => simp [intOf]; omega
        · obtain rfl : i = m2 := by omega
          have hbn : ¬ (i : Int) < i := by omega
          go_wp2_with fail
          go_ret
          have hx : xs.take i = xs := by rw [Hhm2.out, List.take_length]
          have h := HO.out
          rw [hx] at h
          refine ⟨_, rfl, xs, HhFS.out, ?_, Hhb3.out.trans (HB.out.mono (by omega)), ?_⟩
          · rw [← Hhm2.out]
            exact own4_base h (by omega)
          · rw [← Hhm2.out]
            have := Hhzk.out
            omega
end Go.Proofs.YtidmjepfpjfkoaaDoor

namespace Go.Proofs.YtidmjepfpjfkoaaDoor.Km
open Go
set_option linter.unusedVariables false
def ups (p : By) (k : Nat) : List By := (List.range k).map fun j => Pm.joinP ((Pm.cut p).take (j + 1))
theorem ups_next (p : By) (k : Nat) : ups p (k + 1) = ups p k ++ [Pm.joinP ((Pm.cut p).take (k + 1))] := by
  unfold ups
  rw [List.range_succ, List.map_append]
  rfl
theorem ups_zero (p : By) : ups p 0 = [] := rfl
theorem ups_length (p : By) (k : Nat) : (ups p k).length = k := by unfold ups; simp
theorem right_cut {p : By} (hr : Pm.right p = 0) : (Pm.cut p).length ≤ 6 ∧ p.length ≤ 64 := by
  unfold Pm.right at hr
  split at hr
  · split at hr
    · cases hr
    · rename_i h; omega
  · cases hr
theorem joinP_take {p : By} (hr : Pm.right p = 0) {k : Nat} (h0 : 0 < k) (hk : k ≤ (Pm.cut p).length) : Pm.joinP ((Pm.cut p).take k) = Pm.joinS ((Pm.cut p).take k) ∧ inC p (Pm.joinS ((Pm.cut p).take k)) := by
  have hne : (Pm.cut p).take k ≠ [] := by
    intro h
    have := congrArg List.length h
    rw [List.length_take] at this
    simp at this
    rcases this with h | h
    · omega
    · exact Pm.cut_ne p h
  have hno : ∀ x ∈ (Pm.cut p).take k, (47 : UInt8) ∉ x := fun x hx => Pm.cut_no p x (List.mem_of_mem_take hx)
  have hc := Pm.cut_join _ hne hno
  have hin : inC p (Pm.joinS ((Pm.cut p).take k)) := by
    rcases Nat.lt_or_ge k (Pm.cut p).length with h | h
    · refine .inr ((Pm.within_iff _ _).2 ⟨(Pm.cut p).drop k, ?_, ?_⟩)
      · intro h2
        have := congrArg List.length h2
        simp at this
        omega
      · rw [hc, List.take_append_drop]
    · rw [List.take_of_length_le h, Pm.join_cut]
      exact .inl rfl
  refine ⟨?_, hin⟩
  have hr2 := inC_right _ p _ (Nat.lt_succ_self _) hr hin
  unfold Pm.joinP Pm.joinE
  have ha : ((Pm.cut p).take k).any (fun x => x.contains 47) = false := by
    rw [List.any_eq_false]
    intro x hx h
    exact hno x hx (by simpa using h)
  rw [ha]
  simp [hr2]
theorem mem_ups {p x : By} (hr : Pm.right p = 0) : x ∈ ups p (Pm.cut p).length ↔ inC p x := by
  unfold ups
  rw [List.mem_map]
  constructor
  · rintro ⟨j, hj, rfl⟩
    have hj := List.mem_range.1 hj
    obtain ⟨h1, h2⟩ := joinP_take hr (k := j + 1) (by omega) (by omega)
    rw [h1]
    exact h2
  · intro h
    have key : ∃ j, j < (Pm.cut p).length ∧ (Pm.cut p).take (j + 1) = Pm.cut x := by
      have hx := List.length_pos_iff.2 (Pm.cut_ne x)
      rcases h with rfl | h
      · exact ⟨(Pm.cut x).length - 1, by omega, by rw [show (Pm.cut x).length - 1 + 1 = (Pm.cut x).length by omega, List.take_length]⟩
      · obtain ⟨r, hr, e⟩ := (Pm.within_iff p x).1 h
        refine ⟨(Pm.cut x).length - 1, by rw [e, List.length_append]; omega, ?_⟩
        rw [show (Pm.cut x).length - 1 + 1 = (Pm.cut x).length by omega, e, List.take_left]
    obtain ⟨j, hj, e⟩ := key
    refine ⟨j, List.mem_range.2 hj, ?_⟩
    rw [(joinP_take hr (k := j + 1) (by omega) (by omega)).1, e, Pm.join_cut]
theorem beq_dec (a b : By) : (a == b) = decide (a = b) := by
  rw [Bool.eq_iff_iff]
  simp
theorem seen_next (ks : List By) (k p : By) (d : Bool) : seen (ks ++ [k]) p d = (seen ks p d || (parE k == 0 && (parS k == p && parD k == d))) := by
  unfold seen
  rw [List.any_append]
  simp
def anyW (ks : List By) (p : By) : Bool := ks.any fun k => parE k == 0 && Pm.within (parS k) p
theorem dirOf_is (ks : List By) (p : By) : dirOf ks p = (seen ks p true || anyW ks p) := rfl
theorem anyW_next (ks : List By) (k p : By) : anyW (ks ++ [k]) p = (anyW ks p || (parE k == 0 && Pm.within (parS k) p)) := by
  unfold anyW
  rw [List.any_append]
  simp
theorem any_next (ks : List By) (k p : By) : ((ks ++ [k]).any fun k => parE k == 0 && Pm.within (parS k) p) = ((ks.any fun k => parE k == 0 && Pm.within (parS k) p) || (parE k == 0 && Pm.within (parS k) p)) := by
  rw [List.any_append]
  simp
end Go.Proofs.YtidmjepfpjfkoaaDoor.Km
