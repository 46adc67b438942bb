/-
  Plain laws: what is written is read, a path's key and marker are parsed to it.
  Plain laws: what the entries that keys tell are like.
  Walks: shoalsynclaw04.few, awake.
  Walks: shoalsynclaw04.KeyTells.
  Walks: shoalsynclaw04.KeyFolds.
  Walks: shoalsynclaw04.KeyBack.
-/
import Derived.Test.YtidmjepfpjfkoaaDoorMl
import Derived.Test.YtidmjepfpjfkoaaDoorMm
namespace Go.Proofs.YtidmjepfpjfkoaaDoor.Km
open Go
set_option linter.unusedVariables false
theorem esc_inj {a b : By} (h : esc a = esc b) : a = b := Option.some.inj (by rw [← un_esc a, h, un_esc b])
theorem unS_esc (l : By) : unS (esc l) = l := by unfold unS; rw [un_esc]; rfl
theorem unE_esc (l : By) : unE (esc l) = 0 := by unfold unE; rw [un_esc, if_neg (by simp)]
theorem esc_unS {l : By} (h : unE l = 0) : esc (unS l) = l := by
  unfold unE at h
  cases hu : un l with
  | none => rw [hu, if_pos rfl] at h; cases h
  | some m =>
    have := esc_un (l.length + 1) l m (by omega) hu
    unfold unS
    rw [hu]
    exact this
theorem wr_last (c : UInt8) : c = 47 ∨ (wr c).getLast? ≠ some 47 := all_bytes (p := fun c => c = 47 ∨ (wr c).getLast? ≠ some 47) (by decide +kernel) c
theorem wr_ne (c : UInt8) : wr c ≠ [] := fun h => by have := (wr_pos c).1; rw [h] at this; simp at this
theorem esc_app (a b : By) : esc (a ++ b) = esc a ++ esc b := by unfold esc; exact List.flatMap_append
theorem esc_last {p : By} (h : p.getLast? ≠ some 47) : (esc p).getLast? ≠ some 47 := by
  rcases List.eq_nil_or_concat p with rfl | ⟨q, c, rfl⟩
  · simp [esc]
  · rw [List.concat_eq_append] at h ⊢
    rw [List.getLast?_append] at h
    have hc : c ≠ 47 := fun e => h (by rw [e]; rfl)
    rw [esc_app, List.getLast?_append]
    have e : esc [c] = wr c := by unfold esc; simp
    rw [e]
    cases hl : (wr c).getLast? with
    | none => exact absurd (List.getLast?_eq_none_iff.1 hl) (wr_ne c)
    | some x =>
      have := (wr_last c).resolve_left hc
      rw [hl] at this
      exact this
theorem right_last {p : By} (h : Pm.right p = 0) : p.getLast? ≠ some 47 := by
  intro hl
  obtain ⟨q, rfl⟩ := List.getLast?_eq_some_iff.1 hl
  unfold Pm.right at h
  rw [Pm.cut_append, show Pm.cut [] = [[]] from rfl, List.all_append] at h
  rw [show ([[]] : List By).all Pm.part = false from rfl, Bool.and_false] at h
  simp at h
theorem sfx_last (k : By) : sfx k = decide (k.getLast? = some 47) := by
  rw [Bool.eq_iff_iff, decide_eq_true_iff]
  unfold sfx Lib.hasSuffix
  rw [List.isSuffixOf_iff_suffix, List.getLast?_eq_some_iff]
  constructor
  · rintro ⟨t, h⟩
    exact ⟨t, h.symm⟩
  · rintro ⟨t, h⟩
    exact ⟨t, h.symm⟩
theorem rst_no {k : By} (h : k.getLast? ≠ some 47) : rst k = k ∧ sfx k = false := by
  have h1 : sfx k = false := by rw [sfx_last, decide_eq_false h]
  refine ⟨?_, h1⟩
  unfold rst Lib.trimSuffix
  rw [if_neg (by rw [show Lib.hasSuffix k [47] = sfx k from rfl, h1]; simp)]
theorem rst_yes (k : By) : rst (k ++ [47]) = k ∧ sfx (k ++ [47]) = true := by
  have h1 : sfx (k ++ [47]) = true := by rw [sfx_last]; simp
  refine ⟨?_, h1⟩
  unfold rst Lib.trimSuffix
  rw [if_pos (by rw [show Lib.hasSuffix (k ++ [47]) [47] = sfx (k ++ [47]) from rfl, h1])]
  simp
theorem parse_esc {p : By} (hr : Pm.right p = 0) (hl : (esc p).length ≤ 128) : parE (esc p) = 0 ∧ parS (esc p) = p ∧ parD (esc p) = false := by
  obtain ⟨h1, h2⟩ := rst_no (esc_last (right_last hr))
  have h0 : parE (esc p) = 0 := by
    unfold parE
    rw [if_neg (by omega), h1, unE_esc, unS_esc, hr]
    simp
  refine ⟨h0, ?_, ?_⟩
  · unfold parS; rw [if_pos h0, h1, unS_esc]
  · unfold parD; rw [if_pos h0, h2]
theorem parse_mark {p : By} (hr : Pm.right p = 0) (hl : (esc p ++ [47]).length ≤ 128) : parE (esc p ++ [47]) = 0 ∧ parS (esc p ++ [47]) = p ∧ parD (esc p ++ [47]) = true := by
  obtain ⟨h1, h2⟩ := rst_yes (esc p)
  have h0 : parE (esc p ++ [47]) = 0 := by
    unfold parE
    rw [if_neg (by omega), h1, unE_esc, unS_esc, hr]
    simp
  refine ⟨h0, ?_, ?_⟩
  · unfold parS; rw [if_pos h0, h1, unS_esc]
  · unfold parD; rw [if_pos h0, h2]
theorem made_zero {p b : By} (h : madeE p b = 0) : Pm.right p = 0 ∧ (esc p ++ b).length ≤ 128 ∧ madeS p b = esc p ++ b := by
  have h' := h
  unfold madeE at h
  split at h
  · rename_i hr; exact absurd h hr
  · rename_i hr
    split at h
    · cases h
    · rename_i hl
      exact ⟨by omega, by omega, by unfold madeS; rw [if_pos h']⟩
theorem made_some {p b : By} (h : madeE p b ≠ 0) : madeS p b = [] := by unfold madeS; rw [if_neg h]
theorem made_more {p b : By} (h : madeE p [] ≠ 0) : madeE p b ≠ 0 := by
  intro hb
  obtain ⟨h1, h2, _⟩ := made_zero hb
  apply h
  unfold madeE
  rw [if_neg (by omega), if_neg (by simp at h2 ⊢; omega)]
theorem made_four {p : By} (h : madeE p [] = 0) (h2 : madeE p [47] ≠ 0) : madeE p [47] = 4 ∧ (esc p).length = 128 := by
  obtain ⟨h3, h4, _⟩ := made_zero h
  unfold madeE at h2 ⊢
  rw [if_neg (by omega)] at h2 ⊢
  simp only [List.length_append, List.length_nil, List.length_singleton, Nat.add_zero] at h2 h4 ⊢
  split at h2
  · rename_i hl
    rw [if_pos hl]
    exact ⟨rfl, by omega⟩
  · exact absurd rfl h2
theorem esc_ne {p : By} (hr : Pm.right p = 0) : esc p ≠ [] := by
  intro h
  have : unS (esc p) = p := unS_esc p
  rw [h] at this
  rw [← this] at hr
  cases hr
theorem not_mark {p q : By} (hr : Pm.right p = 0) : esc p ≠ esc q ++ [47] := fun h => by
  have := esc_last (right_last hr)
  rw [h] at this
  simp at this
/-- a key that is parsed to a path's file is just the path's key -/
theorem parse_back {k : By} (h : parE k = 0) : k = esc (parS k) ++ (if parD k then [47] else []) ∧ k.length ≤ 128 := by
  have h' := h
  unfold parE at h
  split at h
  · cases h
  · rename_i hl
    split at h
    · rename_i hu; exact absurd h (by simp)
    · rename_i hu
      refine ⟨?_, by omega⟩
      have e1 : parS k = unS (rst k) := by unfold parS; rw [if_pos h']
      have e2 : parD k = sfx k := by unfold parD; rw [if_pos h']
      rw [e1, e2, esc_unS (by omega)]
      by_cases hs : k.getLast? = some 47
      · obtain ⟨q, rfl⟩ := List.getLast?_eq_some_iff.1 hs
        rw [(rst_yes q).1, (rst_yes q).2]
        rfl
      · rw [(rst_no hs).1, (rst_no hs).2]
        simp
end Go.Proofs.YtidmjepfpjfkoaaDoor.Km

namespace Go.Proofs.YtidmjepfpjfkoaaDoor.Km
open Go
set_option linter.unusedVariables false
theorem FS.right {ks xs : List By} (h : FS ks xs) (i : Nat) (hi : i < xs.length) : Pm.right xs[i] = 0 := ((h.mem _).1 (List.getElem_mem hi)).right
theorem FS.order {ks xs : List By} (h : FS ks xs) (i : Nat) (hi : i + 1 < xs.length) : Pm.compare (xs[i]'(by omega)) xs[i + 1] = -1 := List.pairwise_iff_getElem.1 h.up i (i + 1) (by omega) hi (by omega)
/-- a file, or a directory -/
theorem FS.some_ {ks xs : List By} (h : FS ks xs) (i : Nat) (hi : i < xs.length) : (seen ks xs[i] false || dirOf ks xs[i]) = true := by
  obtain ⟨k, hk, h1, h2⟩ := (h.mem _).1 (List.getElem_mem hi)
  rw [Bool.or_eq_true]
  rcases h2 with h2 | h2
  · cases hd : parD k with
    | false => exact .inl (seen_iff.2 ⟨k, hk, h1, h2.symm, hd⟩)
    | true =>
      right
      unfold dirOf
      rw [seen_iff.2 ⟨k, hk, h1, h2.symm, hd⟩]
      rfl
  · right
    unfold dirOf
    rw [Bool.or_eq_true]
    right
    rw [List.any_eq_true]
    exact ⟨k, hk, by rw [h1, h2]; rfl⟩
/-- is the next one within it? -/
def nextW (xs : List By) (i : Nat) : Bool := match xs[i]?, xs[i + 1]? with
  | some x, some y => Pm.within y x
  | _, _ => false
theorem nextW_yes {xs : List By} {i : Nat} (hi : i + 1 < xs.length) : nextW xs i = Pm.within xs[i + 1] (xs[i]'(by omega)) := by
  unfold nextW
  rw [List.getElem?_eq_getElem (show i < xs.length by omega), List.getElem?_eq_getElem hi]
theorem nextW_no {xs : List By} {i : Nat} (hi : xs.length ≤ i + 1) : nextW xs i = false := by
  unfold nextW
  rw [List.getElem?_eq_none hi]
  cases xs[i]? <;> rfl
theorem FS.next {ks xs : List By} (h : FS ks xs) (i : Nat) (hi : i < xs.length) : dirOf ks xs[i] = (seen ks xs[i] true || nextW xs i) := by
  rw [← h.dir i hi]
  congr 1
  rw [Bool.eq_iff_iff, List.any_eq_true]
  constructor
  · rintro ⟨q, hq, hw⟩
    obtain ⟨j, hj, e⟩ := List.getElem_of_mem hq
    rw [List.getElem_drop] at e
    rw [List.length_drop] at hj
    have hj0 : j ≠ 0 := by
      rintro rfl
      simp only [Nat.add_zero] at e
      rw [← e, Pm.within_self] at hw
      cases hw
    have h1 := h.order i (by omega)
    rw [nextW_yes (by omega)]
    refine Pm.within_between h1 ?_ hw
    rcases Nat.lt_or_ge 1 j with h2 | h2
    · have := List.pairwise_iff_getElem.1 h.up (i + 1) (i + j) (by omega) (by omega) (by omega)
      rw [e] at this
      omega
    · obtain rfl : j = 1 := by omega
      rw [← e, show Pm.compare xs[i + 1] xs[i + 1] = 0 from Pm.cmpL_self _]
      exact Int.le_refl _
  · intro hn
    by_cases hl : i + 1 < xs.length
    · rw [nextW_yes hl] at hn
      exact ⟨xs[i + 1], List.mem_iff_getElem.2 ⟨1, by rw [List.length_drop]; omega, by rw [List.getElem_drop]⟩, hn⟩
    · rw [nextW_no (by omega)] at hn
      cases hn
theorem esc_cons (c : UInt8) (l : By) : esc (c :: l) = wr c ++ esc l := rfl
theorem esc_within {p x : By} (h : inC p x) : (esc x).length ≤ (esc p).length := by
  rcases h with rfl | h
  · exact Nat.le_refl _
  · unfold Pm.within at h
    rw [List.isPrefixOf_iff_prefix] at h
    obtain ⟨r, rfl⟩ := h
    rw [esc_app, esc_app, List.length_append, List.length_append]
    omega
theorem FS.short {ks xs : List By} (h : FS ks xs) (i : Nat) (hi : i < xs.length) : (esc xs[i]).length ≤ 128 := by
  obtain ⟨k, hk, h1, h2⟩ := (h.mem _).1 (List.getElem_mem hi)
  have h3 := esc_within h2
  obtain ⟨h4, h5⟩ := parse_back h1
  have : (esc (parS k)).length ≤ k.length := by
    conv => rhs; rw [h4]
    rw [List.length_append]; omega
  omega
theorem FS.made {ks xs : List By} (h : FS ks xs) (i : Nat) (hi : i < xs.length) : madeE xs[i] [] = 0 ∧ madeS xs[i] [] = esc xs[i] := by
  have h0 : madeE xs[i] [] = 0 := by
    unfold madeE
    rw [if_neg (by rw [h.right i hi]; simp), List.append_nil, if_neg (by have := h.short i hi; omega)]
  exact ⟨h0, by rw [(made_zero h0).2.2, List.append_nil]⟩
/-- a file is one whose key is there -/
theorem FS.file {ks xs : List By} (h : FS ks xs) (i : Nat) (hi : i < xs.length) : seen ks xs[i] false = ks.any (fun k => k == esc xs[i]) := by
  rw [Bool.eq_iff_iff, seen_iff, List.any_eq_true]
  constructor
  · rintro ⟨k, hk, h1, h2, h3⟩
    obtain ⟨h4, _⟩ := parse_back h1
    refine ⟨k, hk, ?_⟩
    rw [beq_iff_eq]
    rw [h2, h3] at h4
    simpa using h4
  · rintro ⟨k, hk, e⟩
    rw [beq_iff_eq] at e
    subst e
    obtain ⟨a, b, c⟩ := parse_esc (h.right i hi) (h.short i hi)
    exact ⟨_, hk, a, b, c⟩
end Go.Proofs.YtidmjepfpjfkoaaDoor.Km

namespace Go.Proofs.YtidmjepfpjfkoaaDoor
open Go Go.RowKit
set_option maxHeartbeats 8000000
set_option maxRecDepth 20000
set_option linter.unusedVariables false
set_option linter.unusedSimpArgs false

/-- few and short -/
def fewK (ps : List (List UInt8)) : Bool := decide (ps.length ≤ 40) && ps.all fun x => decide (x.length ≤ 200)
theorem fewK_no {ps : List (List UInt8)} {i : Nat} (hi : i < ps.length) (h : 40 ≤ i ∨ 200 < ps[i].length) : fewK ps = false := by
  unfold fewK
  rcases h with h | h
  · rw [decide_eq_false (by omega)]; rfl
  · rw [Bool.and_eq_false_iff]
    right
    rw [List.all_eq_false]
    exact ⟨_, List.getElem_mem hi, by simpa using h⟩
theorem fewK_yes {ps : List (List UInt8)} (h0 : ps.length ≤ 40) (h : ∀ j (hj : j < ps.length), ps[j].length ≤ 200) : fewK ps = true := by
  unfold fewK
  rw [decide_eq_true h0, Bool.true_and, List.all_eq_true]
  intro x hx
  obtain ⟨j, hj, rfl⟩ := List.getElem_of_mem hx
  exact decide_eq_true (h j hj)
theorem few04 (ps : List (List UInt8)) (A : Option Addr) (c : Nat) (w : World) (hrd : RdS (.slice A ps.length c) ps.length (pv ps) w.heap.size w) :
    Calls Tryd.prog 36 #[.slice A ps.length c] w fun e w' => e = .returned (.bool (fewK ps)) ∧ w' = w := by
  obtain ⟨n, hn⟩ : ∃ n, n = ps.length := ⟨_, rfl⟩
  obtain ⟨r, hr⟩ : ∃ r, r = fewK ps := ⟨_, rfl⟩
  rw [← hn] at hrd ⊢
  rw [← hr]
  have Hhn := Lib.hid hn
  have Hhr := Lib.hid hr
  have Hhrd := Lib.hid hrd
  clear hn hr hrd
  go_enter Tryd.func36, Tryd.ntmps36
  go_wp2_with fail
  go_loopw [3] (fun iv wr => ∃ i : Nat, i ≤ n ∧ i ≤ 40 ∧ iv = .int .i64 (i : Int) ∧ Hid (∀ j (hj : j < ps.length), j < i → ps[j].length ≤ 200) ∧ wr = w) (fun iv _ => n - (intOf iv).toNat)
  case atStart => exact ⟨0, by omega, by omega, rfl, fun j _ h => absurd h (by omega), rfl⟩
  case round =>
    obtain ⟨i, hi, hi6, rfl, HB, rfl⟩ := hrel
    by_cases hin : i < n
    · have hil : i < ps.length := by rw [← Hhn.out]; exact hin
      obtain ⟨b, off, hA, hcn, hbb, hcell⟩ := Hhrd.out.at_ hin
      have hx := hcell i _ (pv_get ps i hil)
      obtain ⟨x, hxx⟩ : ∃ x : ByteArray, x = ⟨ps[i].toArray⟩ := ⟨_, rfl⟩
      rw [← hxx] at hx
      have hxs : x.size = ps[i].length := by rw [hxx]; show ps[i].toArray.size = _; simp
      subst hA
      have hbn : (i : Int) < n := by omega
      clear hcell
      have Hhxx := Lib.hid hxx
      have Hhxs := Lib.hid hxs
      clear hxx hxs
      by_cases h60 : (40 : Int) ≤ i
      · have HR : Hid (r = false) := by show r = false; rw [Hhr.out, fewK_no hil (.inl (by omega))]
        go_wp2_with fail
        go_ret
        exact ⟨by rw [HR.out]; rfl, rfl⟩
      · by_cases h300 : (200 : Int) < (x.size : Int)
        · have HR : Hid (r = false) := by show r = false; rw [Hhr.out, fewK_no hil (.inr (by have := Hhxs.out; omega))]
          go_wp2_with fail
          go_ret
          exact ⟨by rw [HR.out]; rfl, rfl⟩
        · have HB2 : Hid (∀ j (hj : j < ps.length), j < i + 1 → ps[j].length ≤ 200) := fun j hj h => by
            rcases Nat.lt_or_ge j i with h3 | h3
            · exact HB.out j hj h3
            · obtain rfl : j = i := by omega
              have := Hhxs.out
              omega
          go_wp2_with fail
          go_roundw
          case rel => exact ⟨i + 1, by omega, by omega, by go_num, HB2, trivial⟩
          case measure => simp [intOf]; omega
    · obtain rfl : i = n := by omega
      have hbn : ¬ (i : Int) < i := by omega
      have HR : Hid (r = true) := by show r = true; rw [Hhr.out, fewK_yes (by rw [← Hhn.out]; omega) (fun j hj => HB.out j hj (by rw [Hhn.out]; exact hj))]
      go_wp2_with fail
      go_ret
      exact ⟨by rw [HR.out]; rfl, rfl⟩

def kE1 : List UInt8 := [97, 32, 98, 47, 99]
def kE2 : List UInt8 := [97, 37, 50, 48, 98, 47, 99]
def kKs : List (List UInt8) := [[97, 47, 98], [97, 47], [63]]
theorem ak_made : Km.madeS kE1 [] = kE2 ∧ Km.madeE kE1 [] = 0 ∧ Km.madeS [100] [47] = [100, 47] ∧ Km.madeE [100] [47] = 0 := by decide +kernel
theorem ak_parse : (Km.parS kE2 = kE1 ∧ Km.parD kE2 = false ∧ Km.parE kE2 = 0) ∧ (Km.parS [100, 47] = [100] ∧ Km.parD [100, 47] = true ∧ Km.parE [100, 47] = 0) ∧ Km.parE [97, 32, 98] = 2 := by decide +kernel
theorem ak_rest : Km.unS [37, 50, 53] = [37] ∧ Km.unE [37, 50, 53] = 0 ∧ Km.esc [37] = [37, 50, 53] := by decide +kernel
theorem ak_keys : (Km.parS [97, 47, 98] = [97, 47, 98] ∧ Km.parE [97, 47, 98] = 0) ∧ (Km.parS [97, 47] = [97] ∧ Km.parE [97, 47] = 0) ∧ Km.parE [63] ≠ 0 := by decide +kernel
theorem ak_ups : Km.ups [97, 47, 98] (Pm.cut [97, 47, 98]).length = [[97], [97, 47, 98]] ∧ Km.ups [97] (Pm.cut [97]).length = [[97]] ∧ Pm.right [97, 47, 98] = 0 ∧ Pm.right [97] = 0 := by decide +kernel
theorem ak_fs : Km.FS kKs [[97], [97, 47, 98]] := by
  obtain ⟨⟨a1, a2⟩, ⟨a3, a4⟩, a5⟩ := ak_keys
  obtain ⟨b1, b2, b3, b4⟩ := ak_ups
  refine ⟨by decide +kernel, fun x => ?_⟩
  have h1 := Km.mem_ups (x := x) b3
  have h2 := Km.mem_ups (x := x) b4
  rw [b1] at h1
  rw [b2] at h2
  unfold Km.InF kKs
  constructor
  · intro h
    exact ⟨_, List.mem_cons_self .., a2, by rw [a1]; exact h1.1 h⟩
  · rintro ⟨k, hk, e, hi⟩
    rcases List.mem_cons.1 hk with rfl | hk
    · rw [a1] at hi; exact h1.2 hi
    · rcases List.mem_cons.1 hk with rfl | hk
      · rw [a3] at hi
        have := h2.2 hi
        rw [List.mem_singleton.1 this]
        exact List.mem_cons_self ..
      · rw [List.mem_singleton.1 hk] at e
        exact absurd e a5
theorem ak_ents : entV kKs [97] = [Value.string (tk [97]), .bool false, .bool true, .bool true] ∧ entV kKs [97, 47, 98] = [Value.string (tk [97, 47, 98]), .bool true, .bool false, .bool false] := by
  have h : Km.seen kKs [97] false = false ∧ Km.dirOf kKs [97] = true ∧ Km.seen kKs [97] true = true ∧ Km.seen kKs [97, 47, 98] false = true ∧ Km.dirOf kKs [97, 47, 98] = false ∧ Km.seen kKs [97, 47, 98] true = false := by decide +kernel
  obtain ⟨h1, h2, h3, h4, h5, h6⟩ := h
  unfold entV
  rw [h1, h2, h3, h4, h5, h6]
  exact ⟨rfl, rfl⟩
theorem akFold (W : World) (h : Gl (W.alloc (.cells (pv kKs).toArray 9))) :
    Calls Tryd.prog 37 #[.slice (some ⟨W.heap.size, 0, none⟩) 3 3] (W.alloc (.cells (pv kKs).toArray 9)) fun e w' =>
      ∃ g c, e = .returned (.slice (some ⟨g, 0, none⟩) 2 c) ∧ g < w'.heap.size ∧ w'.rangeAt g 0 [Value.string (tk [97]), .bool false, .bool true, .bool true] ∧ w'.rangeAt g 4 [Value.string (tk [97, 47, 98]), .bool true, .bool false, .bool false] ∧
        Below (W.alloc (.cells (pv kKs).toArray 9)).heap.size (W.alloc (.cells (pv kKs).toArray 9)) w' :=
  (keyFold kKs (by decide) (by decide) _ _ _ h (rd_fresh W kKs)).mono fun e w' ⟨v, h1, xs, h2, h3, h4, _⟩ => by
    obtain rfl := h2.unique ak_fs
    obtain ⟨A, c, rfl, h5⟩ := owns_wide (entV_length kKs) h3
    obtain ⟨g, rfl, h6, h7⟩ := h5 0 (by decide)
    obtain ⟨g', e', h8, h9⟩ := h5 1 (by decide)
    injection e' with e'
    injection e' with e'
    subst e'
    refine ⟨g, c, h1, h6, ?_, ?_, h4⟩
    · rw [← ak_ents.1]; exact h7
    · rw [← ak_ents.2]; exact h9
theorem awake04 (w : World) (hG : Gl w) :
    Calls Tryd.prog 26 #[] w fun e w' => e = .returned (.bool true) ∧ Below w.heap.size w w' := by
  have hgl := hG.lt
  have hG2 : ∀ W, Below w.heap.size w W → Gl W := fun W h => hG.below h hgl
  have c1 := fun W (h : Below w.heap.size w W) => keyOf (tk kE1) (by decide) W (hG2 W h)
  rw [show (tk kE1).data.toList = kE1 from rfl, ak_made.1, ak_made.2.1] at c1
  have c2 := fun W (h : Below w.heap.size w W) => keyMarker (tk [100]) (by decide) W (hG2 W h)
  rw [show (tk [100]).data.toList = [100] from rfl, ak_made.2.2.1, ak_made.2.2.2] at c2
  have c3 := fun W (h : Below w.heap.size w W) => keyParse (tk kE2) (by decide) W (hG2 W h)
  rw [show (tk kE2).data.toList = kE2 from rfl, ak_parse.1.1, ak_parse.1.2.1, ak_parse.1.2.2] at c3
  have c4 := fun W (h : Below w.heap.size w W) => keyParse (tk [100, 47]) (by decide) W (hG2 W h)
  rw [show (tk [100, 47]).data.toList = [100, 47] from rfl, ak_parse.2.1.1, ak_parse.2.1.2.1, ak_parse.2.1.2.2] at c4
  have c5 := fun W (h : Below w.heap.size w W) => keyParse (tk [97, 32, 98]) (by decide) W (hG2 W h)
  rw [show (tk [97, 32, 98]).data.toList = [97, 32, 98] from rfl, ak_parse.2.2] at c5
  generalize tk (Km.parS [97, 32, 98]) = S5 at c5
  generalize Km.parD [97, 32, 98] = D5 at c5
  have c6 := fun W => keyUnescape (tk [37, 50, 53]) (by decide) W
  rw [show (tk [37, 50, 53]).data.toList = [37, 50, 53] from rfl, ak_rest.1, ak_rest.2.1] at c6
  have c7 := fun W (h : Below w.heap.size w (W.alloc (.cells (pv kKs).toArray 9))) => akFold W (hG2 _ h)
  have c8 := fun W => keyEscape (tk [37]) (by decide) W
  rw [show (tk [37]).data.toList = [37] from rfl, ak_rest.2.2] at c8
  rw [show tk kE1 = ⟨#[97, 32, 98, 47, 99]⟩ from rfl, show tk kE2 = ⟨#[97, 37, 50, 48, 98, 47, 99]⟩ from rfl] at c1
  rw [show tk kE2 = ⟨#[97, 37, 50, 48, 98, 47, 99]⟩ from rfl, show tk kE1 = ⟨#[97, 32, 98, 47, 99]⟩ from rfl] at c3
  rw [show tk [100] = ⟨#[100]⟩ from rfl, show tk [100, 47] = ⟨#[100, 47]⟩ from rfl] at c2
  rw [show tk [100, 47] = ⟨#[100, 47]⟩ from rfl, show tk [100] = ⟨#[100]⟩ from rfl] at c4
  rw [show tk [97] = ⟨#[97]⟩ from rfl, show tk [97, 47, 98] = ⟨#[97, 47, 98]⟩ from rfl] at c7
  have Hc1 := Lib.hid c1
  have Hc2 := Lib.hid c2
  have Hc3 := Lib.hid c3
  have Hc4 := Lib.hid c4
  have Hc5 := Lib.hid c5
  have Hc6 := Lib.hid c6
  have Hc7 := Lib.hid c7
  have Hc8 := Lib.hid c8
  have HhG2 := Lib.hid hG2
  clear c1 c2 c3 c4 c5 c6 c7 c8 hG2
  clear hG
  go_enter Tryd.func26, Tryd.ntmps26
  go_wp2_with fail
  refine (Hc1.out _ (Below.refl _ _)).mono ?_
  rintro e w1 ⟨rfl, b1⟩
  go_wp2_with fail
  refine (Hc2.out _ b1).mono ?_
  rintro e w2 ⟨rfl, b2⟩
  have b3 := b1.trans (b2.mono b1.size)
  clear b1 b2
  go_wp2_with fail
  refine (Hc3.out _ b3).mono ?_
  rintro e w3 ⟨rfl, b4⟩
  have b5 := b3.trans (b4.mono b3.size)
  have k5 : Kn w.heap.size w [] w3 := ⟨b5, b5.size, fun _ h => by cases h⟩
  have k6 := k5.alloc (.cells #[.string ⟨#[97, 32, 98, 47, 99]⟩, .bool false] 65)
  clear b3 b4 b5 k5
  go_upto_region 4 with fail
  generalize w3.alloc (.cells #[.string ⟨#[97, 32, 98, 47, 99]⟩, .bool false] 65) = w4 at *
  generalize w3.heap.size = p5 at *
  go_wp2_with fail
  refine (Hc4.out _ k6.below).mono ?_
  rintro e w5 ⟨rfl, b7⟩
  have k8 := (k6.call b7).alloc (.cells #[.string ⟨#[100]⟩, .bool true] 65)
  clear k6 b7
  go_upto_region 5 with fail
  generalize w5.alloc (.cells #[.string ⟨#[100]⟩, .bool true] 65) = w6 at *
  generalize w5.heap.size = p7 at *
  go_wp2_with fail
  refine (Hc5.out _ k8.below).mono ?_
  rintro e w7 ⟨rfl, b9⟩
  have k10 := (k8.call b9).alloc' (.cells #[.string S5, .bool D5] 65)
  clear k8 b9
  go_upto_region 6 with fail
  generalize w7.alloc (.cells #[.string S5, .bool D5] 65) = w8 at *
  generalize w7.heap.size = p9 at *
  go_wp2_with fail
  refine (Hc6.out _).mono ?_
  rintro e w9 ⟨rfl, b11⟩
  have k12 := k10.call b11
  have k13 := k12.alloc' (.cells (pv kKs).toArray 9)
  clear k10 b11 k12
  go_wp2_with fail
  refine (Hc7.out _ k13.below).mono ?_
  rintro e w10 ⟨g, c, rfl, hgg, r1, r2, b14⟩
  have HGG := Lib.hid hgg
  clear hgg
  have k15 := k13.call b14
  have hl1 := k15.lt 0 rfl
  have q1 := cell_row (k15.get 1 rfl) (i := 0) (v := .string ⟨#[97, 32, 98, 47, 99]⟩) rfl
  have q2 := cell_row (k15.get 1 rfl) (i := 1) (v := .bool false) rfl
  have q3 := cell_row (k15.get 0 rfl) (i := 0) (v := .string ⟨#[100]⟩) rfl
  have q4 := cell_row (k15.get 0 rfl) (i := 1) (v := .bool true) rfl
  have KK := Lib.hid k15
  have R1 := Lib.hid r1
  have R2 := Lib.hid r2
  clear k13 b14 k15 r1 r2
  go_wp2_with fail
  refine (Hc8.out _).mono ?_
  rintro e w11 ⟨rfl, b16⟩
  have BB := Lib.hid (KK.out.below.trans (b16.mono KK.out.below.size))
  have hg := HGG.out
  have x0 := (b16.cell (p := ⟨g, 0, none⟩) hg).trans (R1.out 0 _ rfl)
  have x1 := (b16.cell (p := ⟨g, 1, none⟩) hg).trans (R1.out 1 _ rfl)
  have x2 := (b16.cell (p := ⟨g, 2, none⟩) hg).trans (R1.out 2 _ rfl)
  have x3 := (b16.cell (p := ⟨g, 3, none⟩) hg).trans (R1.out 3 _ rfl)
  have x4 := (b16.cell (p := ⟨g, 4, none⟩) hg).trans (R2.out 0 _ rfl)
  have x5 := (b16.cell (p := ⟨g, 5, none⟩) hg).trans (R2.out 1 _ rfl)
  have x6 := (b16.cell (p := ⟨g, 6, none⟩) hg).trans (R2.out 2 _ rfl)
  have x7 := (b16.cell (p := ⟨g, 7, none⟩) hg).trans (R2.out 3 _ rfl)
  clear b16 hg
  go_wp2_with fail
  go_ret
  exact ⟨rfl, BB.out⟩
end Go.Proofs.YtidmjepfpjfkoaaDoor

namespace Go.Proofs.YtidmjepfpjfkoaaDoor
open Go Go.RowKit
set_option maxHeartbeats 8000000
set_option maxRecDepth 20000
set_option linter.unusedVariables false
set_option linter.unusedSimpArgs false

theorem keyTells (s : ByteArray) (w : World) (hG : Gl w) :
    Calls Tryd.prog 7 #[.string s] w fun e w' => e = .returned (.bool true) ∧ Below w.heap.size w w' := by
  have hgl := hG.lt
  have hG2 : ∀ W, Below w.heap.size w W → Gl W := fun W h => hG.below h hgl
  have ca := awake04 w hG
  have c1 := fun (h : s.size ≤ 300) W => keyUnescape s (by omega) W
  have c2 := fun (h : s.size ≤ 300) W => refUnescape s (by omega) W
  have c3 := fun (h : s.size ≤ 300) W (hb : Below w.heap.size w W) => keyOf s (by omega) W (hG2 W hb)
  have c4 := fun (h : s.size ≤ 300) W => refMade s false (by omega) W
  have c5 := fun (h : s.size ≤ 300) W (hb : Below w.heap.size w W) => keyMarker s (by omega) W (hG2 W hb)
  have c6 := fun (h : s.size ≤ 300) W => refMade s true (by omega) W
  have c7 := fun (h : s.size ≤ 300) W (hb : Below w.heap.size w W) => keyParse s (by omega) W (hG2 W hb)
  have c8 := fun (h : s.size ≤ 300) W => refParse s (by omega) W
  have c9 := fun (h : s.size ≤ 300) W => keyEscape s (by omega) W
  have cA := fun (h : s.size ≤ 300) W => refEscape s (by omega) W
  simp only [Bool.false_eq_true, if_false, if_true] at c4 c6
  generalize s.data.toList = l at *
  generalize (⟨(Km.unS l).toArray⟩ : ByteArray) = U at *
  generalize ((Km.unE l : Nat) : Int) = uE at *
  generalize tk (Km.madeS l []) = O at *
  generalize ((Km.madeE l [] : Nat) : Int) = oE at *
  generalize tk (Km.madeS l [47]) = M at *
  generalize ((Km.madeE l [47] : Nat) : Int) = mE at *
  generalize tk (Km.parS l) = P at *
  generalize Km.parD l = D at *
  generalize ((Km.parE l : Nat) : Int) = pE at *
  generalize (⟨(Km.esc l).toArray⟩ : ByteArray) = E at *
  have Hca := Lib.hid ca
  have Hc1 := Lib.hid c1
  have Hc2 := Lib.hid c2
  have Hc3 := Lib.hid c3
  have Hc4 := Lib.hid c4
  have Hc5 := Lib.hid c5
  have Hc6 := Lib.hid c6
  have Hc7 := Lib.hid c7
  have Hc8 := Lib.hid c8
  have Hc9 := Lib.hid c9
  have HcA := Lib.hid cA
  have HhG2 := Lib.hid hG2
  clear ca c1 c2 c3 c4 c5 c6 c7 c8 c9 cA hG2
  clear hG
  go_enter Tryd.func7, Tryd.ntmps7
  go_wp2_with fail
  refine Hca.out.mono ?_
  rintro e w1 ⟨rfl, b1⟩
  by_cases hs : (300 : Int) < (s.size : Int)
  · go_wp2_with fail
    go_ret
    exact ⟨rfl, b1⟩
  · have hs3 : s.size ≤ 300 := by omega
    go_wp2_with fail
    refine (Hc1.out hs3 _).mono ?_
    rintro e w2 ⟨rfl, b2⟩
    have b3 := b1.trans (b2.mono b1.size)
    clear b1 b2
    go_wp2_with fail
    refine (Hc2.out hs3 _).mono ?_
    rintro e w4 ⟨rfl, b4⟩
    have b5 := b3.trans (b4.mono b3.size)
    clear b3 b4
    go_wp2_with fail
    refine (Hc3.out hs3 _ b5).mono ?_
    rintro e w6 ⟨rfl, b6⟩
    have b7 := b5.trans (b6.mono b5.size)
    clear b5 b6
    go_wp2_with fail
    refine (Hc4.out hs3 _).mono ?_
    rintro e w8 ⟨rfl, b8⟩
    have b9 := b7.trans (b8.mono b7.size)
    clear b7 b8
    go_wp2_with fail
    refine (Hc5.out hs3 _ b9).mono ?_
    rintro e wa ⟨rfl, ba⟩
    have bb := b9.trans (ba.mono b9.size)
    clear b9 ba
    go_wp2_with fail
    refine (Hc6.out hs3 _).mono ?_
    rintro e wc ⟨rfl, bc⟩
    have bd := bb.trans (bc.mono bb.size)
    clear bb bc
    go_wp2_with fail
    refine (Hc7.out hs3 _ bd).mono ?_
    rintro e we ⟨rfl, be⟩
    have bf := bd.trans (be.mono bd.size)
    have k1 : Kn w.heap.size w [] we := ⟨bf, bf.size, fun _ h => by cases h⟩
    have k2 := k1.alloc (.cells #[.string P, .bool D] 65)
    clear bd be bf k1
    go_upto_region 12 with fail
    generalize we.alloc (.cells #[.string P, .bool D] 65) = w20 at *
    generalize we.heap.size = p1 at *
    go_wp2_with fail
    refine (Hc8.out hs3 _).mono ?_
    rintro e w21 ⟨rfl, b21⟩
    have k3 := (k2.call b21).alloc (.cells #[.string P, .bool D] 68)
    clear b21 k2
    go_upto_region 13 with fail
    generalize w21.alloc (.cells #[.string P, .bool D] 68) = w22 at *
    generalize w21.heap.size = p2 at *
    go_wp2_with fail
    refine (Hc9.out hs3 _).mono ?_
    rintro e w23 ⟨rfl, b23⟩
    have k4 := k3.call b23
    clear b23 k3
    go_wp2_with fail
    refine (HcA.out hs3 _).mono ?_
    rintro e w24 ⟨rfl, b24⟩
    have k5 := k4.call b24
    clear b24 k4
    have q1 := cell_row (k5.get 1 rfl) (i := 0) (v := .string P) rfl
    have q2 := cell_row (k5.get 1 rfl) (i := 1) (v := .bool D) rfl
    have q3 := cell_row (k5.get 0 rfl) (i := 0) (v := .string P) rfl
    have q4 := cell_row (k5.get 0 rfl) (i := 1) (v := .bool D) rfl
    have BB := Lib.hid k5.below
    clear k5
    go_wp2_with fail
    go_ret
    exact ⟨rfl, BB.out⟩
end Go.Proofs.YtidmjepfpjfkoaaDoor

namespace Go.Proofs.YtidmjepfpjfkoaaDoor
open Go Go.RowKit
set_option maxHeartbeats 8000000
set_option maxRecDepth 20000
set_option linter.unusedVariables false
set_option linter.unusedSimpArgs false

theorem fewK_is {ps : List (List UInt8)} (h : fewK ps = true) : ps.length ≤ 40 ∧ ∀ x ∈ ps, x.length ≤ 200 := by
  unfold fewK at h
  simp only [Bool.and_eq_true, decide_eq_true_eq, List.all_eq_true] at h
  exact h
theorem keyFolds (ks : List (List UInt8)) (A : Option Addr) (c : Nat) (w : World) (hG : Gl w) (hrd : RdS (.slice A ks.length c) ks.length (pv ks) w.heap.size w) :
    Calls Tryd.prog 8 #[.slice A ks.length c] w fun e w' => e = .returned (.bool true) ∧ Below w.heap.size w w' := by
  have hgl := hG.lt
  have hG2 : ∀ W, Below w.heap.size w W → Gl W := fun W h => hG.below h hgl
  have ca := awake04 w hG
  have cf := fun W (h : Below w.heap.size w W) => few04 ks A c W ((hrd.below h).mono h.size)
  have c1 := fun W (h : fewK ks = true) (hb : Below w.heap.size w W) A' c' => keyFold ks (fun k hk => by have := (fewK_is h).2 k hk; omega) (by have := (fewK_is h).1; omega) A' c' W (hG2 W hb)
  have c2 := fun W (h : fewK ks = true) (hb : Below w.heap.size w W) => refFold ks (fun k hk => by have := (fewK_is h).2 k hk; omega) (by have := (fewK_is h).1; omega) A c W ((hrd.below hb).mono hb.size)
  have hn40 := fun (h : fewK ks = true) => (fewK_is h).1
  have hrdW := fun W (h : Below w.heap.size w W) => (hrd.below h).mono h.size
  obtain ⟨n, hn⟩ : ∃ n, n = ks.length := ⟨_, rfl⟩
  rw [← hn] at cf c1 c2 hn40 hrdW ⊢
  obtain ⟨i0, hi0, hz0, hz1, hz2⟩ := info_parts info_str
  obtain ⟨F, hF⟩ : ∃ F, F = fewK ks := ⟨_, rfl⟩
  rw [← hF] at cf c1 c2 hn40
  have Hca := Lib.hid ca
  have Hcf := Lib.hid cf
  have Hc1 := Lib.hid c1
  have Hc2 := Lib.hid c2
  have HhG2 := Lib.hid hG2
  have HhrdW := Lib.hid hrdW
  have Hhn := Lib.hid hn
  have HhF := Lib.hid hF
  clear ca cf c1 c2 hG2 hrdW hn hF
  clear hG hrd
  go_enter Tryd.func8, Tryd.ntmps8
  go_wp2_with fail
  refine Hca.out.mono ?_
  rintro e w1 ⟨rfl, b1⟩
  go_wp2_with fail
  refine (Hcf.out _ b1).mono ?_
  rintro e w2 ⟨rfl, rfl⟩
  cases F with
  | false =>
    go_wp2_with fail
    go_ret
    exact ⟨rfl, b1⟩
  | true =>
    have hn40' := hn40 rfl
    clear hn40
    have s1 := b1.size
    have b2 := b1.alloc s1 (.cells #[] 9)
    have hO := owns_empty w2 w.heap.size 9 s1
    have hR := HhrdW.out _ b2
    have s2 : w.heap.size ≤ (w2.alloc (.cells #[] 9)).heap.size := b2.size
    go_wp2_with (refine kl_append_rdg rfl _ _ 56 rfl w.heap.size 9 i0 (.string ⟨#[]⟩) 16 Tryd.underlying56 hi0 hz0 hz1 hz2 rfl _ 0 [] rfl hO _ n (pv ks) _ rfl hR (pv_one _) (by omega) (by omega) s2 ?_; intro v3 w3 hown hgr hb3)
    rw [List.nil_append, Nat.zero_add] at hown
    have hr3 := owns_rdS hown
    have b3 := b2.trans hb3
    clear hO hR hown hgr hb3 b1 b2 s1 s2
    obtain ⟨A3, c3, rfl⟩ := hr3.slice
    have hS1 := Lib.hid (Hc1.out w3 trivial b3 A3 c3 hr3)
    clear hr3
    go_wp2_with fail
    refine hS1.out.mono ?_
    rintro e w4 ⟨v4, rfl, xs, hFS, ho4, hb4, hl4⟩
    have b4 := b3.trans (hb4.mono b3.size)
    clear b3 hb4 hS1
    obtain ⟨A4, c4, rfl, hat4⟩ := owns_wide (entV_length ks) ho4
    obtain ⟨m, hm⟩ : ∃ m, m = xs.length := ⟨_, rfl⟩
    rw [← hm] at hl4 ⊢
    have HhFS := Lib.hid hFS
    have Hhat4 := Lib.hid hat4
    have Hhm := Lib.hid hm
    clear hFS hat4 hm
    clear ho4
    go_wp2_with fail
    refine (Hc2.out w4 trivial b4).mono ?_
    rintro e w5 ⟨v5, rfl, ys, hFS2, ho5, hb5⟩
    obtain rfl := hFS2.unique HhFS.out
    obtain ⟨A5, c5, rfl, hat5⟩ := owns_wide (entV_length ks) ho5
    have hat6 : ∀ i (hi : i < ys.length), ∃ g, A4 = some ⟨g, 0, none⟩ ∧ g < w5.heap.size ∧ w5.rangeAt g (i * 4) (entV ks ys[i]) := fun i hi => by
      obtain ⟨g, e1, e2, e3⟩ := Hhat4.out i hi
      exact ⟨g, e1, Nat.lt_of_lt_of_le e2 hb5.size, fun j u hj => (hb5.cell (p := ⟨g, i * 4 + j, none⟩) e2).trans (e3 j u hj)⟩
    have b6 := b4.trans (hb5.mono b4.size)
    rw [← Hhm.out]
    have Hhat6 := Lib.hid hat6
    have Hhat5 := Lib.hid hat5
    have Hb6 := Lib.hid b6
    clear hat6 hat5 b6
    clear ho5 b4 hb5 Hhat4 hFS2
    go_wp2_with fail
    go_loopw [5] (fun iv wr => ∃ i : Nat, i ≤ m ∧ iv = .int .i64 (i : Int) ∧ Hid (Below w5.heap.size w5 wr)) (fun iv _ => m - (intOf iv).toNat)
    case atStart => exact ⟨0, by omega, rfl, Below.refl _ _⟩
    case round =>
      obtain ⟨i, hi, rfl, HB⟩ := hrel
      have hbi : (0 : Int) ≤ i := by omega
      by_cases hin : i < m
      · have hil : i < ys.length := by rw [← Hhm.out]; exact hin
        obtain ⟨g4, hA4, hg4, hr4⟩ := Hhat6.out i hil
        obtain ⟨g5, hA5, hg5, hr5⟩ := Hhat5.out i hil
        obtain ⟨X, F, D, M, he⟩ := entV_is ks ys[i]
        rw [he] at hr4 hr5
        have h4 := range_below hr4 HB.out hg4
        have h5 := range_below hr5 HB.out hg5
        have hg4' := Nat.lt_of_lt_of_le hg4 HB.out.size
        have hg5' := Nat.lt_of_lt_of_le hg5 HB.out.size
        have hbn : (i : Int) < m := by omega
        have H4 := Lib.hid (fun wS (hS : Kn wr.heap.size wr [] wS) => range_below h4 hS.below hg4')
        have H5 := Lib.hid (fun wS (hS : Kn wr.heap.size wr [] wS) => range_below h5 hS.below hg5')
        have K := Lib.hid (Kn.start wr)
        subst hA4 hA5
        clear hr4 hr5 h4 h5 hg4 hg5 hg4' hg5' he
        go_upto_region 11 with fail
        refine wp_region_abs wr.heap.size wr [] ((true, 0) :: (true, 1) :: (true, 2) :: (true, 3) :: (true, 4) :: (true, 5) :: (true, 6) :: (true, 7) :: (true, 8) :: []) (by kernel_rfl) (by kernel_rfl) K.out.drew ?_
        clear K
        (apply ab_pure
         · (simp only [List.getElem?_toArray, List.getElem?_cons_succ, List.getElem?_cons_zero]; rfl)
         · rfl
         · (intro wS hS; go_simp; try exact rfl)
         simp only [Act.put, List.setIfInBounds_toArray, List.set_cons_zero, List.set_cons_succ])
        (apply ab_pure
         · (simp only [List.getElem?_toArray, List.getElem?_cons_succ, List.getElem?_cons_zero]; rfl)
         · rfl
         · (intro wS hS; go_simp; try exact rfl)
         simp only [Act.put, List.setIfInBounds_toArray, List.set_cons_zero, List.set_cons_succ])
        (apply ab_pure
         · (simp only [List.getElem?_toArray, List.getElem?_cons_succ, List.getElem?_cons_zero]; rfl)
         · rfl
         · (intro wS hS; go_simp; try exact rfl)
         simp only [Act.put, List.setIfInBounds_toArray, List.set_cons_zero, List.set_cons_succ])
        (apply ab_pure
         · (simp only [List.getElem?_toArray, List.getElem?_cons_succ, List.getElem?_cons_zero]; rfl)
         · rfl
         · (intro wS hS; exact ab_load_mid 80 _ rfl g4 (i * 4) rfl #[.string X, .bool F, .bool D, .bool M] _ (H4.out wS hS) Tryd.underlying80 rfl n80s)
         simp only [Act.put, List.setIfInBounds_toArray, List.set_cons_zero, List.set_cons_succ])
        (apply ab_pure
         · (simp only [List.getElem?_toArray, List.getElem?_cons_succ, List.getElem?_cons_zero]; rfl)
         · rfl
         · (intro wS hS; go_simp; try exact rfl)
         simp only [Act.put, List.setIfInBounds_toArray, List.set_cons_zero, List.set_cons_succ])
        (apply ab_pure
         · (simp only [List.getElem?_toArray, List.getElem?_cons_succ, List.getElem?_cons_zero]; rfl)
         · rfl
         · (intro wS hS; go_simp; try exact rfl)
         simp only [Act.put, List.setIfInBounds_toArray, List.set_cons_zero, List.set_cons_succ])
        (apply ab_pure
         · (simp only [List.getElem?_toArray, List.getElem?_cons_succ, List.getElem?_cons_zero]; rfl)
         · rfl
         · (intro wS hS; go_simp; try exact rfl)
         simp only [Act.put, List.setIfInBounds_toArray, List.set_cons_zero, List.set_cons_succ])
        (apply ab_pure
         · (simp only [List.getElem?_toArray, List.getElem?_cons_succ, List.getElem?_cons_zero]; rfl)
         · rfl
         · (intro wS hS; exact ab_load_mid 79 _ rfl g5 (i * 4) rfl #[.string X, .bool F, .bool D, .bool M] _ (H5.out wS hS) Tryd.underlying79 rfl n79s)
         simp only [Act.put, List.setIfInBounds_toArray, List.set_cons_zero, List.set_cons_succ])
        (apply ab_pure (v := .bool false)
         · (simp only [List.getElem?_toArray, List.getElem?_cons_succ, List.getElem?_cons_zero]; rfl)
         · rfl
         · (intro wS hS; go_simp; done)
         simp only [Act.put, List.setIfInBounds_toArray, List.set_cons_zero, List.set_cons_succ])
        refine ab_end ?_
        intro wE hE
        have HB2 := Lib.hid (HB.out.trans (hE.below.mono HB.out.size))
        clear hE HB
        go_wp2_with fail
        go_roundw
        case rel => exact ⟨i + 1, by omega, by go_num, HB2⟩
        case measure => simp [intOf]; omega
      · obtain rfl : i = m := by omega
        have hbn : ¬ (i : Int) < i := by omega
        go_wp2_with fail
        go_ret
        exact ⟨rfl, Hb6.out.trans (HB.out.mono Hb6.out.size)⟩
end Go.Proofs.YtidmjepfpjfkoaaDoor

namespace Go.Proofs.YtidmjepfpjfkoaaDoor
open Go Go.RowKit
set_option maxHeartbeats 8000000
set_option maxRecDepth 20000
set_option linter.unusedVariables false
set_option linter.unusedSimpArgs false

theorem keyBack (s t : ByteArray) (w : World) (hG : Gl w) :
    Calls Tryd.prog 9 #[.string s, .string t] w fun e w' => e = .returned (.bool true) ∧ Below w.heap.size w w' := by
  have hgl := hG.lt
  have hG2 : ∀ W, Below w.heap.size w W → Gl W := fun W h => hG.below h hgl
  have ca := awake04 w hG
  obtain ⟨l, hl⟩ : ∃ l, l = s.data.toList := ⟨_, rfl⟩
  obtain ⟨r, hr⟩ : ∃ r, r = t.data.toList := ⟨_, rfl⟩
  have hsl : s = tk l := by rw [hl, tk_self]
  have htl : t = tk r := by rw [hr, tk_self]
  have hln : l.length = s.size := by rw [hl]; rfl
  have hrn : r.length = t.size := by rw [hr]; rfl
  obtain ⟨Es, hEs⟩ : ∃ E, E = tk (Km.esc l) := ⟨_, rfl⟩
  obtain ⟨Et, hEt⟩ : ∃ E, E = tk (Km.esc r) := ⟨_, rfl⟩
  have c1 := fun (h : s.size ≤ 300) W => keyEscape s (by omega) W
  have c2 := fun (h : t.size ≤ 300) W => keyEscape t (by omega) W
  rw [← hl, show (⟨(Km.esc l).toArray⟩ : ByteArray) = Es from hEs.symm] at c1
  rw [← hr, show (⟨(Km.esc r).toArray⟩ : ByteArray) = Et from hEt.symm] at c2
  have hEl : Es.data.toList = Km.esc l := by rw [hEs]; rfl
  have hEz : Es.size ≤ 3 * s.size := by rw [hEs, tk_size]; have := Km.esc_le l; omega
  have c3 := fun (h : s.size ≤ 300) W => keyUnescape Es (by omega) W
  rw [hEl, Km.unS_esc, Km.unE_esc, show (⟨l.toArray⟩ : ByteArray) = s from hsl.symm] at c3
  have hst : (Es.toList == Et.toList) = (s.toList == t.toList) := by
    rw [hEs, hEt, hsl, htl, tk_list, tk_list, tk_list, tk_list, Bool.eq_iff_iff, beq_iff_eq, beq_iff_eq]
    exact ⟨Km.esc_inj, fun h => by rw [h]⟩
  have c4 := fun (h : s.size ≤ 300) W => keyUnescape s (by omega) W
  rw [← hl] at c4
  obtain ⟨Ws, hWs⟩ : ∃ E, E = tk (Km.unS l) := ⟨_, rfl⟩
  obtain ⟨uE, huE⟩ : ∃ u, u = Km.unE l := ⟨_, rfl⟩
  rw [show (⟨(Km.unS l).toArray⟩ : ByteArray) = Ws from hWs.symm, ← huE] at c4
  have c5 : uE = 0 → s.size ≤ 300 → ∀ W, Calls Tryd.prog 34 #[.string Ws] W fun e w' => e = .returned (.string s) ∧ Below W.heap.size W w' := fun h0 h W => by
    have h1 := keyEscape Ws (by rw [hWs, tk_size]; have := Km.unS_le l; omega) W
    rw [show Ws.data.toList = Km.unS l by rw [hWs]; rfl, Km.esc_unS (by rw [← huE]; exact h0), show (⟨l.toArray⟩ : ByteArray) = s from hsl.symm] at h1
    exact h1
  have c6 := fun (h : s.size ≤ 300) W (hb : Below w.heap.size w W) => keyOf s (by omega) W (hG2 W hb)
  have c7 := fun (h : s.size ≤ 300) W (hb : Below w.heap.size w W) => keyMarker s (by omega) W (hG2 W hb)
  have c8 := fun (h : t.size ≤ 300) W (hb : Below w.heap.size w W) => keyOf t (by omega) W (hG2 W hb)
  rw [← hl] at c6 c7
  rw [← hr] at c8
  obtain ⟨k, hk⟩ : ∃ k, k = tk (Km.madeS l []) := ⟨_, rfl⟩
  obtain ⟨f, hf⟩ : ∃ f, f = Km.madeE l [] := ⟨_, rfl⟩
  obtain ⟨m, hm⟩ : ∃ k, k = tk (Km.madeS l [47]) := ⟨_, rfl⟩
  obtain ⟨g, hg⟩ : ∃ f, f = Km.madeE l [47] := ⟨_, rfl⟩
  obtain ⟨q, hq⟩ : ∃ k, k = tk (Km.madeS r []) := ⟨_, rfl⟩
  obtain ⟨h, hh⟩ : ∃ f, f = Km.madeE r [] := ⟨_, rfl⟩
  rw [← hk, ← hf] at c6
  rw [← hm, ← hg] at c7
  rw [← hq, ← hh] at c8
  -- f ≠ 0
  have f1 : f ≠ 0 → k = ⟨#[]⟩ ∧ m = ⟨#[]⟩ ∧ g ≠ 0 := fun h0 => by
    have h1 : Km.madeE l [] ≠ 0 := by rw [← hf]; exact h0
    have h2 := Km.made_more (b := [47]) h1
    exact ⟨by rw [hk, Km.made_some h1]; rfl, by rw [hm, Km.made_some h2]; rfl, by rw [hg]; exact h2⟩
  have f0 : f = 0 → k = Es ∧ k.size ≤ 128 ∧ (∀ W, Below w.heap.size w W → Calls Tryd.prog 32 #[.string k] W fun e w' => e = .returned (.tuple #[.agg #[.string s, .bool false], .int .i64 0]) ∧ Below W.heap.size W w') := fun h0 => by
    obtain ⟨h1, h2, h3⟩ := Km.made_zero (p := l) (b := []) (by rw [← hf]; exact h0)
    rw [List.append_nil] at h2 h3
    obtain ⟨p1, p2, p3⟩ := Km.parse_esc h1 h2
    refine ⟨by rw [hk, h3, hEs], by rw [hk, h3, tk_size]; exact h2, fun W hb => ?_⟩
    have h4 := keyParse k (by rw [hk, h3, tk_size]; omega) W (hG2 W hb)
    rw [show k.data.toList = Km.esc l by rw [hk, h3]; rfl, p1, p2, p3, ← hsl] at h4
    exact h4
  have f2 : h = 0 → q = Et ∧ (Et.toList == m.toList) = false := fun h0 => by
    obtain ⟨h1, h2, h3⟩ := Km.made_zero (p := r) (b := []) (by rw [← hh]; exact h0)
    rw [List.append_nil] at h2 h3
    refine ⟨by rw [hq, h3, hEt], ?_⟩
    rw [hEt, hm, tk_list, tk_list, beq_eq_false_iff_ne]
    by_cases hm0 : Km.madeE l [47] = 0
    · rw [(Km.made_zero hm0).2.2]
      exact Km.not_mark h1
    · rw [Km.made_some hm0]
      exact Km.esc_ne h1
  have f3 : f = 0 → g ≠ 0 → g = 4 ∧ k.size = 128 := fun h0 hg0 => by
    obtain ⟨h1, h2⟩ := Km.made_four (p := l) (by rw [← hf]; exact h0) (by rw [← hg]; exact hg0)
    refine ⟨by rw [hg, h1], ?_⟩
    rw [(f0 h0).1, hEs, tk_size]
    exact h2
  have f4 : g = 0 → m = Es ++ ⟨#[47]⟩ ∧ (∀ W, Below w.heap.size w W → Calls Tryd.prog 32 #[.string m] W fun e w' => e = .returned (.tuple #[.agg #[.string s, .bool true], .int .i64 0]) ∧ Below W.heap.size W w') := fun h0 => by
    obtain ⟨h1, h2, h3⟩ := Km.made_zero (p := l) (b := [47]) (by rw [← hg]; exact h0)
    obtain ⟨p1, p2, p3⟩ := Km.parse_mark h1 h2
    refine ⟨by rw [hm, h3, hEs]; exact (tk_app _ _).symm, fun W hb => ?_⟩
    have h4 := keyParse m (by rw [hm, h3, tk_size]; omega) W (hG2 W hb)
    rw [show m.data.toList = Km.esc l ++ [47] by rw [hm, h3]; rfl, p1, p2, p3, ← hsl] at h4
    exact h4
  obtain ⟨b, hb⟩ : ∃ b, b = (s.toList == t.toList) := ⟨_, rfl⟩
  rw [← hb] at hst
  have hbb := hb.symm
  clear hb hl hr hsl htl hln hrn hEs hEt hEl hWs huE hk hf hm hg hq hh
  have Hca := Lib.hid ca
  have Hc1 := Lib.hid c1
  have Hc2 := Lib.hid c2
  have Hc3 := Lib.hid c3
  have Hc4 := Lib.hid c4
  have Hc5 := Lib.hid c5
  have Hc6 := Lib.hid c6
  have Hc7 := Lib.hid c7
  have Hc8 := Lib.hid c8
  have Hf0 := Lib.hid f0
  have Hf1 := Lib.hid f1
  have Hf2 := Lib.hid f2
  have Hf3 := Lib.hid f3
  have Hf4 := Lib.hid f4
  have HhG2 := Lib.hid hG2
  clear ca c1 c2 c3 c4 c5 c6 c7 c8 f0 f1 f2 f3 f4 hG2
  clear hG
  go_enter Tryd.func9, Tryd.ntmps9
  go_wp2_with fail
  refine Hca.out.mono ?_
  rintro e w1 ⟨rfl, b1⟩
  by_cases hs : (300 : Int) < (s.size : Int)
  · go_wp2_with fail
    go_ret
    exact ⟨rfl, b1⟩
  by_cases ht : (300 : Int) < (t.size : Int)
  · go_wp2_with fail
    go_ret
    exact ⟨rfl, b1⟩
  have hs3 : s.size ≤ 300 := by omega
  have ht3 : t.size ≤ 300 := by omega
  go_wp2_with fail
  refine (Hc1.out hs3 _).mono ?_
  rintro e w2 ⟨rfl, b2⟩
  have b3 := b1.trans (b2.mono b1.size)
  clear b1 b2
  go_wp2_with fail
  refine (Hc3.out hs3 _).mono ?_
  rintro e w4 ⟨rfl, b4⟩
  have b5 := b3.trans (b4.mono b3.size)
  clear b3 b4
  go_wp2_with fail
  refine (Hc1.out hs3 _).mono ?_
  rintro e w6 ⟨rfl, b6⟩
  have b7 := b5.trans (b6.mono b5.size)
  clear b5 b6
  go_wp2_with fail
  refine (Hc2.out ht3 _).mono ?_
  rintro e w8 ⟨rfl, b8⟩
  have b9 := b7.trans (b8.mono b7.size)
  clear b7 b8
  go_wp2_with fail
  refine (Hc4.out hs3 _).mono ?_
  rintro e wa ⟨rfl, ba⟩
  have bb := b9.trans (ba.mono b9.size)
  clear b9 ba
  go_upto_region 9 with fail
  go_cut [65] (fun v wx => v = .bool false ∧ Hid (Below w.heap.size w wx))
  case first =>
    by_cases hu : uE = 0
    · have hu0 : ((uE : Int) == 0) = true := by rw [hu]; rfl
      have hc5 := Hc5.out hu hs3
      have Hhc5 := Lib.hid hc5
      clear hc5
      clear hu
      go_wp2_with fail
      refine (Hhc5.out _).mono ?_
      rintro e wb ⟨rfl, bc⟩
      have bd := bb.trans (bc.mono bb.size)
      clear bb bc
      go_wp2_with fail
      go_meet
      case rel => exact ⟨rfl, bd⟩
    · have hu0 : ((uE : Int) == 0) = false := by rw [beq_eq_false_iff_ne]; omega
      clear hu
      go_wp2_with fail
      go_meet
      case rel => exact ⟨rfl, bb⟩
  case rest =>
    obtain ⟨rfl, hB⟩ := hcut
    have be := hB.out
    clear hB bb
    go_wp2_with fail
    refine (Hc6.out hs3 _ be).mono ?_
    rintro e wc ⟨rfl, bc⟩
    have bd := be.trans (bc.mono be.size)
    clear be bc
    go_wp2_with fail
    refine (Hc7.out hs3 _ bd).mono ?_
    rintro e wd ⟨rfl, be⟩
    have bf := bd.trans (be.mono bd.size)
    clear bd be
    go_wp2_with fail
    refine (Hc8.out ht3 _ bf).mono ?_
    rintro e we ⟨rfl, bg⟩
    have bh := bf.trans (bg.mono bf.size)
    clear bf bg
    by_cases hf : f = 0
    · obtain ⟨rfl, hk128, hpk⟩ := Hf0.out hf
      have hf0 : ((f : Int) != 0) = false := by rw [hf]; rfl
      have F3 := Lib.hid (Hf3.out hf)
      have Hhpk := Lib.hid hpk
      clear hpk
      clear hf Hf1 Hf0
      go_wp2_with fail
      refine (Hhpk.out _ bh).mono ?_
      rintro e wf ⟨rfl, bi⟩
      have bj := bh.trans (bi.mono bh.size)
      have k1 : Kn w.heap.size w [] wf := ⟨bj, bj.size, fun _ h => by cases h⟩
      have k2 := k1.alloc (.cells #[.string s, .bool false] 65)
      clear bh bi bj k1
      go_upto_region 17 with fail
      generalize wf.alloc (.cells #[.string s, .bool false] 65) = w20 at *
      generalize wf.heap.size = p1 at *
      have q1 := cell_row (k2.get 0 rfl) (i := 0) (v := .string s) rfl
      have q2 := cell_row (k2.get 0 rfl) (i := 1) (v := .bool false) rfl
      have B2 := Lib.hid k2.below
      clear k2
      go_cut [127] (fun v wx => v = .bool false ∧ wx = w20)
      case first =>
        by_cases hh : h = 0
        · obtain ⟨rfl, hlm⟩ := Hf2.out hh
          have hh0 : ((h : Int) == 0) = true := by rw [hh]; rfl
          clear hh
          go_wp2_with fail
          go_meet
          case rel => exact ⟨rfl, rfl⟩
        · have hh0 : ((h : Int) == 0) = false := by rw [beq_eq_false_iff_ne]; omega
          clear hh
          go_wp2_with fail
          go_meet
          case rel => exact ⟨rfl, rfl⟩
      case rest =>
        obtain ⟨rfl, rfl⟩ := hcut
        clear q1 q2
        by_cases hg : g = 0
        · have hg0 : ((g : Int) != 0) = false := by rw [hg]; rfl
          obtain ⟨rfl, hpm⟩ := Hf4.out hg
          have Hhpm := Lib.hid hpm
          clear hpm
          clear hg F3 Hf4
          go_wp2_with fail
          refine (Hhpm.out _ B2.out).mono ?_
          rintro e wg ⟨rfl, bi⟩
          have bj := B2.out.trans (bi.mono B2.out.size)
          have k1 : Kn w.heap.size w [] wg := ⟨bj, bj.size, fun _ h => by cases h⟩
          have k2 := k1.alloc (.cells #[.string s, .bool true] 65)
          clear bi bj k1
          go_upto_region 22 with fail
          generalize wg.alloc (.cells #[.string s, .bool true] 65) = w30 at *
          generalize wg.heap.size = p2 at *
          have q1 := cell_row (k2.get 0 rfl) (i := 0) (v := .string s) rfl
          have q2 := cell_row (k2.get 0 rfl) (i := 1) (v := .bool true) rfl
          have B3 := Lib.hid k2.below
          clear k2
          go_wp2_with fail
          go_ret
          exact ⟨rfl, B3.out⟩
        · have hg0 : ((g : Int) != 0) = true := by rw [bne_iff_ne]; omega
          obtain ⟨rfl, hk8⟩ := F3.out hg
          clear hg F3 Hf4
          have hk8' : (k.size : Int) = 128 := by omega
          go_wp2_with fail
          go_ret
          exact ⟨rfl, B2.out⟩
    · have hf0 : ((f : Int) != 0) = true := by rw [bne_iff_ne]; omega
      obtain ⟨rfl, rfl, hg⟩ := Hf1.out hf
      have hg0 : ((g : Int) != 0) = true := by rw [bne_iff_ne]; omega
      clear hf hg
      go_wp2_with fail
      go_ret
      exact ⟨rfl, bh⟩
end Go.Proofs.YtidmjepfpjfkoaaDoor
