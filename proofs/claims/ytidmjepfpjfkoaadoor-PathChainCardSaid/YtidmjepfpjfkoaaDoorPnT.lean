/-
  Plain laws: sorted, then without repetitions: what path.Sort comes to.
-/
import Derived.Test.YtidmjepfpjfkoaaDoorPnS
import Derived.Lib.SlicesCompact
import Derived.Sort.Statements
namespace Go.Proofs.YtidmjepfpjfkoaaDoor.Pm
set_option linter.unusedVariables false

theorem cmp_le_trans {a b c : By} (h1 : compare a b ≤ 0) (h2 : compare b c ≤ 0) : compare a c ≤ 0 := by
  by_cases e1 : a = b
  · subst e1; exact h2
  by_cases e2 : b = c
  · subst e2; exact h1
  have g1 : compare a b < 0 := by
    rcases Int.lt_or_eq_of_le h1 with h | h
    · exact h
    · exact absurd (cut_inj (cmpL_zero _ _ h)) e1
  have g2 : compare b c < 0 := by
    rcases Int.lt_or_eq_of_le h2 with h | h
    · exact h
    · exact absurd (cut_inj (cmpL_zero _ _ h)) e2
  exact Int.le_of_lt (cmpL_trans _ _ _ g1 g2)
theorem cmp_neg (a b : By) : compare b a = - compare a b := cmpL_neg _ _
theorem cmp_eq {a b : By} (h : compare a b = 0) : a = b := cut_inj (cmpL_zero _ _ h)

theorem compactUp (d : Array By) (hs : d.toList.Pairwise fun a b => compare a b ≤ 0) : ∀ m, m ≤ d.size →
    (Lib.compactUpTo d m).Pairwise (fun a b => compare a b = -1) ∧ (∀ x, x ∈ Lib.compactUpTo d m ↔ x ∈ d.toList.take m)
  | 0, _ => by simp [Lib.compactUpTo]
  | m + 1, h => by
    obtain ⟨h1, h2⟩ := compactUp d hs m (by omega)
    have hm : m < d.size := by omega
    have hnext : d.toList.take (m + 1) = d.toList.take m ++ [d[m]!] := by
      rw [List.take_succ_eq_append_getElem (by simpa using hm)]
      congr 2
      rw [Array.getElem_toList, getElem!_pos d m hm]
    have hpair : ∀ i j (hi : i < d.size) (hj : j < d.size), i < j → compare d[i] d[j] ≤ 0 := fun i j hi hj hij => by
      have := List.pairwise_iff_getElem.1 hs i j (by simpa using hi) (by simpa using hj) hij
      simpa using this
    rw [Lib.compactUpTo_succ, hnext]
    by_cases hk : Lib.keeps d m = true
    · rw [if_pos hk]
      refine ⟨?_, fun x => by rw [List.mem_append, List.mem_append, h2 x]⟩
      rw [List.pairwise_append]
      refine ⟨h1, by simp, fun x hx y hy => ?_⟩
      obtain rfl := List.mem_singleton.1 hy
      obtain ⟨k, hk1, rfl⟩ := List.getElem_of_mem ((h2 x).1 hx)
      have hk2 : k < m ∧ k < d.size := by simp at hk1; omega
      rw [List.getElem_take, Array.getElem_toList, getElem!_pos d m hm]
      refine cmp_lt ?_
      rcases Int.lt_or_eq_of_le (hpair k m hk2.2 hm hk2.1) with h | h
      · exact h
      · exfalso
        unfold Lib.keeps at hk
        have hk3 := of_decide_eq_true hk
        rcases hk3 with h0 | hne
        · omega
        · have e := cmp_eq h
          rw [getElem!_pos d m hm, getElem!_pos d (m - 1) (by omega)] at hne
          by_cases hkm : k = m - 1
          · subst hkm; exact hne e.symm
          · have g1 := hpair k (m - 1) hk2.2 (by omega) (by omega)
            have g2 := hpair (m - 1) m (by omega) hm (by omega)
            rw [e] at g1
            have g3 := cmp_neg d[m] d[m - 1]
            exact hne (cmp_eq (show compare d[m] d[m - 1] = 0 by omega))
    · rw [if_neg hk, List.append_nil]
      refine ⟨h1, fun x => ?_⟩
      rw [h2 x, List.mem_append, List.mem_singleton]
      constructor
      · exact .inl
      · rintro (h | rfl)
        · exact h
        · by_cases h0 : m = 0
          · exact absurd (by simp [Lib.keeps, h0]) hk
          · have he : d[m]! = d[m - 1]! := by
              apply Classical.byContradiction
              intro hne
              exact hk (Lib.keeps_pos hne)
            rw [he, getElem!_pos d (m - 1) (by omega), List.mem_take_iff_getElem]
            exact ⟨m - 1, by simp; omega, by simp⟩
theorem compact_up (zs : List By) (hs : zs.Pairwise fun a b => compare a b ≤ 0) : (Lib.compact zs).Pairwise (fun a b => compare a b = -1) ∧ (∀ x, x ∈ Lib.compact zs ↔ x ∈ zs) := by
  have h := compactUp zs.toArray (by simpa using hs) zs.length (by simp)
  simpa [Lib.compact] using h

/-- a text that is no longer than what is read -/
abbrev Tx := {l : By // l.length ≤ 100000}
instance txInh : Inhabited Tx := ⟨⟨[], by simp⟩⟩
def cfT (x y : Tx) : Int := compare x.1 y.1
def ltT (x y : Tx) : Bool := decide (cfT x y < 0)
theorem ltT_swo : Sort.SWO ltT where
  irrefl x := by
    have : compare x.1 x.1 = 0 := cmpL_self _
    simp [ltT, cfT, this]
  trans x y z h1 h2 := by
    have h1 := of_decide_eq_true h1
    have h2 := of_decide_eq_true h2
    exact decide_eq_true (cmpL_trans _ _ _ h1 h2)
  ntrans x y z h1 h2 := by
    have h1 := of_decide_eq_false h1
    have h2 := of_decide_eq_false h2
    refine decide_eq_false fun h3 => ?_
    have g1 := cmp_neg x.1 y.1
    have g2 := cmp_neg y.1 z.1
    have g3 := cmp_neg x.1 z.1
    unfold cfT at h1 h2 h3
    have := cmp_le_trans (a := z.1) (b := y.1) (c := x.1) (by omega) (by omega)
    omega
theorem ltT_tot (x y : Tx) (h1 : ltT x y = false) (h2 : ltT y x = false) : x = y := by
  have h1 := of_decide_eq_false h1
  have h2 := of_decide_eq_false h2
  unfold cfT at h1 h2
  have g := cmp_neg x.1 y.1
  exact Subtype.ext (cmp_eq (by omega))
theorem sortT (L : List Tx) : (L.mergeSort fun x y => !ltT y x).Pairwise (fun a b => compare a.1 b.1 ≤ 0) := by
  have h := List.pairwise_mergeSort (le := fun x y => !ltT y x) (by
    intro a b c h1 h2
    have h1 : ltT b a = false := by simpa using h1
    have h2 : ltT c b = false := by simpa using h2
    show (!ltT c a) = true
    rw [ltT_swo.ntrans c b a h2 h1]; rfl) (by
    intro a b
    show ((!ltT b a) || (!ltT a b)) = true
    cases h1 : ltT b a with
    | false => rfl
    | true =>
      cases h2 : ltT a b with
      | false => rfl
      | true => have := ltT_swo.trans _ _ _ h1 h2; rw [ltT_swo.irrefl] at this; cases this) L
  refine h.imp fun {a b} hab => ?_
  have hab : ltT b a = false := by simpa using hab
  have h1 := of_decide_eq_false hab
  unfold cfT at h1
  have g := cmp_neg a.1 b.1
  omega
/-- the texts that are not too long, as such -/
def txs (l : List By) (h : ∀ x ∈ l, x.length ≤ 100000) : List Tx := l.attachWith _ h
theorem txs_val (l : List By) (h : ∀ x ∈ l, x.length ≤ 100000) : (txs l h).map (·.1) = l := by unfold txs; rw [List.attachWith_map_subtype_val]
/-- sorted, then compacted, what is right of them -/
def sorted (l : List By) (h : ∀ x ∈ l, x.length ≤ 100000) : List By :=
  Lib.compact (((txs (l.filter fun x => !(right x != 0)) (fun x hx => h x (List.mem_filter.1 hx).1)).mergeSort fun x y => !ltT y x).map (·.1))
theorem sorted_is (l : List By) (h : ∀ x ∈ l, x.length ≤ 100000) : IsSort l (sorted l h) := by
  have hp : (((txs (l.filter fun x => !(right x != 0)) (fun x hx => h x (List.mem_filter.1 hx).1)).mergeSort fun x y => !ltT y x).map (·.1)).Pairwise fun a b => compare a b ≤ 0 := by
    rw [List.pairwise_map]
    exact sortT _
  obtain ⟨h1, h2⟩ := compact_up _ hp
  refine ⟨h1, fun x => ?_⟩
  unfold sorted
  rw [h2 x]
  have h3 : ∀ y, y ∈ ((txs (l.filter fun x => !(right x != 0)) (fun x hx => h x (List.mem_filter.1 hx).1)).mergeSort fun x y => !ltT y x).map (·.1) ↔ y ∈ l.filter fun x => !(right x != 0) := fun y => by
    have e := txs_val (l.filter fun x => !(right x != 0)) (fun x hx => h x (List.mem_filter.1 hx).1)
    conv => rhs; rw [← e]
    exact ((List.mergeSort_perm _ _).map _).mem_iff
  rw [h3 x, List.mem_filter]
  simp
end Go.Proofs.YtidmjepfpjfkoaaDoor.Pm
