/-
  Plain laws: an upload of parts.
-/
import Derived.Test.YtgdjfijkbemkeaaEtM
import Derived.Maps.StringElems
namespace Go.Proofs.Ytgdjfijkbemkeaa.Um
open Go Go.RowKit
set_option linter.unusedVariables false

/-- parts by their numbers; an empty one isn't there -/
abbrev Up := Nat → List UInt8
def none0 : Up := fun _ => []
def put (U : Up) (n : Nat) (s : List UInt8) : Up := fun k => if k = n then s else U k
def thereTo (U : Up) : Nat → List Nat
  | 0 => []
  | m + 1 => thereTo U m ++ (if U (m + 1) ≠ [] then [m + 1] else [])
def there (U : Up) : List Nat := thereTo U 64
/-- how many -/
def cntTo (U : Up) : Nat → Nat
  | 0 => 0
  | m + 1 => cntTo U m + if U (m + 1) ≠ [] then 1 else 0
def cnt (U : Up) : Nat := cntTo U 64
theorem thereTo_length (U : Up) : ∀ m, (thereTo U m).length = cntTo U m
  | 0 => rfl
  | m + 1 => by
    unfold thereTo cntTo
    rw [List.length_append, thereTo_length U m]
    split <;> rfl
theorem cntTo_le (U : Up) : ∀ m, cntTo U m ≤ m
  | 0 => Nat.le_refl _
  | m + 1 => by
    have := cntTo_le U m
    unfold cntTo
    split <;> omega
theorem mem_thereTo (U : Up) : ∀ m k, k ∈ thereTo U m ↔ 1 ≤ k ∧ k ≤ m ∧ U k ≠ []
  | 0, k => by unfold thereTo; simp; omega
  | m + 1, k => by
    unfold thereTo
    rw [List.mem_append, mem_thereTo U m k]
    by_cases h : U (m + 1) = []
    · rw [if_neg (by simp [h])]
      simp
      intro h1 h2
      constructor
      · omega
      · intro h3
        by_cases hk : k = m + 1
        · subst hk; exact absurd h h2
        · omega
    · rw [if_pos h]
      simp
      constructor
      · rintro (⟨h1, h2, h3⟩ | rfl)
        · exact ⟨h1, by omega, h3⟩
        · exact ⟨by omega, by omega, h⟩
      · rintro ⟨h1, h2, h3⟩
        by_cases hk : k = m + 1
        · exact .inr hk
        · exact .inl ⟨h1, by omega, h3⟩
theorem thereTo_sorted (U : Up) : ∀ m, (thereTo U m).Pairwise (· < ·)
  | 0 => List.Pairwise.nil
  | m + 1 => by
    unfold thereTo
    rw [List.pairwise_append]
    refine ⟨thereTo_sorted U m, ?_, ?_⟩
    · split <;> simp
    · intro a ha b hb
      have := (mem_thereTo U m a).1 ha
      split at hb
      · simp at hb; omega
      · cases hb

/-- what holds of each upload -/
structure Good (U : Up) : Prop where
  out : ∀ k, k = 0 ∨ 64 < k → U k = []
  len : ∀ k, (U k).length ≤ 16
theorem Good.none0 : Good none0 := ⟨fun _ _ => rfl, fun _ => by unfold Um.none0; simp⟩
theorem Good.put {U : Up} (h : Good U) {n : Nat} (h1 : 1 ≤ n) (h2 : n ≤ 64) {s : List UInt8} (hs : s.length ≤ 16) : Good (put U n s) :=
  ⟨fun k hk => by unfold Um.put; rw [if_neg (by omega)]; exact h.out k hk, fun k => by unfold Um.put; split; exact hs; exact h.len k⟩

theorem cntTo_put (U : Up) {n : Nat} (h1 : 1 ≤ n) {s : List UInt8} (hs : s ≠ []) : ∀ m, cntTo (put U n s) m = cntTo U m + (if n ≤ m ∧ U n = [] then 1 else 0)
  | 0 => by unfold cntTo; rw [if_neg (by omega)]
  | m + 1 => by
    unfold cntTo
    rw [cntTo_put U h1 hs m]
    by_cases hn : n = m + 1
    · subst hn
      have e1 : put U (m + 1) s (m + 1) = s := by unfold put; rw [if_pos rfl]
      rw [e1, if_pos hs, if_neg (by omega)]
      by_cases hu : U (m + 1) = []
      · rw [if_neg (fun h => h hu), if_pos ⟨Nat.le_refl _, hu⟩]
      · rw [if_pos hu, if_neg (fun h => hu h.2)]
    · have e1 : put U n s (m + 1) = U (m + 1) := by unfold put; rw [if_neg (fun h => hn h.symm)]
      rw [e1]
      have e2 : (n ≤ m + 1 ∧ U n = []) ↔ (n ≤ m ∧ U n = []) := ⟨fun h => ⟨by omega, h.2⟩, fun h => ⟨by omega, h.2⟩⟩
      simp only [e2]
      omega

/-! ### Put -/
def putE (n : Int) (s : List UInt8) : Nat := if n < 1 ∨ 64 < n then 1 else if 16 < s.length then 4 else if s = [] then 3 else 0
def putU (U : Up) (n : Int) (s : List UInt8) : Up := if putE n s = 0 then put U n.toNat s else U
def putD (n : Int) (s : List UInt8) : List UInt8 := if putE n s = 0 then Sm.digest s else []
theorem putE_ok {n : Int} {s : List UInt8} (h : putE n s = 0) : 1 ≤ n ∧ n ≤ 64 ∧ s.length ≤ 16 ∧ s ≠ [] := by
  unfold putE at h
  split at h
  · omega
  · split at h
    · omega
    · split at h
      · omega
      · rename_i h3
        exact ⟨by omega, by omega, by omega, h3⟩
theorem Good.putU {U : Up} (h : Good U) (n : Int) (s : List UInt8) : Good (putU U n s) := by
  unfold Um.putU
  split
  · rename_i h0
    obtain ⟨h1, h2, h3, _⟩ := putE_ok h0
    exact h.put (by omega) (by omega) h3
  · exact h

/-! ### Done -/
def allThere (U : Up) (n : Nat) : Prop := ∀ i, i < n → U (i + 1) ≠ []
def allLike (U : Up) (ds : List (List UInt8)) (n : Nat) : Prop := ∀ i, i < n → Sm.digest (U (i + 1)) = ds.getD i []
def allFull (U : Up) (n : Nat) : Prop := ∀ i, i + 1 < n → (U (i + 1)).length = 16
def cat (U : Up) : Nat → List UInt8
  | 0 => []
  | m + 1 => cat U m ++ U (m + 1)
open Classical in
noncomputable def doneE (U : Up) (ds : List (List UInt8)) : Nat :=
  if ds.length = 0 then 3 else if ¬ allThere U ds.length then 5 else if ¬ allLike U ds ds.length then 10 else if cnt U ≠ ds.length ∨ ¬ allFull U ds.length then 2 else 0
noncomputable def doneS (U : Up) (ds : List (List UInt8)) : List UInt8 := if doneE U ds = 0 then cat U ds.length else []
noncomputable def doneD (U : Up) (ds : List (List UInt8)) : List UInt8 := if doneE U ds = 0 then Em.comp ds else []
theorem doneE_nil {U : Up} {ds : List (List UInt8)} (h : ds.length = 0) : doneE U ds = 3 := by unfold doneE; rw [if_pos h]
theorem doneE_none {U : Up} {ds : List (List UInt8)} (h : ds.length ≠ 0) {i : Nat} (hi : i < ds.length) (hu : U (i + 1) = []) : doneE U ds = 5 := by
  unfold doneE; rw [if_neg h, if_pos (fun h' => h' i hi hu)]
theorem doneE_unlike {U : Up} {ds : List (List UInt8)} (h : ds.length ≠ 0) (h1 : allThere U ds.length) (h2 : ¬ allLike U ds ds.length) : doneE U ds = 10 := by
  unfold doneE; rw [if_neg h, if_neg (fun h' => h' h1), if_pos h2]
theorem doneE_form {U : Up} {ds : List (List UInt8)} (h : ds.length ≠ 0) (h1 : allThere U ds.length) (h2 : allLike U ds ds.length) (h3 : cnt U ≠ ds.length ∨ ¬ allFull U ds.length) : doneE U ds = 2 := by
  unfold doneE; rw [if_neg h, if_neg (fun h' => h' h1), if_neg (fun h' => h' h2), if_pos h3]
theorem doneE_ok {U : Up} {ds : List (List UInt8)} (h : ds.length ≠ 0) (h1 : allThere U ds.length) (h2 : allLike U ds ds.length) (h3 : cnt U = ds.length) (h4 : allFull U ds.length) : doneE U ds = 0 := by
  unfold doneE; rw [if_neg h, if_neg (fun h' => h' h1), if_neg (fun h' => h' h2), if_neg (fun h' => h'.elim (fun x => x h3) (fun x => x h4))]
theorem cat_length {U : Up} (h : Good U) : ∀ n, (cat U n).length ≤ 16 * n
  | 0 => Nat.le_refl _
  | n + 1 => by
    unfold cat
    rw [List.length_append]
    have := cat_length h n
    have := h.len (n + 1)
    omega
theorem allThere_le {U : Up} (h : Good U) {n : Nat} (ha : allThere U n) : n ≤ 64 := by
  rcases Nat.lt_or_ge 64 n with hn | hn
  · exact absurd (h.out 65 (.inr (by omega))) (ha 64 hn)
  · exact hn

/-! ### an upload as a map -/
structure UpD (D : DataW Unit) (U : Up) : Prop where
  tidy : Maps.Tidy D
  has : ∀ k : Nat, Maps.has D (.int .i64 k) = true ↔ U k ≠ []
  neg : ∀ n : Int, n < 0 → Maps.has D (.int .i64 n) = false
  at_ : ∀ (k : Nat) z, U k ≠ [] → D.atKey (.int .i64 k) z = .lit (.string (U k))
  size : Maps.size D = cnt U
theorem UpD.start : UpD (.map []) none0 := by
  refine ⟨Maps.tidy_empty, fun k => ?_, fun _ _ => rfl, fun k z h => absurd rfl h, rfl⟩
  exact Iff.intro (fun h => by cases h) (fun h => absurd rfl h)
theorem keyLit (n : Int) : WideAt.IsKeyLit (.int .i64 n) := trivial
theorem UpD.put {D : DataW Unit} {U : Up} (h : UpD D U) {n : Nat} (h1 : 1 ≤ n) (h2 : n ≤ 64) {s : List UInt8} (hs : s ≠ []) :
    UpD (D.put (.int .i64 n) (.lit (.string s))) (put U n s) := by
  have hne : ∀ k : Nat, k ≠ n → (Lit.int .i64 (k : Int)) ≠ .int .i64 (n : Int) := fun k hk e => hk (by injection e; omega)
  refine ⟨h.tidy.put (keyLit _) _, fun k => ?_, fun k hk => ?_, fun k z hu => ?_, ?_⟩
  · by_cases hk : k = n
    · subst hk
      rw [Maps.has_put_same h.tidy.isMap (keyLit _)]
      unfold Um.put
      rw [if_pos rfl]
      simp [hs]
    · rw [Maps.has_put_other (hne k hk), h.has k]
      unfold Um.put
      rw [if_neg hk]
  · rw [Maps.has_put_other (fun e => by injection e; omega), h.neg k hk]
  · by_cases hk : k = n
    · subst hk
      rw [Maps.atKey_put_same h.tidy.isMap (keyLit _)]
      unfold Um.put
      rw [if_pos rfl]
    · rw [Maps.atKey_put_other (hne k hk)]
      unfold Um.put at hu ⊢
      rw [if_neg hk] at hu ⊢
      exact h.at_ k z hu
  · rw [Maps.size_put h.tidy, h.size]
    unfold cnt
    rw [cntTo_put U h1 hs 64]
    by_cases hu : U n = []
    · rw [if_neg (fun h' => (h.has n).1 h' hu), if_pos ⟨h2, hu⟩]
    · rw [if_pos ((h.has n).2 hu), if_neg (fun h' => hu h'.2)]; rfl
end Go.Proofs.Ytgdjfijkbemkeaa.Um
