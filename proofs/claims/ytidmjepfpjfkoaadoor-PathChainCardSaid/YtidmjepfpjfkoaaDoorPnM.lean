/-
  Plain laws: a text as written, made normal.
-/
import Derived.Test.YtidmjepfpjfkoaaDoorPaM
namespace Go.Proofs.YtidmjepfpjfkoaaDoor.Pm
set_option linter.unusedVariables false

/-- the parts that stay; none: out of range -/
def norm : List By → List By → Option (List By)
  | [], acc => some acc
  | x :: r, acc => if x = [] ∨ x = [46] then norm r acc else if x = [46, 46] then (if acc = [] then none else norm r acc.dropLast) else norm r (acc ++ [x])
def normE (s : By) : Nat := match norm (cut s) [] with | none => 1 | some l => joinE l
def normP (s : By) : By := match norm (cut s) [] with | none => [] | some l => joinP l
theorem part_ne {x : By} (h : part x = true) : x ≠ [] ∧ x ≠ [46] ∧ x ≠ [46, 46] := by
  unfold part at h
  simp only [Bool.and_eq_true, Bool.not_eq_true', beq_eq_false_iff_ne] at h
  exact ⟨h.1.1.1, h.1.1.2, h.1.2⟩
theorem norm_parts : ∀ (l acc : List By), l.all part = true → norm l acc = some (acc ++ l)
  | [], acc, _ => by rw [norm, List.append_nil]
  | x :: r, acc, h => by
    rw [List.all_cons, Bool.and_eq_true] at h
    obtain ⟨h1, h2, h3⟩ := part_ne h.1
    rw [norm, if_neg (by rintro (e | e); exact h1 e; exact h2 e), if_neg h3, norm_parts r (acc ++ [x]) h.2, List.append_assoc]
    rfl
theorem right_all {s : By} (h : right s = 0) : (cut s).all part = true := by
  unfold right at h
  by_cases ha : (cut s).all part = true
  · exact ha
  · rw [if_neg ha] at h; cases h
/-- a path is normal -/
theorem norm_path {s : By} (h : right s = 0) : norm (cut s) [] = some (cut s) := by
  rw [norm_parts _ _ (right_all h)]; rfl
end Go.Proofs.YtidmjepfpjfkoaaDoor.Pm
