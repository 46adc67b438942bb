/-
  Plain laws: sorted by putting in one by one.
-/
import Derived.Test.YtidmjepfpjfkoaaDoorPaM
namespace Go.Proofs.YtidmjepfpjfkoaaDoor.Pm
set_option linter.unusedVariables false

/-- put in where it belongs, if it is not there -/
def ins (x : By) : List By → List By
  | [] => [x]
  | y :: r => if compare y x < 0 then y :: ins x r else if y = x then y :: r else x :: y :: r
theorem cmp_lt {a b : By} (h : compare a b < 0) : compare a b = -1 := by
  rcases cmpL_three (cut a) (cut b) with h1 | h1 | h1
  · exact h1
  · unfold compare at h; omega
  · unfold compare at h; omega
theorem cmp_turn {a b : By} (h : ¬ compare a b < 0) (hne : a ≠ b) : compare b a = -1 := by
  have hn := cmpL_neg (cut a) (cut b)
  unfold compare at h ⊢
  rcases cmpL_three (cut a) (cut b) with h1 | h1 | h1
  · omega
  · exact absurd (cut_inj (cmpL_zero _ _ h1)) hne
  · omega
theorem ins_mem (x z : By) : ∀ xs, z ∈ ins x xs ↔ z = x ∨ z ∈ xs
  | [] => by simp [ins]
  | y :: r => by
    unfold ins
    by_cases h : compare y x < 0
    · rw [if_pos h, List.mem_cons, ins_mem x z r, List.mem_cons]
      constructor
      · rintro (h | h | h)
        · exact .inr (.inl h)
        · exact .inl h
        · exact .inr (.inr h)
      · rintro (h | h | h)
        · exact .inr (.inl h)
        · exact .inl h
        · exact .inr (.inr h)
    · rw [if_neg h]
      by_cases he : y = x
      · rw [if_pos he]
        constructor
        · exact .inr
        · rintro (h | h)
          · exact List.mem_cons.2 (.inl (h.trans he.symm))
          · exact h
      · rw [if_neg he]
        exact List.mem_cons
theorem ins_up (x : By) : ∀ xs, xs.Pairwise (fun a b => compare a b = -1) → (ins x xs).Pairwise (fun a b => compare a b = -1)
  | [], _ => by simp [ins]
  | y :: r, hp => by
    have hp2 := List.pairwise_cons.1 hp
    unfold ins
    by_cases h : compare y x < 0
    · rw [if_pos h, List.pairwise_cons]
      refine ⟨fun z hz => ?_, ins_up x r hp2.2⟩
      rcases (ins_mem x z r).1 hz with rfl | hz
      · exact cmp_lt h
      · exact hp2.1 z hz
    · rw [if_neg h]
      by_cases he : y = x
      · rw [if_pos he]; exact hp
      · rw [if_neg he, List.pairwise_cons]
        have hxy := cmp_turn h he
        refine ⟨fun z hz => ?_, hp⟩
        rcases List.mem_cons.1 hz with rfl | hz
        · exact hxy
        · have h2 := hp2.1 z hz
          refine cmp_lt ?_
          unfold compare at hxy h2 ⊢
          exact cmpL_trans (cut x) (cut y) (cut z) (by omega) (by omega)
/-- sorted: of the first ones, then of one more -/
theorem isSort_nil : IsSort [] [] := ⟨List.Pairwise.nil, fun x => by simp⟩
theorem isSort_skip {l xs : List By} (h : IsSort l xs) (x : By) (hx : right x ≠ 0) : IsSort (l ++ [x]) xs :=
  ⟨h.up, fun z => by
    rw [h.mem z, List.mem_append, List.mem_singleton]
    constructor
    · rintro ⟨h1, h2⟩; exact ⟨.inl h1, h2⟩
    · rintro ⟨h1 | h1, h2⟩
      · exact ⟨h1, h2⟩
      · exact absurd h2 (h1 ▸ hx)⟩
theorem isSort_put {l xs : List By} (h : IsSort l xs) (x : By) (hx : right x = 0) : IsSort (l ++ [x]) (ins x xs) :=
  ⟨ins_up x xs h.up, fun z => by
    rw [ins_mem, h.mem z, List.mem_append, List.mem_singleton]
    constructor
    · rintro (h1 | ⟨h1, h2⟩)
      · exact ⟨.inr h1, h1 ▸ hx⟩
      · exact ⟨.inl h1, h2⟩
    · rintro ⟨h1 | h1, h2⟩
      · exact .inr ⟨h1, h2⟩
      · exact .inl h1⟩
end Go.Proofs.YtidmjepfpjfkoaaDoor.Pm
