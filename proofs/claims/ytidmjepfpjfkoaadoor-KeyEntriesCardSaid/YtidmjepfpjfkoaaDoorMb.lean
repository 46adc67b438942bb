/-
  Plain laws: paths: their parts, the order, one within another.
  Plain laws: a text as written, made normal.
  Plain laws: sorted by putting in one by one.
-/

namespace Go.Proofs.YtidmjepfpjfkoaaDoor.Pm
set_option linter.unusedVariables false

abbrev By := List UInt8
/-- at each slash -/
def cut : By → List By
  | [] => [[]]
  | c :: l => if c = 47 then [] :: cut l else match cut l with
    | [] => [[c]]
    | x :: r => (c :: x) :: r
def joinS : List By → By
  | [] => []
  | [x] => x
  | x :: y :: r => x ++ 47 :: joinS (y :: r)
theorem cut_ne : ∀ l, cut l ≠ []
  | [] => by simp [cut]
  | c :: l => by
    unfold cut
    split
    · simp
    · split <;> simp
theorem cut_slash (l : By) : cut (47 :: l) = [] :: cut l := by rw [cut, if_pos rfl]
theorem cut_other {c : UInt8} (hc : c ≠ 47) (l : By) {x : By} {r : List By} (h : cut l = x :: r) : cut (c :: l) = (c :: x) :: r := by
  rw [cut, if_neg hc, h]
theorem cut_plain : ∀ (x : By), 47 ∉ x → cut x = [x]
  | [], _ => rfl
  | c :: x, h => by
    have h1 : c ≠ 47 := fun e => h (by simp [e])
    rw [cut_other h1 x (cut_plain x (fun hm => h (by simp [hm])))]
theorem cut_append : ∀ (a b : By), cut (a ++ 47 :: b) = cut a ++ cut b
  | [], b => by rw [List.nil_append, cut_slash]; rfl
  | c :: a, b => by
    by_cases hc : c = 47
    · subst hc
      rw [List.cons_append, cut_slash, cut_slash, cut_append a b]; rfl
    · obtain ⟨x, r, hx⟩ : ∃ x r, cut a = x :: r := by
        cases h : cut a with
        | nil => exact absurd h (cut_ne a)
        | cons x r => exact ⟨x, r, rfl⟩
      rw [List.cons_append, cut_other hc a hx, cut_other hc _ (x := x) (r := r ++ cut b) (by rw [cut_append a b, hx]; rfl)]; rfl
theorem cut_no : ∀ (l : By), ∀ x ∈ cut l, 47 ∉ x
  | [], x, h => by simp [cut] at h; subst h; simp
  | c :: l, x, h => by
    by_cases hc : c = 47
    · subst hc
      rw [cut_slash] at h
      rcases List.mem_cons.1 h with rfl | h
      · simp
      · exact cut_no l x h
    · obtain ⟨y, r, hy⟩ : ∃ y r, cut l = y :: r := by
        cases h' : cut l with
        | nil => exact absurd h' (cut_ne l)
        | cons x r => exact ⟨x, r, rfl⟩
      rw [cut_other hc l hy] at h
      rcases List.mem_cons.1 h with rfl | h
      · intro hm
        rcases List.mem_cons.1 hm with e | hm
        · exact hc e.symm
        · exact cut_no l y (by rw [hy]; simp) hm
      · exact cut_no l x (by rw [hy]; simp [h])
theorem joinS_cons (x : By) {r : List By} (h : r ≠ []) : joinS (x :: r) = x ++ 47 :: joinS r := by
  cases r with
  | nil => exact absurd rfl h
  | cons y r => rfl
theorem join_cut : ∀ l, joinS (cut l) = l
  | [] => rfl
  | c :: l => by
    by_cases hc : c = 47
    · subst hc
      rw [cut_slash, joinS_cons _ (cut_ne l), join_cut l]; rfl
    · obtain ⟨y, r, hy⟩ : ∃ y r, cut l = y :: r := by
        cases h' : cut l with
        | nil => exact absurd h' (cut_ne l)
        | cons x r => exact ⟨x, r, rfl⟩
      rw [cut_other hc l hy]
      have ih := join_cut l
      rw [hy] at ih
      cases r with
      | nil => show c :: y = _; rw [show y = l from ih]
      | cons z r => show (c :: y) ++ 47 :: joinS (z :: r) = _; rw [← ih]; rfl
theorem cut_join : ∀ (ps : List By), ps ≠ [] → (∀ x ∈ ps, 47 ∉ x) → cut (joinS ps) = ps
  | [], h, _ => absurd rfl h
  | [x], _, h => cut_plain x (h x (by simp))
  | x :: y :: r, _, h => by
    show cut (x ++ 47 :: joinS (y :: r)) = _
    rw [cut_append, cut_plain x (h x (by simp)), cut_join (y :: r) (by simp) (fun z hz => h z (by simp at hz ⊢; exact .inr hz))]; rfl
theorem cut_inj {a b : By} (h : cut a = cut b) : a = b := by rw [← join_cut a, h, join_cut b]
theorem cut_length (l : By) : (cut l).length = l.count 47 + 1 := by
  induction l with
  | nil => rfl
  | cons c l ih =>
    by_cases hc : c = 47
    · subst hc; rw [cut_slash]; simp [ih]
    · obtain ⟨y, r, hy⟩ : ∃ y r, cut l = y :: r := by
        cases h' : cut l with
        | nil => exact absurd h' (cut_ne l)
        | cons x r => exact ⟨x, r, rfl⟩
      rw [cut_other hc l hy]
      rw [hy] at ih
      have : (c == 47) = false := by simpa using hc
      simp [List.count_cons, this] at ih ⊢
      omega

/-! ### right -/
def part (s : By) : Bool := !(s == []) && !(s == [46]) && !(s == [46, 46]) && !(s.contains 0)
def right (p : By) : Nat :=
  if (cut p).all part then (if 64 < p.length ∨ 6 < (cut p).length ∨ (cut p).any (fun x => decide (24 < x.length)) = true then 4 else 0) else 2
def parts (p : By) : List By := if right p = 0 then cut p else []
def joinE (l : List By) : Nat := if l.any (fun x => x.contains 47) then 2 else right (joinS l)
def joinP (l : List By) : By := if joinE l = 0 then joinS l else []
theorem joinS_no : ∀ (l : List By), l ≠ [] → (∀ x ∈ l, 47 ∉ x) → cut (joinS l) = l := cut_join

/-! ### the order -/
def cmpB (a b : By) : Int := if a < b then -1 else if b < a then 1 else 0
def cmpL : List By → List By → Int
  | [], [] => 0
  | [], _ :: _ => -1
  | _ :: _, [] => 1
  | x :: a, y :: b => if x < y then -1 else if y < x then 1 else cmpL a b
def compare (a b : By) : Int := cmpL (cut a) (cut b)
theorem lt_irr (a : By) : ¬ a < a := List.lt_irrefl a
theorem lt_tri {a b : By} (h1 : ¬ a < b) (h2 : ¬ b < a) : a = b := by
  rcases Std.lt_trichotomy a b with h | h | h
  · exact absurd h h1
  · exact h
  · exact absurd h h2
theorem cmpL_self : ∀ a, cmpL a a = 0
  | [] => rfl
  | x :: a => by rw [cmpL, if_neg (lt_irr x), if_neg (lt_irr x)]; exact cmpL_self a
theorem cmpL_neg : ∀ a b, cmpL b a = - cmpL a b
  | [], [] => rfl
  | [], _ :: _ => rfl
  | _ :: _, [] => rfl
  | x :: a, y :: b => by
    rw [cmpL, cmpL]
    by_cases h1 : x < y
    · have h2 : ¬ y < x := fun h => lt_irr x (List.lt_trans h1 h)
      rw [if_neg h2, if_pos h1, if_pos h1]; rfl
    · by_cases h2 : y < x
      · rw [if_pos h2, if_neg h1, if_pos h2]
      · rw [if_neg h2, if_neg h1, if_neg h1, if_neg h2]; exact cmpL_neg a b
theorem cmpL_zero : ∀ a b, cmpL a b = 0 → a = b
  | [], [], _ => rfl
  | [], _ :: _, h => by simp [cmpL] at h
  | _ :: _, [], h => by simp [cmpL] at h
  | x :: a, y :: b, h => by
    rw [cmpL] at h
    split at h
    · simp at h
    · split at h
      · simp at h
      · rename_i h1 h2
        rw [lt_tri h1 h2, cmpL_zero a b h]
theorem cmpL_three : ∀ a b, cmpL a b = -1 ∨ cmpL a b = 0 ∨ cmpL a b = 1
  | [], [] => by simp [cmpL]
  | [], _ :: _ => by simp [cmpL]
  | _ :: _, [] => by simp [cmpL]
  | x :: a, y :: b => by
    rw [cmpL]
    split
    · simp
    · split
      · simp
      · exact cmpL_three a b
theorem cmpL_trans : ∀ a b c, cmpL a b < 0 → cmpL b c < 0 → cmpL a c < 0
  | _, [], [], _, h => by simp [cmpL] at h
  | _, x :: b, [], _, h => by simp [cmpL] at h
  | [], _, _ :: _, _, _ => by simp [cmpL]
  | _ :: _, [], _ :: _, h, _ => by simp [cmpL] at h
  | x :: a, y :: b, z :: c, h1, h2 => by
    rw [cmpL] at h1 h2 ⊢
    by_cases hxy : x < y
    · by_cases hyz : y < z
      · rw [if_pos (List.lt_trans hxy hyz)]; decide
      · rw [if_neg hyz] at h2
        by_cases hzy : z < y
        · rw [if_pos hzy] at h2; omega
        · rw [← lt_tri hyz hzy, if_pos hxy]; decide
    · rw [if_neg hxy] at h1
      by_cases hyx : y < x
      · rw [if_pos hyx] at h1; omega
      · rw [if_neg hyx] at h1
        have e := lt_tri hxy hyx
        subst e
        by_cases hyz : x < z
        · rw [if_pos hyz]; decide
        · rw [if_neg hyz] at h2 ⊢
          by_cases hzy : z < x
          · rw [if_pos hzy] at h2; omega
          · rw [if_neg hzy] at h2 ⊢
            exact cmpL_trans a b c h1 h2

/-! ### within -/
def within (p d : By) : Bool := (d ++ [47]).isPrefixOf p
theorem within_iff (p d : By) : within p d = true ↔ ∃ r, r ≠ [] ∧ cut p = cut d ++ r := by
  unfold within
  rw [List.isPrefixOf_iff_prefix]
  constructor
  · rintro ⟨t, ht⟩
    refine ⟨cut t, cut_ne t, ?_⟩
    rw [← ht, List.append_assoc]
    exact cut_append d t
  · rintro ⟨r, hr, h⟩
    refine ⟨joinS r, ?_⟩
    apply cut_inj
    rw [List.append_assoc]
    show cut (d ++ 47 :: joinS r) = _
    rw [cut_append, h, cut_join r hr (fun x hx => cut_no p x (by rw [h]; simp [hx]))]
theorem within_trans {a b c : By} (h1 : within a b = true) (h2 : within b c = true) : within a c = true := by
  obtain ⟨r, hr, e1⟩ := (within_iff a b).1 h1
  obtain ⟨s, hs, e2⟩ := (within_iff b c).1 h2
  exact (within_iff a c).2 ⟨s ++ r, by simp [hr], by rw [e1, e2, List.append_assoc]⟩
theorem within_self (a : By) : within a a = false := by
  cases h : within a a
  · rfl
  · obtain ⟨r, hr, e⟩ := (within_iff a a).1 h
    have := congrArg List.length e
    simp at this
    exact absurd this hr
theorem cmpL_pre : ∀ (d r : List By), r ≠ [] → cmpL d (d ++ r) = -1
  | [], r, h => by
    cases r with
    | nil => exact absurd rfl h
    | cons x r => rfl
  | x :: d, r, h => by
    rw [List.cons_append, cmpL, if_neg (lt_irr x), if_neg (lt_irr x)]
    exact cmpL_pre d r h
theorem within_compare {a b : By} (h : within a b = true) : compare b a = -1 := by
  obtain ⟨r, hr, e⟩ := (within_iff a b).1 h
  unfold compare
  rw [e]; exact cmpL_pre _ _ hr
/-- what stands between a directory and what is within it is within it -/
theorem cmpL_between : ∀ (d x r : List By), cmpL d x = -1 → cmpL x (d ++ r) ≤ 0 → ∃ s, s ≠ [] ∧ x = d ++ s
  | [], x, _, h1, _ => by
    cases x with
    | nil => simp [cmpL] at h1
    | cons y x => exact ⟨y :: x, by simp, rfl⟩
  | y :: d, x, r, h1, h2 => by
    cases x with
    | nil => simp [cmpL] at h1
    | cons z x =>
      rw [cmpL] at h1
      rw [List.cons_append, cmpL] at h2
      by_cases hyz : y < z
      · have hzy : ¬ z < y := fun h => lt_irr y (List.lt_trans hyz h)
        rw [if_neg hzy, if_pos hyz] at h2
        omega
      · rw [if_neg hyz] at h1
        by_cases hzy : z < y
        · rw [if_pos hzy] at h1; omega
        · rw [if_neg hzy] at h1
          rw [if_neg hzy, if_neg hyz] at h2
          obtain ⟨s, hs, rfl⟩ := cmpL_between d x r h1 h2
          exact ⟨s, hs, by rw [lt_tri hyz hzy]; rfl⟩
theorem within_between {d x p : By} (h1 : compare d x = -1) (h2 : compare x p ≤ 0) (h3 : within p d = true) : within x d = true := by
  obtain ⟨r, _, e⟩ := (within_iff p d).1 h3
  unfold compare at h1 h2
  rw [e] at h2
  obtain ⟨s, hs, e2⟩ := cmpL_between _ _ _ h1 h2
  exact (within_iff x d).2 ⟨s, hs, e2⟩

/-! ### sorted -/
structure IsSort (l xs : List By) : Prop where
  up : xs.Pairwise (fun a b => compare a b = -1)
  mem : ∀ x, x ∈ xs ↔ x ∈ l ∧ right x = 0
theorem IsSort.unique {l xs ys : List By} (h1 : IsSort l xs) (h2 : IsSort l ys) : xs = ys := by
  have hm : ∀ x, x ∈ xs ↔ x ∈ ys := fun x => (h1.mem x).trans (h2.mem x).symm
  have hne : ∀ {zs : List By}, zs.Pairwise (fun a b => compare a b = -1) → zs.Nodup := fun h => h.imp (fun {a b} hab e => by
    subst e
    unfold compare at hab
    rw [cmpL_self] at hab
    cases hab)
  refine List.Perm.eq_of_pairwise (le := fun a b => compare a b = -1) (fun a b _ _ hab hba => ?_) h1.up h2.up ((List.perm_ext_iff_of_nodup (hne h1.up) (hne h2.up)).2 hm)
  unfold compare at hab hba
  rw [cmpL_neg, hab] at hba
  cases hba
end Go.Proofs.YtidmjepfpjfkoaaDoor.Pm

namespace Go.Proofs.YtidmjepfpjfkoaaDoor.Pm
set_option linter.unusedVariables false

/-- the parts that stay; none: out of range -/
def norm : List By → List By → Option (List By)
  | [], acc => some acc
  | x :: r, acc => if x = [] ∨ x = [46] then norm r acc else if x = [46, 46] then (if acc = [] then none else norm r acc.dropLast) else norm r (acc ++ [x])
def normE (s : By) : Nat := match norm (cut s) [] with | none => 1 | some l => joinE l
def normP (s : By) : By := match norm (cut s) [] with | none => [] | some l => joinP l
theorem part_ne {x : By} (h : part x = true) : x ≠ [] ∧ x ≠ [46] ∧ x ≠ [46, 46] := by
  unfold part at h
  simp only [Bool.and_eq_true, Bool.not_eq_true', beq_eq_false_iff_ne] at h
  exact ⟨h.1.1.1, h.1.1.2, h.1.2⟩
theorem norm_parts : ∀ (l acc : List By), l.all part = true → norm l acc = some (acc ++ l)
  | [], acc, _ => by rw [norm, List.append_nil]
  | x :: r, acc, h => by
    rw [List.all_cons, Bool.and_eq_true] at h
    obtain ⟨h1, h2, h3⟩ := part_ne h.1
    rw [norm, if_neg (by rintro (e | e); exact h1 e; exact h2 e), if_neg h3, norm_parts r (acc ++ [x]) h.2, List.append_assoc]
    rfl
theorem right_all {s : By} (h : right s = 0) : (cut s).all part = true := by
  unfold right at h
  by_cases ha : (cut s).all part = true
  · exact ha
  · rw [if_neg ha] at h; cases h
/-- a path is normal -/
theorem norm_path {s : By} (h : right s = 0) : norm (cut s) [] = some (cut s) := by
  rw [norm_parts _ _ (right_all h)]; rfl
end Go.Proofs.YtidmjepfpjfkoaaDoor.Pm

namespace Go.Proofs.YtidmjepfpjfkoaaDoor.Pm
set_option linter.unusedVariables false

/-- put in where it belongs, if it is not there -/
def ins (x : By) : List By → List By
  | [] => [x]
  | y :: r => if compare y x < 0 then y :: ins x r else if y = x then y :: r else x :: y :: r
theorem cmp_lt {a b : By} (h : compare a b < 0) : compare a b = -1 := by
  rcases cmpL_three (cut a) (cut b) with h1 | h1 | h1
  · exact h1
  · unfold compare at h; omega
  · unfold compare at h; omega
theorem cmp_turn {a b : By} (h : ¬ compare a b < 0) (hne : a ≠ b) : compare b a = -1 := by
  have hn := cmpL_neg (cut a) (cut b)
  unfold compare at h ⊢
  rcases cmpL_three (cut a) (cut b) with h1 | h1 | h1
  · omega
  · exact absurd (cut_inj (cmpL_zero _ _ h1)) hne
  · omega
theorem ins_mem (x z : By) : ∀ xs, z ∈ ins x xs ↔ z = x ∨ z ∈ xs
  | [] => by simp [ins]
  | y :: r => by
    unfold ins
    by_cases h : compare y x < 0
    · rw [if_pos h, List.mem_cons, ins_mem x z r, List.mem_cons]
      constructor
      · rintro (h | h | h)
        · exact .inr (.inl h)
        · exact .inl h
        · exact .inr (.inr h)
      · rintro (h | h | h)
        · exact .inr (.inl h)
        · exact .inl h
        · exact .inr (.inr h)
    · rw [if_neg h]
      by_cases he : y = x
      · rw [if_pos he]
        constructor
        · exact .inr
        · rintro (h | h)
          · exact List.mem_cons.2 (.inl (h.trans he.symm))
          · exact h
      · rw [if_neg he]
        exact List.mem_cons
theorem ins_up (x : By) : ∀ xs, xs.Pairwise (fun a b => compare a b = -1) → (ins x xs).Pairwise (fun a b => compare a b = -1)
  | [], _ => by simp [ins]
  | y :: r, hp => by
    have hp2 := List.pairwise_cons.1 hp
    unfold ins
    by_cases h : compare y x < 0
    · rw [if_pos h, List.pairwise_cons]
      refine ⟨fun z hz => ?_, ins_up x r hp2.2⟩
      rcases (ins_mem x z r).1 hz with rfl | hz
      · exact cmp_lt h
      · exact hp2.1 z hz
    · rw [if_neg h]
      by_cases he : y = x
      · rw [if_pos he]; exact hp
      · rw [if_neg he, List.pairwise_cons]
        have hxy := cmp_turn h he
        refine ⟨fun z hz => ?_, hp⟩
        rcases List.mem_cons.1 hz with rfl | hz
        · exact hxy
        · have h2 := hp2.1 z hz
          refine cmp_lt ?_
          unfold compare at hxy h2 ⊢
          exact cmpL_trans (cut x) (cut y) (cut z) (by omega) (by omega)
/-- sorted: of the first ones, then of one more -/
theorem isSort_nil : IsSort [] [] := ⟨List.Pairwise.nil, fun x => by simp⟩
theorem isSort_skip {l xs : List By} (h : IsSort l xs) (x : By) (hx : right x ≠ 0) : IsSort (l ++ [x]) xs :=
  ⟨h.up, fun z => by
    rw [h.mem z, List.mem_append, List.mem_singleton]
    constructor
    · rintro ⟨h1, h2⟩; exact ⟨.inl h1, h2⟩
    · rintro ⟨h1 | h1, h2⟩
      · exact ⟨h1, h2⟩
      · exact absurd h2 (h1 ▸ hx)⟩
theorem isSort_put {l xs : List By} (h : IsSort l xs) (x : By) (hx : right x = 0) : IsSort (l ++ [x]) (ins x xs) :=
  ⟨ins_up x xs h.up, fun z => by
    rw [ins_mem, h.mem z, List.mem_append, List.mem_singleton]
    constructor
    · rintro (h1 | ⟨h1, h2⟩)
      · exact ⟨.inr h1, h1 ▸ hx⟩
      · exact ⟨.inl h1, h2⟩
    · rintro ⟨h1 | h1, h2⟩
      · exact .inr ⟨h1, h2⟩
      · exact .inl h1⟩
end Go.Proofs.YtidmjepfpjfkoaaDoor.Pm
