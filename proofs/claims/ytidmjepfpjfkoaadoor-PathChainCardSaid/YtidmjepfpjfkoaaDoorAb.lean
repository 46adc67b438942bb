/-
  A region that draws its order: what it leaves is known by a list of blocks alone ('Kn'): a call or a load that gives one value in every such world may be taken as soon as it may come up; all else comes up alone.
-/
import Derived.Test.YtidmjepfpjfkoaaDoorMx
namespace Go.Proofs.YtidmjepfpjfkoaaDoor
open Go Go.RowKit
set_option linter.unusedVariables false
section
variable {P : Program} {ops : Array Oper} {md : Region.Mode} {B : Nat} {w0 : World} {Q : Exit → Act → World → Prop}

/-- one value, in the very world, or by a call that turns nothing of what there is -/
def kUpon (P : Program) (w : World) (v : Value) : Result Next → Prop
  | .ok (.value u) w' => w' = w ∧ u = v
  | .ok (.enter f args) w' => w' = w ∧ Calls P f args w (fun e w'' => e = .returned v ∧ Below w.heap.size w w'')
  | _ => False
def kAt (P : Program) (o : Oper) (a : Act) (w : World) (v : Value) : Prop := kUpon P w v ((execOp a.eval o).run P w)
def KY (P : Program) (ops : Array Oper) (B : Nat) (w0 : World) (L : List (Nat × Obj)) (o : Oper) (v : Value) (a : Act) : Prop :=
  (Region.wanted o (yielded ops a.tmps) = true ∧ ∀ w, Kn B w0 L w → kAt P o a w v) ∨ (Region.wanted o (yielded ops a.tmps) = false ∧ v = undef)

theorem KY.sub {L L' : List (Nat × Obj)} {o : Oper} {v : Value} {a : Act} (h : KY P ops B w0 L o v a) (hs : ∀ x ∈ L, x ∈ L') : KY P ops B w0 L' o v a :=
  h.imp (fun ⟨h1, h2⟩ => ⟨h1, fun w hw => h2 w (hw.sub hs)⟩) id
theorem KY.of_same {L : List (Nat × Obj)} {o : Oper} {v : Value} {a a' : Act} (h : KY P ops B w0 L o v a) (he : execOp a'.eval o = execOp a.eval o)
    (hw : Region.wanted o (yielded ops a'.tmps) = Region.wanted o (yielded ops a.tmps)) : KY P ops B w0 L o v a' := by
  unfold KY kAt at *
  rw [he, hw]
  exact h

/-- what an operation waits for, so many steps back -/
def preds (md : Region.Mode) (ops : Array Oper) : Nat → Nat → List Nat
  | 0, _ => []
  | f + 1, j => match ops[j]? with
    | some oj => oj.after.toList.flatMap fun e => if Region.binds md e then e.on :: preds md ops f e.on else []
    | none => []
/-- each other one is waited for by it, or waits for it -/
def lone (md : Region.Mode) (ops : Array Oper) (i : Nat) : Bool :=
  (List.range ops.size).all fun j => j == i || (preds md ops 3 i).contains j || (match ops[j]? with
    | some oj => oj.after.any fun e => Region.binds md e && e.on == i
    | none => true)
/-- what has come up, with all that it waited for -/
def Closed (md : Region.Mode) (ops : Array Oper) (listed : Array Bool) : Prop :=
  ∀ k ok, ops[k]? = some ok → listed.getD k false = true → ∀ e ∈ ok.after, Region.binds md e = true → listed.getD e.on false = true
theorem preds_listed {listed : Array Bool} (hc : Closed md ops listed) : ∀ (f j : Nat), (∀ oj, ops[j]? = some oj → ∀ e ∈ oj.after, Region.binds md e = true → listed.getD e.on false = true) →
    ∀ k ∈ preds md ops f j, listed.getD k false = true := by
  intro f
  induction f with
  | zero => intro j _ k hk; cases hk
  | succ f ih =>
    intro j hj k hk
    unfold preds at hk
    split at hk
    · rename_i oj hoj
      rw [List.mem_flatMap] at hk
      obtain ⟨e, he, hk⟩ := hk
      have he' : e ∈ oj.after := by simpa using he
      split at hk
      · rename_i hb
        have h1 := hj oj hoj e he' hb
        rcases List.mem_cons.1 hk with rfl | hk
        · exact h1
        · exact ih e.on (fun oe hoe e2 he2 hb2 => hc e.on oe hoe h1 e2 he2 hb2) k hk
      · cases hk
    · cases hk
theorem getD_tf {listed : Array Bool} {i : Nat} (h1 : listed.getD i true = false) (h2 : listed.getD i false = true) : False := by
  rcases Nat.lt_or_ge i listed.size with h' | h'
  · simp [h'] at h1 h2; rw [h1] at h2; cases h2
  · simp [Array.getElem?_eq_none h'] at h2
theorem lone_no {listed : Array Bool} (hc : Closed md ops listed) {i j : Nat} (hi : i ∈ Region.ready md ops listed) (hj : j ∈ Region.ready md ops listed) (hij : i ≠ j) (h : lone md ops j = true) : False := by
  obtain ⟨hiun, oi, hoi, halli⟩ := mem_ready.1 hi
  obtain ⟨hjun, oj, hoj, hallj⟩ := mem_ready.1 hj
  have h2 := List.all_eq_true.1 h i (List.mem_range.2 (Array.getElem?_eq_some_iff.1 hoi).1)
  simp only [hoi, Bool.or_eq_true, beq_iff_eq, hij, false_or] at h2
  rcases h2 with h2 | h2
  · exact getD_tf hiun (preds_listed hc 3 j (fun o ho => by obtain rfl := Option.some.inj (ho.symm.trans hoj); exact hallj) i (by simpa using h2))
  · obtain ⟨e, he, hb⟩ := Array.any_eq_true'.1 h2
    simp only [Bool.and_eq_true, beq_iff_eq] at hb
    have h4 := halli e he hb.1
    rw [hb.2] at h4
    exact getD_tf hjun h4
theorem Closed.set {listed : Array Bool} (hc : Closed md ops listed) {j : Nat} (hj : j ∈ Region.ready md ops listed) : Closed md ops (listed.setIfInBounds j true) := by
  obtain ⟨hjun, oj, hoj, hallj⟩ := mem_ready.1 hj
  intro k ok hk hl e he hb
  have up : ∀ x, listed.getD x false = true → (listed.setIfInBounds j true).getD x false = true := fun x hx => by
    rcases Nat.lt_or_ge x listed.size with h' | h'
    · simp [h'] at hx
      by_cases hjx : j = x
      · subst hjx; simp [Array.getElem?_setIfInBounds, h']
      · simp [Array.getElem?_setIfInBounds, hjx, h', hx]
    · simp [Array.getElem?_eq_none h'] at hx
  by_cases hjk : j = k
  · subst hjk
    obtain rfl := Option.some.inj (hk.symm.trans hoj)
    exact up _ (hallj e he hb)
  · refine up _ (hc k ok hk ?_ e he hb)
    rcases Nat.lt_or_ge k listed.size with h' | h'
    · simpa [Array.getElem?_setIfInBounds, hjk, h'] using hl
    · simp [Array.getElem?_setIfInBounds, hjk, Array.getElem?_eq_none h'] at hl
theorem Closed.start (n : Nat) : Closed md ops (Array.replicate n false) := by
  intro k ok _ hl
  rcases Nat.lt_or_ge k n with h' | h'
  · simp [h'] at hl
  · simp [h'] at hl

/-- number i comes up -/
def aOp (P : Program) (md : Region.Mode) (ops : Array Oper) (B : Nat) (w0 : World) (Q : Exit → Act → World → Prop) (i : Nat) (K : Act → List (Nat × Obj) → Prop) (a : Act) (L : List (Nat × Obj)) : Prop :=
  ∃ o, ops[i]? = some o ∧ ((∃ v, KY P ops B w0 L o v a ∧ K (a.put o.dst v) L) ∨
    (Region.wanted o (yielded ops a.tmps) = true ∧ ∀ w, Kn B w0 L w → o.wp P a w (fun a' w' => ∃ L', (lone md ops i = true ∨ ∀ x ∈ L, x ∈ L') ∧ Kn B w0 L' w' ∧ K a' L') Q ∨ (o.asks P a w ∧ LetsOut Q)))

/-- every order -/
def absAny (P : Program) (md : Region.Mode) (ops : Array Oper) (B : Nat) (w0 : World) (Q : Exit → Act → World → Prop) : Nat → Array Bool → Act → List (Nat × Obj) → Prop
  | 0, listed, a, L => Region.ready md ops listed = [] ∧ ∀ w, Kn B w0 L w → Q .normal a w
  | n + 1, listed, a, L => Region.ready md ops listed ≠ [] ∧ ∀ i ∈ Region.ready md ops listed, aOp P md ops B w0 Q i (absAny P md ops B w0 Q n (listed.setIfInBounds i true)) a L

theorem wpAny_of_abs : ∀ (n : Nat) (listed : Array Bool) (a : Act) (L : List (Nat × Obj)), absAny P md ops B w0 Q n listed a L → ∀ w, Kn B w0 L w → wpAny P md ops Q n listed a w := by
  intro n
  induction n with
  | zero => intro listed a L h w hw; exact ⟨h.1, h.2 w hw⟩
  | succ n ih =>
    intro listed a L h w hw
    refine ⟨fun h0 => absurd h0 h.1, fun i hi => ?_⟩
    obtain ⟨o, ho, h2⟩ := h.2 i hi
    unfold wpOp
    simp only [ho]
    rcases h2 with ⟨v, hy, hk⟩ | ⟨hwt, hl⟩
    · rcases hy with ⟨hwt, hv⟩ | ⟨hwt, rfl⟩
      · rw [if_pos hwt]
        refine .inl ?_
        have h3 := hv w hw
        unfold kAt at h3
        unfold Oper.wp
        generalize (execOp a.eval o).run P w = r at *
        cases r with
        | ok nx w' =>
          cases nx <;> simp only [kUpon] at h3 <;> simp only [Oper.upon]
          case value u =>
            obtain ⟨e1, e2⟩ := h3
            rw [e1, e2]
            exact ih _ _ _ hk w hw
          case enter f args =>
            obtain ⟨e1, hc⟩ := h3
            rw [e1]
            exact hc.mono fun e w'' ⟨he, hb⟩ => by subst he; exact ih _ _ _ hk w'' (hw.call hb)
        | halt x w' => simp only [kUpon] at h3
      · rw [if_neg (by rw [hwt]; simp)]
        exact ih _ _ _ hk w hw
    · rw [if_pos hwt]
      rcases hl w hw with h3 | h3
      · exact .inl (Oper.wp_mono (fun a' w' ⟨L', _, hk, hn⟩ => ih _ _ _ hn w' hk) h3)
      · exact .inr h3

theorem loud_put {oi oj : Oper} {v : Value} {L : List (Nat × Obj)} (hap : oi.apart ops oj = true) (hsj : ∀ cs b, oj.op ≠ .select cs b) (hsi : ∀ cs b, oi.op ≠ .select cs b)
    (hQ : ∀ c d v a w, Q (.panic c) (Act.put a d v) w → Q (.panic c) a w) {K K' : Act → List (Nat × Obj) → Prop} {a : Act} {w : World} {R : List (Nat × Obj) → Prop}
    (hy : KY P ops B w0 L oi v a) (hK : ∀ a' L', R L' → (KY P ops B w0 L oi v a') → K (a'.put oi.dst v) L' → K' a' L')
    (h : oj.wp P (a.put oi.dst v) w (fun a' w' => ∃ L', R L' ∧ Kn B w0 L' w' ∧ K a' L') Q) : oj.wp P a w (fun a' w' => ∃ L', R L' ∧ Kn B w0 L' w' ∧ K' a' L') Q := by
  obtain ⟨h1, h2, h3⟩ := Oper.apart_spec hap
  have keep : ∀ (a : Act), KY P ops B w0 L oi v a → ∀ u, KY P ops B w0 L oi v (a.put oj.dst u) := fun a hy u =>
    hy.of_same (execOp_put oi hsi a oj.dst u h3) (wanted_put oi a oj.dst u h3)
  have keepD : ∀ d, KY P ops B w0 L oi v { a with defers := d :: a.defers } := fun d => hy.of_same rfl rfl
  unfold Oper.wp at *
  rw [execOp_put oj hsj a oi.dst v h1] at h
  generalize (execOp a.eval oj).run P w = r at *
  cases r with
  | ok n w' =>
    cases n <;> simp only [Oper.upon] at h ⊢
    case value u =>
      obtain ⟨L', hr, hk, hn⟩ := h
      exact ⟨L', hr, hk, hK _ _ hr (keep a hy u) (by rw [← Act.put_comm a v u h2]; exact hn)⟩
    case skip =>
      obtain ⟨L', hr, hk, hn⟩ := h
      exact ⟨L', hr, hk, hK _ _ hr (keep a hy _) (by rw [← Act.put_comm a v undef h2]; exact hn)⟩
    case defer d =>
      obtain ⟨L', hr, hk, hn⟩ := h
      refine ⟨L', hr, hk, hK _ _ hr (keep _ (keepD d) _) ?_⟩
      rw [← Act.put_comm _ v undef h2, ← Act.put_defers]
      exact hn
    case enter f args =>
      refine Calls.mono h fun e w'' he => ?_
      cases e with
      | returned u =>
        obtain ⟨L', hr, hk, hn⟩ := he
        exact ⟨L', hr, hk, hK _ _ hr (keep a hy u) (by rw [← Act.put_comm a v u h2]; exact hn)⟩
      | panicked c => exact hQ _ _ _ _ _ he
      | outgrown => exact he
    case row row args =>
      refine Rows.mono h fun u w'' he => ?_
      obtain ⟨L', hr, hk, hn⟩ := he
      exact ⟨L', hr, hk, hK _ _ hr (keep a hy u) (by rw [← Act.put_comm a v u h2]; exact hn)⟩
  | halt x w' =>
    cases x <;> simp only [Oper.upon] at h ⊢
    case panic u => exact hQ _ _ _ _ _ h

theorem absAny_first {i : Nat} {oi : Oper} {v : Value} (hi : ops[i]? = some oi) (hsel : ∀ (j : Nat) (o : Oper) cs b, ops[j]? = some o → o.op ≠ .select cs b)
    (hQ : ∀ c d v a w, Q (.panic c) (Act.put a d v) w → Q (.panic c) a w) :
    ∀ (n : Nat) (listed : Array Bool) (a : Act) (L : List (Nat × Obj)), Closed md ops listed →
      (∀ j oj, ops[j]? = some oj → j ≠ i → listed.getD j true = false → (∀ e ∈ oj.after, Region.binds md e = true → e.on ≠ i) → oi.apart ops oj = true) →
      i ∈ Region.ready md ops listed → KY P ops B w0 L oi v a →
      absAny P md ops B w0 Q n (listed.setIfInBounds i true) (a.put oi.dst v) L → absAny P md ops B w0 Q (n + 1) listed a L := by
  intro n
  induction n with
  | zero =>
    intro listed a L _ _ hr hy H
    refine ⟨fun h => (by rw [h] at hr; cases hr), fun j hj => ?_⟩
    by_cases hji : j = i
    · subst hji; exact ⟨oi, hi, .inl ⟨v, hy, H⟩⟩
    · have := ready_mono hj hji
      rw [H.1] at this
      cases this
  | succ n ih =>
    intro listed a L hcl hfree hr hy H
    refine ⟨fun h => (by rw [h] at hr; cases hr), fun j hj => ?_⟩
    by_cases hji : j = i
    · subst hji; exact ⟨oi, hi, .inl ⟨v, hy, H⟩⟩
    · obtain ⟨oj, hoj, h1⟩ := H.2 j (ready_mono hj hji)
      obtain ⟨hjun, oj', hoj', hall⟩ := mem_ready.1 hj
      obtain rfl : oj' = oj := Option.some.inj (hoj'.symm.trans hoj)
      have hiun : listed.getD i true = false := (mem_ready.1 hr).1
      have hnot : ∀ e ∈ oj'.after, Region.binds md e = true → e.on ≠ i := fun e he hb heq => by
        have h2 := hall e he hb
        rw [heq] at h2
        rcases Nat.lt_or_ge i listed.size with h' | h'
        · simp [h'] at hiun h2; rw [hiun] at h2; cases h2
        · simp [Array.getElem?_eq_none h'] at h2
      have hap := hfree j oj' hoj hji hjun hnot
      obtain ⟨p1, p2, p3⟩ := Oper.apart_spec hap
      have hsj := fun cs b => hsel j oj' cs b hoj
      have hsi := fun cs b => hsel i oi cs b hi
      have hfree' : ∀ k ok, ops[k]? = some ok → k ≠ i → (listed.setIfInBounds j true).getD k true = false →
          (∀ e ∈ ok.after, Region.binds md e = true → e.on ≠ i) → oi.apart ops ok = true := fun k ok hk hki hun hno => by
        refine hfree k ok hk hki ?_ hno
        by_cases hjk : j = k
        · subst hjk; exact hjun
        · rw [getD_set_ne true hjk] at hun; exact hun
      have hr' : i ∈ Region.ready md ops (listed.setIfInBounds j true) := ready_mono hr (Ne.symm hji)
      refine ⟨oj', hoj, ?_⟩
      rcases h1 with ⟨u, hyj, hk⟩ | ⟨hwt, hl⟩
      · refine .inl ⟨u, ?_, ?_⟩
        · exact hyj.of_same (execOp_put oj' hsj a oi.dst v p1).symm (wanted_put oj' a oi.dst v p1).symm
        · refine ih _ _ _ (hcl.set hj) hfree' hr' (hy.of_same (execOp_put oi hsi a oj'.dst u p3) (wanted_put oi a oj'.dst u p3)) ?_
          rw [Array.setIfInBounds_comm _ _ hji, ← Act.put_comm a v u p2]
          exact hk
      · refine .inr ⟨by rw [wanted_put oj' a oi.dst v p1] at hwt; exact hwt, fun w hw => ?_⟩
        rcases hl w hw with h3 | ⟨h3, h4⟩
        · refine .inl ?_
          refine loud_put (R := fun L' => lone md ops j = true ∨ ∀ x ∈ L, x ∈ L') (K := absAny P md ops B w0 Q n ((listed.setIfInBounds i true).setIfInBounds j true)) hap hsj hsi hQ hy (fun a' L' hr2 hy2 hk2 => ?_) h3
          rcases hr2 with hr2 | hr2
          · exact (lone_no hcl hr hj (Ne.symm hji) hr2).elim
          · refine ih _ _ _ (hcl.set hj) hfree' hr' (hy2.sub hr2) ?_
            rw [Array.setIfInBounds_comm _ _ hji]
            exact hk2
        · exact .inr ⟨by unfold Oper.asks at *; rw [execOp_put oj' hsj a oi.dst v p1] at h3; exact h3, h4⟩

/-- the plan: (true, i): one value, taken at once; (false, i): alone -/
def wpAbs (P : Program) (md : Region.Mode) (ops : Array Oper) (B : Nat) (w0 : World) (Q : Exit → Act → World → Prop) : List (Bool × Nat) → Act → List (Nat × Obj) → Prop
  | [], a, L => ∀ w, Kn B w0 L w → Q .normal a w
  | (true, i) :: rest, a, L => ∃ o v, ops[i]? = some o ∧ KY P ops B w0 L o v a ∧ wpAbs P md ops B w0 Q rest (a.put o.dst v) L
  | (false, i) :: rest, a, L => ∃ o, ops[i]? = some o ∧ Region.wanted o (yielded ops a.tmps) = true ∧
      ∀ w, Kn B w0 L w → wpList P ops (MixQ Q fun a' w' => ∃ L', (lone md ops i = true ∨ ∀ x ∈ L, x ∈ L') ∧ Kn B w0 L' w' ∧ wpAbs P md ops B w0 Q rest a' L') [o] a w

theorem absAny_plan (hsel : Region.noSelect ops = true) (hQ : ∀ c d v a w, Q (.panic c) (Act.put a d v) w → Q (.panic c) a w) :
    ∀ (pl : List (Bool × Nat)) (listed : Array Bool) (a : Act) (L : List (Nat × Obj)), Closed md ops listed → planB md ops pl listed = true → wpAbs P md ops B w0 Q pl a L → absAny P md ops B w0 Q pl.length listed a L := by
  intro pl
  induction pl with
  | nil => intro listed a L _ hB h; exact ⟨by simpa [planB] using hB, h⟩
  | cons x rest ih =>
    obtain ⟨b, i⟩ := x
    intro listed a L hc hB h
    cases b with
    | true =>
      simp only [planB, Bool.and_eq_true] at hB
      obtain ⟨⟨hr, hf⟩, hB'⟩ := hB
      obtain ⟨o, v, ho, hy, h'⟩ := h
      have hr' : i ∈ Region.ready md ops listed := by simpa using hr
      exact absAny_first ho (Region.noSelect_spec hsel) hQ rest.length listed a L hc (Region.free_spec ho hf) hr' hy (ih _ _ _ (hc.set hr') hB' h')
    | false =>
      simp only [planB, Bool.and_eq_true, beq_iff_eq] at hB
      obtain ⟨hr, hB'⟩ := hB
      have hr' : i ∈ Region.ready md ops listed := by rw [hr]; simp
      obtain ⟨o, ho, hwt, h'⟩ := h
      refine ⟨by rw [hr]; simp, fun j hj => ?_⟩
      obtain rfl : j = i := by rw [hr] at hj; simpa using hj
      refine ⟨o, ho, .inr ⟨hwt, fun w hw => ?_⟩⟩
      have h2 := h' w hw
      unfold wpList at h2
      rw [if_pos hwt] at h2
      rcases h2 with h2 | ⟨ha, hl⟩
      · refine .inl (wp_mixQ (K' := fun a' w' => ∃ L', (lone md ops j = true ∨ ∀ x ∈ L, x ∈ L') ∧ Kn B w0 L' w' ∧ wpAbs P md ops B w0 Q rest a' L') ?_)
        exact Oper.wp_mono (fun a' w' ⟨L', hr2, hk, hn⟩ => ⟨L', hr2, hk, ih _ _ _ (hc.set hr') hB' hn⟩) h2
      · exact .inr ⟨ha, hl⟩

/-- **a region that draws its order**: it is shown not to panic; what is behind it is asked in every world of which the list is known -/
theorem wp_region_abs (B : Nat) (w0 : World) (L : List (Nat × Obj)) (pl : List (Bool × Nat)) {id : Nat} {a : Act} {w : World} {l : List Oper} (hm : P.follows .mixedOrders = true)
    (hB : (Region.noSelect l.toArray && (pl.length == l.toArray.size) && planB .any l.toArray pl (Array.replicate l.toArray.size false)) = true)
    (hS : Kn B w0 L w.drew) (h : wpAbs P .any l.toArray B w0 (NoPanic Q) pl a L) : (Code.region id l.toArray true).wp P Q a w := by
  simp only [Bool.and_eq_true, beq_iff_eq] at hB
  obtain ⟨⟨h1, h2⟩, h3⟩ := hB
  refine wp_region_noPanic (wp_region_any hm ?_)
  rw [← h2]
  exact wpAny_of_abs _ _ _ _ (absAny_plan h1 (fun _ _ _ _ _ h => h) pl _ a L (Closed.start _) (by rw [h2] at *; exact h3) h) _ hS

theorem ab_end {a : Act} {L : List (Nat × Obj)} (h : ∀ w, Kn B w0 L w → Q .normal a w) : wpAbs P md ops B w0 (NoPanic Q) [] a L := fun w hw => NoPanic.normal (h w hw)
theorem ab_pure {rest : List (Bool × Nat)} {i : Nat} {o : Oper} {v : Value} {a : Act} {L : List (Nat × Obj)} (ho : ops[i]? = some o) (hw : Region.wanted o (yielded ops a.tmps) = true)
    (hy : ∀ w, Kn B w0 L w → (execOp a.eval o).run P w = .ok (.value v) w) (h : wpAbs P md ops B w0 Q rest (a.put o.dst v) L) : wpAbs P md ops B w0 Q ((true, i) :: rest) a L :=
  ⟨o, v, ho, .inl ⟨hw, fun w hk => by unfold kAt; rw [hy w hk]; exact ⟨rfl, rfl⟩⟩, h⟩
theorem ab_skip {rest : List (Bool × Nat)} {i : Nat} {o : Oper} {a : Act} {L : List (Nat × Obj)} (ho : ops[i]? = some o) (hw : Region.wanted o (yielded ops a.tmps) = false)
    (h : wpAbs P md ops B w0 Q rest (a.put o.dst undef) L) : wpAbs P md ops B w0 Q ((true, i) :: rest) a L :=
  ⟨o, undef, ho, .inr ⟨hw, rfl⟩, h⟩
theorem ab_call {rest : List (Bool × Nat)} {i : Nat} {o : Oper} {v : Value} {a : Act} {L : List (Nat × Obj)} {f : FuncId} {args : Array Value} (ho : ops[i]? = some o) (hw : Region.wanted o (yielded ops a.tmps) = true)
    (hr : ∀ w, (execOp a.eval o).run P w = .ok (.enter f args) w) (hc : ∀ w, Kn B w0 L w → Calls P f args w fun e w' => e = .returned v ∧ Below w.heap.size w w')
    (h : wpAbs P md ops B w0 Q rest (a.put o.dst v) L) : wpAbs P md ops B w0 Q ((true, i) :: rest) a L :=
  ⟨o, v, ho, .inl ⟨hw, fun w hk => by unfold kAt; rw [hr w]; exact ⟨rfl, hc w hk⟩⟩, h⟩
theorem ab_loud {rest : List (Bool × Nat)} {i : Nat} {o : Oper} {a : Act} {L : List (Nat × Obj)} (ho : ops[i]? = some o) (hw : Region.wanted o (yielded ops a.tmps) = true)
    (h : ∀ w, Kn B w0 L w → wpList P ops (MixQ Q fun a' w' => ∃ L', (lone md ops i = true ∨ ∀ x ∈ L, x ∈ L') ∧ Kn B w0 L' w' ∧ wpAbs P md ops B w0 Q rest a' L') [o] a w) :
    wpAbs P md ops B w0 Q ((false, i) :: rest) a L := ⟨o, ho, hw, h⟩
/-- behind a loud one: the list has grown -/
theorem ab_on {rest : List (Bool × Nat)} {i : Nat} {a : Act} {w : World} {L : List (Nat × Obj)} (L' : List (Nat × Obj)) (hs : ∀ x ∈ L, x ∈ L') (hk : Kn B w0 L' w) (h : wpAbs P md ops B w0 Q rest a L') :
    MixQ Q (fun a' w' => ∃ L', (lone md ops i = true ∨ ∀ x ∈ L, x ∈ L') ∧ Kn B w0 L' w' ∧ wpAbs P md ops B w0 Q rest a' L') .normal a w := ⟨L', .inr hs, hk, h⟩
/-- behind one that all others are apart from: any list -/
theorem ab_lone {rest : List (Bool × Nat)} {i : Nat} {a : Act} {w : World} {L : List (Nat × Obj)} (L' : List (Nat × Obj)) (hs : lone md ops i = true) (hk : Kn B w0 L' w) (h : wpAbs P md ops B w0 Q rest a L') :
    MixQ Q (fun a' w' => ∃ L', (lone md ops i = true ∨ ∀ x ∈ L, x ∈ L') ∧ Kn B w0 L' w' ∧ wpAbs P md ops B w0 Q rest a' L') .normal a w := ⟨L', .inl hs, hk, h⟩
end
end Go.Proofs.YtidmjepfpjfkoaaDoor
