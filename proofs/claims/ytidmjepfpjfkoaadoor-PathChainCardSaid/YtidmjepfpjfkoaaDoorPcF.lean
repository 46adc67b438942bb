/-
  Walk: path.Normal.
-/
import Derived.Test.YtidmjepfpjfkoaaDoorPcE
import Derived.Test.YtidmjepfpjfkoaaDoorPnM
namespace Go.Proofs.YtidmjepfpjfkoaaDoor
open Go Go.RowKit
set_option maxHeartbeats 4000000
set_option maxRecDepth 20000
set_option linter.unusedVariables false
set_option linter.unusedSimpArgs false
attribute [local go_sem] Oper.semAt_some

namespace Pm
theorem norm_app : ∀ (l r acc : List By), norm (l ++ r) acc = match norm l acc with
    | none => none
    | some m => norm r m
  | [], r, acc => rfl
  | x :: l, r, acc => by
    rw [List.cons_append, norm, norm]
    split
    · exact norm_app l r acc
    · split
      · split
        · rfl
        · exact norm_app l r _
      · exact norm_app l r _
/-- how much room parts take -/
def weigh : List By → Nat
  | [] => 0
  | x :: r => x.length + 1 + weigh r
theorem weigh_app : ∀ a b, weigh (a ++ b) = weigh a + weigh b
  | [], b => by simp [weigh]
  | x :: a, b => by rw [List.cons_append, weigh, weigh, weigh_app a b]; omega
theorem weigh_drop (a : List By) : weigh a.dropLast ≤ weigh a := by
  by_cases h : a = []
  · subst h; exact Nat.le_refl _
  · have h3 := congrArg weigh (List.dropLast_concat_getLast h)
    rw [weigh_app] at h3
    omega
theorem weigh_norm : ∀ (l acc m : List By), norm l acc = some m → weigh m ≤ weigh acc + weigh l
  | [], acc, m, h => by
    rw [norm] at h
    obtain rfl := Option.some.inj h
    simp [weigh]
  | x :: l, acc, m, h => by
    rw [norm] at h
    rw [weigh]
    split at h
    · have := weigh_norm l acc m h; omega
    · split at h
      · split at h
        · cases h
        · have := weigh_norm l _ m h
          have := weigh_drop acc
          omega
      · have := weigh_norm l _ m h
        rw [weigh_app] at this
        simp only [weigh] at this
        omega
theorem weigh_join : ∀ l, (joinS l).length ≤ weigh l
  | [] => by simp [joinS]
  | [x] => by simp [joinS, weigh]
  | x :: y :: r => by
    have := weigh_join (y :: r)
    rw [joinS, weigh]
    simp
    omega
theorem weigh_cut : ∀ s : By, weigh (cut s) = s.length + 1
  | [] => rfl
  | c :: l => by
    by_cases hc : c = 47
    · subst hc
      rw [cut_slash, weigh, weigh_cut l]; simp; omega
    · obtain ⟨y, r, hy⟩ : ∃ y r, cut l = y :: r := by
        cases h' : cut l with
        | nil => exact absurd h' (cut_ne l)
        | cons x r => exact ⟨x, r, rfl⟩
      have h := weigh_cut l
      rw [cut_other hc l hy, weigh]
      rw [hy, weigh] at h
      simp; omega
theorem length_weigh : ∀ l : List By, l.length ≤ weigh l
  | [] => Nat.le_refl _
  | x :: l => by have := length_weigh l; rw [weigh]; simp; omega
end Pm

theorem own_keeps {W W' : World} {row : Option Nat} {n₀ : Nat} {e : TypeId} {v : Value} {k : Nat} {xs : List Value} (h : W.ownsRow n₀ e 1 v k xs) (hg : W.grownBy W' row) (hr : ∀ g, n₀ ≤ g → (∃ cur, W.heap[g]? = some (.cells cur e (0, 0))) → row ≠ some g) : W'.ownsRow n₀ e 1 v k xs :=
  ⟨h.1, h.2.imp id fun ⟨g, cap, cur, e1, e2, e3, r⟩ => ⟨g, cap, cur, e1, e2, (hg.block g (lt_of_block e3) fun e' => hr g e2 ⟨cur, e3⟩ e'.symm).trans e3, r⟩⟩

/-- what the loop of Normal holds to -/
def NI (w : World) (pre : List (List UInt8)) (W : World) : Prop :=
  ∃ (ls : List (List UInt8)) (v : Value), Pm.norm pre [] = some ls ∧ Boxed W (w.heap.size + 2) 56 v ∧ W.ownsRow (w.heap.size + 6) 9 1 v ls.length (pv ls) ∧
    Boxed W w.heap.size 9 (.string ⟨#[]⟩) ∧ Boxed W (w.heap.size + 1) 37 (.int .i64 0) ∧ Below w.heap.size w W ∧ w.heap.size + 6 ≤ W.heap.size
def NX (P : List (List UInt8)) (w : World) (pre : List (List UInt8)) (W : World) : Prop :=
  (∃ r, pre ++ r = P) ∧ Pm.norm pre [] = none ∧ Boxed W w.heap.size 9 (.string ⟨#[]⟩) ∧ Boxed W (w.heap.size + 1) 37 (.int .i64 1) ∧ Below w.heap.size w W ∧ w.heap.size + 6 ≤ W.heap.size
theorem below_by {B : Nat} {w W W' : World} {row : Option Nat} (h : Below B w W) (hg : W.grownBy W' row) (hB : B ≤ W.heap.size) (hr : ∀ k, row = some k → B ≤ k) : Below B w W' := h.grown hg hB hr
theorem NI.by {w W W' : World} {row : Option Nat} {pre : List (List UInt8)} (h : NI w pre W) (hg : W.grownBy W' row)
    (hr : ∀ r, row = some r → w.heap.size + 3 ≤ r ∧ (r < w.heap.size + 6 ∨ ∃ o : Obj, W.heap[r]? = some o ∧ o.isCells = false)) : NI w pre W' := by
  obtain ⟨ls, v, h1, h2, h3, h4, h5, h6, h7⟩ := h
  refine ⟨ls, v, h1, h2.kept hg fun e => ?_, own_keeps h3 hg fun g hg2 ⟨cur, hc⟩ e => ?_, h4.kept hg fun e => ?_, h5.kept hg fun e => ?_, h6.grown hg (by omega) fun k e => ?_, Nat.le_trans h7 hg.size⟩
  · have := (hr _ e.symm).1; omega
  · rcases (hr _ e).2 with h | ⟨o, ho, hn⟩
    · omega
    · rw [hc] at ho; cases ho; cases hn
  · have := (hr _ e.symm).1; omega
  · have := (hr _ e.symm).1; omega
  · have := (hr _ e).1; omega
theorem NX.by {P : List (List UInt8)} {w W W' : World} {row : Option Nat} {pre : List (List UInt8)} (h : NX P w pre W) (hg : W.grownBy W' row)
    (hr : ∀ r, row = some r → w.heap.size + 3 ≤ r) : NX P w pre W' := by
  obtain ⟨h1, h2, h4, h5, h6, h7⟩ := h
  refine ⟨h1, h2, h4.kept hg fun e => ?_, h5.kept hg fun e => ?_, h6.grown hg (by omega) fun k e => ?_, Nat.le_trans h7 hg.size⟩
  · have := hr _ e.symm; omega
  · have := hr _ e.symm; omega
  · have := hr _ e; omega

theorem results_cells2 {P : Program} {fn : Func} {p q : Tmp} {ty ty2 : TypeId} (h : fn.results = #[.cell p ty, .cell q ty2]) (tmps : Array Value) (w : World) (g g2 : Nat) (v v2 : Value)
    (hp : tmps.getD p undef = .pointer (some ⟨g, 0, none⟩)) (hq : tmps.getD q undef = .pointer (some ⟨g2, 0, none⟩))
    (l1 : (loadVar ty ⟨g, 0, none⟩).run P w = .ok v w) (l2 : (loadVar ty2 ⟨g2, 0, none⟩).run P w = .ok v2 w) :
    (results fn tmps).run P w = .ok (.tuple #[v, v2]) w := by
  have hp' : tmps[p]?.getD undef = .pointer (some ⟨g, 0, none⟩) := by simpa using hp
  have hq' : tmps[q]?.getD undef = .pointer (some ⟨g2, 0, none⟩) := by simpa using hq
  simp [results, h, hp', hq', asAddr, l1, l2, Sem.run_bind, Result.andThen]

/-- behind an append to the row: the boxes that lie ahead of it are kept; the new row is put into its box -/
theorem box_app {W w1 : World} {n₀ B : Nat} {t e : TypeId} {v v' : Value} {k m : Nat} {xs ys : List Value} {tmp : Obj} (hv : Boxed W B t v) (hrow : W.ownsRow n₀ e 1 v k xs) (hn₀ : n₀ ≤ W.heap.size) (hown' : w1.ownsRow n₀ e 1 v' m ys)
    (hgrow : (W.alloc tmp).grownBy w1 v.ownBlock) (hB : B < n₀) :
    Boxed w1 B t v ∧ (Boxed (w1.setCell ⟨B, 0, none⟩ v') B t v' ∧ (w1.setCell ⟨B, 0, none⟩ v').ownsRow n₀ e 1 v' m ys ∧ (∀ B2 t2 u, B2 < n₀ → B2 ≠ B → Boxed W B2 t2 u → Boxed (w1.setCell ⟨B, 0, none⟩ v') B2 t2 u) ∧
      KeepsFrom n₀ W (w1.setCell ⟨B, 0, none⟩ v') ∧ Below B W (w1.setCell ⟨B, 0, none⟩ v')) := by
  have hob : ∀ b, some b = v.ownBlock → n₀ ≤ b ∧ ∃ cur, W.heap[b]? = some (.cells cur e (0, 0)) := by
    intro b hb
    rcases hrow.2 with ⟨rfl, _⟩ | ⟨g, cap, cur, rfl, h1, h2, _⟩
    · simp [Value.ownBlock] at hb
    · simp [Value.ownBlock] at hb
      subst hb
      exact ⟨h1, cur, h2⟩
  have keep : ∀ B2 t2 u, B2 < n₀ → Boxed W B2 t2 u → Boxed w1 B2 t2 u := fun B2 t2 u h2 h => (h.alloc tmp).kept hgrow fun e' => by have := (hob _ e').1; omega
  have hsA : (W.alloc tmp).heap.size = W.heap.size + 1 := World.size_alloc _ _
  have hg := grownBy_setCell' w1 B v'
  have hv1 := keep B t v hB hv
  refine ⟨hv1, hv1.set _, own_keeps hown' hg (fun g h _ e' => by have := Option.some.inj e'; omega), fun B2 t2 u h2 hne h => (keep B2 t2 u h2 h).kept hg (fun e' => hne (Option.some.inj e')), ?_, ?_⟩
  · refine KeepsFrom.trans (Y := w1) ⟨by have := hgrow.size; omega, fun q o hq hk ho => ?_⟩ (KeepsFrom.of_grownBy hg fun j e' => by have := Option.some.inj e'; omega)
    have h1 : (W.alloc tmp).heap[q]? = some o := (Below.heap_alloc W tmp q (lt_of_block hk)).trans hk
    refine (hgrow.block q (lt_of_block h1) fun e' => ?_).trans h1
    obtain ⟨_, cur, h2⟩ := hob _ e'
    rw [hk] at h2; cases h2; cases ho
  · exact ((((Below.refl _ W).alloc (by omega) tmp).grown hgrow (by omega) fun k e' => by have := (hob _ e'.symm).1; omega)).grown hg (by have := hgrow.size; omega) fun k e' => by have := Option.some.inj e'; omega
theorem load_box {P : Program} {W : World} {B : Nat} {t : TypeId} {v : Value} (ty : TypeId) (h : Boxed W B t v) (ha : ∀ w, (isAgg ty).run P w = .ok false w) : (loadVar ty ⟨B, 0, none⟩).run P W = .ok v W := by
  unfold loadVar
  have hc := h.cell
  simp [Sem.run_bind, ha, Result.andThen]
  simp [load, go_sem, hc]
theorem normal_end {w W : World} {D : Nat} {jp : ByteArray} {je : Nat} (b1 : Boxed W w.heap.size 9 (.string jp)) (b2 : Boxed W (w.heap.size + 1) 37 (.int .i64 (je : Int))) (hK : W.heap[D]? = some (.deferred (some [])))
    (hD : w.heap.size + 6 ≤ D) (hB : Below w.heap.size w W) (tmps : Array Value) (h2 : tmps.getD 2 undef = .pointer (some ⟨w.heap.size, 0, none⟩)) (h3 : tmps.getD 3 undef = .pointer (some ⟨w.heap.size + 1, 0, none⟩)) (p : List UInt8) (e : Nat) (hp : jp = ⟨p.toArray⟩) (he : e = je) :
    bodyPostM Fence.wide 3 Tryd.prog Tryd.f46 (fun e1 w' => e1 = .returned (.tuple #[.string ⟨p.toArray⟩, .int .i64 (e : Int)]) ∧ Below w.heap.size w w') .ret { tmps := tmps, defers := [{ target := .collected D, args := #[] }] } W := by
  subst hp he
  have hg := grownBy_putObj' W D (.deferred none)
  have c1 := b1.kept hg fun e => by have := Option.some.inj e; omega
  have c2 := b2.kept hg fun e => by have := Option.some.inj e; omega
  refine ⟨by simp, .inl ⟨_, _, rfl, run_takeDeferred hK, ?_⟩⟩
  exact ⟨_, results_cells2 rfl tmps _ _ _ _ _ h2 h3 (load_box _ c1 Tryd.isAgg9) (load_box _ c2 Tryd.isAgg37), rfl, hB.grown hg (by have := lt_of_block hK; omega) fun k e => by have := Option.some.inj e; omega⟩
theorem pathNormal (s : ByteArray) (hs : s.size ≤ 90000) (w : World) (hG : Gl w) :
    Calls Tryd.prog 46 #[.string s] w fun e w' =>
      e = .returned (.tuple #[.string ⟨(Pm.normP s.data.toList).toArray⟩, .int .i64 (Pm.normE s.data.toList : Nat)]) ∧ Below w.heap.size w w' := by
  obtain ⟨i0, hi0, hz0, hz1, hz2⟩ := info_parts info_str
  have hgl := hG.lt
  refine (callsIn_wide (n := 3)).1 ?_
  refine callsIn_of_wp_marks Tryd.func46 rfl trivial ?_ rfl
  simp only [Tryd.ntmps46, List.size_toArray, List.length_cons, List.length_nil, Nat.reduceAdd, Nat.reduceSub, Array.replicate_succ, Array.replicate_zero, List.push_toArray, List.append_toArray, List.nil_append, List.cons_append]
  have hsq : ∀ W, Calls Tryd.prog 84 #[.string s, .string ⟨#[47]⟩] W fun e w' =>
      e = .returned (.func (.func 139) #[] #[.pointer (some ⟨W.heap.size + 1, 0, none⟩), .pointer (some ⟨W.heap.size, 0, none⟩), .pointer (some ⟨W.heap.size + 2, 0, none⟩)]) ∧
        w' = ((W.alloc (.cells #[.string s] 9)).alloc (.cells #[.string slashB] 9)).alloc (.cells #[.int .i64 0] 3) := fun W => splitSeq s W
  have Hhsq := Lib.hid hsq
  clear hsq
  gi_wp2_with (refine ⟨trivial, ?_⟩; gi_at_call 84; refine (callsIn_wide.2 (Hhsq.out _)).mono ?_; rintro e w2 ⟨rfl, rfl⟩)
  obtain ⟨b, hb⟩ : ∃ b, b = w.heap.size := ⟨_, rfl⟩
  have hsA : (w.alloc (.cells #[.string ⟨#[]⟩] 9)).heap.size = b + 1 := by rw [World.size_alloc, hb]
  have bA := Boxed.new w 9 (.string ⟨#[]⟩)
  have hBA : Below w.heap.size w (w.alloc (.cells #[.string ⟨#[]⟩] 9)) := (Below.refl _ w).alloc (Nat.le_refl _) _
  generalize hwA : w.alloc (.cells #[.string ⟨#[]⟩] 9) = wA at *
  have hsB : (wA.alloc (.cells #[.int .i64 0] 37)).heap.size = b + 2 := by rw [World.size_alloc, hsA]
  have bB := Boxed.new wA 37 (.int .i64 0)
  have bA := bA.alloc (.cells #[.int .i64 0] 37)
  have hBA := hBA.alloc (by omega) (.cells #[.int .i64 0] 37)
  rw [hsA] at bB
  generalize hwB : wA.alloc (.cells #[.int .i64 0] 37) = wB at *
  have hsC : (wB.alloc (.cells #[.slice none 0 0] 56)).heap.size = b + 3 := by rw [World.size_alloc, hsB]
  have bC := Boxed.new wB 56 (.slice none 0 0)
  have bA := bA.alloc (.cells #[.slice none 0 0] 56)
  have bB := bB.alloc (.cells #[.slice none 0 0] 56)
  have hBA := hBA.alloc (by omega) (.cells #[.slice none 0 0] 56)
  rw [hsB] at bC
  generalize hwC : wB.alloc (.cells #[.slice none 0 0] 56) = wC at *
  have hsD : (wC.alloc (.cells #[.string s] 9)).heap.size = b + 4 := by rw [World.size_alloc, hsC]
  have bD := Boxed.new wC 9 (.string s)
  have bA := bA.alloc (.cells #[.string s] 9)
  have bB := bB.alloc (.cells #[.string s] 9)
  have bC := bC.alloc (.cells #[.string s] 9)
  have hBA := hBA.alloc (by omega) (.cells #[.string s] 9)
  rw [hsC] at bD
  generalize hwD : wC.alloc (.cells #[.string s] 9) = wD at *
  have hsE : (wD.alloc (.cells #[.string slashB] 9)).heap.size = b + 5 := by rw [World.size_alloc, hsD]
  have bE := Boxed.new wD 9 (.string slashB)
  have bA := bA.alloc (.cells #[.string slashB] 9)
  have bB := bB.alloc (.cells #[.string slashB] 9)
  have bC := bC.alloc (.cells #[.string slashB] 9)
  have bD := bD.alloc (.cells #[.string slashB] 9)
  have hBA := hBA.alloc (by omega) (.cells #[.string slashB] 9)
  rw [hsD] at bE
  generalize hwE : wD.alloc (.cells #[.string slashB] 9) = wE at *
  have hsF : (wE.alloc (.cells #[.int .i64 0] 3)).heap.size = b + 6 := by rw [World.size_alloc, hsE]
  have bF := Boxed.new wE 3 (.int .i64 0)
  have bA := bA.alloc (.cells #[.int .i64 0] 3)
  have bB := bB.alloc (.cells #[.int .i64 0] 3)
  have bC := bC.alloc (.cells #[.int .i64 0] 3)
  have bD := bD.alloc (.cells #[.int .i64 0] 3)
  have bE := bE.alloc (.cells #[.int .i64 0] 3)
  have hBA := hBA.alloc (by omega) (.cells #[.int .i64 0] 3)
  rw [hsE] at bF
  generalize hwF : wE.alloc (.cells #[.int .i64 0] 3) = wF at *
  clear hwA hwB hwC hwD hwE hwF hsA hsB hsC hsD hsE
  subst hb
  simp only [Nat.add_assoc, Nat.reduceAdd]
  obtain ⟨P, hP⟩ : ∃ P, P = Pm.cut s.data.toList := ⟨_, rfl⟩
  have hw8 : Pm.weigh P ≤ 90001 := by rw [hP, Pm.weigh_cut]; show s.size + 1 ≤ _; omega
  have HhP := Lib.hid hP
  have Hhw8 := Lib.hid hw8
  clear hP hw8
  refine range_own rfl (by decide) (gf := 139) (lb := #[.pointer (some ⟨w.heap.size + 4, 0, none⟩), .pointer (some ⟨w.heap.size + 3, 0, none⟩), .pointer (some ⟨w.heap.size + 5, 0, none⟩)]) rfl trivial (enters_of Tryd.func139 (by kernel_rfl) rfl)
    P (NI w) (NX P w) (KpS (w.heap.size + 3) (w.heap.size + 4) (w.heap.size + 5)) KpS.trans ?hKb ?hI ?hIx ?h0 ?hseq
    (fun x => { tmps := #[.string s, undef, .pointer (some ⟨w.heap.size, 0, none⟩), .pointer (some ⟨w.heap.size + 1, 0, none⟩), .pointer (some ⟨w.heap.size + 2, 0, none⟩), .string ⟨x.toArray⟩, .string s,
      .func (.func 139) #[] #[.pointer (some ⟨w.heap.size + 4, 0, none⟩), .pointer (some ⟨w.heap.size + 3, 0, none⟩), .pointer (some ⟨w.heap.size + 5, 0, none⟩)], .string ⟨x.toArray⟩,
      undef, undef, undef, undef, undef, undef, undef, undef, undef, undef, undef, undef, undef, undef, undef, undef, undef, undef, undef, undef, undef, undef], defers := [] }) ?assign ?body ?done ?stop
  case hKb =>
    intro W l o o' hl ho hc
    have hg := grownBy_putObj' W l o'
    exact ⟨fun v h => h.kept hg fun e => by have := Option.some.inj e; omega, fun v h => h.kept hg fun e => by have := Option.some.inj e; omega, fun v h => h.kept hg fun e => by have := Option.some.inj e; omega⟩
  case hI =>
    intro pre X Y row h hg hr
    exact h.by hg fun r e => ⟨by have := (hr r e).1; omega, .inr (hr r e).2⟩
  case hIx =>
    intro pre X Y row h hg hr
    exact h.by hg fun r e => by have := (hr r e).1; omega
  case h0 => exact ⟨[], _, rfl, bC, World.ownsRow_nil _ _ _ _, bA, bB, hBA, by omega⟩
  case hseq =>
    intro l Bk Bx W hW hBk hY hI0 hk0
    rw [HhP.out] at hY ⊢
    have hbb := fun (B : Nat) (h : B < wF.heap.size) => hW.block B h
    exact splitIter (3 - 1) (by decide) l (w.heap.size + 3) (w.heap.size + 4) (w.heap.size + 5) ⟨by omega, by omega⟩ s (by omega) (NI w) (NX _ w) Bk Bx
      (fun pre X Y row h hg hr => h.by hg fun r e => by have := hr r e; exact ⟨by omega, .inl (by omega)⟩)
      (fun X Y row h hg hr => hBk X Y row h hg fun r e => by have := hr r e; omega)
      hY W hI0 hk0 ((hbb _ bD.lt).trans bD) ((hbb _ bE.lt).trans bE) ((hbb _ bF.lt).trans bF)
  case assign =>
    intro l x W K hK
    gi_wp2
    exact hK
  case body =>
    rintro l pre x W ⟨ls, v, hn, hv, hrow, hpa, hpe, hB, hsz⟩ ⟨r, hr⟩
    obtain ⟨A, c, rfl⟩ := (owns_rdS hrow).slice
    have hN : ∀ m, Pm.norm [x] ls = m → Pm.norm (pre ++ [x]) [] = m := fun m h => by rw [Pm.norm_app, hn]; exact h
    have hll : ls.length ≤ 90001 := by
      have h1 := Pm.length_weigh ls
      have h2 := Pm.weigh_norm pre [] ls hn
      have h3 := Hhw8.out
      rw [← hr, Pm.weigh_app] at h3
      have h0 : Pm.weigh [] = 0 := rfl
      omega
    obtain ⟨xb, hxb⟩ : ∃ xb : ByteArray, xb = ⟨x.toArray⟩ := ⟨_, rfl⟩
    have hxd : xb.data.toList = x := by rw [hxb]
    rw [← hxb]
    have e1 : xb.toList.isEmpty = (x == []) := by rw [ByteArray.toList_eq, hxd]; cases x <;> rfl
    have e2 := beq_lit xb [46]
    have e3 := beq_lit xb [46, 46]
    rw [hxd] at e2 e3
    have hcell := hv.cell
    have hfr := hv.frozen
    have Hhn := Lib.hid hn
    have Hhxb := Lib.hid hxb
    have Hhxd := Lib.hid hxd
    have Hhr := Lib.hid hr
    have HhN := Lib.hid hN
    clear hn hxb hxd hr hN
    by_cases hx1 : x = []
    · rw [show (x == []) = true by rw [hx1]; rfl] at e1
      have HN := Lib.hid (HhN.out (some ls) (by rw [hx1]; rfl))
      clear hx1 e2 e3
      gi_wp2
      exact ⟨KeepsFrom.refl _ _, ⟨fun _ h => h, fun _ h => h, fun _ h => h⟩, ls, _, HN.out, hv, hrow, hpa, hpe, hB, hsz⟩
    · rw [beq_eq_false_iff_ne.2 hx1] at e1
      by_cases hx2 : x = [46]
      · rw [show (x == [46]) = true by rw [hx2]; rfl] at e2
        have HN := Lib.hid (HhN.out (some ls) (by rw [hx2]; rfl))
        clear hx1 hx2 e3
        gi_wp2
        exact ⟨KeepsFrom.refl _ _, ⟨fun _ h => h, fun _ h => h, fun _ h => h⟩, ls, _, HN.out, hv, hrow, hpa, hpe, hB, hsz⟩
      · rw [beq_eq_false_iff_ne.2 hx2] at e2
        by_cases hx3 : x = [46, 46]
        · rw [show (x == [46, 46]) = true by rw [hx3]; rfl] at e3
          by_cases hls : ls = []
          · subst hls
            have HN := Lib.hid (HhN.out none (by rw [hx3]; rfl))
            have hz : (((0 : Nat) : Int) == 0) = true := rfl
            clear hx1 hx2 hx3
            have ga1 := hpa.cell
            have ga2 := hpa.frozen
            have ge1 := hpe.cell
            have ge2 := hpe.frozen
            simp only [List.length_nil] at hcell hv hrow
            gi_wp2
            have g1 := grownBy_setCell' W w.heap.size (.string ⟨#[]⟩)
            have g2 := grownBy_setCell' (W.setCell ⟨w.heap.size, 0, none⟩ (.string ⟨#[]⟩)) (w.heap.size + 1) (.int .i64 1)
            refine ⟨(KeepsFrom.of_grownBy g1 fun j e => by have := Option.some.inj e; omega).trans (KeepsFrom.of_grownBy g2 fun j e => by have := Option.some.inj e; omega), ⟨r, by rw [← Hhr.out]; simp⟩, HN.out,
              (hpa.set _).kept g2 (fun e => by have := Option.some.inj e; omega), (hpe.kept g1 fun e => by have := Option.some.inj e; omega).set _, (hB.setCell (Nat.le_refl _) _).setCell (Nat.le_succ _) _, Nat.le_trans hsz (Nat.le_trans g1.size g2.size)⟩
          · have hz : ((ls.length : Int) == 0) = false := by rw [beq_eq_false_iff_ne]; have := List.length_pos_iff.2 hls; omega
            have HN := Lib.hid (HhN.out (some ls.dropLast) (by rw [hx3, Pm.norm, if_neg (by decide), if_pos rfl, if_neg hls]; rfl))
            have hlp := List.length_pos_iff.2 hls
            have hdl : ls.dropLast.length = ls.length - 1 := List.length_dropLast
            have hpd : pv ls.dropLast = (pv ls).take (ls.length - 1) := by unfold pv; rw [List.dropLast_eq_take, List.map_take]
            clear hx1 hx2 hx3 hls
            obtain ⟨k, hk⟩ : ∃ k, ls.length = k + 1 := ⟨ls.length - 1, by omega⟩
            rw [hk] at hrow hv hcell hdl hpd hz
            rw [Nat.add_sub_cancel] at hdl hpd
            have hA : ∃ g, A = some ⟨g, 0, none⟩ ∧ w.heap.size + 6 ≤ g ∧ k + 1 ≤ c := by
              rcases hrow.2 with ⟨e, h0⟩ | ⟨g, cap, cur, e, h1, h2, h3, _⟩
              · omega
              · injection e with e1 e2 e3
                exact ⟨g, e1, h1, by omega⟩
            obtain ⟨g, rfl, hgg, hkc⟩ := hA
            have hcut := own_cut hrow (k := k) (by omega)
            rw [← hpd, ← hdl] at hcut
            have hg1 := grownBy_setCell' W (w.heap.size + 2) (.slice (some ⟨g, 0, none⟩) k c)
            have hcut2 := own_keeps hcut hg1 (fun g' h' _ e => by have := Option.some.inj e; omega)
            rw [hdl] at hcut2
            have hz2 : (((k + 1 : Nat) : Int) - 1) = (k : Int) := by omega
            have Hhcut := Lib.hid hcut
            have Hhcut2 := Lib.hid hcut2
            have Hhdl := Lib.hid hdl
            have Hhpd := Lib.hid hpd
            have Hhrow := Lib.hid hrow
            clear hcut hcut2 hdl hpd hrow
            gi_wp2
            have q := fun (B2 : Nat) (t2 : TypeId) (u : Value) (hne : B2 ≠ w.heap.size + 2) (h : Boxed W B2 t2 u) => h.kept hg1 (fun e => hne (Option.some.inj e))
            exact ⟨KeepsFrom.of_grownBy hg1 fun j e => by have := Option.some.inj e; omega, ⟨fun v h => q _ _ _ (by omega) h, fun v h => q _ _ _ (by omega) h, fun v h => q _ _ _ (by omega) h⟩, ls.dropLast, _, HN.out, hv.set _, by rw [Hhdl.out]; exact Hhcut2.out, q _ _ _ (by omega) hpa, q _ _ _ (by omega) hpe, hB.setCell (by show w.heap.size ≤ w.heap.size + 2; omega) _, Nat.le_trans hsz hg1.size⟩
        · rw [beq_eq_false_iff_ne.2 hx3] at e3
          have HN := Lib.hid (HhN.out (some (ls ++ [x])) (by rw [Pm.norm, if_neg (by rintro (h | h); exact hx1 h; exact hx2 h), if_neg hx3]; rfl))
          clear hx1 hx2 hx3
          have hpx : pv (ls ++ [x]) = pv ls ++ [.string xb] := by rw [Hhxb.out]; simp [pv]
          have hlx : (ls ++ [x]).length = ls.length + 1 := by simp
          have Hhpx := Lib.hid hpx
          have Hhlx := Lib.hid hlx
          clear hpx hlx
          gi_wp2_with (gi_at_builtin; refine wpListIn_append_own _ rfl _ _ 56 rfl (w.heap.size + 6) 9 i0 (.string ⟨#[]⟩) 1 16 Tryd.underlying56 hi0 hz0 hz1 hz2 rfl (by decide) _ _ _ rfl (hrow.alloc _) ⟨W.heap.size, 0, none⟩ 1 1 [.string xb] rfl rfl (cell_one_new _ _ _) (by simp [Value.oneCell']) (by unfold maxLen; omega) (by omega) (by rw [World.size_alloc]; omega) ?_; intro v' w4 hown' hgrow _; obtain ⟨g', cap', rfl⟩ := ownsRow_succ hown'; obtain ⟨hv1, hrest⟩ := box_app hv hrow hsz hown' hgrow (by omega); have hc1 := hv1.cell; have hf1 := hv1.frozen)
          obtain ⟨r1, r2, r3, r4, r5⟩ := hrest
          refine ⟨by rw [hsF]; exact r4, ⟨fun v h => r3 _ _ _ (by omega) (by omega) h, fun v h => r3 _ _ _ (by omega) (by omega) h, fun v h => r3 _ _ _ (by omega) (by omega) h⟩, ls ++ [x], _, HN.out, r1, by rw [Hhpx.out, Hhlx.out]; exact r2, r3 _ _ _ (by omega) (by omega) hpa, r3 _ _ _ (by omega) (by omega) hpe, hB.trans (r5.mono (by omega)), by have := r5.size; omega⟩
  case done =>
    rintro D W hD ⟨ls, v, hn, hv, hrow, hpa, hpe, hB, hsz⟩ hK
    have hrd := owns_rdS hrow
    obtain ⟨A, c, rfl⟩ := hrd.slice
    have hwl : Pm.weigh ls ≤ 90001 := by
      have := Pm.weigh_norm P [] ls hn
      have h0 : Pm.weigh [] = 0 := rfl
      have := Hhw8.out
      omega
    have hjl := Pm.weigh_join ls
    have hll := Pm.length_weigh ls
    have hj := pathJoin ls (by omega) (by omega) A c W (hG.below hB hgl) hrd
    have hnp : Pm.normP s.data.toList = Pm.joinP ls := by unfold Pm.normP; rw [← HhP.out, hn]
    have hne : Pm.normE s.data.toList = Pm.joinE ls := by unfold Pm.normE; rw [← HhP.out, hn]
    have hc := hv.cell
    obtain ⟨n, hnn⟩ : ∃ n, n = ls.length := ⟨_, rfl⟩
    obtain ⟨jp, hjp⟩ : ∃ jp : ByteArray, jp = ⟨(Pm.joinP ls).toArray⟩ := ⟨_, rfl⟩
    obtain ⟨je, hje⟩ : ∃ je : Nat, je = Pm.joinE ls := ⟨_, rfl⟩
    rw [← hnn, ← hjp, ← hje] at hj
    rw [← hnn] at hc
    have Hhj := Lib.hid hj
    have Hhjp := Lib.hid hjp
    have Hhje := Lib.hid hje
    have Hhnp := Lib.hid hnp
    have Hhne := Lib.hid hne
    clear hj hjp hje hnp hne
    clear hrow hrd hn hjl hll hwl hnn hv
    gi_wp2_with (refine ⟨trivial, ?_⟩; gi_at_call 44; refine (callsIn_wide.2 Hhj.out).mono ?_; rintro e W2 ⟨rfl, hb2⟩; have ga : Boxed W2 w.heap.size 9 (.string ⟨#[]⟩) := (hb2.block _ hpa.lt).trans hpa; have ge : Boxed W2 (w.heap.size + 1) 37 (.int .i64 0) := (hb2.block _ hpe.lt).trans hpe; have gk : W2.heap[D]? = some (.deferred (some [])) := (hb2.block _ (lt_of_block hK)).trans hK; have ga1 := ga.cell; have ga2 := ga.frozen; have ge1 := ge.cell; have ge2 := ge.frozen)
    have gB := hB.trans (hb2.mono hB.size)
    have g1 := ga.set (.string jp)
    have g2 := (ge.kept (grownBy_setCell' W2 w.heap.size (.string jp)) (fun e => by have := Option.some.inj e; omega)).set (.int .i64 (je : Int))
    have g3 := g1.kept (grownBy_setCell' (W2.setCell ⟨w.heap.size, 0, none⟩ (.string jp)) (w.heap.size + 1) (.int .i64 (je : Int))) (fun e => by have := Option.some.inj e; omega)
    have g4 : ((W2.setCell ⟨w.heap.size, 0, none⟩ (.string jp)).setCell ⟨w.heap.size + 1, 0, none⟩ (.int .i64 (je : Int))).heap[D]? = some (.deferred (some [])) := by
      rw [Below.heap_setCell _ _ _ _ (by show D ≠ w.heap.size + 1; omega), Below.heap_setCell _ _ _ _ (by show D ≠ w.heap.size; omega)]
      exact gk
    exact normal_end g3 g2 g4 (by omega) ((gB.setCell (Nat.le_refl _) _).setCell (Nat.le_succ _) _) _ rfl rfl _ _ (by rw [Hhnp.out]; exact Hhjp.out) (by rw [Hhne.out]; exact Hhje.out.symm)
  case stop =>
    rintro D pre W hD ⟨⟨r, hr⟩, hn, hpa, hpe, hB, hsz⟩ hK
    have hnn : Pm.norm P [] = none := by rw [← hr, Pm.norm_app, hn]
    have hnp : Pm.normP s.data.toList = [] := by unfold Pm.normP; rw [← HhP.out, hnn]
    have hne : Pm.normE s.data.toList = 1 := by unfold Pm.normE; rw [← HhP.out, hnn]
    have Hhnp := Lib.hid hnp
    have Hhne := Lib.hid hne
    clear hnp hne
    clear hn hnn hr
    gi_wp2
    exact normal_end (je := 1) hpa hpe hK (by omega) hB _ rfl rfl _ _ (by rw [Hhnp.out]) (by rw [Hhne.out])
end Go.Proofs.YtidmjepfpjfkoaaDoor
