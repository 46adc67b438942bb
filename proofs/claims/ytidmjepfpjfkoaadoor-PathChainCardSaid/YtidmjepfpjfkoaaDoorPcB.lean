/-
  Walk: path.Sort: clone, delete, sort, compact.
-/
import Derived.Test.YtidmjepfpjfkoaaDoorPcA
import Derived.Test.YtidmjepfpjfkoaaDoorPnT
namespace Go.Proofs.YtidmjepfpjfkoaaDoor
open Go Go.RowKit
open Go.Sort hiding Below
set_option maxHeartbeats 2000000
set_option maxRecDepth 20000
set_option linter.unusedVariables false
set_option linter.unusedSimpArgs false

theorem below_grow {B : Nat} {a w : World} (h : Below B a w) (hB : B ≤ w.heap.size) (os : Array Obj) : Below B a (grow w os) :=
  h.trans ⟨rfl, rfl, rfl, by simp [grow], fun k hk => by
    show (w.heap ++ os)[k]? = _
    rw [Array.getElem?_append_left (by omega)]⟩
theorem below_put {α : Type} [Inhabited α] {B : Nat} {a w : World} (h : Below B a w) (enc : α → Value) {b : Nat} (hb : B ≤ b) (off : Nat) (d : Array α) : Below B a (putRow enc w b off d) :=
  h.trans ⟨rfl, rfl, rfl, by simp [putRow, mapBlock], fun k hk => by
    show (mapBlock w b _).heap[k]? = _
    unfold mapBlock
    simp only
    rw [Array.getElem?_modify, if_neg (by omega)]⟩
theorem below_sort {α : Type} [Inhabited α] {w : World} (enc : α → Value) {b : Nat} (hb : b < w.heap.size) (off m : Nat) (d : Array α) (os : Array Obj) : Below b w (sortWorld enc w b off m d os) := by
  unfold sortWorld
  have h0 : Below b w (Sort.ahead w m) := ⟨rfl, rfl, rfl, Nat.le_refl _, fun _ _ => rfl⟩
  refine below_grow (below_put h0 enc (Nat.le_refl _) off d) ?_ os
  have : (putRow enc (Sort.ahead w m) b off d).heap.size = w.heap.size := by simp [putRow, mapBlock, Sort.ahead]
  omega
theorem holds_own {w : World} {base : Nat} {e : TypeId} {v : Value} {ps : List (List UInt8)} (h : w.ownsRow base e 1 v ps.length (pv ps)) (hne : v ≠ .slice none 0 0) :
    ∃ g cap, v = .slice (some ⟨g, 0, none⟩) ps.length cap ∧ base ≤ g ∧ g < w.heap.size ∧ ps.length ≤ cap ∧ Holds encStr w g 0 ps.toArray := by
  rcases h.2 with ⟨rfl, _⟩ | ⟨g, cap, cur, rfl, hg, hh, hc, _, _, hx⟩
  · exact absurd rfl hne
  · refine ⟨g, cap, rfl, hg, lt_of_block hh, hc, fun j hj => ⟨?_, ?_⟩⟩
    · rw [Nat.zero_add, cell_of_row _ _ _ _ _ _ hh]
      have hj2 : j < ps.length := by simpa using hj
      have h1 := pv_get ps j hj2
      rw [← hx, List.getElem?_take, if_pos (by omega)] at h1
      rw [getElem!_pos ps.toArray j hj]
      simpa using h1
    · rw [Nat.zero_add]; exact frozen_of_row w g j cur e hh

def sortL (l : List (List UInt8)) (h : ∀ x ∈ l, x.length ≤ 100000) : List (List UInt8) := ((Pm.txs l h).mergeSort fun x y => !Pm.ltT y x).map (·.1)
theorem sortL_length (l : List (List UInt8)) (h : ∀ x ∈ l, x.length ≤ 100000) : (sortL l h).length = l.length := by
  unfold sortL
  rw [List.length_map, List.length_mergeSort]
  unfold Pm.txs
  simp
theorem cmpLays (b n : Nat) (w : World) (hG : Gl w) (hb0 : 0 < b) (hbs : b < w.heap.size) : CmpLays1 Tryd.prog 40 #[] (fun x : Pm.Tx => encStr x.1) Pm.cfT b 0 n w := by
  intro m os dk hs x y
  have h1 := below_sort (w := w) (fun x : Pm.Tx => encStr x.1) hbs 0 m dk os
  generalize sortWorld (fun x : Pm.Tx => encStr x.1) w b 0 m dk os = W at *
  have hx : (⟨x.1.toArray⟩ : ByteArray).size ≤ 100000 := by have := x.2; show x.1.toArray.size ≤ _; simpa using this
  have hy : (⟨y.1.toArray⟩ : ByteArray).size ≤ 100000 := by have := y.2; show y.1.toArray.size ≤ _; simpa using this
  have h2 := pathCompareW ⟨x.1.toArray⟩ ⟨y.1.toArray⟩ hx hy W (hG.below h1 hb0)
  refine h2.mono ?_
  rintro e w' ⟨rfl, rfl⟩
  refine ⟨?_, ?_⟩
  · simp [Pm.cfT]
  · rw [alloc_eq_grow, alloc_eq_grow, grow_grow]; exact ⟨0, _, rfl⟩
theorem holds_tx {w : World} {b : Nat} (L : List Pm.Tx) : Holds (fun x : Pm.Tx => encStr x.1) w b 0 L.toArray ↔ Holds encStr w b 0 (L.map (·.1)).toArray := by
  constructor
  · intro h j hj
    have hj2 : j < L.toArray.size := by simpa using hj
    have h1 := h j hj2
    rw [getElem!_pos _ j hj2] at h1
    rw [getElem!_pos _ j hj]
    simpa using h1
  · intro h j hj
    have hj2 : j < (L.map (·.1)).toArray.size := by simpa using hj
    have h1 := h j hj2
    rw [getElem!_pos _ j hj2] at h1
    rw [getElem!_pos _ j hj]
    simpa using h1

theorem sortFunc (l : List (List UInt8)) (hl : ∀ x ∈ l, x.length ≤ 100000) (hlen : l.length ≤ 1000000) (b cap : Nat) (w : World) (hG : Gl w) (hb0 : 0 < b) (hbs : b < w.heap.size) (hH : Holds encStr w b 0 l.toArray) :
    Calls Tryd.prog 90 #[.slice (some ⟨b, 0, none⟩) l.length cap, .func (.func 40) #[] #[]] w fun e w' =>
      e = .returned (.tuple #[]) ∧ Below b w w' ∧ Holds encStr w' b 0 (sortL l hl).toArray := by
  have hv := Pm.txs_val l hl
  have hsz : (Pm.txs l hl).toArray.size = l.length := by rw [← congrArg List.length hv]; simp
  have h0 : Holds (fun x : Pm.Tx => encStr x.1) w b 0 (Pm.txs l hl).toArray := by rw [holds_tx, hv]; exact hH
  have h := Tryd.slices_SortFunc_total (fun x : Pm.Tx => encStr x.1) (fun _ => rfl) Pm.cfT Pm.ltT_swo 40 #[] b 0 cap (Pm.txs l hl).toArray w
    (enters_of Tryd.func40 (by kernel_rfl) rfl) (cmpLays b _ w hG hb0 hbs) h0 hbs (by rw [hsz]; omega) Pm.ltT_tot
  rw [hsz] at h
  refine h.mono ?_
  rintro e w' ⟨rfl, n, os, rfl⟩
  refine ⟨rfl, below_sort _ hbs _ _ _ _, ?_⟩
  unfold sortL
  rw [← holds_tx]
  refine SW.holds ⟨n, os, rfl⟩ hbs h0 ?_
  simp
theorem pd_unright : Pd 89 (fun x => Pm.right x != 0) :=
  ⟨enters_of Tryd.func89 (by kernel_rfl) rfl, fun x w hx hG => by
    have h := pathWrong ⟨x.toArray⟩ (by show x.toArray.size ≤ _; simpa using hx) w hG
    simpa using h⟩

theorem compact_length_le (zs : List (List UInt8)) : (Lib.compact zs).length ≤ zs.length := by
  unfold Lib.compact Lib.compactUpTo
  rw [List.length_map]
  exact Nat.le_trans (List.length_filter_le _ _) (by simp)
/-- a row of none comes back -/
theorem deleteNone (g : Nat) (p : List UInt8 → Bool) (hP : Pd g p) (A : Option Addr) (c : Nat) (w : World) (hG : Gl w) :
    Calls Tryd.prog 87 #[.slice A 0 c, .func (.func g) #[] #[]] w fun e w' => e = .returned (.slice A 0 c) ∧ Below w.heap.size w w' := by
  have en := hP.en
  have c1 : Calls Tryd.prog 103 #[.slice A 0 c, .func (.func g) #[] #[]] w fun e w' => e = .returned (.int .i64 (-1)) ∧ w' = w := by
    clear hP hG
    go_enter Tryd.func103, Tryd.ntmps103
    go_wp2_with fail
    refine wp_loop_rounds 1 ?_
    rw [rounds_succ]
    go_wp2_with fail
    go_ret
    exact ⟨rfl, rfl⟩
  have Hc1 := Lib.hid c1
  clear c1
  clear hP hG
  go_enter Tryd.func87, Tryd.ntmps87
  go_wp2_with fail
  refine Hc1.out.mono ?_
  rintro e w1 ⟨rfl, rfl⟩
  go_wp2_with fail
  go_ret
  exact ⟨rfl, Below.refl _ _⟩

theorem pathSort (ps : List (List UInt8)) (hps : ∀ x ∈ ps, x.length ≤ 100000) (hlen : ps.length ≤ 1000000) (A : Option Addr) (c : Nat) (w : World) (hG : Gl w)
    (hrd : RdS (.slice A ps.length c) ps.length (pv ps) w.heap.size w) :
    Calls Tryd.prog 57 #[.slice A ps.length c] w fun e w' => ∃ v xs, e = .returned v ∧ RdS v xs.length (pv xs) w'.heap.size w' ∧ Below w.heap.size w w' ∧ Pm.IsSort ps xs ∧ xs.length ≤ ps.length := by
  have hgl := hG.lt
  by_cases hA : A = none
  · subst hA
    have hn0 : ps.length = 0 ∧ c = 0 := by
      rcases hrd.2 with ⟨h, h0⟩ | ⟨ad, c', h, _⟩
      · injection h with _ _ h3; exact ⟨h0, h3⟩
      · injection h with h; cases h
    obtain ⟨hp0, rfl⟩ := hn0
    obtain rfl := List.eq_nil_of_length_eq_zero hp0
    have h1 := Tryd.slices_Clone_string_nil 0 0 w
    have h2 := deleteNone _ _ pd_unright none 0 w hG
    have h3 := fun w' => Tryd.slices_SortFunc_none (α := Nat) none 0 (.func (.func 40) #[] #[]) w'
    have h4 := fun w' => Tryd.slices_Compact_string_empty none 0 w'
    have Hh1 := Lib.hid h1
    have Hh2 := Lib.hid h2
    have Hh3 := Lib.hid h3
    have Hh4 := Lib.hid h4
    clear h1 h2 h3 h4
    clear hrd hps hlen hp0 hG
    simp only [List.length_nil]
    go_enter Tryd.func57, Tryd.ntmps57
    go_wp2_with fail
    refine Hh1.out.mono ?_
    rintro e w1 ⟨rfl, rfl⟩
    go_wp2_with fail
    refine Hh2.out.mono ?_
    rintro e w2 ⟨rfl, hb2⟩
    go_wp2_with fail
    refine (Hh3.out w2).mono ?_
    rintro e w3 ⟨rfl, rfl⟩
    go_wp2_with fail
    refine (Hh4.out _).mono ?_
    rintro e w4 ⟨rfl, rfl⟩
    go_wp2_with fail
    go_ret
    exact ⟨_, [], rfl, ⟨rfl, .inl ⟨rfl, rfl⟩⟩, hb2, Pm.isSort_nil, by simp⟩
  · obtain ⟨ad, rfl⟩ := Option.ne_none_iff_exists'.1 hA
    have h1 : Calls Tryd.prog 88 #[.slice (some ad) ps.length c] w fun e w' => ∃ v', e = .returned v' ∧ w'.ownsRow w.heap.size 9 1 v' ps.length (pv ps) ∧ v' ≠ .slice none 0 0 ∧ Below w.heap.size w w' := by
      by_cases h0 : ps.length = 0
      · obtain rfl := List.eq_nil_of_length_eq_zero h0
        exact Tryd.slices_Clone_string_zero ad c w
      · obtain ⟨b, off, hb, hc, hbb, hcell⟩ := hrd.at_ (i := 0) (by omega)
        injection hb with hb
        subst hb
        have h := Tryd.slices_Clone_string b off ps.length c (ps.map fun l => ⟨l.toArray⟩) w (by simp) (by omega) (fun j hj => by
          have hj2 : j < ps.length := by simpa using hj
          rw [hcell j _ (pv_get ps j hj2), List.getD_eq_getElem?_getD, List.getElem?_map, List.getElem?_eq_getElem hj2]
          rfl)
        have e1 : ((ps.map fun l => (⟨l.toArray⟩ : ByteArray)).take ps.length).map Value.string = pv ps := by
          rw [List.take_of_length_le (by simp), List.map_map]; rfl
        rw [e1] at h
        exact h
    have h2 := fun (g cap : Nat) (w1 : World) (hg : w.heap.size ≤ g) (hgs : g < w1.heap.size) (hc : ps.length ≤ cap) (hH : Holds encStr w1 g 0 ps.toArray) (hG1 : Gl w1) =>
      deleteFunc _ _ pd_unright g 0 cap ps.toArray (by simpa using hps) (by simpa using hlen) w1 hG1 (by omega) hgs hH (by simpa using hc)
    have hQ : ∀ x ∈ ps.filter (fun x => !(Pm.right x != 0)), x.length ≤ 100000 := fun x hx => hps x (List.mem_filter.1 hx).1
    have hql : (ps.filter (fun x => !(Pm.right x != 0))).length ≤ ps.length := List.length_filter_le _ _
    have hs := Pm.sorted_is ps hps
    have hS : Pm.sorted ps hps = Lib.compact (sortL (ps.filter (fun x => !(Pm.right x != 0))) hQ) := rfl
    have hSl : (Pm.sorted ps hps).length ≤ ps.length := by
      rw [hS]
      have := compact_length_le (sortL (ps.filter (fun x => !(Pm.right x != 0))) hQ)
      rw [sortL_length] at this
      exact Nat.le_trans this hql
    have hel : ps.toArray.toList = ps := by simp
    simp only [hel, List.size_toArray] at h2
    generalize ps.filter (fun x => !(Pm.right x != 0)) = Q at *
    generalize hXS : Pm.sorted ps hps = XS at *
    have h3 := fun (b cap : Nat) (w2 : World) (hG2 : Gl w2) (hb0 : 0 < b) (hbs : b < w2.heap.size) (hH : Holds encStr w2 b 0 Q.toArray) => sortFunc Q hQ (by omega) b cap w2 hG2 hb0 hbs hH
    have hZl := sortL_length Q hQ
    generalize sortL Q hQ = Z at *
    have h4 := fun (b cap : Nat) (w3 : World) (hH : Holds encStr w3 b 0 Z.toArray) (hc : Z.length ≤ cap) => Tryd.slices_Compact_string b 0 cap Z w3 hH (by omega) hc
    rw [hZl, ← hS] at h4
    obtain ⟨n, hn⟩ : ∃ n, n = ps.length := ⟨_, rfl⟩
    obtain ⟨m, hm⟩ : ∃ m, m = Q.length := ⟨_, rfl⟩
    rw [← hn] at h1 h2 ⊢
    rw [← hm] at h2 h3 h4
    rw [← hn] at hlen hql hSl
    rw [← hm] at hql hZl
    have hown := fun (w1 : World) (v' : Value) (ho : w1.ownsRow w.heap.size 9 1 v' n (pv ps)) (hne : v' ≠ .slice none 0 0) => holds_own (ps := ps) (by rw [← hn]; exact ho) hne
    rw [← hn] at hown
    clear hXS
    have Hh1 := Lib.hid h1
    have Hh2 := Lib.hid h2
    have Hh3 := Lib.hid h3
    have Hh4 := Lib.hid h4
    have Hhown := Lib.hid hown
    have Hhps := Lib.hid hps
    have Hhs := Lib.hid hs
    have HhS := Lib.hid hS
    have Hhn := Lib.hid hn
    have Hhm := Lib.hid hm
    have HhQ := Lib.hid hQ
    have HhG := Lib.hid hG
    have HhSl := Lib.hid hSl
    have HhZl := Lib.hid hZl
    clear h1 h2 h3 h4 hown hps hs hS hn hm hQ hG hSl hZl
    clear hrd hel hA
    go_enter Tryd.func57, Tryd.ntmps57
    go_wp2_with fail
    refine Hh1.out.mono ?_
    rintro e w1 ⟨v', rfl, ho1, hne1, hb1⟩
    obtain ⟨g, cap, rfl, hg, hgs, hc, hH1⟩ := Hhown.out w1 _ ho1 hne1
    have hG1 := HhG.out.below hb1 hgl
    have H2 := Lib.hid (Hh2.out g cap w1 hg hgs hc hH1 hG1)
    clear ho1 hne1 hH1
    go_wp2_with fail
    refine H2.out.mono ?_
    rintro e w2 ⟨rfl, hb2, hH2⟩
    have hG2 := hG1.below hb2 (by omega)
    have hs2 := hb2.size
    have H3 := Lib.hid (Hh3.out g cap w2 hG2 (by omega) (by omega) hH2)
    clear hH2 H2
    go_wp2_with fail
    refine H3.out.mono ?_
    rintro e w3 ⟨rfl, hb3, hH3⟩
    have hs3 := hb3.size
    have H4 := Lib.hid (Hh4.out g cap w3 hH3 (by have := HhZl.out; omega))
    have H5 := Lib.hid hH3
    clear hH3 H3
    go_wp2_with fail
    refine H4.out.mono ?_
    rintro e w4 ⟨rfl, q, hw4⟩
    have hb4 : RowKit.Below g w3 w4 := by
      rw [hw4]
      have h0 : RowKit.Below g w3 (Sort.ahead w3 q) := ⟨rfl, rfl, rfl, Nat.le_refl _, fun _ _ => rfl⟩
      exact below_put h0 encStr (Nat.le_refl _) 0 _
    have hle : XS.length ≤ m := by
      have := compact_length_le Z
      rw [← HhS.out, HhZl.out] at this
      exact this
    have hH4 : Holds encStr w4 g 0 XS.toArray := by
      have := HhZl.out
      have h5 : Holds encStr w4 g 0 (XS ++ List.replicate (m - XS.length) []).toArray := by
        rw [hw4]
        exact holds_putRow encStr _ g 0 _ _ (holds_ahead encStr w3 q g 0 _ H5.out) (by simp; omega)
      refine holds_part h5 (by simp) fun j hj => ?_
      have hj2 : j < XS.length := by simpa using hj
      rw [getElem!_pos _ j hj, getElem!_pos _ j (by simp; omega)]
      simp [hj2]
    have hR := Lib.hid (holds_rd hH4 (by have := hb4.size; omega) (cap := cap) (by simp; omega))
    have hB : RowKit.Below w.heap.size w w4 := hb1.trans (((hb2.trans hb3).trans hb4).mono hg)
    clear hH4 H5 H4 hw4
    go_wp2_with fail
    go_ret
    refine ⟨_, XS, rfl, by simpa using hR.out, hB, Hhs.out, by have := HhSl.out; omega⟩
end Go.Proofs.YtidmjepfpjfkoaaDoor
