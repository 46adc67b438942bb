/-
  Walk: slices.DeleteFunc over texts, at a predicate that may make blocks, over a row of the caller's own.
  Plain laws: sorted, then without repetitions: what path.Sort comes to.
  Walk: path.Sort: clone, delete, sort, compact.
-/
import Derived.Test.YtidmjepfpjfkoaaDoorMc
import Derived.Lib.SlicesCompact
import Derived.Lib.SliceRun
import Derived.Lib.SlicesDelete
import Derived.Sort.WalkB12
import Derived.Sort.EncStr
import Derived.Shelf.RegionOpenPlain
import Derived.Test.YtidmjepfpjfkoaaDoorMb
import Derived.Sort.Statements
namespace Go.Proofs.YtidmjepfpjfkoaaDoor
open Go Go.RowKit Go.Sort
set_option maxHeartbeats 2000000
set_option maxRecDepth 20000
set_option linter.unusedVariables false
set_option linter.unusedSimpArgs false

section
variable {α : Type} [Inhabited α]
theorem below_setCells {B : Nat} {a : World} {b : Nat} (hb : B ≤ b) : ∀ (l : List Value) (w : World) (k : Nat), Below B a w → Below B a (w.setCells b k l)
  | [], w, k, h => h
  | v :: l, w, k, h => by
    unfold World.setCells
    exact below_setCells hb l _ _ (h.setCell hb v)
theorem size_setCells {b : Nat} : ∀ (l : List Value) (w : World) (k : Nat), (w.setCells b k l).heap.size = w.heap.size
  | [], w, k => rfl
  | v :: l, w, k => by
    unfold World.setCells
    rw [size_setCells l, size_setCell]
theorem holds_set {enc : α → Value} {w : World} {b off : Nat} {d : Array α} (h : Holds enc w b off d) {i : Nat} (hi : i < d.size) (x : α) :
    Holds enc (w.setCell ⟨b, off + i, none⟩ (enc x)) b off (d.setIfInBounds i x) := by
  have h1 := putRow_set enc w b off d i x hi
  rw [putRow_self enc w b off d h] at h1
  rw [h1]
  exact holds_putRow enc w b off d _ h (by simp)
theorem holds_sets {enc : α → Value} {w : World} {b off : Nat} {d : Array α} (h : Holds enc w b off d) {k : Nat} (xs : List α) (hk : k + xs.length ≤ d.size) :
    Holds enc (w.setCells b (off + k) (xs.map enc)) b off (Lib.lay d k xs) := by
  have h1 := Lib.putRow_setCells enc w b off xs d k hk
  rw [putRow_self enc w b off d h] at h1
  rw [h1]
  exact holds_putRow enc w b off d _ h (Lib.lay_size _ _ _)
theorem holds_below {enc : α → Value} {w w' : World} {b off B : Nat} {d : Array α} (h : Holds enc w b off d) (hb : Below B w w') (hB : b < B) : Holds enc w' b off d :=
  fun j hj => ⟨(hb.cell (p := ⟨b, off + j, none⟩) hB).trans (h j hj).1, (hb.frozen (p := ⟨b, off + j, none⟩) hB).trans (h j hj).2⟩
end

/-- what the loop of DeleteFunc holds to: i written, j read -/
structure DelInv (p : List UInt8 → Bool) (d dk : Array (List UInt8)) (i j : Nat) : Prop where
  size : dk.size = d.size
  lt : i < j
  le : j ≤ d.size
  low : dk.toList.take i = (d.toList.take j).filter fun x => !p x
  high : ∀ k, j ≤ k → k < d.size → dk[k]! = d[k]!

theorem take_next (d : Array (List UInt8)) {j : Nat} (hj : j < d.size) : d.toList.take (j + 1) = d.toList.take j ++ [d[j]!] := by
  rw [List.take_succ_eq_append_getElem (by simpa using hj)]
  congr 2
  rw [Array.getElem_toList, getElem!_pos d j hj]
theorem filter_all {p : List UInt8 → Bool} : ∀ (l : List (List UInt8)), (∀ x ∈ l, p x = false) → (l.filter fun x => !p x) = l
  | [], _ => rfl
  | x :: l, h => by
    rw [List.filter_cons_of_pos (by rw [h x (by simp)]; rfl), filter_all l fun y hy => h y (by simp [hy])]
theorem DelInv.start {p : List UInt8 → Bool} {d : Array (List UInt8)} {i : Nat} (hi : i < d.size) (hp : p d[i]! = true) (hb : ∀ k, k < i → p d[k]! = false) : DelInv p d d i (i + 1) := by
  refine ⟨rfl, by omega, by omega, ?_, fun _ _ _ => rfl⟩
  rw [take_next d hi, List.filter_append, List.filter_cons_of_neg (by rw [hp]; decide), filter_all]
  · simp
  · intro x hx
    obtain ⟨k, hk, rfl⟩ := List.getElem_of_mem hx
    have hk2 : k < i ∧ k < d.size := by simp at hk; omega
    have := hb k hk2.1
    rw [getElem!_pos d k hk2.2] at this
    simpa using this
theorem DelInv.skip {p : List UInt8 → Bool} {d dk : Array (List UInt8)} {i j : Nat} (h : DelInv p d dk i j) (hj : j < d.size) (hp : p d[j]! = true) : DelInv p d dk i (j + 1) :=
  ⟨h.size, by have := h.lt; omega, by omega, by rw [take_next d hj, List.filter_append, List.filter_cons_of_neg (by rw [hp]; decide), h.low]; simp, fun k hk hk2 => h.high k (by omega) hk2⟩
theorem DelInv.keep {p : List UInt8 → Bool} {d dk : Array (List UInt8)} {i j : Nat} (h : DelInv p d dk i j) (hj : j < d.size) (hp : p d[j]! = false) : DelInv p d (dk.setIfInBounds i d[j]!) (i + 1) (j + 1) := by
  have hlt := h.lt
  have hs := h.size
  refine ⟨by simp [hs], by omega, by omega, ?_, fun k hk hk2 => ?_⟩
  · rw [take_next d hj, List.filter_append, List.filter_cons_of_pos (by rw [hp]; rfl), ← h.low, List.take_succ_eq_append_getElem (by simp; omega)]
    have h1 : List.take i (dk.setIfInBounds i d[j]!).toList = List.take i dk.toList := by rw [Array.toList_setIfInBounds, List.take_set_of_le (Nat.le_refl _)]
    rw [h1]
    congr 1
    simp
  · rw [← h.high k (by omega) hk2]
    have h3 : k < (dk.setIfInBounds i d[j]!).size := by simp; omega
    have h4 : k < dk.size := by omega
    rw [getElem!_pos _ k h3, getElem!_pos dk k h4, Array.getElem_setIfInBounds_ne h4 (by omega)]

/-- a row held, as it is read -/
theorem holds_rd {w : World} {b off : Nat} {d : Array (List UInt8)} (h : Holds encStr w b off d) (hb : b < w.heap.size) {cap : Nat} (hcap : d.size ≤ cap) :
    RdS (.slice (some ⟨b, off, none⟩) d.size cap) d.size (pv d.toList) w.heap.size w := by
  refine ⟨by simp [pv], .inr ⟨_, _, rfl, hcap, .inr ⟨b, off, rfl, hb, fun j u hj => ?_⟩⟩⟩
  unfold pv at hj
  rw [List.getElem?_map] at hj
  by_cases hjd : j < d.size
  · rw [(h j hjd).1]
    rw [Array.getElem?_toList, Array.getElem?_eq_getElem hjd] at hj
    rw [getElem!_pos d j hjd]
    exact hj
  · rw [Array.getElem?_toList, Array.getElem?_eq_none (by omega)] at hj
    cases hj
theorem holds_part {w : World} {b off : Nat} {d e : Array (List UInt8)} (h : Holds encStr w b off d) (hle : e.size ≤ d.size) (he : ∀ j, j < e.size → e[j]! = d[j]!) : Holds encStr w b off e :=
  fun j hj => by rw [he j hj]; exact h j (by omega)

theorem deleteFunc (g : Nat) (p : List UInt8 → Bool) (hP : Pd g p) (b off cap : Nat) (d : Array (List UInt8)) (hds : ∀ x ∈ d.toList, x.length ≤ 100000) (hlen : d.size ≤ 1000000) (w : World) (hG : Gl w) (hb0 : 0 < b) (hbs : b < w.heap.size)
    (hH : Holds encStr w b off d) (hcap : d.size ≤ cap) :
    Calls Tryd.prog 87 #[.slice (some ⟨b, off, none⟩) d.size cap, .func (.func g) #[] #[]] w fun e w' =>
      e = .returned (.slice (some ⟨b, off, none⟩) (d.toList.filter fun x => !p x).length cap) ∧ Below b w w' ∧ Holds encStr w' b off (d.toList.filter fun x => !p x).toArray := by
  have en := hP.en
  have says := hP.says
  have c1 := indexFunc g p hP d.toList hds (by simpa using hlen) (some ⟨b, off, none⟩) cap w hG (by simpa using holds_rd hH hbs hcap)
  have hdl : d.toList.length = d.size := by simp
  obtain ⟨r, hr⟩ : ∃ r : Int, r = (if d.toList.findIdx p < d.toList.length then (d.toList.findIdx p : Int) else -1) := ⟨_, rfl⟩
  rw [← hr, hdl] at c1
  obtain ⟨R, hR⟩ : ∃ R, R = d.toList.filter fun x => !p x := ⟨_, rfl⟩
  rw [← hR]
  have Hc1 := Lib.hid c1
  have Hsays := Lib.hid says
  have HhH := Lib.hid hH
  have Hhds := Lib.hid hds
  have HhG := Lib.hid hG
  have HhP := Lib.hid hP
  have HhR := Lib.hid hR
  clear c1 says hH hds hG hP hR
  by_cases hf : d.toList.findIdx p < d.toList.length
  · rw [if_pos hf] at hr
    obtain ⟨i0, hi0⟩ : ∃ i, i = d.toList.findIdx p := ⟨_, rfl⟩
    rw [← hi0] at hr
    have h1 : i0 < d.size := by rw [hi0]; simpa using hf
    have hs : DelInv p d d i0 (i0 + 1) := by
      refine DelInv.start h1 ?_ fun k hk => ?_
      · rw [getElem!_pos d i0 h1]
        have := List.findIdx_getElem (w := hf)
        simp only [← hi0] at this
        simpa using this
      · have := List.not_of_lt_findIdx (p := p) (xs := d.toList) (i := k) (by rw [← hi0]; exact hk)
        rw [getElem!_pos d k (by omega)]
        simpa using this
    have HS := Lib.hid hs
    subst hr
    clear hf hi0 hs hdl
    have hne : ((i0 : Int) == -1) = false := by rw [beq_eq_false_iff_ne]; omega
    go_enter Tryd.func87, Tryd.ntmps87
    go_wp2_with fail
    refine Hc1.out.mono ?_
    rintro e w1 ⟨rfl, hb1⟩
    go_wp2_with fail
    go_loopw [5, 6] (fun iv jv wr => ∃ (i j : Nat) (dk : Array (List UInt8)), iv = .int .i64 (i : Int) ∧ jv = .int .i64 (j : Int) ∧ i < j ∧ j ≤ d.size ∧ DelInv p d dk i j ∧ Holds encStr wr b off dk ∧ Below b w wr) (fun iv jv _ => d.size - (intOf jv).toNat)
    case atStart => exact ⟨i0, i0 + 1, d, rfl, by go_num, by omega, by omega, HS.out, holds_below HhH.out hb1 hbs, hb1.mono (by omega)⟩
    case round =>
      obtain ⟨i, j, dk, rfl, rfl, hij, hjn, hI, hK, hbr⟩ := hrel
      have hsz := hI.size
      have hwr : b < wr.heap.size := by have := hbr.size; omega
      have hG3 := HhG.out.below hbr hb0
      by_cases hin : j < d.size
      · have hxl := Hhds.out d[j]! (by rw [getElem!_pos d j hin]; simp)
        have hcell := (hK j (by omega)).1
        rw [hI.high j (Nat.le_refl _) hin] at hcell
        obtain ⟨f0, f1⟩ := hK i (by omega)
        have hsay := Hsays.out d[j]! wr hxl hG3
        have HI := Lib.hid hI
        obtain ⟨q, hq⟩ : ∃ q, q = p d[j]! := ⟨_, rfl⟩
        rw [← hq] at hsay
        obtain ⟨x, hxx⟩ : ∃ x, x = d[j]! := ⟨_, rfl⟩
        rw [← hxx] at hsay hcell
        have Hhsay := Lib.hid hsay
        have Hhq := Lib.hid hq
        have Hhxx := Lib.hid hxx
        have HhK := Lib.hid hK
        clear hsay hq hxx hK
        clear hI hG3 hxl
        go_wp2_with fail
        refine Hhsay.out.mono ?_
        rintro e w2 ⟨rfl, hb2⟩
        have f0' := (hb2.cell (p := ⟨b, off + i, none⟩) hwr).trans f0
        have f1' := (hb2.frozen (p := ⟨b, off + i, none⟩) hwr).trans f1
        have hK2 := Lib.hid (holds_below HhK.out hb2 hwr)
        have hbr2 := hbr.trans (hb2.mono (show b ≤ wr.heap.size by omega))
        clear f0 f1 hcell hbr
        cases q with
        | true =>
          have HI2 := Lib.hid (HI.out.skip hin Hhq.out.symm)
          go_wp2_with fail
          go_roundw
          case rel => exact ⟨i, j + 1, dk, rfl, by go_num, by omega, by omega, HI2.out, hK2.out, hbr2⟩
          case measure => simp [intOf]; omega
        | false =>
          have HI2 := Lib.hid (HI.out.keep hin Hhq.out.symm)
          have hK3 := Lib.hid (holds_set hK2.out (show i < dk.size by omega) d[j]!)
          rw [← Hhxx.out] at hK3 HI2
          go_wp2_with fail
          go_roundw
          case rel => exact ⟨i + 1, j + 1, dk.setIfInBounds i x, by go_num, by go_num, by omega, by omega, HI2.out, hK3.out, hbr2.setCell (Nat.le_refl _) _⟩
          case measure => simp [intOf]; omega
      · obtain rfl : j = d.size := by omega
        have hcl : ∀ ty, (Builtin.clear_ #[56] ty #[.slice (some ⟨b, off + i, none⟩) (d.size - i) (cap - i)]).run Tryd.prog wr = .ok (.tuple #[]) (wr.setCells b (off + i) (List.replicate (d.size - i) (encStr []))) :=
          fun ty => Lib.run_clear_slice wr _ _ ty _ Tryd.underlying56 Tryd.zeroValue9 rfl rfl b (off + i) _ _ (by omega) (fun t ht => by rw [show off + i + t = off + (i + t) by omega, (hK (i + t) (by omega)).1]; rfl) (fun t ht => by rw [show off + i + t = off + (i + t) by omega]; exact (hK (i + t) (by omega)).2)
        have hR2 : R.length = i ∧ R = dk.toList.take i := by
          have h2 : R = dk.toList.take i := by rw [HhR.out, hI.low, List.take_of_length_le (by simp)]
          exact ⟨by rw [h2, List.length_take]; simp; omega, h2⟩
        have HR2 := Lib.hid hR2
        have HhK := Lib.hid hK
        clear hK
        clear hI hR2 hG3
        go_wp2
        go_ret
        rw [HR2.out.1]
        refine ⟨rfl, below_setCells (Nat.le_refl _) _ _ _ hbr, ?_⟩
        have hK3 := holds_sets HhK.out (k := i) (List.replicate (d.size - i) []) (by simp; omega)
        rw [List.map_replicate] at hK3
        refine holds_part hK3 (by rw [Lib.lay_size]; simp [HR2.out.1]; omega) fun k hk => ?_
        have hk2 : k < i := by simpa [HR2.out.1] using hk
        have h1 := Lib.lay_get? (List.replicate (d.size - i) ([] : List UInt8)) dk i k (by simp; omega)
        rw [if_neg (by omega)] at h1
        have h2 : R.toArray[k]? = dk[k]? := by
          rw [HR2.out.2]
          simp [List.getElem?_take, hk2]
        rw [Array.getElem!_eq_getD, Array.getElem!_eq_getD, Array.getD_eq_getD_getElem?, Array.getD_eq_getD_getElem?, h1, h2]
  · rw [if_neg hf] at hr
    have h1 : R = d.toList := by
      rw [HhR.out, filter_all]
      intro x hx
      have h2 : d.toList.findIdx p = d.toList.length := by have := List.findIdx_le_length (p := p) (xs := d.toList); omega
      rw [List.findIdx_eq_length] at h2
      simpa using h2 x hx
    have HR := Lib.hid h1
    subst hr
    clear hf h1
    go_enter Tryd.func87, Tryd.ntmps87
    go_wp2_with fail
    refine Hc1.out.mono ?_
    rintro e w1 ⟨rfl, hb1⟩
    go_wp2_with fail
    go_ret
    refine ⟨by rw [HR.out, hdl]; rfl, hb1.mono (by omega), ?_⟩
    rw [HR.out, Array.toArray_toList]
    exact holds_below HhH.out hb1 hbs
end Go.Proofs.YtidmjepfpjfkoaaDoor

namespace Go.Proofs.YtidmjepfpjfkoaaDoor.Pm
set_option linter.unusedVariables false

theorem cmp_le_trans {a b c : By} (h1 : compare a b ≤ 0) (h2 : compare b c ≤ 0) : compare a c ≤ 0 := by
  by_cases e1 : a = b
  · subst e1; exact h2
  by_cases e2 : b = c
  · subst e2; exact h1
  have g1 : compare a b < 0 := by
    rcases Int.lt_or_eq_of_le h1 with h | h
    · exact h
    · exact absurd (cut_inj (cmpL_zero _ _ h)) e1
  have g2 : compare b c < 0 := by
    rcases Int.lt_or_eq_of_le h2 with h | h
    · exact h
    · exact absurd (cut_inj (cmpL_zero _ _ h)) e2
  exact Int.le_of_lt (cmpL_trans _ _ _ g1 g2)
theorem cmp_neg (a b : By) : compare b a = - compare a b := cmpL_neg _ _
theorem cmp_eq {a b : By} (h : compare a b = 0) : a = b := cut_inj (cmpL_zero _ _ h)

theorem compactUp (d : Array By) (hs : d.toList.Pairwise fun a b => compare a b ≤ 0) : ∀ m, m ≤ d.size →
    (Lib.compactUpTo d m).Pairwise (fun a b => compare a b = -1) ∧ (∀ x, x ∈ Lib.compactUpTo d m ↔ x ∈ d.toList.take m)
  | 0, _ => by simp [Lib.compactUpTo]
  | m + 1, h => by
    obtain ⟨h1, h2⟩ := compactUp d hs m (by omega)
    have hm : m < d.size := by omega
    have hnext : d.toList.take (m + 1) = d.toList.take m ++ [d[m]!] := by
      rw [List.take_succ_eq_append_getElem (by simpa using hm)]
      congr 2
      rw [Array.getElem_toList, getElem!_pos d m hm]
    have hpair : ∀ i j (hi : i < d.size) (hj : j < d.size), i < j → compare d[i] d[j] ≤ 0 := fun i j hi hj hij => by
      have := List.pairwise_iff_getElem.1 hs i j (by simpa using hi) (by simpa using hj) hij
      simpa using this
    rw [Lib.compactUpTo_succ, hnext]
    by_cases hk : Lib.keeps d m = true
    · rw [if_pos hk]
      refine ⟨?_, fun x => by rw [List.mem_append, List.mem_append, h2 x]⟩
      rw [List.pairwise_append]
      refine ⟨h1, by simp, fun x hx y hy => ?_⟩
      obtain rfl := List.mem_singleton.1 hy
      obtain ⟨k, hk1, rfl⟩ := List.getElem_of_mem ((h2 x).1 hx)
      have hk2 : k < m ∧ k < d.size := by simp at hk1; omega
      rw [List.getElem_take, Array.getElem_toList, getElem!_pos d m hm]
      refine cmp_lt ?_
      rcases Int.lt_or_eq_of_le (hpair k m hk2.2 hm hk2.1) with h | h
      · exact h
      · exfalso
        unfold Lib.keeps at hk
        have hk3 := of_decide_eq_true hk
        rcases hk3 with h0 | hne
        · omega
        · have e := cmp_eq h
          rw [getElem!_pos d m hm, getElem!_pos d (m - 1) (by omega)] at hne
          by_cases hkm : k = m - 1
          · subst hkm; exact hne e.symm
          · have g1 := hpair k (m - 1) hk2.2 (by omega) (by omega)
            have g2 := hpair (m - 1) m (by omega) hm (by omega)
            rw [e] at g1
            have g3 := cmp_neg d[m] d[m - 1]
            exact hne (cmp_eq (show compare d[m] d[m - 1] = 0 by omega))
    · rw [if_neg hk, List.append_nil]
      refine ⟨h1, fun x => ?_⟩
      rw [h2 x, List.mem_append, List.mem_singleton]
      constructor
      · exact .inl
      · rintro (h | rfl)
        · exact h
        · by_cases h0 : m = 0
          · exact absurd (by simp [Lib.keeps, h0]) hk
          · have he : d[m]! = d[m - 1]! := by
              apply Classical.byContradiction
              intro hne
              exact hk (Lib.keeps_pos hne)
            rw [he, getElem!_pos d (m - 1) (by omega), List.mem_take_iff_getElem]
            exact ⟨m - 1, by simp; omega, by simp⟩
theorem compact_up (zs : List By) (hs : zs.Pairwise fun a b => compare a b ≤ 0) : (Lib.compact zs).Pairwise (fun a b => compare a b = -1) ∧ (∀ x, x ∈ Lib.compact zs ↔ x ∈ zs) := by
  have h := compactUp zs.toArray (by simpa using hs) zs.length (by simp)
  simpa [Lib.compact] using h

/-- a text that is no longer than what is read -/
abbrev Tx := {l : By // l.length ≤ 100000}
instance txInh : Inhabited Tx := ⟨⟨[], by simp⟩⟩
def cfT (x y : Tx) : Int := compare x.1 y.1
def ltT (x y : Tx) : Bool := decide (cfT x y < 0)
theorem ltT_swo : Sort.SWO ltT where
  irrefl x := by
    have : compare x.1 x.1 = 0 := cmpL_self _
    simp [ltT, cfT, this]
  trans x y z h1 h2 := by
    have h1 := of_decide_eq_true h1
    have h2 := of_decide_eq_true h2
    exact decide_eq_true (cmpL_trans _ _ _ h1 h2)
  ntrans x y z h1 h2 := by
    have h1 := of_decide_eq_false h1
    have h2 := of_decide_eq_false h2
    refine decide_eq_false fun h3 => ?_
    have g1 := cmp_neg x.1 y.1
    have g2 := cmp_neg y.1 z.1
    have g3 := cmp_neg x.1 z.1
    unfold cfT at h1 h2 h3
    have := cmp_le_trans (a := z.1) (b := y.1) (c := x.1) (by omega) (by omega)
    omega
theorem ltT_tot (x y : Tx) (h1 : ltT x y = false) (h2 : ltT y x = false) : x = y := by
  have h1 := of_decide_eq_false h1
  have h2 := of_decide_eq_false h2
  unfold cfT at h1 h2
  have g := cmp_neg x.1 y.1
  exact Subtype.ext (cmp_eq (by omega))
theorem sortT (L : List Tx) : (L.mergeSort fun x y => !ltT y x).Pairwise (fun a b => compare a.1 b.1 ≤ 0) := by
  have h := List.pairwise_mergeSort (le := fun x y => !ltT y x) (by
    intro a b c h1 h2
    have h1 : ltT b a = false := by simpa using h1
    have h2 : ltT c b = false := by simpa using h2
    show (!ltT c a) = true
    rw [ltT_swo.ntrans c b a h2 h1]; rfl) (by
    intro a b
    show ((!ltT b a) || (!ltT a b)) = true
    cases h1 : ltT b a with
    | false => rfl
    | true =>
      cases h2 : ltT a b with
      | false => rfl
      | true => have := ltT_swo.trans _ _ _ h1 h2; rw [ltT_swo.irrefl] at this; cases this) L
  refine h.imp fun {a b} hab => ?_
  have hab : ltT b a = false := by simpa using hab
  have h1 := of_decide_eq_false hab
  unfold cfT at h1
  have g := cmp_neg a.1 b.1
  omega
/-- the texts that are not too long, as such -/
def txs (l : List By) (h : ∀ x ∈ l, x.length ≤ 100000) : List Tx := l.attachWith _ h
theorem txs_val (l : List By) (h : ∀ x ∈ l, x.length ≤ 100000) : (txs l h).map (·.1) = l := by unfold txs; rw [List.attachWith_map_subtype_val]
/-- sorted, then compacted, what is right of them -/
def sorted (l : List By) (h : ∀ x ∈ l, x.length ≤ 100000) : List By :=
  Lib.compact (((txs (l.filter fun x => !(right x != 0)) (fun x hx => h x (List.mem_filter.1 hx).1)).mergeSort fun x y => !ltT y x).map (·.1))
theorem sorted_is (l : List By) (h : ∀ x ∈ l, x.length ≤ 100000) : IsSort l (sorted l h) := by
  have hp : (((txs (l.filter fun x => !(right x != 0)) (fun x hx => h x (List.mem_filter.1 hx).1)).mergeSort fun x y => !ltT y x).map (·.1)).Pairwise fun a b => compare a b ≤ 0 := by
    rw [List.pairwise_map]
    exact sortT _
  obtain ⟨h1, h2⟩ := compact_up _ hp
  refine ⟨h1, fun x => ?_⟩
  unfold sorted
  rw [h2 x]
  have h3 : ∀ y, y ∈ ((txs (l.filter fun x => !(right x != 0)) (fun x hx => h x (List.mem_filter.1 hx).1)).mergeSort fun x y => !ltT y x).map (·.1) ↔ y ∈ l.filter fun x => !(right x != 0) := fun y => by
    have e := txs_val (l.filter fun x => !(right x != 0)) (fun x hx => h x (List.mem_filter.1 hx).1)
    conv => rhs; rw [← e]
    exact ((List.mergeSort_perm _ _).map _).mem_iff
  rw [h3 x, List.mem_filter]
  simp
end Go.Proofs.YtidmjepfpjfkoaaDoor.Pm

namespace Go.Proofs.YtidmjepfpjfkoaaDoor
open Go Go.RowKit
open Go.Sort hiding Below
set_option maxHeartbeats 2000000
set_option maxRecDepth 20000
set_option linter.unusedVariables false
set_option linter.unusedSimpArgs false

theorem below_grow {B : Nat} {a w : World} (h : Below B a w) (hB : B ≤ w.heap.size) (os : Array Obj) : Below B a (grow w os) :=
  h.trans ⟨rfl, rfl, rfl, by simp [grow], fun k hk => by
    show (w.heap ++ os)[k]? = _
    rw [Array.getElem?_append_left (by omega)]⟩
theorem below_put {α : Type} [Inhabited α] {B : Nat} {a w : World} (h : Below B a w) (enc : α → Value) {b : Nat} (hb : B ≤ b) (off : Nat) (d : Array α) : Below B a (putRow enc w b off d) :=
  h.trans ⟨rfl, rfl, rfl, by simp [putRow, mapBlock], fun k hk => by
    show (mapBlock w b _).heap[k]? = _
    unfold mapBlock
    simp only
    rw [Array.getElem?_modify, if_neg (by omega)]⟩
theorem below_sort {α : Type} [Inhabited α] {w : World} (enc : α → Value) {b : Nat} (hb : b < w.heap.size) (off m : Nat) (d : Array α) (os : Array Obj) : Below b w (sortWorld enc w b off m d os) := by
  unfold sortWorld
  have h0 : Below b w (Sort.ahead w m) := ⟨rfl, rfl, rfl, Nat.le_refl _, fun _ _ => rfl⟩
  refine below_grow (below_put h0 enc (Nat.le_refl _) off d) ?_ os
  have : (putRow enc (Sort.ahead w m) b off d).heap.size = w.heap.size := by simp [putRow, mapBlock, Sort.ahead]
  omega
theorem holds_own {w : World} {base : Nat} {e : TypeId} {v : Value} {ps : List (List UInt8)} (h : w.ownsRow base e 1 v ps.length (pv ps)) (hne : v ≠ .slice none 0 0) :
    ∃ g cap, v = .slice (some ⟨g, 0, none⟩) ps.length cap ∧ base ≤ g ∧ g < w.heap.size ∧ ps.length ≤ cap ∧ Holds encStr w g 0 ps.toArray := by
  rcases h.2 with ⟨rfl, _⟩ | ⟨g, cap, cur, rfl, hg, hh, hc, _, _, hx⟩
  · exact absurd rfl hne
  · refine ⟨g, cap, rfl, hg, lt_of_block hh, hc, fun j hj => ⟨?_, ?_⟩⟩
    · rw [Nat.zero_add, cell_of_row _ _ _ _ _ _ hh]
      have hj2 : j < ps.length := by simpa using hj
      have h1 := pv_get ps j hj2
      rw [← hx, List.getElem?_take, if_pos (by omega)] at h1
      rw [getElem!_pos ps.toArray j hj]
      simpa using h1
    · rw [Nat.zero_add]; exact frozen_of_row w g j cur e hh

def sortL (l : List (List UInt8)) (h : ∀ x ∈ l, x.length ≤ 100000) : List (List UInt8) := ((Pm.txs l h).mergeSort fun x y => !Pm.ltT y x).map (·.1)
theorem sortL_length (l : List (List UInt8)) (h : ∀ x ∈ l, x.length ≤ 100000) : (sortL l h).length = l.length := by
  unfold sortL
  rw [List.length_map, List.length_mergeSort]
  unfold Pm.txs
  simp
theorem cmpLays (b n : Nat) (w : World) (hG : Gl w) (hb0 : 0 < b) (hbs : b < w.heap.size) : CmpLays1 Tryd.prog 40 #[] (fun x : Pm.Tx => encStr x.1) Pm.cfT b 0 n w := by
  intro m os dk hs x y
  have h1 := below_sort (w := w) (fun x : Pm.Tx => encStr x.1) hbs 0 m dk os
  generalize sortWorld (fun x : Pm.Tx => encStr x.1) w b 0 m dk os = W at *
  have hx : (⟨x.1.toArray⟩ : ByteArray).size ≤ 100000 := by have := x.2; show x.1.toArray.size ≤ _; simpa using this
  have hy : (⟨y.1.toArray⟩ : ByteArray).size ≤ 100000 := by have := y.2; show y.1.toArray.size ≤ _; simpa using this
  have h2 := pathCompareW ⟨x.1.toArray⟩ ⟨y.1.toArray⟩ hx hy W (hG.below h1 hb0)
  refine h2.mono ?_
  rintro e w' ⟨rfl, rfl⟩
  refine ⟨?_, ?_⟩
  · simp [Pm.cfT]
  · rw [alloc_eq_grow, alloc_eq_grow, grow_grow]; exact ⟨0, _, rfl⟩
theorem holds_tx {w : World} {b : Nat} (L : List Pm.Tx) : Holds (fun x : Pm.Tx => encStr x.1) w b 0 L.toArray ↔ Holds encStr w b 0 (L.map (·.1)).toArray := by
  constructor
  · intro h j hj
    have hj2 : j < L.toArray.size := by simpa using hj
    have h1 := h j hj2
    rw [getElem!_pos _ j hj2] at h1
    rw [getElem!_pos _ j hj]
    simpa using h1
  · intro h j hj
    have hj2 : j < (L.map (·.1)).toArray.size := by simpa using hj
    have h1 := h j hj2
    rw [getElem!_pos _ j hj2] at h1
    rw [getElem!_pos _ j hj]
    simpa using h1

theorem sortFunc (l : List (List UInt8)) (hl : ∀ x ∈ l, x.length ≤ 100000) (hlen : l.length ≤ 1000000) (b cap : Nat) (w : World) (hG : Gl w) (hb0 : 0 < b) (hbs : b < w.heap.size) (hH : Holds encStr w b 0 l.toArray) :
    Calls Tryd.prog 90 #[.slice (some ⟨b, 0, none⟩) l.length cap, .func (.func 40) #[] #[]] w fun e w' =>
      e = .returned (.tuple #[]) ∧ Below b w w' ∧ Holds encStr w' b 0 (sortL l hl).toArray := by
  have hv := Pm.txs_val l hl
  have hsz : (Pm.txs l hl).toArray.size = l.length := by rw [← congrArg List.length hv]; simp
  have h0 : Holds (fun x : Pm.Tx => encStr x.1) w b 0 (Pm.txs l hl).toArray := by rw [holds_tx, hv]; exact hH
  have h := Tryd.slices_SortFunc_total (fun x : Pm.Tx => encStr x.1) (fun _ => rfl) Pm.cfT Pm.ltT_swo 40 #[] b 0 cap (Pm.txs l hl).toArray w
    (enters_of Tryd.func40 (by kernel_rfl) rfl) (cmpLays b _ w hG hb0 hbs) h0 hbs (by rw [hsz]; omega) Pm.ltT_tot
  rw [hsz] at h
  refine h.mono ?_
  rintro e w' ⟨rfl, n, os, rfl⟩
  refine ⟨rfl, below_sort _ hbs _ _ _ _, ?_⟩
  unfold sortL
  rw [← holds_tx]
  refine SW.holds ⟨n, os, rfl⟩ hbs h0 ?_
  simp
theorem pd_unright : Pd 89 (fun x => Pm.right x != 0) :=
  ⟨enters_of Tryd.func89 (by kernel_rfl) rfl, fun x w hx hG => by
    have h := pathWrong ⟨x.toArray⟩ (by show x.toArray.size ≤ _; simpa using hx) w hG
    simpa using h⟩

theorem compact_length_le (zs : List (List UInt8)) : (Lib.compact zs).length ≤ zs.length := by
  unfold Lib.compact Lib.compactUpTo
  rw [List.length_map]
  exact Nat.le_trans (List.length_filter_le _ _) (by simp)
/-- a row of none comes back -/
theorem deleteNone (g : Nat) (p : List UInt8 → Bool) (hP : Pd g p) (A : Option Addr) (c : Nat) (w : World) (hG : Gl w) :
    Calls Tryd.prog 87 #[.slice A 0 c, .func (.func g) #[] #[]] w fun e w' => e = .returned (.slice A 0 c) ∧ Below w.heap.size w w' := by
  have en := hP.en
  have c1 : Calls Tryd.prog 103 #[.slice A 0 c, .func (.func g) #[] #[]] w fun e w' => e = .returned (.int .i64 (-1)) ∧ w' = w := by
    clear hP hG
    go_enter Tryd.func103, Tryd.ntmps103
    go_wp2_with fail
    refine wp_loop_rounds 1 ?_
    rw [rounds_succ]
    go_wp2_with fail
    go_ret
    exact ⟨rfl, rfl⟩
  have Hc1 := Lib.hid c1
  clear c1
  clear hP hG
  go_enter Tryd.func87, Tryd.ntmps87
  go_wp2_with fail
  refine Hc1.out.mono ?_
  rintro e w1 ⟨rfl, rfl⟩
  go_wp2_with fail
  go_ret
  exact ⟨rfl, Below.refl _ _⟩

theorem pathSort (ps : List (List UInt8)) (hps : ∀ x ∈ ps, x.length ≤ 100000) (hlen : ps.length ≤ 1000000) (A : Option Addr) (c : Nat) (w : World) (hG : Gl w)
    (hrd : RdS (.slice A ps.length c) ps.length (pv ps) w.heap.size w) :
    Calls Tryd.prog 57 #[.slice A ps.length c] w fun e w' => ∃ v xs, e = .returned v ∧ RdS v xs.length (pv xs) w'.heap.size w' ∧ Below w.heap.size w w' ∧ Pm.IsSort ps xs ∧ xs.length ≤ ps.length := by
  have hgl := hG.lt
  by_cases hA : A = none
  · subst hA
    have hn0 : ps.length = 0 ∧ c = 0 := by
      rcases hrd.2 with ⟨h, h0⟩ | ⟨ad, c', h, _⟩
      · injection h with _ _ h3; exact ⟨h0, h3⟩
      · injection h with h; cases h
    obtain ⟨hp0, rfl⟩ := hn0
    obtain rfl := List.eq_nil_of_length_eq_zero hp0
    have h1 := Tryd.slices_Clone_string_nil 0 0 w
    have h2 := deleteNone _ _ pd_unright none 0 w hG
    have h3 := fun w' => Tryd.slices_SortFunc_none (α := Nat) none 0 (.func (.func 40) #[] #[]) w'
    have h4 := fun w' => Tryd.slices_Compact_string_empty none 0 w'
    have Hh1 := Lib.hid h1
    have Hh2 := Lib.hid h2
    have Hh3 := Lib.hid h3
    have Hh4 := Lib.hid h4
    clear h1 h2 h3 h4
    clear hrd hps hlen hp0 hG
    simp only [List.length_nil]
    go_enter Tryd.func57, Tryd.ntmps57
    go_wp2_with fail
    refine Hh1.out.mono ?_
    rintro e w1 ⟨rfl, rfl⟩
    go_wp2_with fail
    refine Hh2.out.mono ?_
    rintro e w2 ⟨rfl, hb2⟩
    go_wp2_with fail
    refine (Hh3.out w2).mono ?_
    rintro e w3 ⟨rfl, rfl⟩
    go_wp2_with fail
    refine (Hh4.out _).mono ?_
    rintro e w4 ⟨rfl, rfl⟩
    go_wp2_with fail
    go_ret
    exact ⟨_, [], rfl, ⟨rfl, .inl ⟨rfl, rfl⟩⟩, hb2, Pm.isSort_nil, by simp⟩
  · obtain ⟨ad, rfl⟩ := Option.ne_none_iff_exists'.1 hA
    have h1 : Calls Tryd.prog 88 #[.slice (some ad) ps.length c] w fun e w' => ∃ v', e = .returned v' ∧ w'.ownsRow w.heap.size 9 1 v' ps.length (pv ps) ∧ v' ≠ .slice none 0 0 ∧ Below w.heap.size w w' := by
      by_cases h0 : ps.length = 0
      · obtain rfl := List.eq_nil_of_length_eq_zero h0
        exact Tryd.slices_Clone_string_zero ad c w
      · obtain ⟨b, off, hb, hc, hbb, hcell⟩ := hrd.at_ (i := 0) (by omega)
        injection hb with hb
        subst hb
        have h := Tryd.slices_Clone_string b off ps.length c (ps.map fun l => ⟨l.toArray⟩) w (by simp) (by omega) (fun j hj => by
          have hj2 : j < ps.length := by simpa using hj
          rw [hcell j _ (pv_get ps j hj2), List.getD_eq_getElem?_getD, List.getElem?_map, List.getElem?_eq_getElem hj2]
          rfl)
        have e1 : ((ps.map fun l => (⟨l.toArray⟩ : ByteArray)).take ps.length).map Value.string = pv ps := by
          rw [List.take_of_length_le (by simp), List.map_map]; rfl
        rw [e1] at h
        exact h
    have h2 := fun (g cap : Nat) (w1 : World) (hg : w.heap.size ≤ g) (hgs : g < w1.heap.size) (hc : ps.length ≤ cap) (hH : Holds encStr w1 g 0 ps.toArray) (hG1 : Gl w1) =>
      deleteFunc _ _ pd_unright g 0 cap ps.toArray (by simpa using hps) (by simpa using hlen) w1 hG1 (by omega) hgs hH (by simpa using hc)
    have hQ : ∀ x ∈ ps.filter (fun x => !(Pm.right x != 0)), x.length ≤ 100000 := fun x hx => hps x (List.mem_filter.1 hx).1
    have hql : (ps.filter (fun x => !(Pm.right x != 0))).length ≤ ps.length := List.length_filter_le _ _
    have hs := Pm.sorted_is ps hps
    have hS : Pm.sorted ps hps = Lib.compact (sortL (ps.filter (fun x => !(Pm.right x != 0))) hQ) := rfl
    have hSl : (Pm.sorted ps hps).length ≤ ps.length := by
      rw [hS]
      have := compact_length_le (sortL (ps.filter (fun x => !(Pm.right x != 0))) hQ)
      rw [sortL_length] at this
      exact Nat.le_trans this hql
    have hel : ps.toArray.toList = ps := by simp
    simp only [hel, List.size_toArray] at h2
    generalize ps.filter (fun x => !(Pm.right x != 0)) = Q at *
    generalize hXS : Pm.sorted ps hps = XS at *
    have h3 := fun (b cap : Nat) (w2 : World) (hG2 : Gl w2) (hb0 : 0 < b) (hbs : b < w2.heap.size) (hH : Holds encStr w2 b 0 Q.toArray) => sortFunc Q hQ (by omega) b cap w2 hG2 hb0 hbs hH
    have hZl := sortL_length Q hQ
    generalize sortL Q hQ = Z at *
    have h4 := fun (b cap : Nat) (w3 : World) (hH : Holds encStr w3 b 0 Z.toArray) (hc : Z.length ≤ cap) => Tryd.slices_Compact_string b 0 cap Z w3 hH (by omega) hc
    rw [hZl, ← hS] at h4
    obtain ⟨n, hn⟩ : ∃ n, n = ps.length := ⟨_, rfl⟩
    obtain ⟨m, hm⟩ : ∃ m, m = Q.length := ⟨_, rfl⟩
    rw [← hn] at h1 h2 ⊢
    rw [← hm] at h2 h3 h4
    rw [← hn] at hlen hql hSl
    rw [← hm] at hql hZl
    have hown := fun (w1 : World) (v' : Value) (ho : w1.ownsRow w.heap.size 9 1 v' n (pv ps)) (hne : v' ≠ .slice none 0 0) => holds_own (ps := ps) (by rw [← hn]; exact ho) hne
    rw [← hn] at hown
    clear hXS
    have Hh1 := Lib.hid h1
    have Hh2 := Lib.hid h2
    have Hh3 := Lib.hid h3
    have Hh4 := Lib.hid h4
    have Hhown := Lib.hid hown
    have Hhps := Lib.hid hps
    have Hhs := Lib.hid hs
    have HhS := Lib.hid hS
    have Hhn := Lib.hid hn
    have Hhm := Lib.hid hm
    have HhQ := Lib.hid hQ
    have HhG := Lib.hid hG
    have HhSl := Lib.hid hSl
    have HhZl := Lib.hid hZl
    clear h1 h2 h3 h4 hown hps hs hS hn hm hQ hG hSl hZl
    clear hrd hel hA
    go_enter Tryd.func57, Tryd.ntmps57
    go_wp2_with fail
    refine Hh1.out.mono ?_
    rintro e w1 ⟨v', rfl, ho1, hne1, hb1⟩
    obtain ⟨g, cap, rfl, hg, hgs, hc, hH1⟩ := Hhown.out w1 _ ho1 hne1
    have hG1 := HhG.out.below hb1 hgl
    have H2 := Lib.hid (Hh2.out g cap w1 hg hgs hc hH1 hG1)
    clear ho1 hne1 hH1
    go_wp2_with fail
    refine H2.out.mono ?_
    rintro e w2 ⟨rfl, hb2, hH2⟩
    have hG2 := hG1.below hb2 (by omega)
    have hs2 := hb2.size
    have H3 := Lib.hid (Hh3.out g cap w2 hG2 (by omega) (by omega) hH2)
    clear hH2 H2
    go_wp2_with fail
    refine H3.out.mono ?_
    rintro e w3 ⟨rfl, hb3, hH3⟩
    have hs3 := hb3.size
    have H4 := Lib.hid (Hh4.out g cap w3 hH3 (by have := HhZl.out; omega))
    have H5 := Lib.hid hH3
    clear hH3 H3
    go_wp2_with fail
    refine H4.out.mono ?_
    rintro e w4 ⟨rfl, q, hw4⟩
    have hb4 : RowKit.Below g w3 w4 := by
      rw [hw4]
      have h0 : RowKit.Below g w3 (Sort.ahead w3 q) := ⟨rfl, rfl, rfl, Nat.le_refl _, fun _ _ => rfl⟩
      exact below_put h0 encStr (Nat.le_refl _) 0 _
    have hle : XS.length ≤ m := by
      have := compact_length_le Z
      rw [← HhS.out, HhZl.out] at this
      exact this
    have hH4 : Holds encStr w4 g 0 XS.toArray := by
      have := HhZl.out
      have h5 : Holds encStr w4 g 0 (XS ++ List.replicate (m - XS.length) []).toArray := by
        rw [hw4]
        exact holds_putRow encStr _ g 0 _ _ (holds_ahead encStr w3 q g 0 _ H5.out) (by simp; omega)
      refine holds_part h5 (by simp) fun j hj => ?_
      have hj2 : j < XS.length := by simpa using hj
      rw [getElem!_pos _ j hj, getElem!_pos _ j (by simp; omega)]
      simp [hj2]
    have hR := Lib.hid (holds_rd hH4 (by have := hb4.size; omega) (cap := cap) (by simp; omega))
    have hB : RowKit.Below w.heap.size w w4 := hb1.trans (((hb2.trans hb3).trans hb4).mono hg)
    clear hH4 H5 H4 hw4
    go_wp2_with fail
    go_ret
    refine ⟨_, XS, rfl, by simpa using hR.out, hB, Hhs.out, by have := HhSl.out; omega⟩
end Go.Proofs.YtidmjepfpjfkoaaDoor
