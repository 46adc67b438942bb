/-
  Walk: slices.DeleteFunc over texts, at a predicate that may make blocks, over a row of the caller's own.
-/
import Derived.Test.YtidmjepfpjfkoaaDoorPaZ
import Derived.Lib.SlicesCompact
import Derived.Lib.SliceRun
import Derived.Sort.WalkB12
import Derived.Sort.EncStr
import Derived.Shelf.RegionOpenPlain
namespace Go.Proofs.YtidmjepfpjfkoaaDoor
open Go Go.RowKit Go.Sort
set_option maxHeartbeats 2000000
set_option maxRecDepth 20000
set_option linter.unusedVariables false
set_option linter.unusedSimpArgs false

section
variable {α : Type} [Inhabited α]
theorem below_setCells {B : Nat} {a : World} {b : Nat} (hb : B ≤ b) : ∀ (l : List Value) (w : World) (k : Nat), Below B a w → Below B a (w.setCells b k l)
  | [], w, k, h => h
  | v :: l, w, k, h => by
    unfold World.setCells
    exact below_setCells hb l _ _ (h.setCell hb v)
theorem size_setCells {b : Nat} : ∀ (l : List Value) (w : World) (k : Nat), (w.setCells b k l).heap.size = w.heap.size
  | [], w, k => rfl
  | v :: l, w, k => by
    unfold World.setCells
    rw [size_setCells l, size_setCell]
theorem holds_set {enc : α → Value} {w : World} {b off : Nat} {d : Array α} (h : Holds enc w b off d) {i : Nat} (hi : i < d.size) (x : α) :
    Holds enc (w.setCell ⟨b, off + i, none⟩ (enc x)) b off (d.setIfInBounds i x) := by
  have h1 := putRow_set enc w b off d i x hi
  rw [putRow_self enc w b off d h] at h1
  rw [h1]
  exact holds_putRow enc w b off d _ h (by simp)
theorem holds_sets {enc : α → Value} {w : World} {b off : Nat} {d : Array α} (h : Holds enc w b off d) {k : Nat} (xs : List α) (hk : k + xs.length ≤ d.size) :
    Holds enc (w.setCells b (off + k) (xs.map enc)) b off (Lib.lay d k xs) := by
  have h1 := Lib.putRow_setCells enc w b off xs d k hk
  rw [putRow_self enc w b off d h] at h1
  rw [h1]
  exact holds_putRow enc w b off d _ h (Lib.lay_size _ _ _)
theorem holds_below {enc : α → Value} {w w' : World} {b off B : Nat} {d : Array α} (h : Holds enc w b off d) (hb : Below B w w') (hB : b < B) : Holds enc w' b off d :=
  fun j hj => ⟨(hb.cell (p := ⟨b, off + j, none⟩) hB).trans (h j hj).1, (hb.frozen (p := ⟨b, off + j, none⟩) hB).trans (h j hj).2⟩
end

/-- what the loop of DeleteFunc holds to: i written, j read -/
structure DelInv (p : List UInt8 → Bool) (d dk : Array (List UInt8)) (i j : Nat) : Prop where
  size : dk.size = d.size
  lt : i < j
  le : j ≤ d.size
  low : dk.toList.take i = (d.toList.take j).filter fun x => !p x
  high : ∀ k, j ≤ k → k < d.size → dk[k]! = d[k]!

theorem take_next (d : Array (List UInt8)) {j : Nat} (hj : j < d.size) : d.toList.take (j + 1) = d.toList.take j ++ [d[j]!] := by
  rw [List.take_succ_eq_append_getElem (by simpa using hj)]
  congr 2
  rw [Array.getElem_toList, getElem!_pos d j hj]
theorem filter_all {p : List UInt8 → Bool} : ∀ (l : List (List UInt8)), (∀ x ∈ l, p x = false) → (l.filter fun x => !p x) = l
  | [], _ => rfl
  | x :: l, h => by
    rw [List.filter_cons_of_pos (by rw [h x (by simp)]; rfl), filter_all l fun y hy => h y (by simp [hy])]
theorem DelInv.start {p : List UInt8 → Bool} {d : Array (List UInt8)} {i : Nat} (hi : i < d.size) (hp : p d[i]! = true) (hb : ∀ k, k < i → p d[k]! = false) : DelInv p d d i (i + 1) := by
  refine ⟨rfl, by omega, by omega, ?_, fun _ _ _ => rfl⟩
  rw [take_next d hi, List.filter_append, List.filter_cons_of_neg (by rw [hp]; decide), filter_all]
  · simp
  · intro x hx
    obtain ⟨k, hk, rfl⟩ := List.getElem_of_mem hx
    have hk2 : k < i ∧ k < d.size := by simp at hk; omega
    have := hb k hk2.1
    rw [getElem!_pos d k hk2.2] at this
    simpa using this
theorem DelInv.skip {p : List UInt8 → Bool} {d dk : Array (List UInt8)} {i j : Nat} (h : DelInv p d dk i j) (hj : j < d.size) (hp : p d[j]! = true) : DelInv p d dk i (j + 1) :=
  ⟨h.size, by have := h.lt; omega, by omega, by rw [take_next d hj, List.filter_append, List.filter_cons_of_neg (by rw [hp]; decide), h.low]; simp, fun k hk hk2 => h.high k (by omega) hk2⟩
theorem DelInv.keep {p : List UInt8 → Bool} {d dk : Array (List UInt8)} {i j : Nat} (h : DelInv p d dk i j) (hj : j < d.size) (hp : p d[j]! = false) : DelInv p d (dk.setIfInBounds i d[j]!) (i + 1) (j + 1) := by
  have hlt := h.lt
  have hs := h.size
  refine ⟨by simp [hs], by omega, by omega, ?_, fun k hk hk2 => ?_⟩
  · rw [take_next d hj, List.filter_append, List.filter_cons_of_pos (by rw [hp]; rfl), ← h.low, List.take_succ_eq_append_getElem (by simp; omega)]
    have h1 : List.take i (dk.setIfInBounds i d[j]!).toList = List.take i dk.toList := by rw [Array.toList_setIfInBounds, List.take_set_of_le (Nat.le_refl _)]
    rw [h1]
    congr 1
    simp
  · rw [← h.high k (by omega) hk2]
    have h3 : k < (dk.setIfInBounds i d[j]!).size := by simp; omega
    have h4 : k < dk.size := by omega
    rw [getElem!_pos _ k h3, getElem!_pos dk k h4, Array.getElem_setIfInBounds_ne h4 (by omega)]

/-- a row held, as it is read -/
theorem holds_rd {w : World} {b off : Nat} {d : Array (List UInt8)} (h : Holds encStr w b off d) (hb : b < w.heap.size) {cap : Nat} (hcap : d.size ≤ cap) :
    RdS (.slice (some ⟨b, off, none⟩) d.size cap) d.size (pv d.toList) w.heap.size w := by
  refine ⟨by simp [pv], .inr ⟨_, _, rfl, hcap, .inr ⟨b, off, rfl, hb, fun j u hj => ?_⟩⟩⟩
  unfold pv at hj
  rw [List.getElem?_map] at hj
  by_cases hjd : j < d.size
  · rw [(h j hjd).1]
    rw [Array.getElem?_toList, Array.getElem?_eq_getElem hjd] at hj
    rw [getElem!_pos d j hjd]
    exact hj
  · rw [Array.getElem?_toList, Array.getElem?_eq_none (by omega)] at hj
    cases hj
theorem holds_part {w : World} {b off : Nat} {d e : Array (List UInt8)} (h : Holds encStr w b off d) (hle : e.size ≤ d.size) (he : ∀ j, j < e.size → e[j]! = d[j]!) : Holds encStr w b off e :=
  fun j hj => by rw [he j hj]; exact h j (by omega)

theorem deleteFunc (g : Nat) (p : List UInt8 → Bool) (hP : Pd g p) (b off cap : Nat) (d : Array (List UInt8)) (hds : ∀ x ∈ d.toList, x.length ≤ 100000) (hlen : d.size ≤ 1000000) (w : World) (hG : Gl w) (hb0 : 0 < b) (hbs : b < w.heap.size)
    (hH : Holds encStr w b off d) (hcap : d.size ≤ cap) :
    Calls Tryd.prog 87 #[.slice (some ⟨b, off, none⟩) d.size cap, .func (.func g) #[] #[]] w fun e w' =>
      e = .returned (.slice (some ⟨b, off, none⟩) (d.toList.filter fun x => !p x).length cap) ∧ Below b w w' ∧ Holds encStr w' b off (d.toList.filter fun x => !p x).toArray := by
  have en := hP.en
  have says := hP.says
  have c1 := indexFunc g p hP d.toList hds (by simpa using hlen) (some ⟨b, off, none⟩) cap w hG (by simpa using holds_rd hH hbs hcap)
  have hdl : d.toList.length = d.size := by simp
  obtain ⟨r, hr⟩ : ∃ r : Int, r = (if d.toList.findIdx p < d.toList.length then (d.toList.findIdx p : Int) else -1) := ⟨_, rfl⟩
  rw [← hr, hdl] at c1
  obtain ⟨R, hR⟩ : ∃ R, R = d.toList.filter fun x => !p x := ⟨_, rfl⟩
  rw [← hR]
  have Hc1 := Lib.hid c1
  have Hsays := Lib.hid says
  have HhH := Lib.hid hH
  have Hhds := Lib.hid hds
  have HhG := Lib.hid hG
  have HhP := Lib.hid hP
  have HhR := Lib.hid hR
  clear c1 says hH hds hG hP hR
  by_cases hf : d.toList.findIdx p < d.toList.length
  · rw [if_pos hf] at hr
    obtain ⟨i0, hi0⟩ : ∃ i, i = d.toList.findIdx p := ⟨_, rfl⟩
    rw [← hi0] at hr
    have h1 : i0 < d.size := by rw [hi0]; simpa using hf
    have hs : DelInv p d d i0 (i0 + 1) := by
      refine DelInv.start h1 ?_ fun k hk => ?_
      · rw [getElem!_pos d i0 h1]
        have := List.findIdx_getElem (w := hf)
        simp only [← hi0] at this
        simpa using this
      · have := List.not_of_lt_findIdx (p := p) (xs := d.toList) (i := k) (by rw [← hi0]; exact hk)
        rw [getElem!_pos d k (by omega)]
        simpa using this
    have HS := Lib.hid hs
    subst hr
    clear hf hi0 hs hdl
    have hne : ((i0 : Int) == -1) = false := by rw [beq_eq_false_iff_ne]; omega
    go_enter Tryd.func87, Tryd.ntmps87
    go_wp2_with fail
    refine Hc1.out.mono ?_
    rintro e w1 ⟨rfl, hb1⟩
    go_wp2_with fail
    go_loopw [5, 6] (fun iv jv wr => ∃ (i j : Nat) (dk : Array (List UInt8)), iv = .int .i64 (i : Int) ∧ jv = .int .i64 (j : Int) ∧ i < j ∧ j ≤ d.size ∧ DelInv p d dk i j ∧ Holds encStr wr b off dk ∧ Below b w wr) (fun iv jv _ => d.size - (intOf jv).toNat)
    case atStart => exact ⟨i0, i0 + 1, d, rfl, by go_num, by omega, by omega, HS.out, holds_below HhH.out hb1 hbs, hb1.mono (by omega)⟩
    case round =>
      obtain ⟨i, j, dk, rfl, rfl, hij, hjn, hI, hK, hbr⟩ := hrel
      have hsz := hI.size
      have hwr : b < wr.heap.size := by have := hbr.size; omega
      have hG3 := HhG.out.below hbr hb0
      by_cases hin : j < d.size
      · have hxl := Hhds.out d[j]! (by rw [getElem!_pos d j hin]; simp)
        have hcell := (hK j (by omega)).1
        rw [hI.high j (Nat.le_refl _) hin] at hcell
        obtain ⟨f0, f1⟩ := hK i (by omega)
        have hsay := Hsays.out d[j]! wr hxl hG3
        have HI := Lib.hid hI
        obtain ⟨q, hq⟩ : ∃ q, q = p d[j]! := ⟨_, rfl⟩
        rw [← hq] at hsay
        obtain ⟨x, hxx⟩ : ∃ x, x = d[j]! := ⟨_, rfl⟩
        rw [← hxx] at hsay hcell
        have Hhsay := Lib.hid hsay
        have Hhq := Lib.hid hq
        have Hhxx := Lib.hid hxx
        have HhK := Lib.hid hK
        clear hsay hq hxx hK
        clear hI hG3 hxl
        go_wp2_with fail
        refine Hhsay.out.mono ?_
        rintro e w2 ⟨rfl, hb2⟩
        have f0' := (hb2.cell (p := ⟨b, off + i, none⟩) hwr).trans f0
        have f1' := (hb2.frozen (p := ⟨b, off + i, none⟩) hwr).trans f1
        have hK2 := Lib.hid (holds_below HhK.out hb2 hwr)
        have hbr2 := hbr.trans (hb2.mono (show b ≤ wr.heap.size by omega))
        clear f0 f1 hcell hbr
        cases q with
        | true =>
          have HI2 := Lib.hid (HI.out.skip hin Hhq.out.symm)
          go_wp2_with fail
          go_roundw
          case rel => exact ⟨i, j + 1, dk, rfl, by go_num, by omega, by omega, HI2.out, hK2.out, hbr2⟩
          case measure => simp [intOf]; omega
        | false =>
          have HI2 := Lib.hid (HI.out.keep hin Hhq.out.symm)
          have hK3 := Lib.hid (holds_set hK2.out (show i < dk.size by omega) d[j]!)
          rw [← Hhxx.out] at hK3 HI2
          go_wp2_with fail
          go_roundw
          case rel => exact ⟨i + 1, j + 1, dk.setIfInBounds i x, by go_num, by go_num, by omega, by omega, HI2.out, hK3.out, hbr2.setCell (Nat.le_refl _) _⟩
          case measure => simp [intOf]; omega
      · obtain rfl : j = d.size := by omega
        have hcl : ∀ ty, (Builtin.clear_ #[56] ty #[.slice (some ⟨b, off + i, none⟩) (d.size - i) (cap - i)]).run Tryd.prog wr = .ok (.tuple #[]) (wr.setCells b (off + i) (List.replicate (d.size - i) (encStr []))) :=
          fun ty => Lib.run_clear_slice wr _ _ ty _ Tryd.underlying56 Tryd.zeroValue9 rfl rfl b (off + i) _ _ (by omega) (fun t ht => by rw [show off + i + t = off + (i + t) by omega, (hK (i + t) (by omega)).1]; rfl) (fun t ht => by rw [show off + i + t = off + (i + t) by omega]; exact (hK (i + t) (by omega)).2)
        have hR2 : R.length = i ∧ R = dk.toList.take i := by
          have h2 : R = dk.toList.take i := by rw [HhR.out, hI.low, List.take_of_length_le (by simp)]
          exact ⟨by rw [h2, List.length_take]; simp; omega, h2⟩
        have HR2 := Lib.hid hR2
        have HhK := Lib.hid hK
        clear hK
        clear hI hR2 hG3
        go_wp2
        go_ret
        rw [HR2.out.1]
        refine ⟨rfl, below_setCells (Nat.le_refl _) _ _ _ hbr, ?_⟩
        have hK3 := holds_sets HhK.out (k := i) (List.replicate (d.size - i) []) (by simp; omega)
        rw [List.map_replicate] at hK3
        refine holds_part hK3 (by rw [Lib.lay_size]; simp [HR2.out.1]; omega) fun k hk => ?_
        have hk2 : k < i := by simpa [HR2.out.1] using hk
        have h1 := Lib.lay_get? (List.replicate (d.size - i) ([] : List UInt8)) dk i k (by simp; omega)
        rw [if_neg (by omega)] at h1
        have h2 : R.toArray[k]? = dk[k]? := by
          rw [HR2.out.2]
          simp [List.getElem?_take, hk2]
        rw [Array.getElem!_eq_getD, Array.getElem!_eq_getD, Array.getD_eq_getD_getElem?, Array.getD_eq_getD_getElem?, h1, h2]
  · rw [if_neg hf] at hr
    have h1 : R = d.toList := by
      rw [HhR.out, filter_all]
      intro x hx
      have h2 : d.toList.findIdx p = d.toList.length := by have := List.findIdx_le_length (p := p) (xs := d.toList); omega
      rw [List.findIdx_eq_length] at h2
      simpa using h2 x hx
    have HR := Lib.hid h1
    subst hr
    clear hf h1
    go_enter Tryd.func87, Tryd.ntmps87
    go_wp2_with fail
    refine Hc1.out.mono ?_
    rintro e w1 ⟨rfl, hb1⟩
    go_wp2_with fail
    go_ret
    refine ⟨by rw [HR.out, hdl]; rfl, hb1.mono (by omega), ?_⟩
    rw [HR.out, Array.toArray_toList]
    exact holds_below HhH.out hb1 hbs
end Go.Proofs.YtidmjepfpjfkoaaDoor
