/-
  Walks: counts of parts; the reference's Cut.
-/
import Derived.Test.YtgdjfijkbemkeaaEtM
import Derived.Test.YtgdjfijkbemkeaaAp
import Derived.Test.YtgdjfijkbemkeaaShaH
namespace Go.Proofs.Ytgdjfijkbemkeaa
open Go.RowKit
set_option maxHeartbeats 2000000
set_option maxRecDepth 20000
set_option linter.unusedVariables false

/-- a slice is handed back that reads so -/
def RetS (xs : List Value) (w : World) (e : Ending) (w' : World) : Prop := ∃ v n, e = .returned v ∧ RdS v n xs w'.heap.size w' ∧ Below w.heap.size w w'
theorem RdS.slice {v : Value} {n B : Nat} {xs : List Value} {w : World} (h : RdS v n xs B w) : ∃ A c, v = .slice A n c := by
  rcases h.2 with ⟨rfl, rfl⟩ | ⟨ad, c, rfl, _⟩
  · exact ⟨none, 0, rfl⟩
  · exact ⟨some ad, c, rfl⟩
theorem RdS.mono {v : Value} {n B B' : Nat} {xs : List Value} {w : World} (h : RdS v n xs B w) (hB : B ≤ B') : RdS v n xs B' w :=
  ⟨h.1, h.2.imp id fun ⟨ad, c, h1, h2, h3⟩ => ⟨ad, c, h1, h2, h3.imp id fun ⟨b, off, h4, h5, h6⟩ => ⟨b, off, h4, by omega, h6⟩⟩⟩
theorem rd_of_own {w : World} {base : Nat} {e : TypeId} {v : Value} {n : Nat} {xs : List Value} (h : w.ownsRow base e 1 v n xs) : RdS v n xs w.heap.size w := by
  obtain ⟨hl, h⟩ := h
  refine ⟨by simpa using hl, ?_⟩
  rcases h with ⟨rfl, rfl⟩ | ⟨g, cap, cur, rfl, hg, hh, hc, _, _, hx⟩
  · exact .inl ⟨rfl, rfl⟩
  · refine .inr ⟨_, cap, rfl, hc, .inr ⟨g, 0, rfl, lt_of_block hh, fun j u hj => ?_⟩⟩
    rw [Nat.zero_add, cell_of_row _ _ _ _ _ _ hh]
    rw [← hx, List.getElem?_take] at hj
    split at hj
    · simpa using hj
    · cases hj

theorem count5 (n : Int) (h0 : -9223372036854775808 ≤ n) (h1 : n ≤ 9223372036854775807) (w : World) :
    Calls Try.prog 46 #[.int .i64 n] w fun e w' => e = .returned (.int .i64 (Em.np n.toNat : Nat)) ∧ w' = w := by
  obtain ⟨r, hr⟩ : ∃ r, r = Em.np n.toNat := ⟨_, rfl⟩
  rw [← hr]
  unfold Em.np at hr
  by_cases h : n < 1
  · have hr0 : r = 0 := by omega
    subst hr0
    clear hr
    go_enter Try.func46, Try.ntmps46
    go_wp2
    go_ret
    exact ⟨rfl, rfl⟩
  · have e1 : (r : Int) = (n - 1) / 16 + 1 := by omega
    have H := Lib.hid e1
    clear e1 hr
    go_enter Try.func46, Try.ntmps46
    go_wp2
    go_ret
    rw [H.out]
    exact ⟨rfl, rfl⟩

theorem refCount5 (n : Int) (h0 : -9223372036854775808 ≤ n) (h1 : n ≤ 9223372036854775807) (w : World) :
    Calls Try.prog 47 #[.int .i64 n] w fun e w' => e = .returned (.int .i64 (Em.np n.toNat : Nat)) ∧ w' = w := by
  obtain ⟨r, hr⟩ : ∃ r, r = Em.np n.toNat := ⟨_, rfl⟩
  rw [← hr]
  unfold Em.np at hr
  by_cases h : n < 1
  · have hr0 : r = 0 := by omega
    subst hr0
    clear hr
    go_enter Try.func47, Try.ntmps47
    go_wp2
    go_ret
    exact ⟨rfl, rfl⟩
  · obtain ⟨k, rfl⟩ : ∃ k : Nat, n = k := ⟨n.toNat, by omega⟩
    have hk0 : 1 ≤ k := by omega
    rw [Int.toNat_natCast] at hr
    obtain ⟨q, hq⟩ : ∃ q, q = k / 16 := ⟨_, rfl⟩
    obtain ⟨m, hm⟩ : ∃ m, m = k % 16 := ⟨_, rfl⟩
    have i1 : (k : Int) / 16 = (q : Int) := by omega
    have i2 : (k : Int) % 16 = (m : Int) := by omega
    have i3 : (k : Int).tdiv 16 = (q : Int) := by rw [Int.tdiv_eq_ediv_of_nonneg (by omega)]; exact i1
    have i4 : (k : Int).tmod 16 = (m : Int) := by rw [Int.tmod_eq_emod_of_nonneg (by omega)]; exact i2
    by_cases hm0 : 0 < m
    · have e1 : (r : Int) = (q : Int) + 1 := by omega
      have hqb : q ≤ 9223372036854775000 := by omega
      have H := Lib.hid e1
      clear e1 hr hq hm
      go_enter Try.func47, Try.ntmps47
      go_wp2
      go_ret
      rw [H.out]
      exact ⟨rfl, rfl⟩
    · have e1 : (r : Int) = (q : Int) := by omega
      have hqb : q ≤ 9223372036854775000 := by omega
      have H := Lib.hid e1
      clear e1 hr hq hm
      go_enter Try.func47, Try.ntmps47
      go_wp2
      go_ret
      rw [H.out]
      exact ⟨rfl, rfl⟩

/-- parts as values -/
def pv (ps : List (List UInt8)) : List Value := ps.map fun l => Value.string ⟨l.toArray⟩
theorem pv_append (a b : List (List UInt8)) : pv (a ++ b) = pv a ++ pv b := by simp [pv]
theorem info_str5 : (Try.prog.info? 9).map (fun i => (i.zero, i.size, i.bytes)) = some (some (.string ⟨#[]⟩), 1, 16) := by kernel_rfl

theorem refCut (s : ByteArray) (hs : s.size ≤ 100000) (w : World) :
    Calls Try.prog 41 #[.string s] w (RetS (pv (Em.parts s.data.toList)) w) := by
  obtain ⟨i0, hi0, hz0, hz1, hz2⟩ := info_parts info_str5
  obtain ⟨l, hl⟩ : ∃ l, l = s.data.toList := ⟨_, rfl⟩
  have hll : l.length = s.size := by rw [hl]; rfl
  rw [← hl]
  obtain ⟨n, hn⟩ : ∃ n, n = s.size := ⟨_, rfl⟩
  rw [← hn] at hll hs
  obtain ⟨X, hX⟩ : ∃ X, X = pv (Em.parts l) := ⟨_, rfl⟩
  rw [← hX]
  have hX2 : X = pv (Em.partsTo l (Em.np n)) := by rw [hX]; unfold Em.parts; rw [hll]
  have Hhll := Lib.hid hll
  have HhX2 := Lib.hid hX2
  clear hll hX2
  have h0 : Hid (s.data.toList = l.drop (16 * 0)) := by show _ = _; rw [Nat.mul_zero, List.drop_zero, hl]
  have hs0 : Hid (s.size = n - 16 * 0) := by show _ = _; omega
  clear hX hl hn
  go_enter Try.func41, Try.ntmps41
  go_wp2_with fail
  go_loopw [0, 3] (fun sv ov wr => ∃ (i : Nat) (t : ByteArray) (v : Value), sv = .string t ∧ ov = v ∧ Hid (t.data.toList = l.drop (16 * i)) ∧ Hid (t.size = n - 16 * i) ∧ (i = 0 ∨ 16 * i < n) ∧ i ≤ n ∧
      Hid (wr.ownsRow w.heap.size 9 1 v i (pv (Em.partsTo l i))) ∧ Below w.heap.size w wr) (fun sv _ _ => strSize (some sv))
  case atStart => exact ⟨0, s, _, rfl, rfl, h0, hs0, .inl rfl, by omega, by rw [Em.partsTo_zero]; exact ⟨rfl, .inl ⟨rfl, rfl⟩⟩, Below.refl _ _⟩
  case round =>
    obtain ⟨i, t, v, rfl, rfl, HT, HS, hi, hin, HO, hb⟩ := hrel
    by_cases h16 : 16 < t.size
    · have htn : 16 * i + 16 < n := by have := HS.out; omega
      have hx : (t.extract 0 16).data.toList = Em.part l i := by
        rw [Lib.extract_data, HT.out]; unfold Em.part; simp
      have hx2 : (t.extract 16 t.size).data.toList = l.drop (16 * (i + 1)) := by
        have ht : t.data.toList.length = t.size := rfl
        rw [Lib.extract_data, HT.out]
        rw [HT.out] at ht
        rw [List.take_of_length_le (by rw [List.length_drop, ht]; exact Nat.le_refl _), List.drop_drop]
        congr 1
      have hx3 : (t.extract 16 t.size).size = t.size - 16 := by rw [ByteArray.size_extract]; omega
      have hpv : (⟨(Em.part l i).toArray⟩ : ByteArray) = t.extract 0 16 := by
        rw [← hx]
      obtain ⟨y, hy⟩ : ∃ y, y = t.extract 0 16 := ⟨_, rfl⟩
      obtain ⟨z, hz⟩ : ∃ z, z = t.extract 16 t.size := ⟨_, rfl⟩
      rw [← hy] at hpv
      rw [← hz] at hx2 hx3
      have hi2 : i < 100000 := by omega
      have hne : t.size ≠ 0 := by omega
      have Hhpv := Lib.hid hpv
      have Hhx2 := Lib.hid hx2
      have Hhx3 := Lib.hid hx3
      have Hhy := Lib.hid hy
      have Hhz := Lib.hid hz
      clear hpv hx2 hx3 hy hz
      clear hx
      have hbs := hb.size
      go_wp2_with (at_builtin; refine kl_append1 rfl _ _ 42 rfl w.heap.size 9 i0 (.string ⟨#[]⟩) 1 16 Try.underlying42 hi0 hz0 hz1 hz2 rfl (by decide) _ i _ rfl HO.out 1 #[.string (t.extract 0 16)] rfl rfl (by simp [Value.oneCell']) (by omega) (by omega) hbs ?_; intro v' w' hown' hbel hsz' _)
      refine ⟨⟨i + 1, _, _, rfl, rfl, by rw [← Hhz.out]; exact Hhx2, ?_, .inr (by omega), by omega, ?_, hb.trans hbel⟩, ?_⟩
      · show _ = _
        rw [← Hhz.out, Hhx3.out, HS.out]; omega
      · show _
        rw [Em.partsTo_succ, pv_append]
        refine cast ?_ hown'
        congr 2
        show [Value.string _] = pv [_]
        unfold pv
        rw [← Hhy.out, ← Hhpv.out]; rfl
      · show (t.extract 16 t.size).size < t.size
        rw [← Hhz.out, Hhx3.out]; omega
    · by_cases ht0 : 0 < t.size
      · have hnp : Em.np n = i + 1 := by unfold Em.np; have := HS.out; omega
        have hp : Em.part l i = t.data.toList := by
          unfold Em.part; rw [← HT.out]; exact List.take_of_length_le (by show t.size ≤ 16; omega)
        have Hhnp := Lib.hid hnp
        have Hhp := Lib.hid hp
        clear hnp hp
        have hi2 : i < 100000 := by have := HS.out; omega
        have hbs := hb.size
        go_wp2_with (at_builtin; refine kl_append1 rfl _ _ 42 rfl w.heap.size 9 i0 (.string ⟨#[]⟩) 1 16 Try.underlying42 hi0 hz0 hz1 hz2 rfl (by decide) _ i _ rfl HO.out 1 #[.string t] rfl rfl (by simp [Value.oneCell']) (by omega) (by omega) hbs ?_; intro v' w' hown' hbel hsz' _)
        go_ret
        have hq : X = pv (Em.partsTo l i) ++ [Value.string t] := by
          rw [HhX2.out, Hhnp.out, Em.partsTo_succ, pv_append]
          congr 1
          unfold pv
          rw [List.map_cons, Hhp.out]; rfl
        rw [hq]
        exact ⟨_, _, rfl, rd_of_own hown', hb.trans hbel⟩
      · have hnp : Em.np n = i := by unfold Em.np; have := HS.out; omega
        have Hhnp := Lib.hid hnp
        clear hnp
        go_wp2_with fail
        go_ret
        rw [HhX2.out, Hhnp.out]
        exact ⟨_, _, rfl, rd_of_own HO.out, hb⟩
end Go.Proofs.Ytgdjfijkbemkeaa
