/-
  Small laws on rows of the call's own and rows that are read.
  Walk: path.Clash.
  A range over a function whose iterator keeps its own state in boxes that lie below the loop: the loop's law at an invariant of the caller's; strings.SplitSeq's iterator at one byte.
  strings.SplitSeq's iterator, at one slash.
  Walk: path.Normal.
-/
import Derived.Test.YtidmjepfpjfkoaaDoorMc
import Derived.Test.YtidmjepfpjfkoaaDoorMa
import Derived.Test.YtidmjepfpjfkoaaDoorMe
import Derived.Test.YtidmjepfpjfkoaaDoorMb
import Derived.RangeFuncBox
import Derived.RangeFuncLeaves
import Derived.RangeFuncBound
import Derived.RangeFuncWrites
import Derived.Shelf.Abstract
import Derived.WalkKit
import Derived.OwnWalkIn
import Derived.TacticsInMore
import Derived.LoopNIn
import Derived.LoopIn
import Derived.Maps.AppendAt
import Derived.Sort.QuietIn
namespace Go.Proofs.YtidmjepfpjfkoaaDoor
open Go Go.RowKit
set_option maxHeartbeats 4000000
set_option maxRecDepth 20000
set_option linter.unusedVariables false
set_option linter.unusedSimpArgs false

theorem own_below {w w' : World} {base : Nat} {e : TypeId} {v : Value} {n : Nat} {xs : List Value} (h : w.ownsRow base e 1 v n xs) (hb : Below w.heap.size w w') : w'.ownsRow base e 1 v n xs :=
  ⟨h.1, h.2.imp id fun ⟨g, cap, cur, e1, e2, e3, r⟩ => ⟨g, cap, cur, e1, e2, by rw [hb.block g (lt_of_block e3)]; exact e3, r⟩⟩
section
variable {P : Program} {ops : Array Oper} {Q : Exit → Act → World → Prop} {S : World → Prop} {md : Region.Mode}
theorem my_firsts (pl : List Nat) (k : Nat) (l' : Array Bool) {fuel : Nat} {listed : Array Bool} {a : Act} {w : World} (hsel : Region.noSelect ops = true) (hn : k + pl.length = fuel) (hB : firstB md ops pl listed = some l') (hS : S w)
    (h : wpFirst P ops S (fun a w => wpAnyH P md ops (NoPanic Q) S k l' a w) pl a w) : wpAnyH P md ops (NoPanic Q) S fuel listed a w := by
  subst hn
  exact wpAnyH_firsts hsel (fun _ _ _ _ _ h => h) k l' pl listed a w hB hS h
theorem my_loud {fuel : Nat} {listed : Array Bool} {i : Nat} {rs : List Nat} {o : Oper} {a : Act} {w : World} (ho : ops[i]? = some o)
    (h : wpList P ops (MixQ Q fun a' w' => S w' ∧ wpAnyH P md ops Q S fuel (listed.setIfInBounds i true) a' w') [o] a w)
    (hm : AllReadyH P md ops Q S fuel listed a w rs) : AllReadyH P md ops Q S fuel listed a w (i :: rs) := by
  intro j hj
  rcases List.mem_cons.1 hj with rfl | hj
  · unfold wpOp
    simp only [ho]
    unfold wpList at h
    split
    · rename_i hw
      rw [if_pos hw] at h
      rcases h with h' | ⟨ha, hl⟩
      · exact .inl (wp_mixQ h')
      · exact .inr ⟨ha, hl⟩
    · rename_i hw
      rw [if_neg hw] at h
      exact h
  · exact hm j hj
variable {rest : List Oper} {o : Oper} {a : Act} {w : World}
/-- one-cell elements of a slice that is read, behind a slice of the call's own: just its own block turns -/
theorem kl_append_rdg (hgd : o.guard = none) (s x : Operand) (t : TypeId) (ho : o.op = .call { callee := .builtin .append, args := #[s, x], argTypes := #[t, t] })
    (base : Nat) (e : TypeId) (i : TypeInfo) (z : Value) (bytes : Nat) (ht : P.underlying t = some (.slice e)) (hi : P.info? e = some i) (hz : i.zero = some z)
    (hsize : i.size = 1) (hby : i.bytes = bytes) (hzs : z.cells.size = 1)
    (v : Value) (n : Nat) (xs : List Value) (hs : a.eval s = v) (hown : w.ownsRow base e 1 v n xs)
    (y : Value) (m : Nat) (ys : List Value) (B : Nat) (hx : a.eval x = y) (hr : RdS y m ys B w) (h1 : ∀ u ∈ ys, u.oneCell' = true)
    (hn : n + m < 16777216) (hb16 : bytes ≤ 4096) (hbase : base ≤ w.heap.size)
    (h : ∀ v' w', w'.ownsRow base e 1 v' (n + m) (xs ++ ys) → w.grownBy w' v.ownBlock → Below base w w' → wpList P ops Q rest (a.put o.dst v') w') :
    wpList P ops Q (o :: rest) a w := by
  obtain ⟨hl, hr⟩ := hr
  rcases hr with ⟨rfl, rfl⟩ | ⟨ad, c, rfl, hc, hcell⟩
  · obtain rfl : ys = [] := List.eq_nil_of_length_eq_zero hl
    exact kl_append_nil hgd s x t ho base e i 1 ht hi v n xs hs hown hx (h v w (by simpa using hown) ⟨rfl, rfl, rfl, Nat.le_refl _, fun _ _ _ => rfl⟩ (Below.refl _ _))
  · refine wpList_append_own _ hgd s x t ho base e i z 1 bytes ht hi hz hsize hby hzs (by decide) v n xs hs hown ad m c ys hx (by simpa using hl) (fun j u hj => by
      rcases hcell with h0 | ⟨b, off, rfl, hb, hcell⟩
      · have : ys = [] := List.eq_nil_of_length_eq_zero (by omega)
        subst this; simp at hj
      · rw [Addr.add_mid]; exact hcell j u hj) h1 (by unfold maxLen; omega) ?_ hbase ?_
    · have : (n + m) * bytes ≤ 16777216 * 4096 := Nat.mul_le_mul (by omega) hb16
      omega
    · intro v' w' ho' hg hnil
      have hlt := hown.lt
      exact h v' w' ho' hg ((Below.refl _ _).grown hg hbase (fun k hk => (hlt k hk).1))
end
theorem owns_rdS {w : World} {base : Nat} {e : TypeId} {v : Value} {n : Nat} {xs : List Value} (h : w.ownsRow base e 1 v n xs) : RdS v n xs w.heap.size w := by
  have hl := h.1
  rcases h.2 with ⟨rfl, rfl⟩ | ⟨g, cap, cur, rfl, hg, hh, hc, _, _, hx⟩
  · exact ⟨by simpa using hl, .inl ⟨rfl, rfl⟩⟩
  · refine ⟨by simpa using hl, .inr ⟨_, _, rfl, hc, .inr ⟨g, 0, rfl, lt_of_block hh, fun j u hj => ?_⟩⟩⟩
    rw [Nat.zero_add, cell_of_row _ _ _ _ _ _ hh]
    rw [← hx, List.getElem?_take] at hj
    split at hj
    · simpa using hj
    · cases hj
theorem info_str : (Tryd.prog.info? 9).map (fun i => (i.zero, i.size, i.bytes)) = some (some (.string ⟨#[]⟩), 1, 16) := by kernel_rfl
theorem own_base {w : World} {base base' : Nat} {e : TypeId} {v : Value} {n : Nat} {xs : List Value} (h : w.ownsRow base e 1 v n xs) (hb : base' ≤ base) : w.ownsRow base' e 1 v n xs :=
  ⟨h.1, h.2.imp id fun ⟨g, cap, cur, e1, e2, r⟩ => ⟨g, cap, cur, e1, Nat.le_trans hb e2, r⟩⟩
theorem pv_one (ps : List (List UInt8)) : ∀ u ∈ pv ps, u.oneCell' = true := by
  intro u hu
  unfold pv at hu
  obtain ⟨x, _, rfl⟩ := List.mem_map.1 hu
  rfl
theorem rd_one {w : World} {q : Nat} {e : TypeId} {u : Value} (h : w.heap[q]? = some (.cells #[u] e (0, 0))) : RdS (.slice (some ⟨q, 0, none⟩) 1 1) 1 [u] w.heap.size w :=
  ⟨rfl, .inr ⟨_, _, rfl, Nat.le_refl _, .inr ⟨q, 0, rfl, lt_of_block h, fun j u hj => by rw [Nat.zero_add, cell_of_row _ _ _ _ _ _ h]; simpa using hj⟩⟩⟩
/-- of a row the first ones -/
theorem rd_take {b off m c B : Nat} {ps : List (List UInt8)} {w : World} (h : RdS (.slice (some ⟨b, off, none⟩) m c) m (pv ps) B w) {k : Nat} (hk : k ≤ m) : RdS (.slice (some ⟨b, off, none⟩) k c) k (pv (ps.take k)) B w := by
  obtain ⟨h1, h2⟩ := h
  have hpl : ps.length = m := by simpa [pv] using h1
  refine ⟨by simp [pv]; omega, ?_⟩
  rcases h2 with ⟨h, _⟩ | ⟨ad, c', e, hc, hx⟩
  · cases h
  · injection e with e1 e2 e3
    injection e1 with e1
    subst e1 e3
    refine .inr ⟨_, c, rfl, by omega, ?_⟩
    rcases hx with hx | ⟨b', off', e4, hb, hcell⟩
    · exact .inl (by omega)
    · refine .inr ⟨b', off', e4, hb, fun j u hj => hcell j u ?_⟩
      unfold pv at hj ⊢
      rw [List.map_take, List.getElem?_take] at hj
      split at hj
      · exact hj
      · cases hj
theorem rd_drop {b off m c B : Nat} {ps : List (List UInt8)} {w : World} (h : RdS (.slice (some ⟨b, off, none⟩) m c) m (pv ps) B w) {k : Nat} (hk : k ≤ m) {A : Option Addr} (hA : (if c = k then (some ⟨b, off, none⟩ : Option Addr) else some ⟨b, off + k, none⟩) = A) :
    RdS (.slice A (m - k) (c - k)) (m - k) (pv (ps.drop k)) B w := by
  obtain ⟨h1, h2⟩ := h
  have hpl : ps.length = m := by simpa [pv] using h1
  refine ⟨by simp [pv]; omega, ?_⟩
  rcases h2 with ⟨h, _⟩ | ⟨ad, c', e, hc, hx⟩
  · cases h
  · injection e with e1 e2 e3
    injection e1 with e1
    subst e1 e3
    by_cases hck : c = k
    · rw [if_pos hck] at hA
      subst hA
      exact .inr ⟨_, _, rfl, by omega, .inl (by omega)⟩
    · rw [if_neg hck] at hA
      subst hA
      refine .inr ⟨_, _, rfl, by omega, ?_⟩
      rcases hx with hx | ⟨b', off', e4, hb, hcell⟩
      · exact .inl (by omega)
      · injection e4 with e5 e6 e7
        subst e5 e6
        refine .inr ⟨_, _, rfl, hb, fun j u hj => ?_⟩
        rw [Nat.add_assoc]
        refine hcell (k + j) u ?_
        unfold pv at hj ⊢
        rw [List.map_drop, List.getElem?_drop] at hj
        exact hj
end Go.Proofs.YtidmjepfpjfkoaaDoor

namespace Go.Proofs.YtidmjepfpjfkoaaDoor
open Go Go.RowKit
set_option maxHeartbeats 4000000
set_option maxRecDepth 20000
set_option linter.unusedVariables false
set_option linter.unusedSimpArgs false

namespace Pm
/-- the first of which the next is within -/
def clash : List By → Option (By × By)
  | x :: y :: r => if within y x = true then some (x, y) else clash (y :: r)
  | _ => none
theorem clash_next {xs : List By} {i : Nat} (hi : i + 1 < xs.length) : clash (xs.drop i) = if within xs[i + 1] xs[i] = true then some (xs[i], xs[i + 1]) else clash (xs.drop (i + 1)) := by
  rw [List.drop_eq_getElem_cons (show i < xs.length by omega), List.drop_eq_getElem_cons hi, clash, ← List.drop_eq_getElem_cons hi]
theorem clash_end {xs : List By} {i : Nat} (hi : xs.length ≤ i + 1) : clash (xs.drop i) = none := by
  have h : (xs.drop i).length ≤ 1 := by simp; omega
  match xs.drop i, h with
  | [], _ => rfl
  | [x], _ => rfl
def clashV (c : Option (By × By)) : Value := match c with
  | some (a, b) => .tuple #[.string ⟨a.toArray⟩, .string ⟨b.toArray⟩, .bool true]
  | none => .tuple #[.string ⟨#[]⟩, .string ⟨#[]⟩, .bool false]
end Pm

theorem own_cut {w : World} {base : Nat} {e : TypeId} {g n cap : Nat} {xs : List Value} (h : w.ownsRow base e 1 (.slice (some ⟨g, 0, none⟩) n cap) n xs) {k : Nat} (hk : k ≤ n) : w.ownsRow base e 1 (.slice (some ⟨g, 0, none⟩) k cap) k (xs.take k) := by
  have hl := h.1
  rcases h.2 with ⟨h, _⟩ | ⟨g', cap', cur, h, h1, h2, h3, h4, h5, h6⟩
  · cases h
  · injection h with h7 h8 h9
    injection h7 with h7
    injection h7 with h7
    subst h7 h9
    refine ⟨by simp; omega, .inr ⟨g, cap, cur, rfl, h1, h2, by omega, h4, h5, ?_⟩⟩
    rw [← h6, List.take_take]
    congr 1
    omega
theorem pathClash (ps : List (List UInt8)) (hps : ∀ x ∈ ps, x.length ≤ 100000) (hlen : ps.length ≤ 1000000) (A : Option Addr) (c : Nat) (w : World) (hG : Gl w)
    (hrd : RdS (.slice A ps.length c) ps.length (pv ps) w.heap.size w) :
    Calls Tryd.prog 25 #[.slice A ps.length c] w fun e w' => ∃ xs, e = .returned (Pm.clashV (Pm.clash xs)) ∧ Pm.IsSort ps xs ∧ Below w.heap.size w w' := by
  have h1 := pathSort ps hps hlen A c w hG hrd
  obtain ⟨n, hn⟩ : ∃ n, n = ps.length := ⟨_, rfl⟩
  rw [← hn] at h1 hlen ⊢
  have Hh1 := Lib.hid h1
  have Hhn := Lib.hid hn
  have Hhps := Lib.hid hps
  have HhG := Lib.hid hG
  clear h1 hn hps hG
  clear hrd
  go_enter Tryd.func25, Tryd.ntmps25
  go_wp2_with fail
  refine Hh1.out.mono ?_
  rintro e w1 ⟨v, xs, rfl, hv, hb1, hS, hxl⟩
  obtain ⟨A', c', rfl⟩ := hv.slice
  have hxs : ∀ z ∈ xs, z.length ≤ 100000 := fun z hz => Hhps.out z ((hS.mem z).1 hz).1
  obtain ⟨m, hm⟩ : ∃ m, m = xs.length := ⟨_, rfl⟩
  rw [← hm] at hv hxl ⊢
  have hws := hb1.size
  obtain ⟨r, hr⟩ : ∃ r, r = Pm.clash xs := ⟨_, rfl⟩
  have Hhv := Lib.hid hv
  have Hhm := Lib.hid hm
  have Hhxs := Lib.hid hxs
  have HhS := Lib.hid hS
  have Hhb1 := Lib.hid hb1
  have Hhr := Lib.hid hr
  clear hv hm hxs hS hb1 hr
  clear Hh1
  obtain ⟨i0, hi0, hz0, hz1, hz2⟩ := info_parts info_str
  go_wp2_with fail
  go_loopw [5, 11] (fun v5 iv wr => ∃ i : Nat, i ≤ m ∧ iv = .int .i64 (i : Int) ∧ Hid (r = Pm.clash (xs.drop (i - 1))) ∧ Hid (Below w1.heap.size w1 wr) ∧ ((i = 0 ∧ v5 = .slice none 0 0) ∨ ∃ g cap z, 0 < i ∧ v5 = .slice (some ⟨g, 0, none⟩) 1 cap ∧ Hid (xs[i - 1]? = some z) ∧ Hid (wr.ownsRow w1.heap.size 9 1 (.slice (some ⟨g, 0, none⟩) 1 cap) 1 [.string ⟨z.toArray⟩]))) (fun _ iv _ => m - (intOf iv).toNat)
  case atStart => exact ⟨0, by omega, rfl, Hhr, Below.refl _ _, .inl ⟨rfl, rfl⟩⟩
  case round =>
    obtain ⟨i, hi, rfl, HR, HB, hst⟩ := hrel
    have hbi : (0 : Int) ≤ i := by omega
    by_cases hin : i < m
    · have hil : i < xs.length := by rw [← Hhm.out]; exact hin
      obtain ⟨b, off, hA, hcn, hbb, hcell⟩ := Hhv.out.at_ hin
      subst hA
      have hx0 := (HB.out.cell (p := ⟨b, off + i, none⟩) hbb).trans (hcell i _ (pv_get xs i hil))
      have hxl1 := Hhxs.out _ (List.getElem_mem hil)
      obtain ⟨y, hy⟩ : ∃ y, y = xs[i] := ⟨_, rfl⟩
      rw [← hy] at hx0 hxl1
      obtain ⟨x, hx⟩ : ∃ x : ByteArray, x = ⟨y.toArray⟩ := ⟨_, rfl⟩
      rw [← hx] at hx0
      have hxd : x.data.toList = y := by rw [hx]
      have hbn : (i : Int) < m := by omega
      clear hcell
      have Hhy := Lib.hid hy
      have Hhx := Lib.hid hx
      have Hhxd := Lib.hid hxd
      have Hhxl1 := Lib.hid hxl1
      clear hy hx hxd hxl1
      rcases hst with ⟨rfl, rfl⟩ | ⟨g, cap, z, hi0', rfl, HZ, HO⟩
      · -- none is held
        rw [Nat.add_zero] at hx0
        have hO : wr.ownsRow w1.heap.size 9 1 (.slice none 0 0) 0 [] := ⟨rfl, .inl ⟨rfl, rfl⟩⟩
        have hbs := HB.out.size
        go_wp2_with fail
        refine wp_loop_rounds 1 ?_
        rw [rounds_succ]
        go_wp2_with (at_builtin; refine kl_append1 rfl _ _ 56 rfl w1.heap.size 9 i0 (.string ⟨#[]⟩) 1 16 Tryd.underlying56 hi0 hz0 hz1 hz2 rfl (by decide) _ 0 _ rfl hO 1 #[.string x] rfl rfl (by simp [Value.oneCell']) (by omega) (by omega) hbs ?_; intro v' w' hown' hbel hsz' hne')
        obtain ⟨g2, c2, rfl, _, _, _, _⟩ := owns_some hown' hne'
        have HO2 := Lib.hid hown'
        have HB2 := Lib.hid (HB.out.trans hbel)
        clear hO hown'
        go_wp2_with fail
        go_roundw
        case rel => exact ⟨1, by omega, rfl, HR, HB2, .inr ⟨g2, c2, y, by omega, rfl, by show xs[0]? = _; rw [List.getElem?_eq_getElem hil, Hhy.out], by rw [← Hhx.out]; exact HO2.out⟩⟩
        case measure => simp [intOf]; omega
      · have hzl : z.length ≤ 100000 := Hhxs.out z (List.mem_of_getElem? HZ.out)
        obtain ⟨d, hd⟩ : ∃ d : ByteArray, d = ⟨z.toArray⟩ := ⟨_, rfl⟩
        have hds : d.size ≤ 1000000 := by rw [hd]; show z.toArray.size ≤ _; simp; omega
        rw [← hd] at HO
        have hc2 : wr.cell? ⟨g, 0, none⟩ = some (.string d) := by
          obtain ⟨b2, c2, e2, _, _, _, h2⟩ := owns_some HO.out (by intro h; injection h with h; cases h)
          injection e2 with e3
          injection e3 with e3
          injection e3 with e3
          subst e3
          exact h2 0 _ rfl
        have hw := pathWithin x d hds wr
        have hdd : d.data.toList = z := by rw [hd]
        rw [Hhxd.out, hdd] at hw
        obtain ⟨q, hq⟩ : ∃ q, q = Pm.within y z := ⟨_, rfl⟩
        rw [← hq] at hw
        have Hhw := Lib.hid hw
        have Hhq := Lib.hid hq
        have Hhd := Lib.hid hd
        have Hhdd := Lib.hid hdd
        clear hw hq hd hdd
        have hbs := HB.out.size
        have hil1 : i - 1 + 1 < xs.length := by omega
        have hzz : xs[i - 1]'(by omega) = z := by
          have h := HZ.out
          rw [List.getElem?_eq_getElem (by omega)] at h
          exact Option.some.inj h
        have hyy : xs[i - 1 + 1] = y := by
          rw [Hhy.out]
          congr 1
          omega
        have hstep := Pm.clash_next hil1
        rw [hzz, hyy, ← HR.out, ← Hhq.out, show i - 1 + 1 = i by omega] at hstep
        have Hhstep := Lib.hid hstep
        have Hhzz := Lib.hid hzz
        have Hhyy := Lib.hid hyy
        clear hstep hzz hyy
        go_wp2_with fail
        cases q with
        | true =>
          have hr1 : r = some (z, y) := by rw [Hhstep.out, if_pos rfl]
          have HR1 := Lib.hid hr1
          clear hr1
          refine wp_loop_rounds 1 ?_
          rw [rounds_succ]
          go_wp2_with fail
          refine Hhw.out.mono ?_
          rintro e w2 ⟨rfl, rfl⟩
          go_wp2_with fail
          refine bodyPost_ret (results_tmp3 rfl _ _ _) rfl ?_
          refine ⟨xs, ?_, HhS.out, Hhb1.out.trans (HB.out.mono hws)⟩
          rw [← Hhr.out, HR1.out, Hhd.out, Hhx.out]
          rfl
        | false =>
          have hO := own_cut HO.out (k := 0) (by omega)
          simp only [List.take_zero] at hO
          have HR1 : Hid (r = Pm.clash (xs.drop i)) := by show r = _; rw [Hhstep.out, if_neg (by simp)]
          refine wp_loop_rounds 2 ?_
          rw [rounds_succ]
          go_wp2_with fail
          refine Hhw.out.mono ?_
          rintro e w2 ⟨rfl, rfl⟩
          go_wp2_with fail
          rw [rounds_succ]
          go_wp2_with (at_builtin; refine kl_append1 rfl _ _ 56 rfl w1.heap.size 9 i0 (.string ⟨#[]⟩) 1 16 Tryd.underlying56 hi0 hz0 hz1 hz2 rfl (by decide) _ 0 _ rfl hO 1 #[.string x] rfl rfl (by simp [Value.oneCell']) (by omega) (by omega) hbs ?_; intro v' w' hown' hbel hsz' hne')
          obtain ⟨g2, c2, rfl, _, _, _, _⟩ := owns_some hown' hne'
          have HO2 := Lib.hid hown'
          have HB2 := Lib.hid (HB.out.trans hbel)
          clear hO hown'
          go_wp2_with fail
          go_roundw
          case rel => exact ⟨i + 1, by omega, by go_num, HR1, HB2, .inr ⟨g2, c2, y, by omega, rfl, by show xs[i + 1 - 1]? = _; rw [Nat.add_sub_cancel, List.getElem?_eq_getElem hil, Hhy.out], by rw [← Hhx.out]; exact HO2.out⟩⟩
          case measure => simp [intOf]; omega
    · obtain rfl : i = m := by omega
      have hbn : ¬ (i : Int) < i := by omega
      have hrn : r = none := by rw [HR.out]; exact Pm.clash_end (by rw [← Hhm.out]; omega)
      have HRN := Lib.hid hrn
      clear hrn
      go_wp2_with fail
      refine bodyPost_ret (results_tmp3 rfl _ _ _) rfl ?_
      refine ⟨xs, ?_, HhS.out, Hhb1.out.trans (HB.out.mono hws)⟩
      rw [← Hhr.out, HRN.out]
      rfl
end Go.Proofs.YtidmjepfpjfkoaaDoor

namespace Go.Proofs.YtidmjepfpjfkoaaDoor
open Go Go.RowKit
set_option maxHeartbeats 2000000
set_option maxRecDepth 20000
set_option linter.unusedVariables false
set_option linter.unusedSimpArgs false

/-- how the body of a round may be left: it goes on, or it returns -/
def leftBy (B : Nat) (I Ix : List (List UInt8) → World → Prop) (Kp : World → World → Prop) (xs : List (List UInt8)) (W : World) : Exit → Act → World → Prop
  | .normal, _, W' => KeepsFrom B W W' ∧ Kp W W' ∧ I xs W'
  | .ret, _, W' => KeepsFrom B W W' ∧ Ix xs W'
  | _, _, _ => False

theorem range_own {F : Fence} {n : Nat} {P : Program} {g : Operand} {p : Tmp} {assign body : Code} {Q : Exit → Act → World → Prop} {a : Act} {w : World}
    (hro : F.round = none) (h1 : 1 ≤ n) {gf : Nat} {lb : Array Value} (hg : a.eval g = .func (.func gf) #[] lb) (hFg : F.fn gf) (eg : ∀ args w, (callFunc gf args).run P w = .ok (.enter gf args) w)
    (parts : List (List UInt8)) (I Ix : List (List UInt8) → World → Prop) (Kp : World → World → Prop)
    (hKt : ∀ {A B C : World}, Kp A B → Kp B C → Kp A C) (hKb : ∀ (W : World) (l : Nat) (o o' : Obj), w.heap.size ≤ l → W.heap[l]? = some o → o.isCells = false → Kp W (W.putObj l o'))
    (hI : OwnFrom w.heap.size I) (hIx : OwnFrom w.heap.size Ix) (h0 : I [] w)
    (hseq : ∀ (l : Nat) (Bk Bx : World → Prop) (W : World), Below w.heap.size w W →
      (∀ X Y row, Bk X → X.grownBy Y row → (∀ r, row = some r → r < w.heap.size) → Bk Y) →
      (∀ pre x W1, I pre W1 → Bk W1 → (∃ r, pre ++ x :: r = parts) → YieldAt F (n - 1 - 1) P l #[.string ⟨x.toArray⟩] W1 fun e W' =>
        (e = .returned (.bool true) ∧ (I (pre ++ [x]) W' ∧ Bk W') ∧ Kp W1 W') ∨ (e = .returned (.bool false) ∧ Ix (pre ++ [x]) W' ∧ Bx W')) →
      I [] W → Bk W → CallsIn F (n - 1) P gf (#[.func (.yield l) #[] #[]] ++ lb) W fun e W' => (∃ v, e = .returned v) ∧ ((I parts W' ∧ Bk W') ∨ ∃ pre, Ix pre W' ∧ Bx W'))
    (a₁ : List UInt8 → Act)
    (hassign : ∀ (l : Nat) (x : List UInt8) (W : World) (K : Act → World → Prop), K (a₁ x) W →
      assign.wpIn (F.inRound l) (n - 1 - 1) P (Exit.then K (fun _ _ _ => False)) { tmps := a.tmps.setIfInBounds p (.string ⟨x.toArray⟩), defers := [] } W)
    (hbody : ∀ (l : Nat) (pre : List (List UInt8)) (x : List UInt8) (W : World), I pre W → (∃ r, pre ++ x :: r = parts) → body.wpIn (F.inRound l) (n - 1 - 1) P (leftBy w.heap.size I Ix Kp (pre ++ [x]) W) (a₁ x) W)
    (hdone : ∀ (D : Nat) (W : World), w.heap.size ≤ D → I parts W → W.heap[D]? = some (.deferred (some [])) → Q .normal { a with defers := { target := .collected D, args := #[] } :: a.defers } W)
    (hstop : ∀ (D : Nat) (pre : List (List UInt8)) (W : World), w.heap.size ≤ D → Ix pre W → W.heap[D]? = some (.deferred (some [])) → Code.ret.wpIn F n P Q { a with defers := { target := .collected D, args := #[] } :: a.defers } W) :
    (Code.rangeFunc g #[p] assign body).wpIn F n P Q a w := by
  refine wpIn_rangeFunc fun fn hfn => ?_
  rw [hro]
  -- the loop's record, at a state
  let R : LoopState → Option Code → Obj := fun st pe => .loop { state := st, pending := pe, fn := fn, tmps := a.tmps, params := #[p], assign := assign, body := body, defers := w.heap.size }
  let L := w.heap.size + 1
  let wD := w.alloc (.deferred (some []))
  let wL := wD.alloc (R .ready none)
  have sD : wD.heap.size = L := World.size_alloc _ _
  have sL : wL.heap.size = L + 1 := by show (wD.alloc _).heap.size = _; rw [World.size_alloc, sD]
  have hL : wL.heap[L]? = some (R .ready none) := by have := World.alloc_heap_new wD (R .ready none); rwa [sD] at this
  have hD : wL.heap[w.heap.size]? = some (.deferred (some [])) := (Below.heap_alloc wD _ _ (by rw [sD]; show _ < w.heap.size + 1; omega)).trans (World.alloc_heap_new w _)
  have hB : Below w.heap.size w wL := ((Below.refl _ w).alloc (Nat.le_refl _) _).alloc (by rw [sD]; show _ ≤ w.heap.size + 1; omega) _
  have hIL : I [] wL := hI.alloc _ (hI.alloc _ h0)
  refine ⟨L, _, wL, { target := .fn (.func gf) lb, args := #[.func (.yield L) #[] #[]] }, wL, gf, #[.func (.yield L) #[] #[]] ++ lb, wL, run_enterLoop_outer _ _ _ _ _, ?_, ?_, ?_, fun _ => h1, ?_⟩
  · simp only [resolve, hg]
    simp [go_sem]
  · intro f' hf'
    simp [Target.leads] at hf'
    subst hf'
    exact hFg
  · simp [invoke, go_sem, eg]
  -- what the two blocks of the loop's own hold
  have keep : ∀ (o o2 : Obj) (X Y : World) (row : Option Nat), (X.heap[L]? = some o ∧ X.heap[w.heap.size]? = some o2) → X.grownBy Y row → (∀ r, row = some r → r < w.heap.size) → (Y.heap[L]? = some o ∧ Y.heap[w.heap.size]? = some o2) := by
    rintro o o2 X Y row ⟨e1, e2⟩ hg2 hr
    refine ⟨(hg2.block L (Array.getElem?_eq_some_iff.1 e1).1 fun e => ?_).trans e1, (hg2.block _ (Array.getElem?_eq_some_iff.1 e2).1 fun e => ?_).trans e2⟩
    · have := hr _ e.symm; omega
    · have := hr _ e.symm; omega
  refine (hseq L (fun W => W.heap[L]? = some (R .ready none) ∧ W.heap[w.heap.size]? = some (.deferred (some []))) (fun W => W.heap[L]? = some (R .done (some .ret)) ∧ W.heap[w.heap.size]? = some (.deferred (some []))) wL hB (keep _ _) ?_ hIL ⟨hL, hD⟩).mono ?_
  · -- one round
    rintro pre x W1 hi ⟨e1, e2⟩ hlen
    have hlt : L < W1.heap.size := (Array.getElem?_eq_some_iff.1 e1).1
    have hy := run_yield (P := P) (args := #[.string ⟨x.toArray⟩]) e1 rfl
    have hz : (#[p].zip #[(Value.string ⟨x.toArray⟩)]).foldl (fun tmps (t, a) => tmps.setIfInBounds t a) a.tmps = a.tmps.setIfInBounds p (.string ⟨x.toArray⟩) := by simp
    dsimp only at hy
    rw [hz] at hy
    refine ⟨_, _, _, _, hy, roundIn_of_wpIn hfn ?_⟩
    refine hassign _ x W1 _ ?_
    refine ⟨_, run_beginRound e1 rfl, ?_⟩
    let W2 := W1.putObj L (R .busy none)
    have b1 : W2.heap[L]? = some (R .busy none) := World.putObj_heap_same hlt
    have b2 : W2.heap[w.heap.size]? = some (.deferred (some [])) := (World.putObj_heap_other (by omega)).trans e2
    have bk : Kp W1 W2 := hKb _ _ _ _ (by omega) e1 rfl
    refine wpIn_mono (hbody L pre x W2 (hI.putObj _ hi (by omega) e1 rfl) hlen) ?_
    -- the end of a round
    have fin : ∀ (jump : Option Code) (W3 : World), KeepsFrom w.heap.size W2 W3 →
        (Instr.endRound L jump).run P W3 = .ok (.bool jump.isNone) (W3.putObj L (R (if jump.isNone then .ready else .done) jump)) ∧ W3.heap[L]? = some (R .busy none) ∧
        (W3.putObj L (R (if jump.isNone then .ready else .done) jump)).heap[L]? = some (R (if jump.isNone then .ready else .done) jump) ∧
        (W3.putObj L (R (if jump.isNone then .ready else .done) jump)).heap[w.heap.size]? = some (.deferred (some [])) := fun jump W3 hk => by
      have c1 := hk.same _ _ (by omega) b1 rfl
      exact ⟨run_endRound jump c1, c1, World.putObj_heap_same (Array.getElem?_eq_some_iff.1 c1).1, (World.putObj_heap_other (by omega)).trans (hk.same _ _ (Nat.le_refl _) b2 rfl)⟩
    rintro e a3 W3 hp
    cases e with
    | normal =>
      obtain ⟨hk, hkp, hi3⟩ := hp
      obtain ⟨hr, c1, c2, c3⟩ := fin none W3 hk
      exact ⟨_, _, hr, .inl ⟨rfl, ⟨hI.putObj _ hi3 (by omega) c1 rfl, c2, c3⟩, hKt (hKt bk hkp) (hKb _ _ _ _ (by omega) c1 rfl)⟩⟩
    | ret =>
      obtain ⟨hk, hi3⟩ := hp
      obtain ⟨hr, c1, c2, c3⟩ := fin (some .ret) W3 hk
      exact ⟨_, _, hr, .inr ⟨rfl, hIx.putObj _ hi3 (by omega) c1 rfl, c2, c3⟩⟩
    | exit id => exact hp.elim
    | goto t => exact hp.elim
    | panic ch => exact hp.elim
    | outgrown => exact hp.elim
  · -- behind the iterator
    rintro e W2 ⟨⟨v, rfl⟩, ⟨hi, e1, e2⟩ | ⟨pre, hi, e1, e2⟩⟩
    · exact ⟨none, _, run_endLoop e1 (by simp), hdone _ _ (Nat.le_refl _) (hI.putObj _ hi (by omega) e1 rfl) ((World.putObj_heap_other (by omega)).trans e2)⟩
    · exact ⟨some .ret, _, run_endLoop e1 (by simp), hstop _ pre _ (Nat.le_refl _) (hIx.putObj _ hi (by omega) e1 rfl) ((World.putObj_heap_other (by omega)).trans e2)⟩
end Go.Proofs.YtidmjepfpjfkoaaDoor

namespace Go.Proofs.YtidmjepfpjfkoaaDoor
open Go Go.RowKit
set_option maxHeartbeats 2000000
set_option maxRecDepth 20000
set_option linter.unusedVariables false
set_option linter.unusedSimpArgs false
attribute [local go_sem] Oper.semAt_some

theorem idxB47 : ∀ l : List UInt8, (Lib.indexByte l 47 = -1 ∧ 47 ∉ l) ∨ ∃ a b, l = a ++ 47 :: b ∧ 47 ∉ a ∧ Lib.indexByte l 47 = (a.length : Int)
  | [] => .inl ⟨rfl, by simp⟩
  | c :: l => by
    by_cases hc : c = 47
    · subst hc
      exact .inr ⟨[], l, rfl, by simp, by rw [Lib.indexByte]; simp⟩
    · have hp : (c == 47) = false := by rw [beq_eq_false_iff_ne]; exact hc
      rcases idxB47 l with ⟨h1, h2⟩ | ⟨a, b, h1, h2, h3⟩
      · exact .inl ⟨by rw [Lib.indexByte, hp, h1]; rfl, by
          intro h
          rcases List.mem_cons.1 h with h | h
          · exact hc h.symm
          · exact h2 h⟩
      · refine .inr ⟨c :: a, b, by rw [h1]; rfl, ?_, ?_⟩
        · intro h
          rcases List.mem_cons.1 h with h | h
          · exact hc h.symm
          · exact h2 h
        · rw [Lib.indexByte, hp, h3]
          have : ((a.length : Int) == -1) = false := by rw [beq_eq_false_iff_ne]; omega
          rw [this]
          simp
theorem cut_part {a b : List UInt8} (h : 47 ∉ a) : Pm.cut (a ++ 47 :: b) = a :: Pm.cut b := by
  rw [Pm.cut_append, Pm.cut_plain a h]; rfl

/-- the iterator's three boxes are kept -/
def KpS (Bs Bp Bz : Nat) (A B : World) : Prop := (∀ v, Boxed A Bs 9 v → Boxed B Bs 9 v) ∧ (∀ v, Boxed A Bp 9 v → Boxed B Bp 9 v) ∧ (∀ v, Boxed A Bz 3 v → Boxed B Bz 3 v)
theorem KpS.trans {Bs Bp Bz : Nat} {A B C : World} (h : KpS Bs Bp Bz A B) (h' : KpS Bs Bp Bz B C) : KpS Bs Bp Bz A C := ⟨fun v x => h'.1 v (h.1 v x), fun v x => h'.2.1 v (h.2.1 v x), fun v x => h'.2.2 v (h.2.2 v x)⟩

def restSize (B : Nat) (W : World) : Nat := match W.cell? ⟨B, 0, none⟩ with
  | some (.string t) => t.size
  | _ => 0

theorem splitIter (m : Nat) (hm : 1 ≤ m) (l Bs Bp Bz : Nat) (hne : Bs ≠ Bp ∧ Bs ≠ Bz) (s : ByteArray) (hs : s.size ≤ 1000000) (I Ix : List (List UInt8) → World → Prop) (Bk Bx : World → Prop)
    (hst : ∀ pre X Y row, I pre X → X.grownBy Y row → (∀ r, row = some r → r = Bs) → I pre Y) (hBk : ∀ X Y row, Bk X → X.grownBy Y row → (∀ r, row = some r → r = Bs) → Bk Y)
    (hY : ∀ pre x W1, I pre W1 → Bk W1 → (∃ r, pre ++ x :: r = Pm.cut s.data.toList) → YieldAt Fence.wide (m - 1) Tryd.prog l #[.string ⟨x.toArray⟩] W1 fun e W' =>
        (e = .returned (.bool true) ∧ (I (pre ++ [x]) W' ∧ Bk W') ∧ KpS Bs Bp Bz W1 W') ∨ (e = .returned (.bool false) ∧ Ix (pre ++ [x]) W' ∧ Bx W'))
    (W : World) (h0 : I [] W) (hk0 : Bk W) (hb1 : Boxed W Bs 9 (.string s)) (hb2 : Boxed W Bp 9 (.string slashB)) (hb3 : Boxed W Bz 3 (.int .i64 0)) :
    CallsIn Fence.wide m Tryd.prog 139 #[.func (.yield l) #[] #[], .pointer (some ⟨Bp, 0, none⟩), .pointer (some ⟨Bs, 0, none⟩), .pointer (some ⟨Bz, 0, none⟩)] W fun e W' => (∃ v, e = .returned v) ∧
      ((I (Pm.cut s.data.toList) W' ∧ Bk W') ∨ ∃ pre, Ix pre W' ∧ Bx W') := by
  refine callsIn_of_wp Tryd.func139 rfl trivial ?_ rfl
  simp only [Tryd.ntmps139, List.size_toArray, List.length_cons, List.length_nil, Nat.reduceAdd, Nat.reduceSub, Array.replicate_succ, Array.replicate_zero, List.push_toArray, List.append_toArray, List.nil_append, List.cons_append]
  have hc1 := hb1.cell
  have hc2 := hb2.cell
  have hc3 := hb3.cell
  obtain ⟨P, hP⟩ : ∃ P, P = Pm.cut s.data.toList := ⟨_, rfl⟩
  rw [← hP] at hY ⊢
  have hsl : slashB.size = 1 := rfl
  have HhY := Lib.hid hY
  have Hhst := Lib.hid hst
  have HhBk := Lib.hid hBk
  clear hY hst hBk
  gi_wp2
  gi_loopw [7] (fun _ wr => ∃ (pre : List (List UInt8)) (x : ByteArray), Hid (pre ++ Pm.cut x.data.toList = P) ∧ x.size ≤ s.size ∧ Boxed wr Bs 9 (.string x) ∧ Boxed wr Bp 9 (.string slashB) ∧ Boxed wr Bz 3 (.int .i64 0) ∧ Hid (I pre wr) ∧ Hid (Bk wr)) (fun _ wr => restSize Bs wr)
  case atStart => exact ⟨[], s, by show [] ++ _ = _; rw [hP]; rfl, Nat.le_refl _, hb1, hb2, hb3, h0, hk0⟩
  case round =>
    obtain ⟨pre, x, HP, hx, hd1, hd2, hd3, HI, HK⟩ := hrel
    have hc1 := hd1.cell
    have hc2 := hd2.cell
    have hc3 := hd3.cell
    have hidx : Calls Tryd.prog 107 #[.string x, .string slashB] wr fun e w' => e = .returned (.int .i64 (Lib.indexByte x.data.toList 47)) ∧ w' = wr := Tryd.strings_Index_one x 47 wr
    rcases idxB47 x.data.toList with ⟨h1, h2⟩ | ⟨a, b, h1, h2, h3⟩
    · rw [h1] at hidx
      have hcut : pre ++ [x.data.toList] = P := by rw [← HP.out, Pm.cut_plain _ h2]
      obtain ⟨fn, tmps, assign, body, hy, hR⟩ := HhY.out pre x.data.toList wr HI.out HK.out ⟨[], hcut⟩
      rw [show (⟨x.data.toList.toArray⟩ : ByteArray) = x by simp] at hy
      have Hhidx := Lib.hid hidx
      have Hhcut := Lib.hid hcut
      clear hidx hcut
      clear h1 h2
      gi_wp2_with (refine ⟨trivial, ?_⟩; gi_at_call 107; refine (callsIn_wide.2 Hhidx.out).mono ?_; rintro e w2 ⟨rfl, rfl⟩)
      refine hR.mono ?_
      rintro e W3 (⟨rfl, ⟨hI3, hK3⟩, _⟩ | ⟨rfl, hX, hBx⟩)
      · rw [Hhcut.out] at hI3
        gi_wp2
        go_end0
        exact ⟨⟨_, rfl⟩, .inl ⟨hI3, hK3⟩⟩
      · gi_wp2
        go_end0
        exact ⟨⟨_, rfl⟩, .inr ⟨_, hX, hBx⟩⟩
    · rw [h3] at hidx
      have hal : a.length + 1 + b.length = x.size := by
        have h : x.data.toList.length = x.size := rfl
        rw [h1] at h; simp at h; omega
      clear h3
      have hx1 : x.extract 0 a.length = ⟨a.toArray⟩ := by
        have this : (x.extract 0 a.length).data.toList = a := by rw [Lib.extract_data, h1]; simp
        exact congrArg (fun l => (⟨List.toArray l⟩ : ByteArray)) this
      have hx2 : (x.extract (a.length + 1) x.size).data.toList = b := by
        rw [Lib.extract_data, h1, ← hal]
        rw [show a ++ 47 :: b = (a ++ [47]) ++ b by simp, List.take_of_length_le (by simp), List.drop_left' (by simp)]
      have hcut : pre ++ [a] ++ Pm.cut b = P := by rw [← HP.out, h1, cut_part h2, List.append_assoc]; rfl
      obtain ⟨fn, tmps, assign, body, hy, hR⟩ := HhY.out pre a wr HI.out HK.out ⟨Pm.cut b, by rw [← hcut]; simp⟩
      rw [← hx1] at hy
      have Hhidx := Lib.hid hidx
      have Hhcut := Lib.hid hcut
      have Hhx2 := Lib.hid hx2
      clear hidx hcut hx2
      clear h1 h2 hx1
      gi_wp2_with (refine ⟨trivial, ?_⟩; gi_at_call 107; refine (callsIn_wide.2 Hhidx.out).mono ?_; rintro e w2 ⟨rfl, rfl⟩)
      refine hR.mono ?_
      rintro e W3 (⟨rfl, ⟨hI3, hK3⟩, hkp⟩ | ⟨rfl, hX, hBx⟩)
      · have e1 := hkp.1 _ hd1
        have e2 := hkp.2.1 _ hd2
        have e3 := hkp.2.2 _ hd3
        have f1 := e1.cell
        have f2 := e2.cell
        have f4 := e1.frozen
        have g1 := grownBy_setCell' W3 Bs (.string (x.extract (a.length + 1) x.size))
        have e5 := e2.kept g1 (fun e => hne.1 (Option.some.inj e).symm)
        have e6 := e3.kept g1 (fun e => hne.2 (Option.some.inj e).symm)
        have e7 := e1.set (.string (x.extract (a.length + 1) x.size))
        have hI4 := Lib.hid (Hhst.out _ _ _ _ hI3 g1 (fun r e => (Option.some.inj e).symm))
        have hK4 := Lib.hid (HhBk.out _ _ _ hK3 g1 (fun r e => (Option.some.inj e).symm))
        have hsz : (x.extract (a.length + 1) x.size).size = b.length := by rw [← Hhx2.out]; rfl
        have hm1 : restSize Bs (W3.setCell ⟨Bs, 0, none⟩ (.string (x.extract (a.length + 1) x.size))) = b.length := by
          unfold restSize; rw [e7.cell]; exact hsz
        have hm2 : restSize Bs w2 = x.size := by unfold restSize; rw [hc1]
        clear hI3 hK3 g1
        gi_wp2
        go_roundw
        case rel => exact ⟨pre ++ [a], _, by rw [Hhx2.out]; exact Hhcut.out, by omega, e7, e5, e6, hI4, hK4⟩
        case measure => rw [hm1, hm2]; omega
      · gi_wp2
        refine bodyPost_ret (results_none rfl _ _ _) rfl ?_
        exact ⟨⟨_, rfl⟩, .inr ⟨_, hX, hBx⟩⟩

theorem splitSeq (s : ByteArray) (w : World) :
    Calls Tryd.prog 84 #[.string s, .string slashB] w fun e w' =>
      e = .returned (.func (.func 139) #[] #[.pointer (some ⟨w.heap.size + 1, 0, none⟩), .pointer (some ⟨w.heap.size, 0, none⟩), .pointer (some ⟨w.heap.size + 2, 0, none⟩)]) ∧
        w' = ((w.alloc (.cells #[.string s] 9)).alloc (.cells #[.string slashB] 9)).alloc (.cells #[.int .i64 0] 3) := by
  have h1 : Calls Tryd.prog 110 #[.string s, .string slashB, .int .i64 0] w fun e w' =>
      e = .returned (.func (.func 139) #[] #[.pointer (some ⟨w.heap.size + 1, 0, none⟩), .pointer (some ⟨w.heap.size, 0, none⟩), .pointer (some ⟨w.heap.size + 2, 0, none⟩)]) ∧
        w' = ((w.alloc (.cells #[.string s] 9)).alloc (.cells #[.string slashB] 9)).alloc (.cells #[.int .i64 0] 3) := by
    go_enter Tryd.func110, Tryd.ntmps110
    go_wp2_with fail
    go_ret
    exact ⟨rfl, rfl⟩
  have Hh1 := Lib.hid h1
  clear h1
  go_enter Tryd.func84, Tryd.ntmps84
  go_wp2_with fail
  refine Hh1.out.mono ?_
  rintro e w2 ⟨rfl, rfl⟩
  go_wp2_with fail
  go_ret
  exact ⟨rfl, rfl⟩
end Go.Proofs.YtidmjepfpjfkoaaDoor

namespace Go.Proofs.YtidmjepfpjfkoaaDoor
open Go Go.RowKit
set_option maxHeartbeats 4000000
set_option maxRecDepth 20000
set_option linter.unusedVariables false
set_option linter.unusedSimpArgs false
attribute [local go_sem] Oper.semAt_some

namespace Pm
theorem norm_app : ∀ (l r acc : List By), norm (l ++ r) acc = match norm l acc with
    | none => none
    | some m => norm r m
  | [], r, acc => rfl
  | x :: l, r, acc => by
    rw [List.cons_append, norm, norm]
    split
    · exact norm_app l r acc
    · split
      · split
        · rfl
        · exact norm_app l r _
      · exact norm_app l r _
/-- how much room parts take -/
def weigh : List By → Nat
  | [] => 0
  | x :: r => x.length + 1 + weigh r
theorem weigh_app : ∀ a b, weigh (a ++ b) = weigh a + weigh b
  | [], b => by simp [weigh]
  | x :: a, b => by rw [List.cons_append, weigh, weigh, weigh_app a b]; omega
theorem weigh_drop (a : List By) : weigh a.dropLast ≤ weigh a := by
  by_cases h : a = []
  · subst h; exact Nat.le_refl _
  · have h3 := congrArg weigh (List.dropLast_concat_getLast h)
    rw [weigh_app] at h3
    omega
theorem weigh_norm : ∀ (l acc m : List By), norm l acc = some m → weigh m ≤ weigh acc + weigh l
  | [], acc, m, h => by
    rw [norm] at h
    obtain rfl := Option.some.inj h
    simp [weigh]
  | x :: l, acc, m, h => by
    rw [norm] at h
    rw [weigh]
    split at h
    · have := weigh_norm l acc m h; omega
    · split at h
      · split at h
        · cases h
        · have := weigh_norm l _ m h
          have := weigh_drop acc
          omega
      · have := weigh_norm l _ m h
        rw [weigh_app] at this
        simp only [weigh] at this
        omega
theorem weigh_join : ∀ l, (joinS l).length ≤ weigh l
  | [] => by simp [joinS]
  | [x] => by simp [joinS, weigh]
  | x :: y :: r => by
    have := weigh_join (y :: r)
    rw [joinS, weigh]
    simp
    omega
theorem weigh_cut : ∀ s : By, weigh (cut s) = s.length + 1
  | [] => rfl
  | c :: l => by
    by_cases hc : c = 47
    · subst hc
      rw [cut_slash, weigh, weigh_cut l]; simp; omega
    · obtain ⟨y, r, hy⟩ : ∃ y r, cut l = y :: r := by
        cases h' : cut l with
        | nil => exact absurd h' (cut_ne l)
        | cons x r => exact ⟨x, r, rfl⟩
      have h := weigh_cut l
      rw [cut_other hc l hy, weigh]
      rw [hy, weigh] at h
      simp; omega
theorem length_weigh : ∀ l : List By, l.length ≤ weigh l
  | [] => Nat.le_refl _
  | x :: l => by have := length_weigh l; rw [weigh]; simp; omega
end Pm

theorem own_keeps {W W' : World} {row : Option Nat} {n₀ : Nat} {e : TypeId} {v : Value} {k : Nat} {xs : List Value} (h : W.ownsRow n₀ e 1 v k xs) (hg : W.grownBy W' row) (hr : ∀ g, n₀ ≤ g → (∃ cur, W.heap[g]? = some (.cells cur e (0, 0))) → row ≠ some g) : W'.ownsRow n₀ e 1 v k xs :=
  ⟨h.1, h.2.imp id fun ⟨g, cap, cur, e1, e2, e3, r⟩ => ⟨g, cap, cur, e1, e2, (hg.block g (lt_of_block e3) fun e' => hr g e2 ⟨cur, e3⟩ e'.symm).trans e3, r⟩⟩

/-- what the loop of Normal holds to -/
def NI (w : World) (pre : List (List UInt8)) (W : World) : Prop :=
  ∃ (ls : List (List UInt8)) (v : Value), Pm.norm pre [] = some ls ∧ Boxed W (w.heap.size + 2) 56 v ∧ W.ownsRow (w.heap.size + 6) 9 1 v ls.length (pv ls) ∧
    Boxed W w.heap.size 9 (.string ⟨#[]⟩) ∧ Boxed W (w.heap.size + 1) 37 (.int .i64 0) ∧ Below w.heap.size w W ∧ w.heap.size + 6 ≤ W.heap.size
def NX (P : List (List UInt8)) (w : World) (pre : List (List UInt8)) (W : World) : Prop :=
  (∃ r, pre ++ r = P) ∧ Pm.norm pre [] = none ∧ Boxed W w.heap.size 9 (.string ⟨#[]⟩) ∧ Boxed W (w.heap.size + 1) 37 (.int .i64 1) ∧ Below w.heap.size w W ∧ w.heap.size + 6 ≤ W.heap.size
theorem below_by {B : Nat} {w W W' : World} {row : Option Nat} (h : Below B w W) (hg : W.grownBy W' row) (hB : B ≤ W.heap.size) (hr : ∀ k, row = some k → B ≤ k) : Below B w W' := h.grown hg hB hr
theorem NI.by {w W W' : World} {row : Option Nat} {pre : List (List UInt8)} (h : NI w pre W) (hg : W.grownBy W' row)
    (hr : ∀ r, row = some r → w.heap.size + 3 ≤ r ∧ (r < w.heap.size + 6 ∨ ∃ o : Obj, W.heap[r]? = some o ∧ o.isCells = false)) : NI w pre W' := by
  obtain ⟨ls, v, h1, h2, h3, h4, h5, h6, h7⟩ := h
  refine ⟨ls, v, h1, h2.kept hg fun e => ?_, own_keeps h3 hg fun g hg2 ⟨cur, hc⟩ e => ?_, h4.kept hg fun e => ?_, h5.kept hg fun e => ?_, h6.grown hg (by omega) fun k e => ?_, Nat.le_trans h7 hg.size⟩
  · have := (hr _ e.symm).1; omega
  · rcases (hr _ e).2 with h | ⟨o, ho, hn⟩
    · omega
    · rw [hc] at ho; cases ho; cases hn
  · have := (hr _ e.symm).1; omega
  · have := (hr _ e.symm).1; omega
  · have := (hr _ e).1; omega
theorem NX.by {P : List (List UInt8)} {w W W' : World} {row : Option Nat} {pre : List (List UInt8)} (h : NX P w pre W) (hg : W.grownBy W' row)
    (hr : ∀ r, row = some r → w.heap.size + 3 ≤ r) : NX P w pre W' := by
  obtain ⟨h1, h2, h4, h5, h6, h7⟩ := h
  refine ⟨h1, h2, h4.kept hg fun e => ?_, h5.kept hg fun e => ?_, h6.grown hg (by omega) fun k e => ?_, Nat.le_trans h7 hg.size⟩
  · have := hr _ e.symm; omega
  · have := hr _ e.symm; omega
  · have := hr _ e; omega

theorem results_cells2 {P : Program} {fn : Func} {p q : Tmp} {ty ty2 : TypeId} (h : fn.results = #[.cell p ty, .cell q ty2]) (tmps : Array Value) (w : World) (g g2 : Nat) (v v2 : Value)
    (hp : tmps.getD p undef = .pointer (some ⟨g, 0, none⟩)) (hq : tmps.getD q undef = .pointer (some ⟨g2, 0, none⟩))
    (l1 : (loadVar ty ⟨g, 0, none⟩).run P w = .ok v w) (l2 : (loadVar ty2 ⟨g2, 0, none⟩).run P w = .ok v2 w) :
    (results fn tmps).run P w = .ok (.tuple #[v, v2]) w := by
  have hp' : tmps[p]?.getD undef = .pointer (some ⟨g, 0, none⟩) := by simpa using hp
  have hq' : tmps[q]?.getD undef = .pointer (some ⟨g2, 0, none⟩) := by simpa using hq
  simp [results, h, hp', hq', asAddr, l1, l2, Sem.run_bind, Result.andThen]

/-- behind an append to the row: the boxes that lie ahead of it are kept; the new row is put into its box -/
theorem box_app {W w1 : World} {n₀ B : Nat} {t e : TypeId} {v v' : Value} {k m : Nat} {xs ys : List Value} {tmp : Obj} (hv : Boxed W B t v) (hrow : W.ownsRow n₀ e 1 v k xs) (hn₀ : n₀ ≤ W.heap.size) (hown' : w1.ownsRow n₀ e 1 v' m ys)
    (hgrow : (W.alloc tmp).grownBy w1 v.ownBlock) (hB : B < n₀) :
    Boxed w1 B t v ∧ (Boxed (w1.setCell ⟨B, 0, none⟩ v') B t v' ∧ (w1.setCell ⟨B, 0, none⟩ v').ownsRow n₀ e 1 v' m ys ∧ (∀ B2 t2 u, B2 < n₀ → B2 ≠ B → Boxed W B2 t2 u → Boxed (w1.setCell ⟨B, 0, none⟩ v') B2 t2 u) ∧
      KeepsFrom n₀ W (w1.setCell ⟨B, 0, none⟩ v') ∧ Below B W (w1.setCell ⟨B, 0, none⟩ v')) := by
  have hob : ∀ b, some b = v.ownBlock → n₀ ≤ b ∧ ∃ cur, W.heap[b]? = some (.cells cur e (0, 0)) := by
    intro b hb
    rcases hrow.2 with ⟨rfl, _⟩ | ⟨g, cap, cur, rfl, h1, h2, _⟩
    · simp [Value.ownBlock] at hb
    · simp [Value.ownBlock] at hb
      subst hb
      exact ⟨h1, cur, h2⟩
  have keep : ∀ B2 t2 u, B2 < n₀ → Boxed W B2 t2 u → Boxed w1 B2 t2 u := fun B2 t2 u h2 h => (h.alloc tmp).kept hgrow fun e' => by have := (hob _ e').1; omega
  have hsA : (W.alloc tmp).heap.size = W.heap.size + 1 := World.size_alloc _ _
  have hg := grownBy_setCell' w1 B v'
  have hv1 := keep B t v hB hv
  refine ⟨hv1, hv1.set _, own_keeps hown' hg (fun g h _ e' => by have := Option.some.inj e'; omega), fun B2 t2 u h2 hne h => (keep B2 t2 u h2 h).kept hg (fun e' => hne (Option.some.inj e')), ?_, ?_⟩
  · refine KeepsFrom.trans (Y := w1) ⟨by have := hgrow.size; omega, fun q o hq hk ho => ?_⟩ (KeepsFrom.of_grownBy hg fun j e' => by have := Option.some.inj e'; omega)
    have h1 : (W.alloc tmp).heap[q]? = some o := (Below.heap_alloc W tmp q (lt_of_block hk)).trans hk
    refine (hgrow.block q (lt_of_block h1) fun e' => ?_).trans h1
    obtain ⟨_, cur, h2⟩ := hob _ e'
    rw [hk] at h2; cases h2; cases ho
  · exact ((((Below.refl _ W).alloc (by omega) tmp).grown hgrow (by omega) fun k e' => by have := (hob _ e'.symm).1; omega)).grown hg (by have := hgrow.size; omega) fun k e' => by have := Option.some.inj e'; omega
theorem load_box {P : Program} {W : World} {B : Nat} {t : TypeId} {v : Value} (ty : TypeId) (h : Boxed W B t v) (ha : ∀ w, (isAgg ty).run P w = .ok false w) : (loadVar ty ⟨B, 0, none⟩).run P W = .ok v W := by
  unfold loadVar
  have hc := h.cell
  simp [Sem.run_bind, ha, Result.andThen]
  simp [load, go_sem, hc]
theorem normal_end {w W : World} {D : Nat} {jp : ByteArray} {je : Nat} (b1 : Boxed W w.heap.size 9 (.string jp)) (b2 : Boxed W (w.heap.size + 1) 37 (.int .i64 (je : Int))) (hK : W.heap[D]? = some (.deferred (some [])))
    (hD : w.heap.size + 6 ≤ D) (hB : Below w.heap.size w W) (tmps : Array Value) (h2 : tmps.getD 2 undef = .pointer (some ⟨w.heap.size, 0, none⟩)) (h3 : tmps.getD 3 undef = .pointer (some ⟨w.heap.size + 1, 0, none⟩)) (p : List UInt8) (e : Nat) (hp : jp = ⟨p.toArray⟩) (he : e = je) :
    bodyPostM Fence.wide 3 Tryd.prog Tryd.f46 (fun e1 w' => e1 = .returned (.tuple #[.string ⟨p.toArray⟩, .int .i64 (e : Int)]) ∧ Below w.heap.size w w') .ret { tmps := tmps, defers := [{ target := .collected D, args := #[] }] } W := by
  subst hp he
  have hg := grownBy_putObj' W D (.deferred none)
  have c1 := b1.kept hg fun e => by have := Option.some.inj e; omega
  have c2 := b2.kept hg fun e => by have := Option.some.inj e; omega
  refine ⟨by simp, .inl ⟨_, _, rfl, run_takeDeferred hK, ?_⟩⟩
  exact ⟨_, results_cells2 rfl tmps _ _ _ _ _ h2 h3 (load_box _ c1 Tryd.isAgg9) (load_box _ c2 Tryd.isAgg37), rfl, hB.grown hg (by have := lt_of_block hK; omega) fun k e => by have := Option.some.inj e; omega⟩
theorem pathNormal (s : ByteArray) (hs : s.size ≤ 90000) (w : World) (hG : Gl w) :
    Calls Tryd.prog 46 #[.string s] w fun e w' =>
      e = .returned (.tuple #[.string ⟨(Pm.normP s.data.toList).toArray⟩, .int .i64 (Pm.normE s.data.toList : Nat)]) ∧ Below w.heap.size w w' := by
  obtain ⟨i0, hi0, hz0, hz1, hz2⟩ := info_parts info_str
  have hgl := hG.lt
  refine (callsIn_wide (n := 3)).1 ?_
  refine callsIn_of_wp_marks Tryd.func46 rfl trivial ?_ rfl
  simp only [Tryd.ntmps46, List.size_toArray, List.length_cons, List.length_nil, Nat.reduceAdd, Nat.reduceSub, Array.replicate_succ, Array.replicate_zero, List.push_toArray, List.append_toArray, List.nil_append, List.cons_append]
  have hsq : ∀ W, Calls Tryd.prog 84 #[.string s, .string ⟨#[47]⟩] W fun e w' =>
      e = .returned (.func (.func 139) #[] #[.pointer (some ⟨W.heap.size + 1, 0, none⟩), .pointer (some ⟨W.heap.size, 0, none⟩), .pointer (some ⟨W.heap.size + 2, 0, none⟩)]) ∧
        w' = ((W.alloc (.cells #[.string s] 9)).alloc (.cells #[.string slashB] 9)).alloc (.cells #[.int .i64 0] 3) := fun W => splitSeq s W
  have Hhsq := Lib.hid hsq
  clear hsq
  gi_wp2_with (refine ⟨trivial, ?_⟩; gi_at_call 84; refine (callsIn_wide.2 (Hhsq.out _)).mono ?_; rintro e w2 ⟨rfl, rfl⟩)
  obtain ⟨b, hb⟩ : ∃ b, b = w.heap.size := ⟨_, rfl⟩
  have hsA : (w.alloc (.cells #[.string ⟨#[]⟩] 9)).heap.size = b + 1 := by rw [World.size_alloc, hb]
  have bA := Boxed.new w 9 (.string ⟨#[]⟩)
  have hBA : Below w.heap.size w (w.alloc (.cells #[.string ⟨#[]⟩] 9)) := (Below.refl _ w).alloc (Nat.le_refl _) _
  generalize hwA : w.alloc (.cells #[.string ⟨#[]⟩] 9) = wA at *
  have hsB : (wA.alloc (.cells #[.int .i64 0] 37)).heap.size = b + 2 := by rw [World.size_alloc, hsA]
  have bB := Boxed.new wA 37 (.int .i64 0)
  have bA := bA.alloc (.cells #[.int .i64 0] 37)
  have hBA := hBA.alloc (by omega) (.cells #[.int .i64 0] 37)
  rw [hsA] at bB
  generalize hwB : wA.alloc (.cells #[.int .i64 0] 37) = wB at *
  have hsC : (wB.alloc (.cells #[.slice none 0 0] 56)).heap.size = b + 3 := by rw [World.size_alloc, hsB]
  have bC := Boxed.new wB 56 (.slice none 0 0)
  have bA := bA.alloc (.cells #[.slice none 0 0] 56)
  have bB := bB.alloc (.cells #[.slice none 0 0] 56)
  have hBA := hBA.alloc (by omega) (.cells #[.slice none 0 0] 56)
  rw [hsB] at bC
  generalize hwC : wB.alloc (.cells #[.slice none 0 0] 56) = wC at *
  have hsD : (wC.alloc (.cells #[.string s] 9)).heap.size = b + 4 := by rw [World.size_alloc, hsC]
  have bD := Boxed.new wC 9 (.string s)
  have bA := bA.alloc (.cells #[.string s] 9)
  have bB := bB.alloc (.cells #[.string s] 9)
  have bC := bC.alloc (.cells #[.string s] 9)
  have hBA := hBA.alloc (by omega) (.cells #[.string s] 9)
  rw [hsC] at bD
  generalize hwD : wC.alloc (.cells #[.string s] 9) = wD at *
  have hsE : (wD.alloc (.cells #[.string slashB] 9)).heap.size = b + 5 := by rw [World.size_alloc, hsD]
  have bE := Boxed.new wD 9 (.string slashB)
  have bA := bA.alloc (.cells #[.string slashB] 9)
  have bB := bB.alloc (.cells #[.string slashB] 9)
  have bC := bC.alloc (.cells #[.string slashB] 9)
  have bD := bD.alloc (.cells #[.string slashB] 9)
  have hBA := hBA.alloc (by omega) (.cells #[.string slashB] 9)
  rw [hsD] at bE
  generalize hwE : wD.alloc (.cells #[.string slashB] 9) = wE at *
  have hsF : (wE.alloc (.cells #[.int .i64 0] 3)).heap.size = b + 6 := by rw [World.size_alloc, hsE]
  have bF := Boxed.new wE 3 (.int .i64 0)
  have bA := bA.alloc (.cells #[.int .i64 0] 3)
  have bB := bB.alloc (.cells #[.int .i64 0] 3)
  have bC := bC.alloc (.cells #[.int .i64 0] 3)
  have bD := bD.alloc (.cells #[.int .i64 0] 3)
  have bE := bE.alloc (.cells #[.int .i64 0] 3)
  have hBA := hBA.alloc (by omega) (.cells #[.int .i64 0] 3)
  rw [hsE] at bF
  generalize hwF : wE.alloc (.cells #[.int .i64 0] 3) = wF at *
  clear hwA hwB hwC hwD hwE hwF hsA hsB hsC hsD hsE
  subst hb
  simp only [Nat.add_assoc, Nat.reduceAdd]
  obtain ⟨P, hP⟩ : ∃ P, P = Pm.cut s.data.toList := ⟨_, rfl⟩
  have hw8 : Pm.weigh P ≤ 90001 := by rw [hP, Pm.weigh_cut]; show s.size + 1 ≤ _; omega
  have HhP := Lib.hid hP
  have Hhw8 := Lib.hid hw8
  clear hP hw8
  refine range_own rfl (by decide) (gf := 139) (lb := #[.pointer (some ⟨w.heap.size + 4, 0, none⟩), .pointer (some ⟨w.heap.size + 3, 0, none⟩), .pointer (some ⟨w.heap.size + 5, 0, none⟩)]) rfl trivial (enters_of Tryd.func139 (by kernel_rfl) rfl)
    P (NI w) (NX P w) (KpS (w.heap.size + 3) (w.heap.size + 4) (w.heap.size + 5)) KpS.trans ?hKb ?hI ?hIx ?h0 ?hseq
    (fun x => { tmps := #[.string s, undef, .pointer (some ⟨w.heap.size, 0, none⟩), .pointer (some ⟨w.heap.size + 1, 0, none⟩), .pointer (some ⟨w.heap.size + 2, 0, none⟩), .string ⟨x.toArray⟩, .string s,
      .func (.func 139) #[] #[.pointer (some ⟨w.heap.size + 4, 0, none⟩), .pointer (some ⟨w.heap.size + 3, 0, none⟩), .pointer (some ⟨w.heap.size + 5, 0, none⟩)], .string ⟨x.toArray⟩,
      undef, undef, undef, undef, undef, undef, undef, undef, undef, undef, undef, undef, undef, undef, undef, undef, undef, undef, undef, undef, undef, undef], defers := [] }) ?assign ?body ?done ?stop
  case hKb =>
    intro W l o o' hl ho hc
    have hg := grownBy_putObj' W l o'
    exact ⟨fun v h => h.kept hg fun e => by have := Option.some.inj e; omega, fun v h => h.kept hg fun e => by have := Option.some.inj e; omega, fun v h => h.kept hg fun e => by have := Option.some.inj e; omega⟩
  case hI =>
    intro pre X Y row h hg hr
    exact h.by hg fun r e => ⟨by have := (hr r e).1; omega, .inr (hr r e).2⟩
  case hIx =>
    intro pre X Y row h hg hr
    exact h.by hg fun r e => by have := (hr r e).1; omega
  case h0 => exact ⟨[], _, rfl, bC, World.ownsRow_nil _ _ _ _, bA, bB, hBA, by omega⟩
  case hseq =>
    intro l Bk Bx W hW hBk hY hI0 hk0
    rw [HhP.out] at hY ⊢
    have hbb := fun (B : Nat) (h : B < wF.heap.size) => hW.block B h
    exact splitIter (3 - 1) (by decide) l (w.heap.size + 3) (w.heap.size + 4) (w.heap.size + 5) ⟨by omega, by omega⟩ s (by omega) (NI w) (NX _ w) Bk Bx
      (fun pre X Y row h hg hr => h.by hg fun r e => by have := hr r e; exact ⟨by omega, .inl (by omega)⟩)
      (fun X Y row h hg hr => hBk X Y row h hg fun r e => by have := hr r e; omega)
      hY W hI0 hk0 ((hbb _ bD.lt).trans bD) ((hbb _ bE.lt).trans bE) ((hbb _ bF.lt).trans bF)
  case assign =>
    intro l x W K hK
    gi_wp2
    exact hK
  case body =>
    rintro l pre x W ⟨ls, v, hn, hv, hrow, hpa, hpe, hB, hsz⟩ ⟨r, hr⟩
    obtain ⟨A, c, rfl⟩ := (owns_rdS hrow).slice
    have hN : ∀ m, Pm.norm [x] ls = m → Pm.norm (pre ++ [x]) [] = m := fun m h => by rw [Pm.norm_app, hn]; exact h
    have hll : ls.length ≤ 90001 := by
      have h1 := Pm.length_weigh ls
      have h2 := Pm.weigh_norm pre [] ls hn
      have h3 := Hhw8.out
      rw [← hr, Pm.weigh_app] at h3
      have h0 : Pm.weigh [] = 0 := rfl
      omega
    obtain ⟨xb, hxb⟩ : ∃ xb : ByteArray, xb = ⟨x.toArray⟩ := ⟨_, rfl⟩
    have hxd : xb.data.toList = x := by rw [hxb]
    rw [← hxb]
    have e1 : xb.toList.isEmpty = (x == []) := by rw [ByteArray.toList_eq, hxd]; cases x <;> rfl
    have e2 := beq_lit xb [46]
    have e3 := beq_lit xb [46, 46]
    rw [hxd] at e2 e3
    have hcell := hv.cell
    have hfr := hv.frozen
    have Hhn := Lib.hid hn
    have Hhxb := Lib.hid hxb
    have Hhxd := Lib.hid hxd
    have Hhr := Lib.hid hr
    have HhN := Lib.hid hN
    clear hn hxb hxd hr hN
    by_cases hx1 : x = []
    · rw [show (x == []) = true by rw [hx1]; rfl] at e1
      have HN := Lib.hid (HhN.out (some ls) (by rw [hx1]; rfl))
      clear hx1 e2 e3
      gi_wp2
      exact ⟨KeepsFrom.refl _ _, ⟨fun _ h => h, fun _ h => h, fun _ h => h⟩, ls, _, HN.out, hv, hrow, hpa, hpe, hB, hsz⟩
    · rw [beq_eq_false_iff_ne.2 hx1] at e1
      by_cases hx2 : x = [46]
      · rw [show (x == [46]) = true by rw [hx2]; rfl] at e2
        have HN := Lib.hid (HhN.out (some ls) (by rw [hx2]; rfl))
        clear hx1 hx2 e3
        gi_wp2
        exact ⟨KeepsFrom.refl _ _, ⟨fun _ h => h, fun _ h => h, fun _ h => h⟩, ls, _, HN.out, hv, hrow, hpa, hpe, hB, hsz⟩
      · rw [beq_eq_false_iff_ne.2 hx2] at e2
        by_cases hx3 : x = [46, 46]
        · rw [show (x == [46, 46]) = true by rw [hx3]; rfl] at e3
          by_cases hls : ls = []
          · subst hls
            have HN := Lib.hid (HhN.out none (by rw [hx3]; rfl))
            have hz : (((0 : Nat) : Int) == 0) = true := rfl
            clear hx1 hx2 hx3
            have ga1 := hpa.cell
            have ga2 := hpa.frozen
            have ge1 := hpe.cell
            have ge2 := hpe.frozen
            simp only [List.length_nil] at hcell hv hrow
            gi_wp2
            have g1 := grownBy_setCell' W w.heap.size (.string ⟨#[]⟩)
            have g2 := grownBy_setCell' (W.setCell ⟨w.heap.size, 0, none⟩ (.string ⟨#[]⟩)) (w.heap.size + 1) (.int .i64 1)
            refine ⟨(KeepsFrom.of_grownBy g1 fun j e => by have := Option.some.inj e; omega).trans (KeepsFrom.of_grownBy g2 fun j e => by have := Option.some.inj e; omega), ⟨r, by rw [← Hhr.out]; simp⟩, HN.out,
              (hpa.set _).kept g2 (fun e => by have := Option.some.inj e; omega), (hpe.kept g1 fun e => by have := Option.some.inj e; omega).set _, (hB.setCell (Nat.le_refl _) _).setCell (Nat.le_succ _) _, Nat.le_trans hsz (Nat.le_trans g1.size g2.size)⟩
          · have hz : ((ls.length : Int) == 0) = false := by rw [beq_eq_false_iff_ne]; have := List.length_pos_iff.2 hls; omega
            have HN := Lib.hid (HhN.out (some ls.dropLast) (by rw [hx3, Pm.norm, if_neg (by decide), if_pos rfl, if_neg hls]; rfl))
            have hlp := List.length_pos_iff.2 hls
            have hdl : ls.dropLast.length = ls.length - 1 := List.length_dropLast
            have hpd : pv ls.dropLast = (pv ls).take (ls.length - 1) := by unfold pv; rw [List.dropLast_eq_take, List.map_take]
            clear hx1 hx2 hx3 hls
            obtain ⟨k, hk⟩ : ∃ k, ls.length = k + 1 := ⟨ls.length - 1, by omega⟩
            rw [hk] at hrow hv hcell hdl hpd hz
            rw [Nat.add_sub_cancel] at hdl hpd
            have hA : ∃ g, A = some ⟨g, 0, none⟩ ∧ w.heap.size + 6 ≤ g ∧ k + 1 ≤ c := by
              rcases hrow.2 with ⟨e, h0⟩ | ⟨g, cap, cur, e, h1, h2, h3, _⟩
              · omega
              · injection e with e1 e2 e3
                exact ⟨g, e1, h1, by omega⟩
            obtain ⟨g, rfl, hgg, hkc⟩ := hA
            have hcut := own_cut hrow (k := k) (by omega)
            rw [← hpd, ← hdl] at hcut
            have hg1 := grownBy_setCell' W (w.heap.size + 2) (.slice (some ⟨g, 0, none⟩) k c)
            have hcut2 := own_keeps hcut hg1 (fun g' h' _ e => by have := Option.some.inj e; omega)
            rw [hdl] at hcut2
            have hz2 : (((k + 1 : Nat) : Int) - 1) = (k : Int) := by omega
            have Hhcut := Lib.hid hcut
            have Hhcut2 := Lib.hid hcut2
            have Hhdl := Lib.hid hdl
            have Hhpd := Lib.hid hpd
            have Hhrow := Lib.hid hrow
            clear hcut hcut2 hdl hpd hrow
            gi_wp2
            have q := fun (B2 : Nat) (t2 : TypeId) (u : Value) (hne : B2 ≠ w.heap.size + 2) (h : Boxed W B2 t2 u) => h.kept hg1 (fun e => hne (Option.some.inj e))
            exact ⟨KeepsFrom.of_grownBy hg1 fun j e => by have := Option.some.inj e; omega, ⟨fun v h => q _ _ _ (by omega) h, fun v h => q _ _ _ (by omega) h, fun v h => q _ _ _ (by omega) h⟩, ls.dropLast, _, HN.out, hv.set _, by rw [Hhdl.out]; exact Hhcut2.out, q _ _ _ (by omega) hpa, q _ _ _ (by omega) hpe, hB.setCell (by show w.heap.size ≤ w.heap.size + 2; omega) _, Nat.le_trans hsz hg1.size⟩
        · rw [beq_eq_false_iff_ne.2 hx3] at e3
          have HN := Lib.hid (HhN.out (some (ls ++ [x])) (by rw [Pm.norm, if_neg (by rintro (h | h); exact hx1 h; exact hx2 h), if_neg hx3]; rfl))
          clear hx1 hx2 hx3
          have hpx : pv (ls ++ [x]) = pv ls ++ [.string xb] := by rw [Hhxb.out]; simp [pv]
          have hlx : (ls ++ [x]).length = ls.length + 1 := by simp
          have Hhpx := Lib.hid hpx
          have Hhlx := Lib.hid hlx
          clear hpx hlx
          gi_wp2_with (gi_at_builtin; refine wpListIn_append_own _ rfl _ _ 56 rfl (w.heap.size + 6) 9 i0 (.string ⟨#[]⟩) 1 16 Tryd.underlying56 hi0 hz0 hz1 hz2 rfl (by decide) _ _ _ rfl (hrow.alloc _) ⟨W.heap.size, 0, none⟩ 1 1 [.string xb] rfl rfl (cell_one_new _ _ _) (by simp [Value.oneCell']) (by unfold maxLen; omega) (by omega) (by rw [World.size_alloc]; omega) ?_; intro v' w4 hown' hgrow _; obtain ⟨g', cap', rfl⟩ := ownsRow_succ hown'; obtain ⟨hv1, hrest⟩ := box_app hv hrow hsz hown' hgrow (by omega); have hc1 := hv1.cell; have hf1 := hv1.frozen)
          obtain ⟨r1, r2, r3, r4, r5⟩ := hrest
          refine ⟨by rw [hsF]; exact r4, ⟨fun v h => r3 _ _ _ (by omega) (by omega) h, fun v h => r3 _ _ _ (by omega) (by omega) h, fun v h => r3 _ _ _ (by omega) (by omega) h⟩, ls ++ [x], _, HN.out, r1, by rw [Hhpx.out, Hhlx.out]; exact r2, r3 _ _ _ (by omega) (by omega) hpa, r3 _ _ _ (by omega) (by omega) hpe, hB.trans (r5.mono (by omega)), by have := r5.size; omega⟩
  case done =>
    rintro D W hD ⟨ls, v, hn, hv, hrow, hpa, hpe, hB, hsz⟩ hK
    have hrd := owns_rdS hrow
    obtain ⟨A, c, rfl⟩ := hrd.slice
    have hwl : Pm.weigh ls ≤ 90001 := by
      have := Pm.weigh_norm P [] ls hn
      have h0 : Pm.weigh [] = 0 := rfl
      have := Hhw8.out
      omega
    have hjl := Pm.weigh_join ls
    have hll := Pm.length_weigh ls
    have hj := pathJoin ls (by omega) (by omega) A c W (hG.below hB hgl) hrd
    have hnp : Pm.normP s.data.toList = Pm.joinP ls := by unfold Pm.normP; rw [← HhP.out, hn]
    have hne : Pm.normE s.data.toList = Pm.joinE ls := by unfold Pm.normE; rw [← HhP.out, hn]
    have hc := hv.cell
    obtain ⟨n, hnn⟩ : ∃ n, n = ls.length := ⟨_, rfl⟩
    obtain ⟨jp, hjp⟩ : ∃ jp : ByteArray, jp = ⟨(Pm.joinP ls).toArray⟩ := ⟨_, rfl⟩
    obtain ⟨je, hje⟩ : ∃ je : Nat, je = Pm.joinE ls := ⟨_, rfl⟩
    rw [← hnn, ← hjp, ← hje] at hj
    rw [← hnn] at hc
    have Hhj := Lib.hid hj
    have Hhjp := Lib.hid hjp
    have Hhje := Lib.hid hje
    have Hhnp := Lib.hid hnp
    have Hhne := Lib.hid hne
    clear hj hjp hje hnp hne
    clear hrow hrd hn hjl hll hwl hnn hv
    gi_wp2_with (refine ⟨trivial, ?_⟩; gi_at_call 44; refine (callsIn_wide.2 Hhj.out).mono ?_; rintro e W2 ⟨rfl, hb2⟩; have ga : Boxed W2 w.heap.size 9 (.string ⟨#[]⟩) := (hb2.block _ hpa.lt).trans hpa; have ge : Boxed W2 (w.heap.size + 1) 37 (.int .i64 0) := (hb2.block _ hpe.lt).trans hpe; have gk : W2.heap[D]? = some (.deferred (some [])) := (hb2.block _ (lt_of_block hK)).trans hK; have ga1 := ga.cell; have ga2 := ga.frozen; have ge1 := ge.cell; have ge2 := ge.frozen)
    have gB := hB.trans (hb2.mono hB.size)
    have g1 := ga.set (.string jp)
    have g2 := (ge.kept (grownBy_setCell' W2 w.heap.size (.string jp)) (fun e => by have := Option.some.inj e; omega)).set (.int .i64 (je : Int))
    have g3 := g1.kept (grownBy_setCell' (W2.setCell ⟨w.heap.size, 0, none⟩ (.string jp)) (w.heap.size + 1) (.int .i64 (je : Int))) (fun e => by have := Option.some.inj e; omega)
    have g4 : ((W2.setCell ⟨w.heap.size, 0, none⟩ (.string jp)).setCell ⟨w.heap.size + 1, 0, none⟩ (.int .i64 (je : Int))).heap[D]? = some (.deferred (some [])) := by
      rw [Below.heap_setCell _ _ _ _ (by show D ≠ w.heap.size + 1; omega), Below.heap_setCell _ _ _ _ (by show D ≠ w.heap.size; omega)]
      exact gk
    exact normal_end g3 g2 g4 (by omega) ((gB.setCell (Nat.le_refl _) _).setCell (Nat.le_succ _) _) _ rfl rfl _ _ (by rw [Hhnp.out]; exact Hhjp.out) (by rw [Hhne.out]; exact Hhje.out.symm)
  case stop =>
    rintro D pre W hD ⟨⟨r, hr⟩, hn, hpa, hpe, hB, hsz⟩ hK
    have hnn : Pm.norm P [] = none := by rw [← hr, Pm.norm_app, hn]
    have hnp : Pm.normP s.data.toList = [] := by unfold Pm.normP; rw [← HhP.out, hnn]
    have hne : Pm.normE s.data.toList = 1 := by unfold Pm.normE; rw [← HhP.out, hnn]
    have Hhnp := Lib.hid hnp
    have Hhne := Lib.hid hne
    clear hnp hne
    clear hn hnn hr
    gi_wp2
    exact normal_end (je := 1) hpa hpe hK (by omega) hB _ rfl rfl _ _ (by rw [Hhnp.out]) (by rw [Hhne.out])
end Go.Proofs.YtidmjepfpjfkoaaDoor
