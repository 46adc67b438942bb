/-
  Walk: path.Clash.
-/
import Derived.Test.YtidmjepfpjfkoaaDoorPcB
import Derived.Test.YtidmjepfpjfkoaaDoorPnC
import Derived.Test.YtidmjepfpjfkoaaDoorPdH
namespace Go.Proofs.YtidmjepfpjfkoaaDoor
open Go Go.RowKit
set_option maxHeartbeats 4000000
set_option maxRecDepth 20000
set_option linter.unusedVariables false
set_option linter.unusedSimpArgs false

namespace Pm
/-- the first of which the next is within -/
def clash : List By → Option (By × By)
  | x :: y :: r => if within y x = true then some (x, y) else clash (y :: r)
  | _ => none
theorem clash_next {xs : List By} {i : Nat} (hi : i + 1 < xs.length) : clash (xs.drop i) = if within xs[i + 1] xs[i] = true then some (xs[i], xs[i + 1]) else clash (xs.drop (i + 1)) := by
  rw [List.drop_eq_getElem_cons (show i < xs.length by omega), List.drop_eq_getElem_cons hi, clash, ← List.drop_eq_getElem_cons hi]
theorem clash_end {xs : List By} {i : Nat} (hi : xs.length ≤ i + 1) : clash (xs.drop i) = none := by
  have h : (xs.drop i).length ≤ 1 := by simp; omega
  match xs.drop i, h with
  | [], _ => rfl
  | [x], _ => rfl
def clashV (c : Option (By × By)) : Value := match c with
  | some (a, b) => .tuple #[.string ⟨a.toArray⟩, .string ⟨b.toArray⟩, .bool true]
  | none => .tuple #[.string ⟨#[]⟩, .string ⟨#[]⟩, .bool false]
end Pm

theorem own_cut {w : World} {base : Nat} {e : TypeId} {g n cap : Nat} {xs : List Value} (h : w.ownsRow base e 1 (.slice (some ⟨g, 0, none⟩) n cap) n xs) {k : Nat} (hk : k ≤ n) : w.ownsRow base e 1 (.slice (some ⟨g, 0, none⟩) k cap) k (xs.take k) := by
  have hl := h.1
  rcases h.2 with ⟨h, _⟩ | ⟨g', cap', cur, h, h1, h2, h3, h4, h5, h6⟩
  · cases h
  · injection h with h7 h8 h9
    injection h7 with h7
    injection h7 with h7
    subst h7 h9
    refine ⟨by simp; omega, .inr ⟨g, cap, cur, rfl, h1, h2, by omega, h4, h5, ?_⟩⟩
    rw [← h6, List.take_take]
    congr 1
    omega
theorem pathClash (ps : List (List UInt8)) (hps : ∀ x ∈ ps, x.length ≤ 100000) (hlen : ps.length ≤ 1000000) (A : Option Addr) (c : Nat) (w : World) (hG : Gl w)
    (hrd : RdS (.slice A ps.length c) ps.length (pv ps) w.heap.size w) :
    Calls Tryd.prog 25 #[.slice A ps.length c] w fun e w' => ∃ xs, e = .returned (Pm.clashV (Pm.clash xs)) ∧ Pm.IsSort ps xs ∧ Below w.heap.size w w' := by
  have h1 := pathSort ps hps hlen A c w hG hrd
  obtain ⟨n, hn⟩ : ∃ n, n = ps.length := ⟨_, rfl⟩
  rw [← hn] at h1 hlen ⊢
  have Hh1 := Lib.hid h1
  have Hhn := Lib.hid hn
  have Hhps := Lib.hid hps
  have HhG := Lib.hid hG
  clear h1 hn hps hG
  clear hrd
  go_enter Tryd.func25, Tryd.ntmps25
  go_wp2_with fail
  refine Hh1.out.mono ?_
  rintro e w1 ⟨v, xs, rfl, hv, hb1, hS, hxl⟩
  obtain ⟨A', c', rfl⟩ := hv.slice
  have hxs : ∀ z ∈ xs, z.length ≤ 100000 := fun z hz => Hhps.out z ((hS.mem z).1 hz).1
  obtain ⟨m, hm⟩ : ∃ m, m = xs.length := ⟨_, rfl⟩
  rw [← hm] at hv hxl ⊢
  have hws := hb1.size
  obtain ⟨r, hr⟩ : ∃ r, r = Pm.clash xs := ⟨_, rfl⟩
  have Hhv := Lib.hid hv
  have Hhm := Lib.hid hm
  have Hhxs := Lib.hid hxs
  have HhS := Lib.hid hS
  have Hhb1 := Lib.hid hb1
  have Hhr := Lib.hid hr
  clear hv hm hxs hS hb1 hr
  clear Hh1
  obtain ⟨i0, hi0, hz0, hz1, hz2⟩ := info_parts info_str
  go_wp2_with fail
  go_loopw [5, 11] (fun v5 iv wr => ∃ i : Nat, i ≤ m ∧ iv = .int .i64 (i : Int) ∧ Hid (r = Pm.clash (xs.drop (i - 1))) ∧ Hid (Below w1.heap.size w1 wr) ∧ ((i = 0 ∧ v5 = .slice none 0 0) ∨ ∃ g cap z, 0 < i ∧ v5 = .slice (some ⟨g, 0, none⟩) 1 cap ∧ Hid (xs[i - 1]? = some z) ∧ Hid (wr.ownsRow w1.heap.size 9 1 (.slice (some ⟨g, 0, none⟩) 1 cap) 1 [.string ⟨z.toArray⟩]))) (fun _ iv _ => m - (intOf iv).toNat)
  case atStart => exact ⟨0, by omega, rfl, Hhr, Below.refl _ _, .inl ⟨rfl, rfl⟩⟩
  case round =>
    obtain ⟨i, hi, rfl, HR, HB, hst⟩ := hrel
    have hbi : (0 : Int) ≤ i := by omega
    by_cases hin : i < m
    · have hil : i < xs.length := by rw [← Hhm.out]; exact hin
      obtain ⟨b, off, hA, hcn, hbb, hcell⟩ := Hhv.out.at_ hin
      subst hA
      have hx0 := (HB.out.cell (p := ⟨b, off + i, none⟩) hbb).trans (hcell i _ (pv_get xs i hil))
      have hxl1 := Hhxs.out _ (List.getElem_mem hil)
      obtain ⟨y, hy⟩ : ∃ y, y = xs[i] := ⟨_, rfl⟩
      rw [← hy] at hx0 hxl1
      obtain ⟨x, hx⟩ : ∃ x : ByteArray, x = ⟨y.toArray⟩ := ⟨_, rfl⟩
      rw [← hx] at hx0
      have hxd : x.data.toList = y := by rw [hx]
      have hbn : (i : Int) < m := by omega
      clear hcell
      have Hhy := Lib.hid hy
      have Hhx := Lib.hid hx
      have Hhxd := Lib.hid hxd
      have Hhxl1 := Lib.hid hxl1
      clear hy hx hxd hxl1
      rcases hst with ⟨rfl, rfl⟩ | ⟨g, cap, z, hi0', rfl, HZ, HO⟩
      · -- none is held
        rw [Nat.add_zero] at hx0
        have hO : wr.ownsRow w1.heap.size 9 1 (.slice none 0 0) 0 [] := ⟨rfl, .inl ⟨rfl, rfl⟩⟩
        have hbs := HB.out.size
        go_wp2_with fail
        refine wp_loop_rounds 1 ?_
        rw [rounds_succ]
        go_wp2_with (at_builtin; refine kl_append1 rfl _ _ 56 rfl w1.heap.size 9 i0 (.string ⟨#[]⟩) 1 16 Tryd.underlying56 hi0 hz0 hz1 hz2 rfl (by decide) _ 0 _ rfl hO 1 #[.string x] rfl rfl (by simp [Value.oneCell']) (by omega) (by omega) hbs ?_; intro v' w' hown' hbel hsz' hne')
        obtain ⟨g2, c2, rfl, _, _, _, _⟩ := owns_some hown' hne'
        have HO2 := Lib.hid hown'
        have HB2 := Lib.hid (HB.out.trans hbel)
        clear hO hown'
        go_wp2_with fail
        go_roundw
        case rel => exact ⟨1, by omega, rfl, HR, HB2, .inr ⟨g2, c2, y, by omega, rfl, by show xs[0]? = _; rw [List.getElem?_eq_getElem hil, Hhy.out], by rw [← Hhx.out]; exact HO2.out⟩⟩
        case measure => simp [intOf]; omega
      · have hzl : z.length ≤ 100000 := Hhxs.out z (List.mem_of_getElem? HZ.out)
        obtain ⟨d, hd⟩ : ∃ d : ByteArray, d = ⟨z.toArray⟩ := ⟨_, rfl⟩
        have hds : d.size ≤ 1000000 := by rw [hd]; show z.toArray.size ≤ _; simp; omega
        rw [← hd] at HO
        have hc2 : wr.cell? ⟨g, 0, none⟩ = some (.string d) := by
          obtain ⟨b2, c2, e2, _, _, _, h2⟩ := owns_some HO.out (by intro h; injection h with h; cases h)
          injection e2 with e3
          injection e3 with e3
          injection e3 with e3
          subst e3
          exact h2 0 _ rfl
        have hw := pathWithin x d hds wr
        have hdd : d.data.toList = z := by rw [hd]
        rw [Hhxd.out, hdd] at hw
        obtain ⟨q, hq⟩ : ∃ q, q = Pm.within y z := ⟨_, rfl⟩
        rw [← hq] at hw
        have Hhw := Lib.hid hw
        have Hhq := Lib.hid hq
        have Hhd := Lib.hid hd
        have Hhdd := Lib.hid hdd
        clear hw hq hd hdd
        have hbs := HB.out.size
        have hil1 : i - 1 + 1 < xs.length := by omega
        have hzz : xs[i - 1]'(by omega) = z := by
          have h := HZ.out
          rw [List.getElem?_eq_getElem (by omega)] at h
          exact Option.some.inj h
        have hyy : xs[i - 1 + 1] = y := by
          rw [Hhy.out]
          congr 1
          omega
        have hstep := Pm.clash_next hil1
        rw [hzz, hyy, ← HR.out, ← Hhq.out, show i - 1 + 1 = i by omega] at hstep
        have Hhstep := Lib.hid hstep
        have Hhzz := Lib.hid hzz
        have Hhyy := Lib.hid hyy
        clear hstep hzz hyy
        go_wp2_with fail
        cases q with
        | true =>
          have hr1 : r = some (z, y) := by rw [Hhstep.out, if_pos rfl]
          have HR1 := Lib.hid hr1
          clear hr1
          refine wp_loop_rounds 1 ?_
          rw [rounds_succ]
          go_wp2_with fail
          refine Hhw.out.mono ?_
          rintro e w2 ⟨rfl, rfl⟩
          go_wp2_with fail
          refine bodyPost_ret (results_tmp3 rfl _ _ _) rfl ?_
          refine ⟨xs, ?_, HhS.out, Hhb1.out.trans (HB.out.mono hws)⟩
          rw [← Hhr.out, HR1.out, Hhd.out, Hhx.out]
          rfl
        | false =>
          have hO := own_cut HO.out (k := 0) (by omega)
          simp only [List.take_zero] at hO
          have HR1 : Hid (r = Pm.clash (xs.drop i)) := by show r = _; rw [Hhstep.out, if_neg (by simp)]
          refine wp_loop_rounds 2 ?_
          rw [rounds_succ]
          go_wp2_with fail
          refine Hhw.out.mono ?_
          rintro e w2 ⟨rfl, rfl⟩
          go_wp2_with fail
          rw [rounds_succ]
          go_wp2_with (at_builtin; refine kl_append1 rfl _ _ 56 rfl w1.heap.size 9 i0 (.string ⟨#[]⟩) 1 16 Tryd.underlying56 hi0 hz0 hz1 hz2 rfl (by decide) _ 0 _ rfl hO 1 #[.string x] rfl rfl (by simp [Value.oneCell']) (by omega) (by omega) hbs ?_; intro v' w' hown' hbel hsz' hne')
          obtain ⟨g2, c2, rfl, _, _, _, _⟩ := owns_some hown' hne'
          have HO2 := Lib.hid hown'
          have HB2 := Lib.hid (HB.out.trans hbel)
          clear hO hown'
          go_wp2_with fail
          go_roundw
          case rel => exact ⟨i + 1, by omega, by go_num, HR1, HB2, .inr ⟨g2, c2, y, by omega, rfl, by show xs[i + 1 - 1]? = _; rw [Nat.add_sub_cancel, List.getElem?_eq_getElem hil, Hhy.out], by rw [← Hhx.out]; exact HO2.out⟩⟩
          case measure => simp [intOf]; omega
    · obtain rfl : i = m := by omega
      have hbn : ¬ (i : Int) < i := by omega
      have hrn : r = none := by rw [HR.out]; exact Pm.clash_end (by rw [← Hhm.out]; omega)
      have HRN := Lib.hid hrn
      clear hrn
      go_wp2_with fail
      refine bodyPost_ret (results_tmp3 rfl _ _ _) rfl ?_
      refine ⟨xs, ?_, HhS.out, Hhb1.out.trans (HB.out.mono hws)⟩
      rw [← Hhr.out, HRN.out]
      rfl
end Go.Proofs.YtidmjepfpjfkoaaDoor
