/-
  Walk: shoalsynclaw03.PathChain.
-/
import Derived.Test.YtidmjepfpjfkoaaDoorPeB
import Derived.Test.YtidmjepfpjfkoaaDoorPbE
import Derived.Deep.DeepCutAuto
import Derived.Deep.CutBlock
namespace Go.Proofs.YtidmjepfpjfkoaaDoor
open Go Go.RowKit
set_option maxHeartbeats 8000000
set_option maxRecDepth 20000
set_option linter.unusedVariables false
set_option linter.unusedSimpArgs false

theorem wrap_small {x : Int} (h : 0 ≤ x) (h2 : x ≤ 1000000) : IntKind.i64.wrap x = x := by
  simp [IntKind.wrap, IntKind.bits, IntKind.signed]
  omega
theorem fewB_is {ps : List (List UInt8)} (h : fewB ps = true) : ps.length ≤ 60 ∧ ∀ x ∈ ps, x.length ≤ 300 := by
  unfold fewB at h
  rw [Bool.and_eq_true, List.all_eq_true] at h
  exact ⟨of_decide_eq_true h.1, fun x hx => of_decide_eq_true (h.2 x hx)⟩
theorem isSort_self {l xs : List (List UInt8)} (h : Pm.IsSort l xs) : Pm.IsSort xs xs :=
  ⟨h.up, fun x => ⟨fun hx => ⟨hx, ((h.mem x).1 hx).2⟩, fun hx => hx.1⟩⟩

theorem pathChain (a b d : ByteArray) (ps : List (List UInt8)) (A : Option Addr) (c : Nat) (w : World) (hG : Gl w) (hrd : RdS (.slice A ps.length c) ps.length (pv ps) w.heap.size w) :
    Calls Tryd.prog 14 #[.string a, .string b, .string d, .slice A ps.length c] w fun e w' => e = .returned (.bool true) ∧ Below w.heap.size w w' := by
  have hgl := hG.lt
  have hG2 : ∀ W, Below w.heap.size w W → Gl W := fun W h => hG.below h hgl
  have c0 := awake03 w hG
  have cF := fun W (h : Below w.heap.size w W) => few03 ps A c W ((hrd.below h).mono h.size)
  obtain ⟨n, hn⟩ : ∃ n, n = ps.length := ⟨_, rfl⟩
  rw [← hn] at cF hrd ⊢
  obtain ⟨f, hf⟩ : ∃ f, f = fewB ps := ⟨_, rfl⟩
  rw [← hf] at cF
  by_cases ha : (300 : Int) < a.size
  · clear hG2 hf hn hG hrd
    have Hc0 := Lib.hid c0
    have HcF := Lib.hid cF
    clear c0 cF
    go_enter Tryd.func14, Tryd.ntmps14
    go_wp2_with fail
    refine Hc0.out.mono ?_
    rintro e w1 ⟨rfl, b1⟩
    go_wp2_with fail
    go_ret
    exact ⟨rfl, b1⟩
  by_cases hb : (300 : Int) < b.size
  · clear hG2 hf hn hG hrd
    have Hc0 := Lib.hid c0
    have HcF := Lib.hid cF
    clear c0 cF
    go_enter Tryd.func14, Tryd.ntmps14
    go_wp2_with fail
    refine Hc0.out.mono ?_
    rintro e w1 ⟨rfl, b1⟩
    go_wp2_with fail
    go_ret
    exact ⟨rfl, b1⟩
  by_cases hd : (300 : Int) < d.size
  · clear hG2 hf hn hG hrd
    have Hc0 := Lib.hid c0
    have HcF := Lib.hid cF
    clear c0 cF
    go_enter Tryd.func14, Tryd.ntmps14
    go_wp2_with fail
    refine Hc0.out.mono ?_
    rintro e w1 ⟨rfl, b1⟩
    go_wp2_with fail
    go_ret
    exact ⟨rfl, b1⟩
  cases f with
  | false =>
    clear hG2 hf hn hG hrd
    have Hc0 := Lib.hid c0
    have HcF := Lib.hid cF
    clear c0 cF
    go_enter Tryd.func14, Tryd.ntmps14
    go_wp2_with fail
    refine Hc0.out.mono ?_
    rintro e w1 ⟨rfl, b1⟩
    go_wp2_with fail
    refine (HcF.out _ b1).mono ?_
    rintro e w2 ⟨rfl, rfl⟩
    go_wp2_with fail
    go_ret
    exact ⟨rfl, b1⟩
  | true =>
    obtain ⟨hlen, hps⟩ := fewB_is hf.symm
    rw [← hn] at hlen
    have cab := fun W (h : Below w.heap.size w W) => pathCompare a b (by omega) (by omega) W (hG2 W h)
    have cbc := fun W (h : Below w.heap.size w W) => pathCompare b d (by omega) (by omega) W (hG2 W h)
    have cac := fun W (h : Below w.heap.size w W) => pathCompare a d (by omega) (by omega) W (hG2 W h)
    have cba := fun W (h : Below w.heap.size w W) => pathCompare b a (by omega) (by omega) W (hG2 W h)
    have wab := fun W => pathWithin a b (by omega) W
    have wbc := fun W => pathWithin b d (by omega) W
    have wac := fun W => pathWithin a d (by omega) W
    have hturn := Pm.cmp_neg a.data.toList b.data.toList
    have h3ab := Pm.cmpL_three (Pm.cut a.data.toList) (Pm.cut b.data.toList)
    have h3bc := Pm.cmpL_three (Pm.cut b.data.toList) (Pm.cut d.data.toList)
    have h3ac := Pm.cmpL_three (Pm.cut a.data.toList) (Pm.cut d.data.toList)
    have htr := Pm.cmpL_trans (Pm.cut a.data.toList) (Pm.cut b.data.toList) (Pm.cut d.data.toList)
    have hz : (a.toList == b.toList) = decide (Pm.compare a.data.toList b.data.toList = 0) := by
      rw [ByteArray.toList_eq, ByteArray.toList_eq]
      apply Bool.eq_iff_iff.2
      rw [beq_iff_eq, decide_eq_true_eq]
      constructor
      · intro h; rw [h]; exact Pm.compare_self _
      · exact Pm.cmp_eq
    have hwt : Pm.within a.data.toList b.data.toList = true → Pm.within b.data.toList d.data.toList = true → Pm.within a.data.toList d.data.toList = true := Pm.within_trans
    have hwc : Pm.within a.data.toList b.data.toList = true → Pm.compare a.data.toList b.data.toList = 1 := fun h => by
      have := Pm.within_compare h
      have := Pm.cmp_neg a.data.toList b.data.toList
      omega
    change Pm.compare a.data.toList b.data.toList = -1 ∨ Pm.compare a.data.toList b.data.toList = 0 ∨ Pm.compare a.data.toList b.data.toList = 1 at h3ab
    change Pm.compare b.data.toList d.data.toList = -1 ∨ Pm.compare b.data.toList d.data.toList = 0 ∨ Pm.compare b.data.toList d.data.toList = 1 at h3bc
    change Pm.compare a.data.toList d.data.toList = -1 ∨ Pm.compare a.data.toList d.data.toList = 0 ∨ Pm.compare a.data.toList d.data.toList = 1 at h3ac
    change Pm.compare a.data.toList b.data.toList < 0 → Pm.compare b.data.toList d.data.toList < 0 → Pm.compare a.data.toList d.data.toList < 0 at htr
    generalize Pm.compare a.data.toList b.data.toList = ab at *
    generalize Pm.compare b.data.toList d.data.toList = bc at *
    generalize Pm.compare a.data.toList d.data.toList = ac at *
    generalize Pm.compare b.data.toList a.data.toList = ba at *
    generalize Pm.within a.data.toList b.data.toList = vab at *
    generalize Pm.within b.data.toList d.data.toList = vbc at *
    generalize Pm.within a.data.toList d.data.toList = vac at *
    subst hturn
    have hs1 := fun (W : World) (h : Below w.heap.size w W) (A : Option Addr) (c : Nat) (hr : RdS (.slice A ps.length c) ps.length (pv ps) W.heap.size W) => pathSort ps (fun x hx => by have := hps x hx; omega) (by omega) A c W (hG2 W h) hr
    rw [← hn] at hs1
    obtain ⟨i0, hi0, hz0, hz1, hz2⟩ := info_parts info_str
    have Hc0 := Lib.hid c0
    have HcF := Lib.hid cF
    have Hcab := Lib.hid cab
    have Hcbc := Lib.hid cbc
    have Hcac := Lib.hid cac
    have Hcba := Lib.hid cba
    have Hwab := Lib.hid wab
    have Hwbc := Lib.hid wbc
    have Hwac := Lib.hid wac
    have HhG2 := Lib.hid hG2
    have Hhs1 := Lib.hid hs1
    have Hhrd := Lib.hid hrd
    have Hhps := Lib.hid hps
    have Hhn := Lib.hid hn
    have Hh3bc := Lib.hid h3bc
    have Hh3ac := Lib.hid h3ac
    have Hhtr := Lib.hid htr
    have Hhwt := Lib.hid hwt
    have Hhwc := Lib.hid hwc
    have Hh3ab := Lib.hid h3ab
    clear c0 cF cab cbc cac cba wab wbc wac hG2 hs1 hrd hps hn h3bc h3ac htr hwt hwc h3ab
    clear hf hG
    go_enter Tryd.func14, Tryd.ntmps14
    go_wp2_with fail
    refine Hc0.out.mono ?_
    rintro e w1 ⟨rfl, b1⟩
    go_wp2_with fail
    refine (HcF.out _ b1).mono ?_
    rintro e w2 ⟨rfl, rfl⟩
    go_wp2_with fail
    refine (Hcab.out _ b1).mono ?_
    rintro e w3 ⟨rfl, b2⟩
    have b3 := b1.trans (b2.mono b1.size)
    clear b1 b2
    go_wp2_with fail
    refine (Hcbc.out _ b3).mono ?_
    rintro e w4 ⟨rfl, b4⟩
    have b5 := b3.trans (b4.mono b3.size)
    clear b3 b4
    go_wp2_with fail
    refine (Hcac.out _ b5).mono ?_
    rintro e w5 ⟨rfl, b6⟩
    have b7 := b5.trans (b6.mono b5.size)
    clear b5 b6
    go_upto_region 6 with fail
    go_cut [94] (fun v wx => v = .bool false ∧ Hid (Below w.heap.size w wx))
    case first =>
      go_wp2_with fail
      refine (Hcba.out _ b7).mono ?_
      rintro e w6 ⟨rfl, b8⟩
      have b9 := b7.trans (b8.mono b7.size)
      clear b7 b8
      have B9 := Lib.hid b9
      clear b9
      rcases Hh3ab.out with rfl | rfl | rfl
      · obtain rfl : vab = false := by cases vab with
          | false => rfl
          | true => have := Hhwc.out rfl; omega
        rw [show decide ((-1 : Int) = 0) = false from rfl] at hz
        by_cases hbc : bc < 0
        · have hac : ac < 0 := Hhtr.out (by decide) hbc
          have hac2 : ¬ (0 ≤ ac) := by omega
          go_wp2_with fail
          refine (Hwab.out _).mono ?_
          rintro e w7 ⟨rfl, rfl⟩
          go_wp2_with fail
          refine (Hwab.out _).mono ?_
          rintro e w8 ⟨rfl, rfl⟩
          go_wp2_with fail
          go_meet
          case rel => exact ⟨congrArg Value.bool (decide_eq_false (by omega)), B9⟩
        · go_wp2_with fail
          refine (Hwab.out _).mono ?_
          rintro e w7 ⟨rfl, rfl⟩
          go_wp2_with fail
          refine (Hwab.out _).mono ?_
          rintro e w8 ⟨rfl, rfl⟩
          go_wp2_with fail
          go_meet
          case rel => exact ⟨rfl, B9⟩
      · obtain rfl : vab = false := by cases vab with
          | false => rfl
          | true => have := Hhwc.out rfl; omega
        rw [show decide ((0 : Int) = 0) = true from rfl] at hz
        go_wp2_with fail
        refine (Hwab.out _).mono ?_
        rintro e w7 ⟨rfl, rfl⟩
        go_wp2_with fail
        refine (Hwab.out _).mono ?_
        rintro e w8 ⟨rfl, rfl⟩
        go_wp2_with fail
        go_meet
        case rel => exact ⟨rfl, B9⟩
      · rw [show decide ((1 : Int) = 0) = false from rfl] at hz
        cases vab with
        | false =>
          go_wp2_with fail
          refine (Hwab.out _).mono ?_
          rintro e w7 ⟨rfl, rfl⟩
          go_wp2_with fail
          refine (Hwab.out _).mono ?_
          rintro e w8 ⟨rfl, rfl⟩
          go_wp2_with fail
          go_meet
          case rel => exact ⟨rfl, B9⟩
        | true =>
          cases vbc with
          | false =>
            go_wp2_with fail
            refine (Hwab.out _).mono ?_
            rintro e w7 ⟨rfl, rfl⟩
            go_wp2_with fail
            refine (Hwbc.out _).mono ?_
            rintro e w8 ⟨rfl, rfl⟩
            go_wp2_with fail
            refine (Hwab.out _).mono ?_
            rintro e w9 ⟨rfl, rfl⟩
            go_wp2_with fail
            go_meet
            case rel => exact ⟨rfl, B9⟩
          | true =>
            obtain rfl : vac = true := Hhwt.out rfl rfl
            go_wp2_with fail
            refine (Hwab.out _).mono ?_
            rintro e w7 ⟨rfl, rfl⟩
            go_wp2_with fail
            refine (Hwbc.out _).mono ?_
            rintro e w8 ⟨rfl, rfl⟩
            go_wp2_with fail
            refine (Hwac.out _).mono ?_
            rintro e wx ⟨rfl, rfl⟩
            go_wp2_with fail
            refine (Hwab.out _).mono ?_
            rintro e w9 ⟨rfl, rfl⟩
            go_wp2_with fail
            go_meet
            case rel => exact ⟨rfl, B9⟩
    case rest =>
      obtain ⟨rfl, B⟩ := hcut
      clear b7 hz
      have s1 := B.out.size
      have b2 := B.out.alloc s1 (.cells #[] 9)
      have hO := owns_empty wc w.heap.size 9 s1
      have hR := Hhrd.out.below b2
      have s2 : w.heap.size ≤ (wc.alloc (.cells #[] 9)).heap.size := b2.size
      go_wp2_with (at_builtin; refine kl_append_rdg rfl _ _ 56 rfl w.heap.size 9 i0 (.string ⟨#[]⟩) 16 Tryd.underlying56 hi0 hz0 hz1 hz2 rfl _ 0 [] rfl hO _ n (pv ps) _ rfl hR (pv_one _) (by omega) (by omega) s2 ?_; intro v3 w3 hown hgr hb3)
      rw [List.nil_append, Nat.zero_add] at hown
      have hr3 := owns_rdS hown
      have b3 := b2.trans hb3
      clear hO hR hown hgr hb3 b2 s1 s2
      obtain ⟨A3, c3, rfl⟩ := hr3.slice
      have hS1 := Lib.hid (Hhs1.out w3 b3 A3 c3 hr3)
      clear hr3
      go_wp2_with fail
      refine hS1.out.mono ?_
      rintro e w4 ⟨v4, xs, rfl, hv4, hb4, hI4, hl4⟩
      clear hS1
      have b4 := b3.trans (hb4.mono b3.size)
      clear b3 hb4
      obtain ⟨m, hm⟩ : ∃ m, m = xs.length := ⟨_, rfl⟩
      rw [← hm] at hv4 hl4
      obtain ⟨A4, c4, rfl⟩ := hv4.slice
      have hxs : ∀ z ∈ xs, z.length ≤ 300 := fun z hz => Hhps.out z ((hI4.mem z).1 hz).1
      have s4 := b4.size
      have b5 := b4.alloc s4 (.cells #[] 9)
      have hO := owns_empty w4 w.heap.size 9 s4
      have hR := (hv4.below ((Below.refl w4.heap.size w4).alloc (Nat.le_refl _) (.cells #[] 9)))
      have s5 : w.heap.size ≤ (w4.alloc (.cells #[] 9)).heap.size := b5.size
      have s6 : w4.heap.size ≤ (w4.alloc (.cells #[] 9)).heap.size := by rw [size_alloc]; omega
      have hO4 := owns_empty w4 w4.heap.size 9 (Nat.le_refl _)
      have Hhm := Lib.hid hm
      have Hhxs := Lib.hid hxs
      have Hhv4 := Lib.hid hv4
      have HhI4 := Lib.hid hI4
      clear hm hxs hv4 hI4
      go_wp2_with (at_builtin; refine kl_append_rdg rfl _ _ 56 rfl w4.heap.size 9 i0 (.string ⟨#[]⟩) 16 Tryd.underlying56 hi0 hz0 hz1 hz2 rfl _ 0 [] rfl hO4 _ m (pv xs) _ rfl hR (pv_one _) (by omega) (by omega) s6 ?_; intro v5 w5 hown hgr hb5)
      rw [List.nil_append, Nat.zero_add] at hown
      have hr5 := owns_rdS hown
      have hv5 := (Hhv4.out.below (((Below.refl w4.heap.size w4).alloc (Nat.le_refl _) (.cells #[] 9)).trans hb5))
      have b6 := b5.trans (hb5.mono s4)
      have s7 := hb5.size
      rw [size_alloc] at s7
      clear hO hR hown hgr hb5 b5 b4 hO4 s6 s5
      obtain ⟨A5, c5, rfl⟩ := hr5.slice
      have hS2 := Lib.hid (pathSort xs (fun z hz => by have := Hhxs.out z hz; omega) (by rw [← Hhm.out]; omega) A5 c5 w5 (HhG2.out w5 b6) (by rw [← Hhm.out]; exact hr5))
      rw [← Hhm.out] at hS2
      clear hr5
      have Hhv5 := Lib.hid hv5
      clear hv5
      go_wp2_with fail
      refine hS2.out.mono ?_
      rintro e w6 ⟨v6, ys, rfl, hv6, hb6, hI6, hl6⟩
      obtain rfl : ys = xs := hI6.unique (isSort_self HhI4.out)
      rw [← Hhm.out] at hv6
      obtain ⟨A6, c6, rfl⟩ := hv6.slice
      have b8 := b6.trans (hb6.mono b6.size)
      have hv7 := (Hhv5.out.below (hb6.mono (by omega))).mono (show w4.heap.size ≤ w6.heap.size by have := hb6.size; omega)
      have hsm := Lib.hid (same3 A4 A6 m c4 c6 (by omega) ys w6 hv7 hv6)
      clear hS2 hI6 hl6 b6 hb6 hv6
      have Hhv7 := Lib.hid hv7
      clear hv7
      go_wp2_with fail
      refine hsm.out.mono ?_
      rintro e w7 ⟨rfl, hb7⟩
      have b9 := b8.trans (hb7.mono b8.size)
      have hv8 := Hhv7.out.below hb7
      have hv9 := hv8.mono hb7.size
      clear b8 hb7 hsm hv8 Hhv7 Hhv5
      have hmn : ¬ ((n : Int) < m) := by omega
      have Hhv9 := Lib.hid hv9
      clear hv9
      go_wp2_with fail
      go_loopw [14] (fun iv wr => ∃ i : Nat, i ≤ m ∧ iv = .int .i64 (i : Int) ∧ Hid (Kn w7.heap.size w7 [] wr)) (fun iv _ => m - (intOf iv).toNat)
      case atStart => exact ⟨0, by omega, rfl, Kn.start w7⟩
      case round =>
        obtain ⟨i, hi, rfl, K⟩ := hrel
        have hbi : (0 : Int) ≤ i := by omega
        by_cases hin : i + 1 < m
        · have hil : i + 1 < ys.length := by rw [← Hhm.out]; exact hin
          obtain ⟨bk, off, hA, hcn, hbb, hcell⟩ := Hhv9.out.at_ (i := i) (by omega)
          subst hA
          have hx1 := hcell i _ (pv_get ys i (by omega))
          have hx2 := hcell (i + 1) _ (pv_get ys (i + 1) hil)
          clear hcell
          have hl1 := Hhxs.out _ (List.getElem_mem (show i < ys.length by omega))
          have hl2 := Hhxs.out _ (List.getElem_mem hil)
          obtain ⟨x1, e1⟩ : ∃ x : ByteArray, x = ⟨(ys[i]'(by omega)).toArray⟩ := ⟨_, rfl⟩
          obtain ⟨x2, e2⟩ : ∃ x : ByteArray, x = ⟨ys[i + 1].toArray⟩ := ⟨_, rfl⟩
          rw [← e1] at hx1
          rw [← e2] at hx2
          have d1 : x1.data.toList = ys[i]'(by omega) := by rw [e1]
          have d2 : x2.data.toList = ys[i + 1] := by rw [e2]
          have z1 : x1.size ≤ 300 := by rw [e1]; show (ys[i]'(by omega)).toArray.size ≤ _; simpa using hl1
          have z2 : x2.size ≤ 300 := by rw [e2]; show ys[i + 1].toArray.size ≤ _; simpa using hl2
          have hup := List.pairwise_iff_getElem.1 HhI4.out.up i (i + 1) (by omega) hil (by omega)
          have hcm := fun (wS : World) (hS : Kn w7.heap.size w7 [] wS) => pathCompare x1 x2 (by omega) (by omega) wS (HhG2.out wS (b9.trans (hS.below.mono b9.size)))
          rw [d1, d2, hup] at hcm
          have hr1 : ∀ wS, Kn w7.heap.size w7 [] wS → wS.cell? ⟨bk, off + i, none⟩ = some (.string x1) := fun wS hS => (Below.cell hS.below (p := ⟨bk, off + i, none⟩) hbb).trans hx1
          have hr2 : ∀ wS, Kn w7.heap.size w7 [] wS → wS.cell? ⟨bk, off + (i + 1), none⟩ = some (.string x2) := fun wS hS => (Below.cell hS.below (p := ⟨bk, off + (i + 1), none⟩) hbb).trans hx2
          have hb1 : (i : Int) + 1 < m := by omega
          have hb2 : (i : Int) < m := by omega
          have hwr : IntKind.i64.wrap ((i : Int) + 1) = (i : Int) + 1 := wrap_small (by omega) (by omega)
          have hb0 : (0 : Int) ≤ (i : Int) + 1 := by omega
          have Hhx1 := Lib.hid hx1
          have Hhx2 := Lib.hid hx2
          have He1 := Lib.hid e1
          have He2 := Lib.hid e2
          have Hd1 := Lib.hid d1
          have Hd2 := Lib.hid d2
          have Hhup := Lib.hid hup
          have Hhcm := Lib.hid hcm
          have Hhr1 := Lib.hid hr1
          have Hhr2 := Lib.hid hr2
          have Hhl1 := Lib.hid hl1
          have Hhl2 := Lib.hid hl2
          clear hx1 hx2 e1 e2 d1 d2 hup hcm hr1 hr2 hl1 hl2
          go_wp2_with fail
          refine wp_region_abs w7.heap.size w7 [] ((true, 0) :: (true, 1) :: (true, 2) :: (true, 3) :: (true, 4) :: (true, 5) :: (true, 6) :: (true, 7) :: (true, 8) :: (true, 9) :: (true, 10) :: []) (by kernel_rfl) (by kernel_rfl) K.out.drew ?_
          clear K
          (apply ab_pure
           · (simp only [List.getElem?_toArray, List.getElem?_cons_succ, List.getElem?_cons_zero]; rfl)
           · rfl
           · (intro wS hS; go_simp; try exact rfl)
           simp only [Act.put, List.setIfInBounds_toArray, List.set_cons_zero, List.set_cons_succ])
          (apply ab_pure
           · (simp only [List.getElem?_toArray, List.getElem?_cons_succ, List.getElem?_cons_zero]; rfl)
           · rfl
           · (intro wS hS; go_simp; try exact rfl)
           simp only [Act.put, List.setIfInBounds_toArray, List.set_cons_zero, List.set_cons_succ])
          (apply ab_pure
           · (simp only [List.getElem?_toArray, List.getElem?_cons_succ, List.getElem?_cons_zero]; rfl)
           · rfl
           · (intro wS hS; go_simp; try exact rfl)
           simp only [Act.put, List.setIfInBounds_toArray, List.set_cons_zero, List.set_cons_succ])
          (apply ab_pure
           · (simp only [List.getElem?_toArray, List.getElem?_cons_succ, List.getElem?_cons_zero]; rfl)
           · rfl
           · (intro wS hS; have hc := Hhr1.out wS hS; go_simp; try exact rfl)
           simp only [Act.put, List.setIfInBounds_toArray, List.set_cons_zero, List.set_cons_succ])
          (apply ab_pure
           · (simp only [List.getElem?_toArray, List.getElem?_cons_succ, List.getElem?_cons_zero]; rfl)
           · rfl
           · (intro wS hS; go_simp; try exact rfl)
           simp only [Act.put, List.setIfInBounds_toArray, List.set_cons_zero, List.set_cons_succ])
          (apply ab_pure
           · (simp only [List.getElem?_toArray, List.getElem?_cons_succ, List.getElem?_cons_zero]; rfl)
           · rfl
           · (intro wS hS; go_simp; try exact rfl)
           simp only [Act.put, List.setIfInBounds_toArray, List.set_cons_zero, List.set_cons_succ])
          (apply ab_pure
           · (simp only [List.getElem?_toArray, List.getElem?_cons_succ, List.getElem?_cons_zero]; rfl)
           · rfl
           · (intro wS hS; go_simp; try exact rfl)
           simp only [Act.put, List.setIfInBounds_toArray, List.set_cons_zero, List.set_cons_succ])
          (apply ab_pure
           · (simp only [List.getElem?_toArray, List.getElem?_cons_succ, List.getElem?_cons_zero]; rfl)
           · rfl
           · (intro wS hS; go_simp; try exact rfl)
           simp only [Act.put, List.setIfInBounds_toArray, List.set_cons_zero, List.set_cons_succ])
          (apply ab_pure
           · (simp only [List.getElem?_toArray, List.getElem?_cons_succ, List.getElem?_cons_zero]; rfl)
           · rfl
           · (intro wS hS; have hc := Hhr2.out wS hS; go_simp; try exact rfl)
           simp only [Act.put, List.setIfInBounds_toArray, List.set_cons_zero, List.set_cons_succ])
          (apply ab_call
           · (simp only [List.getElem?_toArray, List.getElem?_cons_succ, List.getElem?_cons_zero]; rfl)
           · rfl
           · (intro _; go_simp; first | exact ⟨rfl, rfl⟩ | exact rfl)
           · (intro wS hS; exact Hhcm.out wS hS)
           simp only [Act.put, List.setIfInBounds_toArray, List.set_cons_zero, List.set_cons_succ])
          (apply ab_pure (v := .bool false)
           · (simp only [List.getElem?_toArray, List.getElem?_cons_succ, List.getElem?_cons_zero]; rfl)
           · rfl
           · (intro wS hS; go_simp; done)
           simp only [Act.put, List.setIfInBounds_toArray, List.set_cons_zero, List.set_cons_succ])
          refine ab_end ?_
          intro wE hE
          have K2 := Lib.hid hE
          clear hE
          go_wp2_with fail
          go_roundw
          case rel => exact ⟨i + 1, by omega, by go_num, K2⟩
          case measure => simp [intOf]; omega
        · have hb1 : ¬ ((i : Int) + 1 < m) := by omega
          go_wp2_with fail
          go_ret
          exact ⟨rfl, b9.trans (K.out.below.mono b9.size)⟩
end Go.Proofs.YtidmjepfpjfkoaaDoor
