/-
  Walk: shoalsynclaw03.PathBack.
-/
import Derived.Test.YtidmjepfpjfkoaaDoorPeA
namespace Go.Proofs.YtidmjepfpjfkoaaDoor
open Go Go.RowKit
set_option maxHeartbeats 8000000
set_option maxRecDepth 20000
set_option linter.unusedVariables false
set_option linter.unusedSimpArgs false

namespace Pm
theorem join_path {s : By} (h : right s = 0) : joinE (cut s) = 0 ∧ joinP (cut s) = s := by
  have h1 : joinE (cut s) = 0 := by
    unfold joinE
    have : (cut s).any (fun x => x.contains 47) = false := by
      rw [List.any_eq_false]
      intro x hx
      have := cut_no s x hx
      simpa using this
    rw [this, if_neg (by simp), join_cut, h]
  exact ⟨h1, by unfold joinP; rw [if_pos h1, join_cut]⟩
theorem normal_path {s : By} (h : right s = 0) : normP s = s ∧ normE s = 0 := by
  obtain ⟨h1, h2⟩ := join_path h
  unfold normP normE
  rw [norm_path h]
  exact ⟨h2, h1⟩
theorem normal_is {s : By} (h : normE s = 0) : right (normP s) = 0 := by
  unfold normE at h
  unfold normP
  cases hn : norm (cut s) [] with
  | none => rw [hn] at h; cases h
  | some l =>
    rw [hn] at h
    simp only at h ⊢
    have h2 := h
    unfold joinP
    rw [if_pos h]
    unfold joinE at h2
    split at h2
    · cases h2
    · exact h2
theorem normP_le (s : By) : (normP s).length ≤ s.length + 1 := by
  unfold normP
  cases hn : norm (cut s) [] with
  | none => simp
  | some l =>
    have h1 := weigh_norm (cut s) [] l hn
    rw [weigh_cut] at h1
    have h2 := weigh_join l
    have h0 : weigh [] = 0 := rfl
    simp only
    unfold joinP
    split
    · omega
    · simp
theorem right_parts {s : By} (h : right s = 0) : (cut s).all part = true ∧ s.length ≤ 64 ∧ (cut s).length ≤ 6 ∧ (cut s).any (fun x => decide (24 < x.length)) = false := by
  have h1 := right_all h
  unfold right at h
  rw [if_pos h1] at h
  split at h
  · cases h
  · rename_i h2
    refine ⟨h1, by omega, by omega, ?_⟩
    cases h3 : (cut s).any (fun x => decide (24 < x.length))
    · rfl
    · exact absurd (.inr (.inr h3)) h2
theorem split_last : ∀ s : By, s.contains 47 = true → ∃ a b, s = a ++ 47 :: b ∧ 47 ∉ b
  | [], h => by simp at h
  | c :: l, h => by
    cases hl : l.contains 47 with
    | true =>
      obtain ⟨a, b, e, hb⟩ := split_last l hl
      exact ⟨c :: a, b, by rw [e]; rfl, hb⟩
    | false =>
      rw [List.contains_cons, hl, Bool.or_false, beq_iff_eq] at h
      subst h
      exact ⟨[], l, rfl, by simpa using hl⟩
/-- the one that a path is within -/
theorem parent_path {s : By} (h : right s = 0) (hc : s.contains 47 = true) : right (joinS (cut s).dropLast) = 0 ∧ within s (joinS (cut s).dropLast) = true ∧ compare (joinS (cut s).dropLast) s = -1 ∧ (cut (joinS (cut s).dropLast)).length + 1 = (cut s).length := by
  obtain ⟨a, b, rfl, hb⟩ := split_last s hc
  have hcut : cut (a ++ 47 :: b) = cut a ++ [b] := by rw [cut_append, cut_plain b hb]
  obtain ⟨h1, h2, h3, h4⟩ := right_parts h
  rw [hcut] at h1 h3 h4 ⊢
  rw [List.dropLast_concat, join_cut]
  have hw : within (a ++ 47 :: b) a = true := (within_iff _ _).2 ⟨[b], by simp, hcut⟩
  refine ⟨?_, hw, within_compare hw, by simp⟩
  rw [List.all_append, Bool.and_eq_true] at h1
  rw [List.any_append, Bool.or_eq_false_iff] at h4
  unfold right
  rw [if_pos h1.1, if_neg]
  rintro (h5 | h5 | h5)
  · simp at h2; omega
  · simp at h3; omega
  · rw [h4.1] at h5; cases h5
theorem no_parent {s : By} (hc : s.contains 47 = false) : (cut s).length = 1 := by
  rw [cut_plain s (by simpa using hc)]; rfl
theorem compare_self (s : By) : compare s s = 0 := cmpL_self _
end Pm

theorem ba_list (s : ByteArray) : (⟨s.data.toList.toArray⟩ : ByteArray) = s := by simp
theorem pathBack (s : ByteArray) (w : World) (hG : Gl w) :
    Calls Tryd.prog 13 #[.string s] w fun e w' => e = .returned (.bool true) ∧ Below w.heap.size w w' := by
  have hgl := hG.lt
  have hG2 : ∀ W, Below w.heap.size w W → Gl W := fun W h => hG.below h hgl
  have c0 := awake03 w hG
  by_cases h300 : (300 : Int) < s.size
  · clear hG2
    have Hc0 := Lib.hid c0
    clear c0
    go_enter Tryd.func13, Tryd.ntmps13
    go_wp2_with fail
    refine Hc0.out.mono ?_
    rintro e w1 ⟨rfl, b1⟩
    go_wp2_with fail
    go_ret
    exact ⟨rfl, b1⟩
  have hsl : s.data.toList.length = s.size := rfl
  have cW := fun W => pathWithin s s (by omega) W
  rw [Pm.within_self] at cW
  have cC := fun W (h : Below w.heap.size w W) => pathCompare s s (by omega) (by omega) W (hG2 W h)
  rw [Pm.compare_self] at cC
  have cR := fun W (h : Below w.heap.size w W) => pathRight s (by omega) W (hG2 W h)
  have cN := fun W (h : Below w.heap.size w W) => pathNormal s (by omega) W (hG2 W h)
  have cP := fun W (h : Below w.heap.size w W) => pathParts s (by omega) W (hG2 W h)
  have cU := fun W (h : Below w.heap.size w W) => pathParent s (by omega) W (hG2 W h)
  by_cases hr : Pm.right s.data.toList = 0
  · -- a path
    have hpp : Pm.parts s.data.toList = Pm.cut s.data.toList := by unfold Pm.parts; rw [if_pos hr]
    obtain ⟨j1, j2⟩ := Pm.join_path hr
    obtain ⟨g1, g2⟩ := Pm.normal_path hr
    obtain ⟨_, _, h6, _⟩ := Pm.right_parts hr
    rw [hr] at cR
    rw [g1, g2, ba_list] at cN
    rw [hpp] at cP
    have cJ := fun (W : World) (h : Below w.heap.size w W) (A : Option Addr) (c : Nat) (hrd : RdS (.slice A (Pm.cut s.data.toList).length c) (Pm.cut s.data.toList).length (pv (Pm.cut s.data.toList)) W.heap.size W) => pathJoin (Pm.cut s.data.toList) (by rw [Pm.join_cut]; omega) (by omega) A c W (hG2 W h) hrd
    rw [j1, j2, ba_list] at cJ
    obtain ⟨n, hn⟩ : ∃ n, n = (Pm.cut s.data.toList).length := ⟨_, rfl⟩
    have cP2 : ∀ W, Below w.heap.size w W → Calls Tryd.prog 52 #[.string s] W fun e w' => ∃ A c, e = .returned (.slice A n c) ∧ RdS (.slice A n c) n (pv (Pm.cut s.data.toList)) w'.heap.size w' ∧ Below W.heap.size W w' := fun W h => (cP W h).mono fun e w' ⟨v, m, h1, h2, h3⟩ => by
      obtain ⟨A, c, rfl⟩ := h2.slice
      have : m = n := by rw [hn, ← h2.1, pv_length]
      subst this
      exact ⟨A, c, h1, h2, h3⟩
    rw [← hn] at cJ h6
    have hn6 : ¬ ((6 : Int) < n) := by omega
    have hpar : par s.data.toList = s.data.toList.contains 47 := by unfold par; rw [hr]; rfl
    rw [hpar] at cU
    have hps : parS s.data.toList = if s.data.toList.contains 47 = true then Pm.joinS (Pm.cut s.data.toList).dropLast else [] := by unfold parS; rw [hpar]
    by_cases hc : s.data.toList.contains 47 = true
    · obtain ⟨p1, p2, p3, p4⟩ := Pm.parent_path hr hc
      rw [if_pos hc] at hps
      rw [← hps] at p1 p2 p3 p4
      rw [hc] at cU
      obtain ⟨u, hu⟩ : ∃ u : ByteArray, u = ⟨(parS s.data.toList).toArray⟩ := ⟨_, rfl⟩
      have hud : u.data.toList = parS s.data.toList := by rw [hu]
      rw [← hu] at cU
      rw [← hud] at p1 p2 p3 p4
      have hus : u.size ≤ 400 := by
        obtain ⟨_, h64, _, _⟩ := Pm.right_parts p1
        show u.data.toList.length ≤ _
        omega
      have cRu := fun W (h : Below w.heap.size w W) => pathRight u (by omega) W (hG2 W h)
      rw [p1] at cRu
      have cWu := fun W => pathWithin s u (by omega) W
      rw [p2] at cWu
      have cCu := fun W (h : Below w.heap.size w W) => pathCompare u s (by omega) (by omega) W (hG2 W h)
      rw [p3] at cCu
      have cPu := fun W (h : Below w.heap.size w W) => pathParts u (by omega) W (hG2 W h)
      obtain ⟨m, hm⟩ : ∃ m, m = (Pm.cut u.data.toList).length := ⟨_, rfl⟩
      have hmn : m + 1 = n := by rw [hm, hn]; exact p4
      have cPu2 : ∀ W, Below w.heap.size w W → Calls Tryd.prog 52 #[.string u] W fun e w' => ∃ A c, e = .returned (.slice A m c) ∧ RdS (.slice A m c) m (pv (Pm.cut u.data.toList)) w'.heap.size w' ∧ Below W.heap.size W w' := fun W h => (cPu W h).mono fun e w' ⟨v, q, h1, h2, h3⟩ => by
        rw [show Pm.parts u.data.toList = Pm.cut u.data.toList by unfold Pm.parts; rw [if_pos p1]] at h2
        obtain ⟨A, c, rfl⟩ := h2.slice
        have : q = m := by rw [hm, ← h2.1, pv_length]
        subst this
        exact ⟨A, c, h1, h2, h3⟩
      have hmn2 : ((n : Int) - 1) = (m : Int) := by omega
      have Hc0 := Lib.hid c0
      have HcW := Lib.hid cW
      have HcC := Lib.hid cC
      have HcR := Lib.hid cR
      have HcN := Lib.hid cN
      have HcP2 := Lib.hid cP2
      have HcU := Lib.hid cU
      have HcJ := Lib.hid cJ
      have HhG2 := Lib.hid hG2
      have HcRu := Lib.hid cRu
      have HcWu := Lib.hid cWu
      have HcCu := Lib.hid cCu
      have HcPu2 := Lib.hid cPu2
      have Hhps := Lib.hid hps
      clear c0 cW cC cR cN cP2 cU cJ hG2 cRu cWu cCu cPu2 hps
      clear p1 p2 p3 p4 hu hud cPu hm hc
      clear hG hr hpp j1 j2 g1 g2 hsl cP hn hpar hgl h6
      go_enter Tryd.func13, Tryd.ntmps13
      go_wp2_with fail
      refine Hc0.out.mono ?_
      rintro e w1 ⟨rfl, b1⟩
      go_wp2_with fail
      refine (HcW.out _).mono ?_
      rintro e w2 ⟨rfl, rfl⟩
      go_wp2_with fail
      refine (HcC.out _ b1).mono ?_
      rintro e w11 ⟨rfl, b2⟩
      have b3 := b1.trans (b2.mono b1.size)
      clear b1 b2
      go_wp2_with fail
      refine (HcN.out _ b3).mono ?_
      rintro e w13 ⟨rfl, b4⟩
      have b5 := b3.trans (b4.mono b3.size)
      clear b3 b4
      go_wp2_with fail
      refine (HcN.out _ b5).mono ?_
      rintro e w15 ⟨rfl, b6⟩
      have b7 := b5.trans (b6.mono b5.size)
      clear b5 b6
      go_wp2_with fail
      refine (HcR.out _ b7).mono ?_
      rintro e w17 ⟨rfl, b8⟩
      have b9 := b7.trans (b8.mono b7.size)
      clear b7 b8
      go_wp2_with fail
      refine (HcR.out _ b9).mono ?_
      rintro e w19 ⟨rfl, b10⟩
      have b11 := b9.trans (b10.mono b9.size)
      clear b9 b10
      go_wp2_with fail
      refine (HcP2.out _ b11).mono ?_
      rintro e w21 ⟨A11, c11, rfl, hv11, b12⟩
      have b13 := b11.trans (b12.mono b11.size)
      clear b11 b12
      have HV11 := Lib.hid hv11
      clear hv11
      go_wp2_with fail
      refine (HcJ.out _ b13 _ _ HV11.out).mono ?_
      rintro e w23 ⟨rfl, b14⟩
      have b15 := b13.trans (b14.mono b13.size)
      clear b13 b14
      go_wp2_with fail
      refine (HcN.out _ b15).mono ?_
      rintro e w25 ⟨rfl, b16⟩
      have b17 := b15.trans (b16.mono b15.size)
      clear b15 b16
      go_wp2_with fail
      refine (HcP2.out _ b17).mono ?_
      rintro e w27 ⟨A17, c17, rfl, hv17, b18⟩
      have b19 := b17.trans (b18.mono b17.size)
      clear b17 b18
      have HV17 := Lib.hid hv17
      clear hv17
      go_wp2_with fail
      refine (HcU.out _ b19).mono ?_
      rintro e w29 ⟨rfl, b20⟩
      have b21 := b19.trans (b20.mono b19.size)
      clear b19 b20
      go_wp2_with fail
      refine (HcRu.out _ b21).mono ?_
      rintro e wa ⟨rfl, b22⟩
      have b23 := b21.trans (b22.mono b21.size)
      clear b21 b22
      go_wp2_with fail
      refine (HcWu.out _).mono ?_
      rintro e wb ⟨rfl, rfl⟩
      go_wp2_with fail
      refine (HcCu.out _ b23).mono ?_
      rintro e w33 ⟨rfl, b24⟩
      have b25 := b23.trans (b24.mono b23.size)
      clear b23 b24
      go_wp2_with fail
      refine (HcPu2.out _ b25).mono ?_
      rintro e w35 ⟨A25, c25, rfl, hv25, b26⟩
      have b27 := b25.trans (b26.mono b25.size)
      clear b25 b26
      have HV25 := Lib.hid hv25
      clear hv25
      go_wp2_with fail
      refine (HcP2.out _ b27).mono ?_
      rintro e w37 ⟨A27, c27, rfl, hv27, b28⟩
      have b29 := b27.trans (b28.mono b27.size)
      clear b27 b28
      have HV27 := Lib.hid hv27
      clear hv27
      go_wp2_with fail
      go_ret
      exact ⟨rfl, b29⟩
    · have hc2 : s.data.toList.contains 47 = false := by simpa using hc
      rw [if_neg hc] at hps
      rw [hps, hc2] at cU
      obtain rfl : n = 1 := by rw [hn]; exact Pm.no_parent hc2
      have Hc0 := Lib.hid c0
      have HcW := Lib.hid cW
      have HcC := Lib.hid cC
      have HcR := Lib.hid cR
      have HcN := Lib.hid cN
      have HcP2 := Lib.hid cP2
      have HcU := Lib.hid cU
      have HcJ := Lib.hid cJ
      have HhG2 := Lib.hid hG2
      have Hhps := Lib.hid hps
      clear c0 cW cC cR cN cP2 cU cJ hG2 hps
      clear hc hc2
      clear hG hr hpp j1 j2 g1 g2 hsl cP hn hpar hgl h6
      go_enter Tryd.func13, Tryd.ntmps13
      go_wp2_with fail
      refine Hc0.out.mono ?_
      rintro e w1 ⟨rfl, b1⟩
      go_wp2_with fail
      refine (HcW.out _).mono ?_
      rintro e w2 ⟨rfl, rfl⟩
      go_wp2_with fail
      refine (HcC.out _ b1).mono ?_
      rintro e w11 ⟨rfl, b2⟩
      have b3 := b1.trans (b2.mono b1.size)
      clear b1 b2
      go_wp2_with fail
      refine (HcN.out _ b3).mono ?_
      rintro e w13 ⟨rfl, b4⟩
      have b5 := b3.trans (b4.mono b3.size)
      clear b3 b4
      go_wp2_with fail
      refine (HcN.out _ b5).mono ?_
      rintro e w15 ⟨rfl, b6⟩
      have b7 := b5.trans (b6.mono b5.size)
      clear b5 b6
      go_wp2_with fail
      refine (HcR.out _ b7).mono ?_
      rintro e w17 ⟨rfl, b8⟩
      have b9 := b7.trans (b8.mono b7.size)
      clear b7 b8
      go_wp2_with fail
      refine (HcR.out _ b9).mono ?_
      rintro e w19 ⟨rfl, b10⟩
      have b11 := b9.trans (b10.mono b9.size)
      clear b9 b10
      go_wp2_with fail
      refine (HcP2.out _ b11).mono ?_
      rintro e w21 ⟨A11, c11, rfl, hv11, b12⟩
      have b13 := b11.trans (b12.mono b11.size)
      clear b11 b12
      have HV11 := Lib.hid hv11
      clear hv11
      go_wp2_with fail
      refine (HcJ.out _ b13 _ _ HV11.out).mono ?_
      rintro e w23 ⟨rfl, b14⟩
      have b15 := b13.trans (b14.mono b13.size)
      clear b13 b14
      go_wp2_with fail
      refine (HcN.out _ b15).mono ?_
      rintro e w25 ⟨rfl, b16⟩
      have b17 := b15.trans (b16.mono b15.size)
      clear b15 b16
      go_wp2_with fail
      refine (HcP2.out _ b17).mono ?_
      rintro e w27 ⟨A17, c17, rfl, hv17, b18⟩
      have b19 := b17.trans (b18.mono b17.size)
      clear b17 b18
      have HV17 := Lib.hid hv17
      clear hv17
      go_wp2_with fail
      refine (HcU.out _ b19).mono ?_
      rintro e w29 ⟨rfl, b20⟩
      have b21 := b19.trans (b20.mono b19.size)
      clear b19 b20
      go_wp2_with fail
      refine (HcP2.out _ b21).mono ?_
      rintro e w31 ⟨A21, c21, rfl, hv21, b22⟩
      have b23 := b21.trans (b22.mono b21.size)
      clear b21 b22
      have HV21 := Lib.hid hv21
      clear hv21
      go_wp2_with fail
      go_ret
      exact ⟨rfl, b23⟩
  · -- no path
    have hpp : Pm.parts s.data.toList = [] := by unfold Pm.parts; rw [if_neg hr]
    rw [hpp] at cP
    obtain ⟨r, hrr⟩ : ∃ r, r = Pm.right s.data.toList := ⟨_, rfl⟩
    rw [← hrr] at hr cR
    have hne : ((r : Int) != 0) = true := by rw [bne_iff_ne]; omega
    by_cases hn : Pm.normE s.data.toList = 0
    · have hnr := Pm.normal_is hn
      have hnl := Pm.normP_le s.data.toList
      rw [hn] at cN
      obtain ⟨n, hnn⟩ : ∃ n : ByteArray, n = ⟨(Pm.normP s.data.toList).toArray⟩ := ⟨_, rfl⟩
      have hnd : n.data.toList = Pm.normP s.data.toList := by rw [hnn]
      have hns : n.size ≤ 400 := by show n.data.toList.length ≤ _; rw [hnd]; omega
      rw [← hnn] at cN
      rw [← hnd] at hnr
      have cN2 := fun W (h : Below w.heap.size w W) => pathNormal n (by omega) W (hG2 W h)
      obtain ⟨g1, g2⟩ := Pm.normal_path hnr
      rw [g1, g2, ba_list] at cN2
      have cR2 := fun W (h : Below w.heap.size w W) => pathRight n (by omega) W (hG2 W h)
      rw [hnr] at cR2
      have Hc0 := Lib.hid c0
      have HcW := Lib.hid cW
      have HcC := Lib.hid cC
      have HcR := Lib.hid cR
      have HcN := Lib.hid cN
      have HcP := Lib.hid cP
      have HcU := Lib.hid cU
      have HcN2 := Lib.hid cN2
      have HcR2 := Lib.hid cR2
      have HhG2 := Lib.hid hG2
      have Hhpp := Lib.hid hpp
      clear c0 cW cC cR cN cP cU cN2 cR2 hG2 hpp
      clear hG hrr hn hnr hnl hnn hnd hsl g1 g2
      go_enter Tryd.func13, Tryd.ntmps13
      go_wp2_with fail
      refine Hc0.out.mono ?_
      rintro e w1 ⟨rfl, b1⟩
      go_wp2_with fail
      refine (HcW.out _).mono ?_
      rintro e w2 ⟨rfl, rfl⟩
      go_wp2_with fail
      refine (HcC.out _ b1).mono ?_
      rintro e w3 ⟨rfl, b2⟩
      have b3 := b1.trans (b2.mono b1.size)
      clear b1 b2
      go_wp2_with fail
      refine (HcN.out _ b3).mono ?_
      rintro e w4 ⟨rfl, b4⟩
      have b5 := b3.trans (b4.mono b3.size)
      clear b3 b4
      go_wp2_with fail
      refine (HcN2.out _ b5).mono ?_
      rintro e w5 ⟨rfl, b6⟩
      have b7 := b5.trans (b6.mono b5.size)
      clear b5 b6
      go_wp2_with fail
      refine (HcR2.out _ b7).mono ?_
      rintro e w6 ⟨rfl, b8⟩
      have b9 := b7.trans (b8.mono b7.size)
      clear b7 b8
      go_wp2_with fail
      refine (HcR.out _ b9).mono ?_
      rintro e w7 ⟨rfl, b10⟩
      have b11 := b9.trans (b10.mono b9.size)
      clear b9 b10
      go_wp2_with fail
      refine (HcP.out _ b11).mono ?_
      rintro e w8 ⟨v, m, rfl, hv, b12⟩
      have b13 := b11.trans (b12.mono b11.size)
      obtain ⟨A', c', rfl⟩ := hv.slice
      obtain rfl : m = 0 := by rw [← hv.1]; rfl
      clear b11 b12 hv
      go_wp2_with fail
      go_ret
      exact ⟨rfl, b13⟩
    · have hn2 : (((Pm.normE s.data.toList : Nat) : Int) == 0) = false := by rw [beq_eq_false_iff_ne]; omega
      generalize Pm.normE s.data.toList = en at *
      generalize (⟨(Pm.normP s.data.toList).toArray⟩ : ByteArray) = n at *
      have Hc0 := Lib.hid c0
      have HcW := Lib.hid cW
      have HcC := Lib.hid cC
      have HcR := Lib.hid cR
      have HcN := Lib.hid cN
      have HcP := Lib.hid cP
      have HcU := Lib.hid cU
      have HhG2 := Lib.hid hG2
      have Hhpp := Lib.hid hpp
      clear c0 cW cC cR cN cP cU hG2 hpp
      clear hG hrr hn hsl
      go_enter Tryd.func13, Tryd.ntmps13
      go_wp2_with fail
      refine Hc0.out.mono ?_
      rintro e w1 ⟨rfl, b1⟩
      go_wp2_with fail
      refine (HcW.out _).mono ?_
      rintro e w2 ⟨rfl, rfl⟩
      go_wp2_with fail
      refine (HcC.out _ b1).mono ?_
      rintro e w3 ⟨rfl, b2⟩
      have b3 := b1.trans (b2.mono b1.size)
      clear b1 b2
      go_wp2_with fail
      refine (HcN.out _ b3).mono ?_
      rintro e w4 ⟨rfl, b4⟩
      have b9 := b3.trans (b4.mono b3.size)
      clear b3 b4
      go_wp2_with fail
      refine (HcR.out _ b9).mono ?_
      rintro e w7 ⟨rfl, b10⟩
      have b11 := b9.trans (b10.mono b9.size)
      clear b9 b10
      go_wp2_with fail
      refine (HcP.out _ b11).mono ?_
      rintro e w8 ⟨v, m, rfl, hv, b12⟩
      have b13 := b11.trans (b12.mono b11.size)
      obtain ⟨A', c', rfl⟩ := hv.slice
      obtain rfl : m = 0 := by rw [← hv.1]; rfl
      clear b11 b12 hv
      go_wp2_with fail
      go_ret
      exact ⟨rfl, b13⟩
end Go.Proofs.YtidmjepfpjfkoaaDoor
