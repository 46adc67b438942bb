/-
  Walks: path.Join.
-/
import Derived.Test.YtidmjepfpjfkoaaDoorPaW
import Derived.Lib.IndexAny
namespace Go.Proofs.YtidmjepfpjfkoaaDoor
open Go Go.RowKit
set_option maxHeartbeats 2000000
set_option maxRecDepth 20000
set_option linter.unusedVariables false
set_option linter.unusedSimpArgs false

theorem lib_join : ∀ ps : List (List UInt8), Lib.join ps [47] = Pm.joinS ps
  | [] => rfl
  | [x] => Lib.join_one x [47]
  | x :: y :: r => by
    have h := lib_join (y :: r)
    rw [Lib.join_cons] at h ⊢
    rw [Pm.joinS, ← h]
    simp [Lib.joinTail]
theorem has_slash (s : ByteArray) (w : World) :
    Calls Tryd.prog 82 #[.string s, .string slashB] w fun e w' => e = .returned (.bool (s.data.toList.contains 47)) ∧ w' = w := by
  have h := Tryd.strings_Contains_one s 47 w
  rw [← Lib.contains_iff_indexByte] at h
  exact h
theorem rowJoin (ps : List (List UInt8)) (hj : (Pm.joinS ps).length ≤ 100000) (hlen : ps.length ≤ 1000000) (A : Option Addr) (c : Nat) (w : World)
    (hrd : RdS (.slice A ps.length c) ps.length (pv ps) w.heap.size w) :
    Calls Tryd.prog 83 #[.slice A ps.length c, .string slashB] w fun e w' => e = .returned (.string ⟨(Pm.joinS ps).toArray⟩) ∧ Below w.heap.size w w' := by
  rcases Nat.eq_zero_or_pos ps.length with h0 | h0
  · obtain rfl := List.length_eq_zero_iff.1 h0
    exact (Tryd.strings_Join_none A c slashB w).mono fun e w' ⟨h1, h2⟩ => ⟨h1, by rw [h2]; exact Below.refl _ _⟩
  · obtain ⟨b, off, hA, hcn, hbb, hcell⟩ := hrd.at_ h0
    subst hA
    have hm : (ps.map fun l => (⟨l.toArray⟩ : ByteArray)).map (·.data.toList) = ps := by
      rw [List.map_map]; exact (List.map_congr_left (fun l _ => rfl)).trans (List.map_id ps)
    have h := Tryd.strings_Join b off c (ps.map fun l => (⟨l.toArray⟩ : ByteArray)) slashB w (fun j x hx => by
      rw [List.getElem?_map] at hx
      refine hcell j _ ?_
      unfold pv
      rw [List.getElem?_map]
      cases hp : ps[j]? with
      | none => rw [hp] at hx; cases hx
      | some l => rw [hp] at hx; simp only [Option.map_some, Option.some.injEq] at hx ⊢; rw [hx]) hbb (by rw [List.length_map]; omega) (by rw [List.length_map]; omega) (by
        rw [hm, show slashB.data.toList = [47] from rfl, lib_join]; omega)
    rw [hm, show slashB.data.toList = [47] from rfl, lib_join, List.length_map] at h
    exact h

theorem pathJoin (ps : List (List UInt8)) (hj : (Pm.joinS ps).length ≤ 100000) (hlen : ps.length ≤ 1000000) (A : Option Addr) (c : Nat) (w : World) (hG : Gl w)
    (hrd : RdS (.slice A ps.length c) ps.length (pv ps) w.heap.size w) :
    Calls Tryd.prog 44 #[.slice A ps.length c] w fun e w' =>
      e = .returned (.tuple #[.string ⟨(Pm.joinP ps).toArray⟩, .int .i64 (Pm.joinE ps : Nat)]) ∧ Below w.heap.size w w' := by
  have hgl := hG.lt
  have hJ := fun w2 (h : Below w.heap.size w w2) => rowJoin ps hj hlen A c w2 ((hrd.below h).mono h.size)
  obtain ⟨J, hJJ⟩ : ∃ J : ByteArray, J = ⟨(Pm.joinS ps).toArray⟩ := ⟨_, rfl⟩
  have hJl : J.data.toList = Pm.joinS ps := by rw [hJJ]
  have hJs : J.size ≤ 100000 := by show J.data.toList.length ≤ _; rw [hJl]; exact hj
  have hR := fun w2 (h : Below w.heap.size w w2) => pathRight J hJs w2 (hG.below h hgl)
  rw [hJl] at hR
  rw [← hJJ] at hJ
  obtain ⟨r, hr⟩ : ∃ r, r = Pm.right (Pm.joinS ps) := ⟨_, rfl⟩
  rw [← hr] at hR
  obtain ⟨E, hE⟩ : ∃ E, E = Pm.joinE ps := ⟨_, rfl⟩
  obtain ⟨P, hP⟩ : ∃ P : ByteArray, P = ⟨(Pm.joinP ps).toArray⟩ := ⟨_, rfl⟩
  have hE2 : E = if ps.any (fun x => x.contains 47) then 2 else r := by rw [hE, hr]; rfl
  have hP2 : P = if E = 0 then J else ⟨#[]⟩ := by
    rw [hP, hJJ]; unfold Pm.joinP; rw [← hE]; split <;> rfl
  have hrr : r = 0 ∨ r = 2 ∨ r = 4 := hr ▸ right_three _
  rw [← hE, ← hP]
  obtain ⟨n, hn⟩ : ∃ n, n = ps.length := ⟨_, rfl⟩
  rw [← hn] at hrd hlen hJ ⊢
  clear hE hP hr hJl hJJ hJs hj
  have HhJ := Lib.hid hJ
  have HhR := Lib.hid hR
  have HhE2 := Lib.hid hE2
  have HhP2 := Lib.hid hP2
  have Hhrd := Lib.hid hrd
  have Hhn := Lib.hid hn
  have HhG := Lib.hid hG
  clear hJ hR hE2 hP2 hrd hn hG
  go_enter Tryd.func44, Tryd.ntmps44
  go_wp2_with fail
  go_loopw [10] (fun iv wr => ∃ i : Nat, i ≤ n ∧ iv = .int .i64 (i : Int) ∧ Hid (∀ j (hj : j < ps.length), j < i → ps[j].contains 47 = false) ∧ Below w.heap.size w wr) (fun iv _ => n - (intOf iv).toNat)
  case atStart => exact ⟨0, by omega, rfl, fun j _ h => absurd h (by omega), Below.refl _ _⟩
  case round =>
    obtain ⟨i, hi, rfl, HB, hb⟩ := hrel
    have hbi : (0 : Int) ≤ i := by omega
    by_cases hin : i < n
    · obtain ⟨b, off, hA, hcn, hbb, hcell⟩ := Hhrd.out.at_ hin
      have hil : i < ps.length := by rw [← Hhn.out]; exact hin
      have hx := (hb.cell (p := ⟨b, off + i, none⟩) hbb).trans (hcell i _ (pv_get ps i hil))
      have hbn : (i : Int) < n := by omega
      have hsay := has_slash ⟨ps[i].toArray⟩ wr
      obtain ⟨q, hq⟩ : ∃ q, q = ps[i].contains 47 := ⟨_, rfl⟩
      rw [show (⟨ps[i].toArray⟩ : ByteArray).data.toList = ps[i] from rfl, ← hq] at hsay
      obtain ⟨x, hxx⟩ : ∃ x : ByteArray, x = ⟨ps[i].toArray⟩ := ⟨_, rfl⟩
      rw [← hxx] at hx hsay
      subst hA
      have Hhsay := Lib.hid hsay
      have Hhq := Lib.hid hq
      have Hhxx := Lib.hid hxx
      clear hsay hq hxx
      clear hcell
      have HIL := Lib.hid hil
      go_wp2_with fail
      refine Hhsay.out.mono ?_
      rintro e w2 ⟨rfl, rfl⟩
      cases q with
      | true =>
        have ha : ps.any (fun x => x.contains 47) = true := List.any_eq_true.2 ⟨_, List.getElem_mem HIL.out, Hhq.out.symm⟩
        have he : E = 2 := by rw [HhE2.out, if_pos ha]
        have HE := Lib.hid he
        have HP : Hid (P = ⟨#[]⟩) := by show P = _; rw [HhP2.out, he]; rfl
        clear ha he
        go_wp2_with fail
        (try simp only [Exit.inBlock, Exit.then])
        refine bodyPost_ret (results_tmp2 rfl _ _ _) rfl ?_
        exact ⟨by rw [HE.out, HP.out]; rfl, hb⟩
      | false =>
        have HB2 : Hid (∀ j (hj : j < ps.length), j < i + 1 → ps[j].contains 47 = false) := fun j hj h => by
          rcases Nat.lt_or_ge j i with h3 | h3
          · exact HB.out j hj h3
          · obtain rfl : j = i := by omega
            exact Hhq.out.symm
        go_wp2_with fail
        go_roundw
        case rel => exact ⟨i + 1, by omega, by go_num, HB2, hb⟩
        case measure => simp [intOf]; omega
    · obtain rfl : i = n := by omega
      have hbn : ¬ (i : Int) < i := by omega
      have ha : ps.any (fun x => x.contains 47) = false := by
        rw [Bool.eq_false_iff]
        intro h
        obtain ⟨x, hx, h⟩ := List.any_eq_true.1 h
        obtain ⟨j, hj, rfl⟩ := List.getElem_of_mem hx
        rw [HB.out j hj (by rw [Hhn.out]; exact hj)] at h
        cases h
      have HE : Hid (E = r) := by show E = r; rw [HhE2.out, ha]; rfl
      have HJ := Lib.hid (HhJ.out wr hb)
      clear ha
      go_wp2_with fail
      refine HJ.out.mono ?_
      rintro e w2 ⟨rfl, hb2⟩
      have hb3 := hb.trans (hb2.mono hb.size)
      have HR := Lib.hid (HhR.out w2 hb3)
      clear hb2
      go_wp2_with fail
      refine HR.out.mono ?_
      rintro e w3 ⟨rfl, hb4⟩
      have hb5 := hb3.trans (hb4.mono hb3.size)
      clear hb4
      rcases hrr with hr | hr | hr
      · subst hr
        have HP : Hid (P = J) := by show P = J; rw [HhP2.out, HE.out]; rfl
        go_wp2_with fail
        (try simp only [Exit.inBlock, Exit.then])
        refine bodyPost_ret (results_tmp2 rfl _ _ _) rfl ?_
        exact ⟨by rw [HE.out, HP.out]; rfl, hb5⟩
      · subst hr
        have HP : Hid (P = ⟨#[]⟩) := by show P = _; rw [HhP2.out, HE.out]; rfl
        go_wp2_with fail
        (try simp only [Exit.inBlock, Exit.then])
        refine bodyPost_ret (results_tmp2 rfl _ _ _) rfl ?_
        exact ⟨by rw [HE.out, HP.out]; rfl, hb5⟩
      · subst hr
        have HP : Hid (P = ⟨#[]⟩) := by show P = _; rw [HhP2.out, HE.out]; rfl
        go_wp2_with fail
        (try simp only [Exit.inBlock, Exit.then])
        refine bodyPost_ret (results_tmp2 rfl _ _ _) rfl ?_
        exact ⟨by rw [HE.out, HP.out]; rfl, hb5⟩
end Go.Proofs.YtidmjepfpjfkoaaDoor
