/-
  Walks: path.Parent.
-/
import Derived.Test.YtidmjepfpjfkoaaDoorPaV
import Derived.Lib.LastIndexByte
namespace Go.Proofs.YtidmjepfpjfkoaaDoor
open Go Go.RowKit
set_option maxHeartbeats 2000000
set_option maxRecDepth 20000
set_option linter.unusedVariables false
set_option linter.unusedSimpArgs false

theorem last47 (s : ByteArray) : (Lib.lastIndexByte s 47 = -1 ∧ (47 : UInt8) ∉ s.data.toList) ∨
    ∃ a b, s.data.toList = a ++ 47 :: b ∧ (47 : UInt8) ∉ b ∧ Lib.lastIndexByte s 47 = (a.length : Int) := by
  have hat : ∀ (j : Nat) (h : j < s.data.toList.length), s.data[j]! = s.data.toList[j] := by
    intro j h
    have h' : j < s.data.size := by simpa using h
    rw [getElem!_pos s.data j h']
    simp
  have h47 : ∀ u : UInt8, (u.toNat : Int) = 47 → u = 47 := fun u h => UInt8.toNat_inj.1 (by
    have : (47 : UInt8).toNat = 47 := rfl
    omega)
  rcases Lib.lastIndexByte_spec s 47 with ⟨h1, h2⟩ | ⟨i, hi, h1, h2, h3⟩
  · refine .inl ⟨h1, fun hm => ?_⟩
    obtain ⟨j, hj, he⟩ := List.getElem_of_mem hm
    exact h2 j hj (by rw [hat j hj, he]; rfl)
  · have hi' : i < s.data.toList.length := hi
    have hl : s.data.toList[i] = 47 := h47 _ (by rw [← hat i hi']; exact h2)
    refine .inr ⟨s.data.toList.take i, s.data.toList.drop (i + 1), ?_, ?_, ?_⟩
    · conv => lhs; rw [← List.take_append_drop i s.data.toList, List.drop_eq_getElem_cons hi', hl]
    · intro hm
      obtain ⟨j, hj, he⟩ := List.getElem_of_mem hm
      rw [List.getElem_drop] at he
      rw [List.length_drop] at hj
      exact h3 (i + 1 + j) (by omega) (by show _ < s.data.toList.length; omega) (by rw [hat (i + 1 + j) (by omega), he]; rfl)
    · rw [h1, List.length_take, Nat.min_eq_left (by omega)]
/-- has a parent -/
def par (p : List UInt8) : Bool := Pm.right p == 0 && p.contains 47
def parS (p : List UInt8) : List UInt8 := if par p then Pm.joinS (Pm.cut p).dropLast else []
theorem par_cut (a b : List UInt8) (hb : (47 : UInt8) ∉ b) : Pm.joinS (Pm.cut (a ++ 47 :: b)).dropLast = a := by
  rw [Pm.cut_append, Pm.cut_plain b hb, List.dropLast_concat, Pm.join_cut]

theorem right_three (p : List UInt8) : Pm.right p = 0 ∨ Pm.right p = 2 ∨ Pm.right p = 4 := by
  unfold Pm.right
  split
  · split
    · exact .inr (.inr rfl)
    · exact .inl rfl
  · exact .inr (.inl rfl)

theorem pathParent (s : ByteArray) (hs : s.size ≤ 100000) (w : World) (hG : Gl w) :
    Calls Tryd.prog 48 #[.string s] w fun e w' => e = .returned (.tuple #[.string ⟨(parS s.data.toList).toArray⟩, .bool (par s.data.toList)]) ∧ Below w.heap.size w w' := by
  have h1 := pathRight s hs w hG
  have h2 := Tryd.strings_LastIndexByte s 47 (by omega) w
  obtain ⟨P, hP⟩ : ∃ P : ByteArray, P = ⟨(parS s.data.toList).toArray⟩ := ⟨_, rfl⟩
  obtain ⟨b, hb⟩ : ∃ b, b = par s.data.toList := ⟨_, rfl⟩
  have hb2 := hb
  unfold par at hb2
  have hP2 := hP
  unfold parS at hP2
  rw [← hb] at hP2 ⊢
  rw [← hP]
  rcases last47 s with ⟨h3, h4⟩ | ⟨a, c, h3, h4, h5⟩
  · rw [h3] at h2
    have hbf : b = false := by rw [hb2]; simp [h4]
    subst hbf
    have hPf : P = ⟨#[]⟩ := by rw [hP2]; rfl
    subst hPf
    clear hb hb2 hP hP2 h3 h4 h1
    have Hh2 := Lib.hid h2
    clear h2
    go_enter Tryd.func48, Tryd.ntmps48
    go_wp2_with fail
    refine Hh2.out.mono ?_
    rintro e w2 ⟨rfl, rfl⟩
    go_wp2_with fail
    (try simp only [Exit.inBlock, Exit.then])
    refine bodyPost_ret (results_tmp2 rfl _ _ _) rfl ?_
    exact ⟨rfl, Below.refl _ _⟩
  · obtain ⟨r, hr⟩ : ∃ r, r = Pm.right s.data.toList := ⟨_, rfl⟩
    have hc : s.data.toList.contains 47 = true := by rw [h3]; simp
    rw [← hr, hc, Bool.and_true] at hb2
    rw [← hr] at h1
    rw [h3, par_cut a c h4] at hP2
    have hal : a.length < s.size := by show _ < s.data.toList.length; rw [h3]; simp
    have hex : s.extract 0 a.length = ⟨a.toArray⟩ := by
      have this : (s.extract 0 a.length).data.toList = a := by rw [Lib.extract_data, h3]; simp
      exact congrArg (fun l => (⟨List.toArray l⟩ : ByteArray)) this
    obtain ⟨i, hi⟩ : ∃ i : Nat, i = a.length := ⟨_, rfl⟩
    rw [h5, ← hi] at h2
    rw [← hi] at hex hal
    have hrr : r = 0 ∨ r = 2 ∨ r = 4 := hr ▸ right_three _
    clear hb hP h3 h4 h5 hr hc hi hG
    have Hh1 := Lib.hid h1
    have Hh2 := Lib.hid h2
    have Hhb2 := Lib.hid hb2
    have HhP2 := Lib.hid hP2
    have Hhex := Lib.hid hex
    clear h1 h2 hb2 hP2 hex
    go_enter Tryd.func48, Tryd.ntmps48
    go_wp2_with fail
    refine Hh2.out.mono ?_
    rintro e w2 ⟨rfl, rfl⟩
    have hi0 : ¬ (i : Int) < 0 := by omega
    go_wp2_with fail
    refine Hh1.out.mono ?_
    rintro e w2 ⟨rfl, hbw⟩
    rcases hrr with hr | hr | hr
    · subst hr
      have hbt : b = true := by rw [Hhb2.out]; rfl
      subst hbt
      have hP3 : P = s.extract 0 i := by rw [Hhex.out, HhP2.out]; rfl
      subst hP3
      go_wp2_with fail
      (try simp only [Exit.inBlock, Exit.then])
      refine bodyPost_ret (results_tmp2 rfl _ _ _) rfl ?_
      exact ⟨rfl, hbw⟩
    · subst hr
      have hbt : b = false := by rw [Hhb2.out]; rfl
      subst hbt
      have hP3 : P = ⟨#[]⟩ := by rw [HhP2.out]; rfl
      subst hP3
      go_wp2_with fail
      (try simp only [Exit.inBlock, Exit.then])
      refine bodyPost_ret (results_tmp2 rfl _ _ _) rfl ?_
      exact ⟨rfl, hbw⟩
    · subst hr
      have hbt : b = false := by rw [Hhb2.out]; rfl
      subst hbt
      have hP3 : P = ⟨#[]⟩ := by rw [HhP2.out]; rfl
      subst hP3
      go_wp2_with fail
      (try simp only [Exit.inBlock, Exit.then])
      refine bodyPost_ret (results_tmp2 rfl _ _ _) rfl ?_
      exact ⟨rfl, hbw⟩
end Go.Proofs.YtidmjepfpjfkoaaDoor
