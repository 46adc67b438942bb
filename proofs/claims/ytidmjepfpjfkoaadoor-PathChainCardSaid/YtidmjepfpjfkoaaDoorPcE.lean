/-
  strings.SplitSeq's iterator, at one slash.
-/
import Derived.Test.YtidmjepfpjfkoaaDoorPcD
namespace Go.Proofs.YtidmjepfpjfkoaaDoor
open Go Go.RowKit
set_option maxHeartbeats 2000000
set_option maxRecDepth 20000
set_option linter.unusedVariables false
set_option linter.unusedSimpArgs false
attribute [local go_sem] Oper.semAt_some

theorem idxB47 : ∀ l : List UInt8, (Lib.indexByte l 47 = -1 ∧ 47 ∉ l) ∨ ∃ a b, l = a ++ 47 :: b ∧ 47 ∉ a ∧ Lib.indexByte l 47 = (a.length : Int)
  | [] => .inl ⟨rfl, by simp⟩
  | c :: l => by
    by_cases hc : c = 47
    · subst hc
      exact .inr ⟨[], l, rfl, by simp, by rw [Lib.indexByte]; simp⟩
    · have hp : (c == 47) = false := by rw [beq_eq_false_iff_ne]; exact hc
      rcases idxB47 l with ⟨h1, h2⟩ | ⟨a, b, h1, h2, h3⟩
      · exact .inl ⟨by rw [Lib.indexByte, hp, h1]; rfl, by
          intro h
          rcases List.mem_cons.1 h with h | h
          · exact hc h.symm
          · exact h2 h⟩
      · refine .inr ⟨c :: a, b, by rw [h1]; rfl, ?_, ?_⟩
        · intro h
          rcases List.mem_cons.1 h with h | h
          · exact hc h.symm
          · exact h2 h
        · rw [Lib.indexByte, hp, h3]
          have : ((a.length : Int) == -1) = false := by rw [beq_eq_false_iff_ne]; omega
          rw [this]
          simp
theorem cut_part {a b : List UInt8} (h : 47 ∉ a) : Pm.cut (a ++ 47 :: b) = a :: Pm.cut b := by
  rw [Pm.cut_append, Pm.cut_plain a h]; rfl

/-- the iterator's three boxes are kept -/
def KpS (Bs Bp Bz : Nat) (A B : World) : Prop := (∀ v, Boxed A Bs 9 v → Boxed B Bs 9 v) ∧ (∀ v, Boxed A Bp 9 v → Boxed B Bp 9 v) ∧ (∀ v, Boxed A Bz 3 v → Boxed B Bz 3 v)
theorem KpS.trans {Bs Bp Bz : Nat} {A B C : World} (h : KpS Bs Bp Bz A B) (h' : KpS Bs Bp Bz B C) : KpS Bs Bp Bz A C := ⟨fun v x => h'.1 v (h.1 v x), fun v x => h'.2.1 v (h.2.1 v x), fun v x => h'.2.2 v (h.2.2 v x)⟩

def restSize (B : Nat) (W : World) : Nat := match W.cell? ⟨B, 0, none⟩ with
  | some (.string t) => t.size
  | _ => 0

theorem splitIter (m : Nat) (hm : 1 ≤ m) (l Bs Bp Bz : Nat) (hne : Bs ≠ Bp ∧ Bs ≠ Bz) (s : ByteArray) (hs : s.size ≤ 1000000) (I Ix : List (List UInt8) → World → Prop) (Bk Bx : World → Prop)
    (hst : ∀ pre X Y row, I pre X → X.grownBy Y row → (∀ r, row = some r → r = Bs) → I pre Y) (hBk : ∀ X Y row, Bk X → X.grownBy Y row → (∀ r, row = some r → r = Bs) → Bk Y)
    (hY : ∀ pre x W1, I pre W1 → Bk W1 → (∃ r, pre ++ x :: r = Pm.cut s.data.toList) → YieldAt Fence.wide (m - 1) Tryd.prog l #[.string ⟨x.toArray⟩] W1 fun e W' =>
        (e = .returned (.bool true) ∧ (I (pre ++ [x]) W' ∧ Bk W') ∧ KpS Bs Bp Bz W1 W') ∨ (e = .returned (.bool false) ∧ Ix (pre ++ [x]) W' ∧ Bx W'))
    (W : World) (h0 : I [] W) (hk0 : Bk W) (hb1 : Boxed W Bs 9 (.string s)) (hb2 : Boxed W Bp 9 (.string slashB)) (hb3 : Boxed W Bz 3 (.int .i64 0)) :
    CallsIn Fence.wide m Tryd.prog 139 #[.func (.yield l) #[] #[], .pointer (some ⟨Bp, 0, none⟩), .pointer (some ⟨Bs, 0, none⟩), .pointer (some ⟨Bz, 0, none⟩)] W fun e W' => (∃ v, e = .returned v) ∧
      ((I (Pm.cut s.data.toList) W' ∧ Bk W') ∨ ∃ pre, Ix pre W' ∧ Bx W') := by
  refine callsIn_of_wp Tryd.func139 rfl trivial ?_ rfl
  simp only [Tryd.ntmps139, List.size_toArray, List.length_cons, List.length_nil, Nat.reduceAdd, Nat.reduceSub, Array.replicate_succ, Array.replicate_zero, List.push_toArray, List.append_toArray, List.nil_append, List.cons_append]
  have hc1 := hb1.cell
  have hc2 := hb2.cell
  have hc3 := hb3.cell
  obtain ⟨P, hP⟩ : ∃ P, P = Pm.cut s.data.toList := ⟨_, rfl⟩
  rw [← hP] at hY ⊢
  have hsl : slashB.size = 1 := rfl
  have HhY := Lib.hid hY
  have Hhst := Lib.hid hst
  have HhBk := Lib.hid hBk
  clear hY hst hBk
  gi_wp2
  gi_loopw [7] (fun _ wr => ∃ (pre : List (List UInt8)) (x : ByteArray), Hid (pre ++ Pm.cut x.data.toList = P) ∧ x.size ≤ s.size ∧ Boxed wr Bs 9 (.string x) ∧ Boxed wr Bp 9 (.string slashB) ∧ Boxed wr Bz 3 (.int .i64 0) ∧ Hid (I pre wr) ∧ Hid (Bk wr)) (fun _ wr => restSize Bs wr)
  case atStart => exact ⟨[], s, by show [] ++ _ = _; rw [hP]; rfl, Nat.le_refl _, hb1, hb2, hb3, h0, hk0⟩
  case round =>
    obtain ⟨pre, x, HP, hx, hd1, hd2, hd3, HI, HK⟩ := hrel
    have hc1 := hd1.cell
    have hc2 := hd2.cell
    have hc3 := hd3.cell
    have hidx : Calls Tryd.prog 107 #[.string x, .string slashB] wr fun e w' => e = .returned (.int .i64 (Lib.indexByte x.data.toList 47)) ∧ w' = wr := Tryd.strings_Index_one x 47 wr
    rcases idxB47 x.data.toList with ⟨h1, h2⟩ | ⟨a, b, h1, h2, h3⟩
    · rw [h1] at hidx
      have hcut : pre ++ [x.data.toList] = P := by rw [← HP.out, Pm.cut_plain _ h2]
      obtain ⟨fn, tmps, assign, body, hy, hR⟩ := HhY.out pre x.data.toList wr HI.out HK.out ⟨[], hcut⟩
      rw [show (⟨x.data.toList.toArray⟩ : ByteArray) = x by simp] at hy
      have Hhidx := Lib.hid hidx
      have Hhcut := Lib.hid hcut
      clear hidx hcut
      clear h1 h2
      gi_wp2_with (refine ⟨trivial, ?_⟩; gi_at_call 107; refine (callsIn_wide.2 Hhidx.out).mono ?_; rintro e w2 ⟨rfl, rfl⟩)
      refine hR.mono ?_
      rintro e W3 (⟨rfl, ⟨hI3, hK3⟩, _⟩ | ⟨rfl, hX, hBx⟩)
      · rw [Hhcut.out] at hI3
        gi_wp2
        go_end0
        exact ⟨⟨_, rfl⟩, .inl ⟨hI3, hK3⟩⟩
      · gi_wp2
        go_end0
        exact ⟨⟨_, rfl⟩, .inr ⟨_, hX, hBx⟩⟩
    · rw [h3] at hidx
      have hal : a.length + 1 + b.length = x.size := by
        have h : x.data.toList.length = x.size := rfl
        rw [h1] at h; simp at h; omega
      clear h3
      have hx1 : x.extract 0 a.length = ⟨a.toArray⟩ := by
        have this : (x.extract 0 a.length).data.toList = a := by rw [Lib.extract_data, h1]; simp
        exact congrArg (fun l => (⟨List.toArray l⟩ : ByteArray)) this
      have hx2 : (x.extract (a.length + 1) x.size).data.toList = b := by
        rw [Lib.extract_data, h1, ← hal]
        rw [show a ++ 47 :: b = (a ++ [47]) ++ b by simp, List.take_of_length_le (by simp), List.drop_left' (by simp)]
      have hcut : pre ++ [a] ++ Pm.cut b = P := by rw [← HP.out, h1, cut_part h2, List.append_assoc]; rfl
      obtain ⟨fn, tmps, assign, body, hy, hR⟩ := HhY.out pre a wr HI.out HK.out ⟨Pm.cut b, by rw [← hcut]; simp⟩
      rw [← hx1] at hy
      have Hhidx := Lib.hid hidx
      have Hhcut := Lib.hid hcut
      have Hhx2 := Lib.hid hx2
      clear hidx hcut hx2
      clear h1 h2 hx1
      gi_wp2_with (refine ⟨trivial, ?_⟩; gi_at_call 107; refine (callsIn_wide.2 Hhidx.out).mono ?_; rintro e w2 ⟨rfl, rfl⟩)
      refine hR.mono ?_
      rintro e W3 (⟨rfl, ⟨hI3, hK3⟩, hkp⟩ | ⟨rfl, hX, hBx⟩)
      · have e1 := hkp.1 _ hd1
        have e2 := hkp.2.1 _ hd2
        have e3 := hkp.2.2 _ hd3
        have f1 := e1.cell
        have f2 := e2.cell
        have f4 := e1.frozen
        have g1 := grownBy_setCell' W3 Bs (.string (x.extract (a.length + 1) x.size))
        have e5 := e2.kept g1 (fun e => hne.1 (Option.some.inj e).symm)
        have e6 := e3.kept g1 (fun e => hne.2 (Option.some.inj e).symm)
        have e7 := e1.set (.string (x.extract (a.length + 1) x.size))
        have hI4 := Lib.hid (Hhst.out _ _ _ _ hI3 g1 (fun r e => (Option.some.inj e).symm))
        have hK4 := Lib.hid (HhBk.out _ _ _ hK3 g1 (fun r e => (Option.some.inj e).symm))
        have hsz : (x.extract (a.length + 1) x.size).size = b.length := by rw [← Hhx2.out]; rfl
        have hm1 : restSize Bs (W3.setCell ⟨Bs, 0, none⟩ (.string (x.extract (a.length + 1) x.size))) = b.length := by
          unfold restSize; rw [e7.cell]; exact hsz
        have hm2 : restSize Bs w2 = x.size := by unfold restSize; rw [hc1]
        clear hI3 hK3 g1
        gi_wp2
        go_roundw
        case rel => exact ⟨pre ++ [a], _, by rw [Hhx2.out]; exact Hhcut.out, by omega, e7, e5, e6, hI4, hK4⟩
        case measure => rw [hm1, hm2]; omega
      · gi_wp2
        refine bodyPost_ret (results_none rfl _ _ _) rfl ?_
        exact ⟨⟨_, rfl⟩, .inr ⟨_, hX, hBx⟩⟩

theorem splitSeq (s : ByteArray) (w : World) :
    Calls Tryd.prog 84 #[.string s, .string slashB] w fun e w' =>
      e = .returned (.func (.func 139) #[] #[.pointer (some ⟨w.heap.size + 1, 0, none⟩), .pointer (some ⟨w.heap.size, 0, none⟩), .pointer (some ⟨w.heap.size + 2, 0, none⟩)]) ∧
        w' = ((w.alloc (.cells #[.string s] 9)).alloc (.cells #[.string slashB] 9)).alloc (.cells #[.int .i64 0] 3) := by
  have h1 : Calls Tryd.prog 110 #[.string s, .string slashB, .int .i64 0] w fun e w' =>
      e = .returned (.func (.func 139) #[] #[.pointer (some ⟨w.heap.size + 1, 0, none⟩), .pointer (some ⟨w.heap.size, 0, none⟩), .pointer (some ⟨w.heap.size + 2, 0, none⟩)]) ∧
        w' = ((w.alloc (.cells #[.string s] 9)).alloc (.cells #[.string slashB] 9)).alloc (.cells #[.int .i64 0] 3) := by
    go_enter Tryd.func110, Tryd.ntmps110
    go_wp2_with fail
    go_ret
    exact ⟨rfl, rfl⟩
  have Hh1 := Lib.hid h1
  clear h1
  go_enter Tryd.func84, Tryd.ntmps84
  go_wp2_with fail
  refine Hh1.out.mono ?_
  rintro e w2 ⟨rfl, rfl⟩
  go_wp2_with fail
  go_ret
  exact ⟨rfl, rfl⟩
end Go.Proofs.YtidmjepfpjfkoaaDoor
