/-
  Walks: path.cut; what is handed back as a row of texts.
-/
import Derived.Test.YtidmjepfpjfkoaaDoorPaM
import Derived.Test.YtidmjepfpjfkoaaDoorShelf
import Derived.Test.YtidmjepfpjfkoaaDoorAp
import Derived.Lib.SplitLaws
import Derived.Lib.CountLaws
import Derived.Lib.CutLaws
namespace Go.Proofs.YtidmjepfpjfkoaaDoor
open Go Go.RowKit
set_option maxHeartbeats 2000000
set_option maxRecDepth 20000
set_option linter.unusedVariables false
set_option linter.unusedSimpArgs false

theorem idx47 : ∀ l : List UInt8, (Lib.index l [47] = -1 ∧ 47 ∉ l) ∨ ∃ a b, l = a ++ 47 :: b ∧ 47 ∉ a ∧ Lib.index l [47] = (a.length : Int)
  | [] => .inl ⟨rfl, by simp⟩
  | c :: l => by
    by_cases hc : c = 47
    · subst hc
      exact .inr ⟨[], l, rfl, by simp, by rw [Lib.index]; simp⟩
    · have hp : ([47] : List UInt8).isPrefixOf (c :: l) = false := by
        have : (47 == c) = false := by rw [beq_eq_false_iff_ne]; exact fun e => hc e.symm
        simp [List.isPrefixOf, this]
      rcases idx47 l with ⟨h1, h2⟩ | ⟨a, b, h1, h2, h3⟩
      · exact .inl ⟨by rw [Lib.index, hp, h1]; rfl, by
          intro h
          rcases List.mem_cons.1 h with h | h
          · exact hc h.symm
          · exact h2 h⟩
      · refine .inr ⟨c :: a, b, by rw [h1]; rfl, ?_, ?_⟩
        · intro h
          rcases List.mem_cons.1 h with h | h
          · exact hc h.symm
          · exact h2 h
        · rw [Lib.index, hp, h3]
          have : ((a.length : Int) == -1) = false := by rw [beq_eq_false_iff_ne]; omega
          rw [this]
          simp
def slashB : ByteArray := ⟨#[47]⟩
theorem split_cut : ∀ (n : Nat) (s : ByteArray), s.size ≤ n → (Lib.splitB slashB 0 (Lib.countB s slashB) s) = (Pm.cut s.data.toList).map fun l => (⟨l.toArray⟩ : ByteArray) := by
  intro n
  induction n with
  | zero =>
    intro s hs
    have hl : s.data.toList = [] := List.length_eq_zero_iff.1 (by show s.size = 0; omega)
    have hm : Lib.indexB s slashB = -1 := by show Lib.index s.data.toList [47] = -1; rw [hl]; rfl
    rw [Lib.countB_miss _ _ hm, Lib.splitB_zero, hl]
    show [s] = [_]
    have : s = ⟨#[]⟩ := by
      obtain ⟨d⟩ := s
      have : d = #[] := Array.eq_empty_of_size_eq_zero (by simpa using hl)
      rw [this]
    rw [this]
  | succ n ih =>
    intro s hs
    rcases idx47 s.data.toList with ⟨h1, h2⟩ | ⟨a, b, h1, h2, h3⟩
    · have hm : Lib.indexB s slashB = -1 := h1
      rw [Lib.countB_miss _ _ hm, Lib.splitB_zero, Pm.cut_plain _ h2]
      rfl
    · have hm : Lib.indexB s slashB = (a.length : Int) := h3
      have hsz : s.size = a.length + 1 + b.length := by show s.data.toList.length = _; rw [h1]; simp; omega
      have hd : (s.extract (a.length + slashB.size) s.size).data.toList = b := by
        show (s.extract (a.length + 1) s.size).data.toList = b
        rw [Lib.extract_data, h1, show a ++ 47 :: b = (a ++ [47]) ++ b by simp, List.drop_append_of_le_length (by simp), List.drop_of_length_le (by simp), List.nil_append]
        exact List.take_of_length_le (by omega)
      have ha : (s.extract 0 (a.length + 0)).data.toList = a := by
        rw [Lib.extract_data, h1]; simp
      rw [Lib.countB_hit _ _ _ (by decide) hm, Nat.add_comm 1, Lib.splitB_hit _ _ _ _ _ hm, ih _ (by
        show (s.extract (a.length + slashB.size) s.size).data.toList.length ≤ n
        rw [hd]; omega), hd, h1, Pm.cut_append, Pm.cut_plain a h2]
      show _ :: _ = _ :: _
      congr 1
      exact congrArg (fun l => (⟨List.toArray l⟩ : ByteArray)) ha

/-- the library's own number, whatever it is -/
def Gl (w : World) : Prop := ∃ m : Int, w.cell? ⟨0, 0, none⟩ = some (.int .i64 m)
theorem Gl.lt {w : World} (h : Gl w) : 0 < w.heap.size := by
  obtain ⟨m, h⟩ := h
  rcases Nat.eq_zero_or_pos w.heap.size with h0 | h0
  · unfold World.cell? at h
    rw [Array.getElem?_eq_none (by omega)] at h
    cases h
  · exact h0
theorem Gl.below {B : Nat} {w w' : World} (h : Gl w) (hb : Below B w w') (hB : 0 < B) : Gl w' := by
  obtain ⟨m, h⟩ := h
  refine ⟨m, ?_⟩
  rw [← h]
  unfold World.cell?
  rw [hb.block 0 hB]

/-- texts as values -/
def pv (ps : List (List UInt8)) : List Value := ps.map fun l => Value.string ⟨l.toArray⟩
def RetS (xs : List Value) (w : World) (e : Ending) (w' : World) : Prop := ∃ v n, e = .returned v ∧ RdS v n xs w'.heap.size w' ∧ Below w.heap.size w w'
theorem RdS.slice {v : Value} {n B : Nat} {xs : List Value} {w : World} (h : RdS v n xs B w) : ∃ A c, v = .slice A n c := by
  rcases h.2 with ⟨rfl, rfl⟩ | ⟨ad, c, rfl, _⟩
  · exact ⟨none, 0, rfl⟩
  · exact ⟨some ad, c, rfl⟩
theorem RdS.mono {v : Value} {n B B' : Nat} {xs : List Value} {w : World} (h : RdS v n xs B w) (hB : B ≤ B') : RdS v n xs B' w :=
  ⟨h.1, h.2.imp id fun ⟨ad, c, h1, h2, h3⟩ => ⟨ad, c, h1, h2, h3.imp id fun ⟨b, off, h4, h5, h6⟩ => ⟨b, off, h4, by omega, h6⟩⟩⟩

theorem pathCut (s : ByteArray) (hs : s.size ≤ 1000000) (w : World) (hg : Gl w) :
    Calls Tryd.prog 78 #[.string s] w fun e w' => e = .returned (.slice (some ⟨w.heap.size, 0, none⟩) (Pm.cut s.data.toList).length (Pm.cut s.data.toList).length) ∧ w' = w.alloc (.cells (pv (Pm.cut s.data.toList)).toArray 9) := by
  obtain ⟨m, hm⟩ := hg
  have h := Tryd.strings_Split s slashB m w (by omega) hm (by decide)
  have hc := split_cut s.size s (Nat.le_refl _)
  have hl : Lib.countB s slashB + 1 = (Pm.cut s.data.toList).length := by
    rw [← Lib.splitB_all slashB (by decide) 0 _ s rfl, hc, List.length_map]
  rw [hl, hc, List.map_map] at h
  obtain ⟨X, hX⟩ : ∃ X, X = pv (Pm.cut s.data.toList) := ⟨_, rfl⟩
  rw [show (Pm.cut s.data.toList).map (Value.string ∘ fun l => (⟨l.toArray⟩ : ByteArray)) = X from hX.symm] at h
  rw [← hX]
  generalize (Pm.cut s.data.toList).length = n at *
  have H := Lib.hid h
  clear h hm hc hl hX
  go_enter Tryd.func78, Tryd.ntmps78
  go_wp2_with fail
  refine H.out.mono ?_
  rintro e w' ⟨rfl, rfl⟩
  go_wp2_with fail
  go_ret
  exact ⟨rfl, rfl⟩
theorem cells_rd {w : World} {b : Nat} {e : TypeId} {xs : List Value} {c : Nat} (h : w.heap[b]? = some (.cells xs.toArray e)) (hc : xs.length ≤ c) : RdS (.slice (some ⟨b, 0, none⟩) xs.length c) xs.length xs w.heap.size w :=
  ⟨rfl, .inr ⟨_, c, rfl, hc, .inr ⟨b, 0, rfl, lt_of_block h, fun j u hj => by rw [Nat.zero_add, cell_of_row _ _ _ _ _ _ h]; simpa using hj⟩⟩⟩
end Go.Proofs.YtidmjepfpjfkoaaDoor
