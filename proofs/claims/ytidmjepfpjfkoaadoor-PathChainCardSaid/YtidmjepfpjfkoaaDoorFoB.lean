/-
  An argument of texts, opened in the words of the walks.
-/
import Derived.Test.YtidmjepfpjfkoaaDoorFo
import Derived.Test.YtidmjepfpjfkoaaDoorPaS
namespace Go.Proofs.YtidmjepfpjfkoaaDoor
open Go.ChangeShapes Go.WideShapes Go.ChangeAt Go.RowKit
theorem pv_of (ss : List ByteArray) : pv (ss.map (·.data.toList)) = ss.map Value.string := by
  unfold pv
  rw [List.map_map]
  apply List.map_congr_left
  intro s _
  simp
theorem open_pv {H : Type} {enc : TypeId × Value → H} {P : Program} {w : World} {t e : TypeId} (ht : P.underlying t = some (.slice e)) (he : P.underlying e = some .string) (hc : P.cellsOf e = 1)
    {v : Value} {d : DataW H} {p : List MemPlace} (hv : ∃ A n c, v = .slice A n c) (h : DataW.Trod enc P w 0 (fun _ => true) true t v d p) (hlt : ∀ x ∈ p, x.block < w.heap.size) :
    ∃ (A : Option Addr) (c : Nat) (l : List (List UInt8)), v = .slice A l.length c ∧ RdS (.slice A l.length c) l.length (pv l) w.heap.size w := by
  obtain ⟨A, n, c, ss, rfl, hr⟩ := open_rdS ht he hc hv h hlt
  have hn : (ss.map (·.data.toList)).length = n := by rw [← hr.1]; simp
  refine ⟨A, c, ss.map (·.data.toList), by rw [hn], ?_⟩
  rw [hn, pv_of]
  exact hr
end Go.Proofs.YtidmjepfpjfkoaaDoor
