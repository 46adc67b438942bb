/-
  Plain laws: the first clash is one of neighbours.
-/
import Derived.Test.YtidmjepfpjfkoaaDoorPaM
namespace Go.Proofs.YtidmjepfpjfkoaaDoor.Pm
set_option linter.unusedVariables false

theorem only_next (xs : List By) (up : xs.Pairwise (fun a b => compare a b = -1)) (i : Nat) (hi : i < xs.length)
    (h : ∀ j k (hj : j < i) (hk : k < j), within (xs[j]'(by omega)) (xs[k]'(by omega)) = false) (k : Nat) (hk : k < i)
    (hw : within xs[i] (xs[k]'(by omega)) = true) : k + 1 = i := by
  have hp := List.pairwise_iff_getElem.1 up
  refine Classical.byContradiction fun hne => ?_
  have h1 := hp k (i - 1) (by omega) (by omega) (by omega)
  have h2 := hp (i - 1) i (by omega) hi (by omega)
  have h3 := within_between h1 (by omega) hw
  rw [h (i - 1) k (by omega) (by omega)] at h3
  cases h3
end Go.Proofs.YtidmjepfpjfkoaaDoor.Pm
