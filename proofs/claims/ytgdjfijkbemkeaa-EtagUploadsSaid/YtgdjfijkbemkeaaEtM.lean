/-
  Plain laws: a content's parts; digests composed.
-/
import Derived.Test.YtgdjfijkbemkeaaShaP
import Derived.Test.YtgdjfijkbemkeaaShaD
namespace Go.Proofs.Ytgdjfijkbemkeaa.Em
open Go.RowKit
set_option linter.unusedVariables false

/-- how many parts -/
def np (n : Nat) : Nat := (n + 15) / 16
/-- a part -/
def part (l : List UInt8) (i : Nat) : List UInt8 := (l.drop (16 * i)).take 16
/-- the first so many parts -/
def partsTo (l : List UInt8) (k : Nat) : List (List UInt8) := (List.range k).map (part l)
def parts (l : List UInt8) : List (List UInt8) := partsTo l (np l.length)
theorem partsTo_succ (l : List UInt8) (k : Nat) : partsTo l (k + 1) = partsTo l k ++ [part l k] := by
  unfold partsTo; rw [List.range_succ, List.map_append]; rfl
theorem partsTo_length (l : List UInt8) (k : Nat) : (partsTo l k).length = k := by simp [partsTo]
theorem partsTo_zero (l : List UInt8) : partsTo l 0 = [] := rfl
theorem part_length (l : List UInt8) (i : Nat) : (part l i).length ≤ 16 := by unfold part; exact List.length_take_le _ _

/-- digests, composed -/
def comp (ds : List (List UInt8)) : List UInt8 := Sm.digest (ds.flatten ++ [45] ++ beput (ds.length % 65536) 2)
/-- a content's mark -/
def mark (l : List UInt8) : List UInt8 := if l.length ≤ 16 then Sm.digest l else comp ((parts l).map Sm.digest)
attribute [irreducible] partsTo
end Go.Proofs.Ytgdjfijkbemkeaa.Em
