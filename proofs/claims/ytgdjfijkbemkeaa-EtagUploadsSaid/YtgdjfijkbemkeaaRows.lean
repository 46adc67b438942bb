/-
  No cell of these rows narrows 'for every input' (looked for: loops, veiled, ifaces, maps, wideKeys, modest, calm, conditions, laid).
  DERIVED. THE GIVEN ROWS OF THIS SEAT. 7 by the template 'for every input the law returns true; each argument reads behind the call as it read before'; 0 by the template 'total and deterministic' (their statements: YtgdjfijkbemkeaaTotals.lean).
  GIVEN WITH THE SEED: the statements are not yours to turn. If you find one false, say at which input.
  Laid BY PROGRAM, IN A SANDBOX (cutbox-rows.mjs): the forced cells as the released guide's own fill.sh prints them over the translation a47e6880527acd68… (all of the seat's roots in one cut). By AI agents, Wed Nov 11 2026. No macro, syntax, notation, axiom, sorry.
-/
import Derived.Test.YtgdjfijkbemkeaaChecked
import GoSem.Claim
import GoSem.ClaimJoined
import GoSem.ClaimMapViews
import Derived.JoinedTies
import Derived.KernelRfl
namespace Go.Proofs.Ytgdjfijkbemkeaa
/- THE CELL 'sum', in the pinned program and in every row, IS THE sha256 OF THE DUMP (.gsa) THAT YtgdjfijkbemkeaaProg.lean LOADS. Nothing in Lean hashes anything: it is a label: what it is worth is what the hold of that sum in a sandbox is worth. -/
noncomputable def Try.pinned : Pinned := { name := "ytgdjfijkbemkeaa", sum := "a47e6880527acd6834967ced935fa2d87ee91d520709ade240c41e43065fedf6", checked := Try.checked }
namespace Rows
def none {H : Type} : Left H := { results := [], args := [] }

/-- 'shoalsynclaw01.BitsTells': WHATEVER THE INPUT: true; the input reads as it did. -/
def bitsTellsSpec : ChangeSpec := { name := "bitsTells", fn := fun _ => fun
  | [d1, d2, d3] => { results := [.lit (.bool true)], args := [d1, d2, d3] }
  | _ => none }
def bitsTellsRow : OpenClaim := { program := "ytgdjfijkbemkeaa", sum := "a47e6880527acd6834967ced935fa2d87ee91d520709ade240c41e43065fedf6", func := "shoalsync/shoalsynclaw01.BitsTells", spec := "bitsTells", unfollowed := true, recurses := true, apart := false }
def BitsTellsSaid : Prop := bitsTellsRow.holds Try.pinned (OpenSpec.ofChange bitsTellsSpec)

/-- ITS FALSE NEIGHBOUR: 'it returns false'. Refute it at one input. -/
def bitsTellsWrong : ChangeSpec := { name := "bitsTells", fn := fun _ => fun
  | [d1, d2, d3] => { results := [.lit (.bool false)], args := [d1, d2, d3] }
  | _ => none }
def BitsTellsWrongFalsely : Prop := bitsTellsRow.holds Try.pinned (OpenSpec.ofChange bitsTellsWrong)

/-- 'shoalsynclaw01.BitsPuts': WHATEVER THE INPUT: true; the input reads as it did. -/
def bitsPutsSpec : ChangeSpec := { name := "bitsPuts", fn := fun _ => fun
  | [d1, d2, d3] => { results := [.lit (.bool true)], args := [d1, d2, d3] }
  | _ => none }
def bitsPutsRow : OpenClaim := { program := "ytgdjfijkbemkeaa", sum := "a47e6880527acd6834967ced935fa2d87ee91d520709ade240c41e43065fedf6", func := "shoalsync/shoalsynclaw01.BitsPuts", spec := "bitsPuts", unfollowed := true, recurses := true, apart := false }
def BitsPutsSaid : Prop := bitsPutsRow.holds Try.pinned (OpenSpec.ofChange bitsPutsSpec)

/-- ITS FALSE NEIGHBOUR: 'it returns false'. Refute it at one input. -/
def bitsPutsWrong : ChangeSpec := { name := "bitsPuts", fn := fun _ => fun
  | [d1, d2, d3] => { results := [.lit (.bool false)], args := [d1, d2, d3] }
  | _ => none }
def BitsPutsWrongFalsely : Prop := bitsPutsRow.holds Try.pinned (OpenSpec.ofChange bitsPutsWrong)

/-- 'shoalsynclaw01.BitsBack': WHATEVER THE INPUT: true; the input reads as it did. -/
def bitsBackSpec : ChangeSpec := { name := "bitsBack", fn := fun _ => fun
  | [d1, d2, d3, d4] => { results := [.lit (.bool true)], args := [d1, d2, d3, d4] }
  | _ => none }
def bitsBackRow : OpenClaim := { program := "ytgdjfijkbemkeaa", sum := "a47e6880527acd6834967ced935fa2d87ee91d520709ade240c41e43065fedf6", func := "shoalsync/shoalsynclaw01.BitsBack", spec := "bitsBack", unfollowed := true, recurses := true, apart := false }
def BitsBackSaid : Prop := bitsBackRow.holds Try.pinned (OpenSpec.ofChange bitsBackSpec)

/-- ITS FALSE NEIGHBOUR: 'it returns false'. Refute it at one input. -/
def bitsBackWrong : ChangeSpec := { name := "bitsBack", fn := fun _ => fun
  | [d1, d2, d3, d4] => { results := [.lit (.bool false)], args := [d1, d2, d3, d4] }
  | _ => none }
def BitsBackWrongFalsely : Prop := bitsBackRow.holds Try.pinned (OpenSpec.ofChange bitsBackWrong)

/-- 'shoalsynclaw02.ShaTells': WHATEVER THE INPUT: true; the input reads as it did. -/
def shaTellsSpec : ChangeSpec := { name := "shaTells", fn := fun _ => fun
  | [d1, d2] => { results := [.lit (.bool true)], args := [d1, d2] }
  | _ => none }
def shaTellsRow : OpenClaim := { program := "ytgdjfijkbemkeaa", sum := "a47e6880527acd6834967ced935fa2d87ee91d520709ade240c41e43065fedf6", func := "shoalsync/shoalsynclaw02.ShaTells", spec := "shaTells", inPlace := ["internal/abi.NoEscape", "internal/bytealg.MakeNoZero", "internal/bytealg.IndexByteString"], unfollowed := true, recurses := true, apart := false }
def ShaTellsSaid : Prop := shaTellsRow.holds Try.pinned (OpenSpec.ofChange shaTellsSpec)

/-- ITS FALSE NEIGHBOUR: 'it returns false'. Refute it at one input. -/
def shaTellsWrong : ChangeSpec := { name := "shaTells", fn := fun _ => fun
  | [d1, d2] => { results := [.lit (.bool false)], args := [d1, d2] }
  | _ => none }
def ShaTellsWrongFalsely : Prop := shaTellsRow.holds Try.pinned (OpenSpec.ofChange shaTellsWrong)

/-- 'shoalsynclaw02.ShaValues': WHATEVER THE INPUT: true; the input reads as it did. -/
def shaValuesSpec : ChangeSpec := { name := "shaValues", fn := fun _ => fun
  | [d1, d2, d3] => { results := [.lit (.bool true)], args := [d1, d2, d3] }
  | _ => none }
def shaValuesRow : OpenClaim := { program := "ytgdjfijkbemkeaa", sum := "a47e6880527acd6834967ced935fa2d87ee91d520709ade240c41e43065fedf6", func := "shoalsync/shoalsynclaw02.ShaValues", spec := "shaValues", inPlace := ["internal/abi.NoEscape", "internal/bytealg.MakeNoZero", "internal/bytealg.IndexByteString"], unfollowed := true, recurses := true, apart := false }
def ShaValuesSaid : Prop := shaValuesRow.holds Try.pinned (OpenSpec.ofChange shaValuesSpec)

/-- ITS FALSE NEIGHBOUR: 'it returns false'. Refute it at one input. -/
def shaValuesWrong : ChangeSpec := { name := "shaValues", fn := fun _ => fun
  | [d1, d2, d3] => { results := [.lit (.bool false)], args := [d1, d2, d3] }
  | _ => none }
def ShaValuesWrongFalsely : Prop := shaValuesRow.holds Try.pinned (OpenSpec.ofChange shaValuesWrong)

/-- 'shoalsynclaw05.EtagTells': WHATEVER THE INPUT: true; the input reads as it did. -/
def etagTellsSpec : ChangeSpec := { name := "etagTells", fn := fun _ => fun
  | [d1, d2, d3] => { results := [.lit (.bool true)], args := [d1, d2, d3] }
  | _ => none }
def etagTellsRow : OpenClaim := { program := "ytgdjfijkbemkeaa", sum := "a47e6880527acd6834967ced935fa2d87ee91d520709ade240c41e43065fedf6", func := "shoalsync/shoalsynclaw05.EtagTells", spec := "etagTells", inPlace := ["internal/abi.NoEscape", "internal/bytealg.MakeNoZero"], unfollowed := true, recurses := true, apart := false }
def EtagTellsSaid : Prop := etagTellsRow.holds Try.pinned (OpenSpec.ofChange etagTellsSpec)

/-- ITS FALSE NEIGHBOUR: 'it returns false'. Refute it at one input. -/
def etagTellsWrong : ChangeSpec := { name := "etagTells", fn := fun _ => fun
  | [d1, d2, d3] => { results := [.lit (.bool false)], args := [d1, d2, d3] }
  | _ => none }
def EtagTellsWrongFalsely : Prop := etagTellsRow.holds Try.pinned (OpenSpec.ofChange etagTellsWrong)

/-- 'shoalsynclaw05.EtagUploads': WHATEVER THE INPUT: true; the input reads as it did. -/
def etagUploadsSpec : ChangeSpec := { name := "etagUploads", fn := fun _ => fun
  | [d1, d2, d3] => { results := [.lit (.bool true)], args := [d1, d2, d3] }
  | _ => none }
def etagUploadsRow : OpenClaim := { program := "ytgdjfijkbemkeaa", sum := "a47e6880527acd6834967ced935fa2d87ee91d520709ade240c41e43065fedf6", func := "shoalsync/shoalsynclaw05.EtagUploads", spec := "etagUploads", inPlace := ["internal/abi.NoEscape", "internal/bytealg.MakeNoZero"], unfollowed := true, recurses := true, apart := false }
def EtagUploadsSaid : Prop := etagUploadsRow.holds Try.pinned (OpenSpec.ofChange etagUploadsSpec)

/-- ITS FALSE NEIGHBOUR: 'it returns false'. Refute it at one input. -/
def etagUploadsWrong : ChangeSpec := { name := "etagUploads", fn := fun _ => fun
  | [d1, d2, d3] => { results := [.lit (.bool false)], args := [d1, d2, d3] }
  | _ => none }
def EtagUploadsWrongFalsely : Prop := etagUploadsRow.holds Try.pinned (OpenSpec.ofChange etagUploadsWrong)

/- THE SECOND FORM. 'bulk': how many values and letters a reading holds, each counted each time it is reached (what is shared counts as often as it is met; a slice's spare places count too). A statement '..UptoSaid' is the law's where the arguments, and the package variables that the reading takes, are together of bulk at most 1048576: NARROWER than '..Said'. Prove '..Said' where nothing that the law and all that it calls make is longer than what came in: it says more and counts as full. Else prove '..UptoSaid'. A law counts once. -/
mutual
def uptoBulk {H : Type} : DataW H → Nat
  | .lit (.string bytes) => bytes.length + 1
  | .lit _ => 1
  | .nil => 1
  | .ptr d => uptoBulk d + 1
  | .slice elems spare => uptoBulkAll elems + uptoBulkAll spare + 1
  | .agg parts => uptoBulkAll parts + 1
  | .iface _ d => uptoBulk d + 1
  | .map entries => uptoBulkEntries entries + 1
  | .held _ => 1
def uptoBulkAll {H : Type} : List (DataW H) → Nat
  | [] => 0
  | d :: r => uptoBulk d + uptoBulkAll r
def uptoBulkEntries {H : Type} : List (Lit × DataW H) → Nat
  | [] => 0
  | x :: r => uptoBulkEntry x + uptoBulkEntries r
def uptoBulkEntry {H : Type} : Lit × DataW H → Nat
  | (.string bytes, d) => bytes.length + uptoBulk d + 1
  | (_, d) => uptoBulk d + 1
 end
def uptoSmall : (H : Type) → List (DataW H) → Bool := fun _ ds => decide (uptoBulkAll ds ≤ 1048576)
def OpenSpec.upto (s : _root_.Go.ChangeSpec) : _root_.Go.OpenSpec := { _root_.Go.OpenSpec.ofChange s with cond := some uptoSmall }

/-- 'shoalsynclaw01.BitsTells', WHERE WHAT IT READS IS OF BULK AT MOST 1048576: true; the input reads as it did. -/
def bitsTellsUptoRow : OpenClaim := { program := "ytgdjfijkbemkeaa", sum := "a47e6880527acd6834967ced935fa2d87ee91d520709ade240c41e43065fedf6", func := "shoalsync/shoalsynclaw01.BitsTells", spec := "bitsTells", unfollowed := true, recurses := true, apart := false, narrowed := true }
def BitsTellsUptoSaid : Prop := bitsTellsUptoRow.holds Try.pinned (OpenSpec.upto bitsTellsSpec)

/-- 'shoalsynclaw01.BitsPuts', WHERE WHAT IT READS IS OF BULK AT MOST 1048576: true; the input reads as it did. -/
def bitsPutsUptoRow : OpenClaim := { program := "ytgdjfijkbemkeaa", sum := "a47e6880527acd6834967ced935fa2d87ee91d520709ade240c41e43065fedf6", func := "shoalsync/shoalsynclaw01.BitsPuts", spec := "bitsPuts", unfollowed := true, recurses := true, apart := false, narrowed := true }
def BitsPutsUptoSaid : Prop := bitsPutsUptoRow.holds Try.pinned (OpenSpec.upto bitsPutsSpec)

/-- 'shoalsynclaw01.BitsBack', WHERE WHAT IT READS IS OF BULK AT MOST 1048576: true; the input reads as it did. -/
def bitsBackUptoRow : OpenClaim := { program := "ytgdjfijkbemkeaa", sum := "a47e6880527acd6834967ced935fa2d87ee91d520709ade240c41e43065fedf6", func := "shoalsync/shoalsynclaw01.BitsBack", spec := "bitsBack", unfollowed := true, recurses := true, apart := false, narrowed := true }
def BitsBackUptoSaid : Prop := bitsBackUptoRow.holds Try.pinned (OpenSpec.upto bitsBackSpec)

/-- 'shoalsynclaw02.ShaTells', WHERE WHAT IT READS IS OF BULK AT MOST 1048576: true; the input reads as it did. -/
def shaTellsUptoRow : OpenClaim := { program := "ytgdjfijkbemkeaa", sum := "a47e6880527acd6834967ced935fa2d87ee91d520709ade240c41e43065fedf6", func := "shoalsync/shoalsynclaw02.ShaTells", spec := "shaTells", inPlace := ["internal/abi.NoEscape", "internal/bytealg.MakeNoZero", "internal/bytealg.IndexByteString"], unfollowed := true, recurses := true, apart := false, narrowed := true }
def ShaTellsUptoSaid : Prop := shaTellsUptoRow.holds Try.pinned (OpenSpec.upto shaTellsSpec)

/-- 'shoalsynclaw02.ShaValues', WHERE WHAT IT READS IS OF BULK AT MOST 1048576: true; the input reads as it did. -/
def shaValuesUptoRow : OpenClaim := { program := "ytgdjfijkbemkeaa", sum := "a47e6880527acd6834967ced935fa2d87ee91d520709ade240c41e43065fedf6", func := "shoalsync/shoalsynclaw02.ShaValues", spec := "shaValues", inPlace := ["internal/abi.NoEscape", "internal/bytealg.MakeNoZero", "internal/bytealg.IndexByteString"], unfollowed := true, recurses := true, apart := false, narrowed := true }
def ShaValuesUptoSaid : Prop := shaValuesUptoRow.holds Try.pinned (OpenSpec.upto shaValuesSpec)

/-- 'shoalsynclaw05.EtagTells', WHERE WHAT IT READS IS OF BULK AT MOST 1048576: true; the input reads as it did. -/
def etagTellsUptoRow : OpenClaim := { program := "ytgdjfijkbemkeaa", sum := "a47e6880527acd6834967ced935fa2d87ee91d520709ade240c41e43065fedf6", func := "shoalsync/shoalsynclaw05.EtagTells", spec := "etagTells", inPlace := ["internal/abi.NoEscape", "internal/bytealg.MakeNoZero"], unfollowed := true, recurses := true, apart := false, narrowed := true }
def EtagTellsUptoSaid : Prop := etagTellsUptoRow.holds Try.pinned (OpenSpec.upto etagTellsSpec)

/-- 'shoalsynclaw05.EtagUploads', WHERE WHAT IT READS IS OF BULK AT MOST 1048576: true; the input reads as it did. -/
def etagUploadsUptoRow : OpenClaim := { program := "ytgdjfijkbemkeaa", sum := "a47e6880527acd6834967ced935fa2d87ee91d520709ade240c41e43065fedf6", func := "shoalsync/shoalsynclaw05.EtagUploads", spec := "etagUploads", inPlace := ["internal/abi.NoEscape", "internal/bytealg.MakeNoZero"], unfollowed := true, recurses := true, apart := false, narrowed := true }
def EtagUploadsUptoSaid : Prop := etagUploadsUptoRow.holds Try.pinned (OpenSpec.upto etagUploadsSpec)

end Rows
end Go.Proofs.Ytgdjfijkbemkeaa
