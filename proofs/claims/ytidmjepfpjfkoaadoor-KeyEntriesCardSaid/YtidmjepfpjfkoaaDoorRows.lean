/-
  NARROWER THAN 'FOR EVERY INPUT', by the rows' own cells (each row's printed sentence says how): DecideTells: laid · DecideMeets: laid · DecideOrder: laid · DecideLeaves: laid · KeyTells: laid · KeyFolds: laid · KeyBack: laid · KeyEntries: laid · PathTells: laid · PathOrders: laid · PathBack: laid · PathChain: laid.
  DERIVED. THE GIVEN ROWS OF THIS SEAT. 12 by the template 'for every input the law returns true; each argument reads behind the call as it read before'; 0 by the template 'total and deterministic' (their statements: YtidmjepfpjfkoaaDoorTotals.lean).
  GIVEN WITH THE SEED: the statements are not yours to turn. If you find one false, say at which input.
  Laid BY PROGRAM, IN A SANDBOX (cutbox-rows.mjs): the forced cells as the released guide's own fill.sh prints them over the translation a22783a57a88e9ad… (all of the seat's roots in one cut). By AI agents, Wed Nov 11 2026. No macro, syntax, notation, axiom, sorry.
-/
import Derived.Test.YtidmjepfpjfkoaaDoorChecked
import GoSem.PinnedTables
import GoSem.Claim
import GoSem.ClaimJoined
import GoSem.ClaimMapViews
import Derived.JoinedTies
import Derived.KernelRfl
namespace Go.Proofs.YtidmjepfpjfkoaaDoor
/- THE CELL 'sum', in the pinned program and in every row, IS THE sha256 OF THE DUMP (.gsa) THAT YtidmjepfpjfkoaaDoorProg.lean LOADS. Nothing in Lean hashes anything: it is a label: what it is worth is what the hold of that sum in a sandbox is worth. -/
noncomputable def Tryd.pinned : Pinned := { name := "ytidmjepfpjfkoaadoor", sum := "a22783a57a88e9ad613d08a9d02abbc603a028ffd7ea4d948c0ee774f3e79b51", checked := Tryd.checked }
namespace Rows
def none {H : Type} : Left H := { results := [], args := [] }

/- WHAT THE LISTED PACKAGE-LEVEL VARIABLES READ AS WHEN THE CALL BEGINS. Each datum BY PROGRAM (the guide's laid-datum.mjs) off the statement by which the dump's own 'gosem.cut.vars' lays the variable. In a bare row this is a premise. The card (YtidmjepfpjfkoaaDoorCards.lean) ties it to the program's text. -/
def laid_unicode_utf8_acceptRanges {H : Type} : DataW H := .agg [.agg [.lit (.int .u8 128), .lit (.int .u8 191)], .agg [.lit (.int .u8 160), .lit (.int .u8 191)], .agg [.lit (.int .u8 128), .lit (.int .u8 159)], .agg [.lit (.int .u8 144), .lit (.int .u8 191)], .agg [.lit (.int .u8 128), .lit (.int .u8 143)], .agg [.lit (.int .u8 0), .lit (.int .u8 0)], .agg [.lit (.int .u8 0), .lit (.int .u8 0)], .agg [.lit (.int .u8 0), .lit (.int .u8 0)], .agg [.lit (.int .u8 0), .lit (.int .u8 0)], .agg [.lit (.int .u8 0), .lit (.int .u8 0)], .agg [.lit (.int .u8 0), .lit (.int .u8 0)], .agg [.lit (.int .u8 0), .lit (.int .u8 0)], .agg [.lit (.int .u8 0), .lit (.int .u8 0)], .agg [.lit (.int .u8 0), .lit (.int .u8 0)], .agg [.lit (.int .u8 0), .lit (.int .u8 0)], .agg [.lit (.int .u8 0), .lit (.int .u8 0)]]
/-- One of Go's own tables, pinned by name: the form's constant. -/
def laid_unicode_utf8_first : DataW Unit := Go.Pinned.utf8First

/-- 'shoalsynclaw12.DecideTells': WHATEVER THE INPUT: true; the input reads as it did. -/
def decideTellsSpec : ChangeSpec := { name := "decideTells", fn := fun _ => fun
  | [d1, d2] => { results := [.lit (.bool true)], args := [d1, d2] }
  | _ => none }
def decideTellsRow : OpenClaim := { program := "ytidmjepfpjfkoaadoor", sum := "a22783a57a88e9ad613d08a9d02abbc603a028ffd7ea4d948c0ee774f3e79b51", func := "shoalsync/shoalsynclaw12.DecideTells", spec := "decideTells", inPlace := ["internal/bytealg.IndexByteString", "internal/bytealg.CountString", "internal/bytealg.IndexString"], unfollowed := true, recurses := true, named := ["unicode/utf8.first", "unicode/utf8.acceptRanges", "internal/bytealg.MaxLen"], plainKeys := false, apart := false, laid := [("unicode/utf8.acceptRanges", laid_unicode_utf8_acceptRanges), ("unicode/utf8.first", laid_unicode_utf8_first)] }
def DecideTellsSaid : Prop := decideTellsRow.holds Tryd.pinned (OpenSpec.ofChange decideTellsSpec)

/-- ITS FALSE NEIGHBOUR: 'it returns false'. Refute it at one input. -/
def decideTellsWrong : ChangeSpec := { name := "decideTells", fn := fun _ => fun
  | [d1, d2] => { results := [.lit (.bool false)], args := [d1, d2] }
  | _ => none }
def DecideTellsWrongFalsely : Prop := decideTellsRow.holds Tryd.pinned (OpenSpec.ofChange decideTellsWrong)

/-- 'shoalsynclaw12.DecideMeets': WHATEVER THE INPUT: true; the input reads as it did. -/
def decideMeetsSpec : ChangeSpec := { name := "decideMeets", fn := fun _ => fun
  | [d] => { results := [.lit (.bool true)], args := [d] }
  | _ => none }
def decideMeetsRow : OpenClaim := { program := "ytidmjepfpjfkoaadoor", sum := "a22783a57a88e9ad613d08a9d02abbc603a028ffd7ea4d948c0ee774f3e79b51", func := "shoalsync/shoalsynclaw12.DecideMeets", spec := "decideMeets", inPlace := ["internal/bytealg.IndexByteString", "internal/bytealg.CountString", "internal/bytealg.IndexString"], unfollowed := true, recurses := true, named := ["unicode/utf8.first", "unicode/utf8.acceptRanges", "internal/bytealg.MaxLen"], plainKeys := false, apart := false, laid := [("unicode/utf8.acceptRanges", laid_unicode_utf8_acceptRanges), ("unicode/utf8.first", laid_unicode_utf8_first)] }
def DecideMeetsSaid : Prop := decideMeetsRow.holds Tryd.pinned (OpenSpec.ofChange decideMeetsSpec)

/-- ITS FALSE NEIGHBOUR: 'it returns false'. Refute it at one input. -/
def decideMeetsWrong : ChangeSpec := { name := "decideMeets", fn := fun _ => fun
  | [d] => { results := [.lit (.bool false)], args := [d] }
  | _ => none }
def DecideMeetsWrongFalsely : Prop := decideMeetsRow.holds Tryd.pinned (OpenSpec.ofChange decideMeetsWrong)

/-- 'shoalsynclaw12.DecideOrder': WHATEVER THE INPUT: true; the input reads as it did. -/
def decideOrderSpec : ChangeSpec := { name := "decideOrder", fn := fun _ => fun
  | [d1, d2] => { results := [.lit (.bool true)], args := [d1, d2] }
  | _ => none }
def decideOrderRow : OpenClaim := { program := "ytidmjepfpjfkoaadoor", sum := "a22783a57a88e9ad613d08a9d02abbc603a028ffd7ea4d948c0ee774f3e79b51", func := "shoalsync/shoalsynclaw12.DecideOrder", spec := "decideOrder", inPlace := ["internal/bytealg.IndexByteString", "internal/bytealg.CountString", "internal/bytealg.IndexString"], unfollowed := true, recurses := true, named := ["unicode/utf8.first", "unicode/utf8.acceptRanges", "internal/bytealg.MaxLen"], plainKeys := false, apart := false, laid := [("unicode/utf8.acceptRanges", laid_unicode_utf8_acceptRanges), ("unicode/utf8.first", laid_unicode_utf8_first)] }
def DecideOrderSaid : Prop := decideOrderRow.holds Tryd.pinned (OpenSpec.ofChange decideOrderSpec)

/-- ITS FALSE NEIGHBOUR: 'it returns false'. Refute it at one input. -/
def decideOrderWrong : ChangeSpec := { name := "decideOrder", fn := fun _ => fun
  | [d1, d2] => { results := [.lit (.bool false)], args := [d1, d2] }
  | _ => none }
def DecideOrderWrongFalsely : Prop := decideOrderRow.holds Tryd.pinned (OpenSpec.ofChange decideOrderWrong)

/-- 'shoalsynclaw12.DecideLeaves': WHATEVER THE INPUT: true; the input reads as it did. -/
def decideLeavesSpec : ChangeSpec := { name := "decideLeaves", fn := fun _ => fun
  | [d] => { results := [.lit (.bool true)], args := [d] }
  | _ => none }
def decideLeavesRow : OpenClaim := { program := "ytidmjepfpjfkoaadoor", sum := "a22783a57a88e9ad613d08a9d02abbc603a028ffd7ea4d948c0ee774f3e79b51", func := "shoalsync/shoalsynclaw12.DecideLeaves", spec := "decideLeaves", inPlace := ["internal/bytealg.IndexByteString", "internal/bytealg.CountString", "internal/bytealg.IndexString"], unfollowed := true, recurses := true, named := ["unicode/utf8.first", "unicode/utf8.acceptRanges", "internal/bytealg.MaxLen"], plainKeys := false, apart := false, laid := [("unicode/utf8.acceptRanges", laid_unicode_utf8_acceptRanges), ("unicode/utf8.first", laid_unicode_utf8_first)] }
def DecideLeavesSaid : Prop := decideLeavesRow.holds Tryd.pinned (OpenSpec.ofChange decideLeavesSpec)

/-- ITS FALSE NEIGHBOUR: 'it returns false'. Refute it at one input. -/
def decideLeavesWrong : ChangeSpec := { name := "decideLeaves", fn := fun _ => fun
  | [d] => { results := [.lit (.bool false)], args := [d] }
  | _ => none }
def DecideLeavesWrongFalsely : Prop := decideLeavesRow.holds Tryd.pinned (OpenSpec.ofChange decideLeavesWrong)

/-- 'shoalsynclaw04.KeyTells': WHATEVER THE INPUT: true; the input reads as it did. -/
def keyTellsSpec : ChangeSpec := { name := "keyTells", fn := fun _ => fun
  | [d] => { results := [.lit (.bool true)], args := [d] }
  | _ => none }
def keyTellsRow : OpenClaim := { program := "ytidmjepfpjfkoaadoor", sum := "a22783a57a88e9ad613d08a9d02abbc603a028ffd7ea4d948c0ee774f3e79b51", func := "shoalsync/shoalsynclaw04.KeyTells", spec := "keyTells", inPlace := ["internal/bytealg.IndexByteString", "internal/bytealg.CountString", "internal/bytealg.IndexString", "internal/abi.NoEscape"], unfollowed := true, recurses := true, named := ["unicode/utf8.first", "unicode/utf8.acceptRanges", "internal/bytealg.MaxLen"], plainKeys := false, apart := false, laid := [("unicode/utf8.acceptRanges", laid_unicode_utf8_acceptRanges), ("unicode/utf8.first", laid_unicode_utf8_first)] }
def KeyTellsSaid : Prop := keyTellsRow.holds Tryd.pinned (OpenSpec.ofChange keyTellsSpec)

/-- ITS FALSE NEIGHBOUR: 'it returns false'. Refute it at one input. -/
def keyTellsWrong : ChangeSpec := { name := "keyTells", fn := fun _ => fun
  | [d] => { results := [.lit (.bool false)], args := [d] }
  | _ => none }
def KeyTellsWrongFalsely : Prop := keyTellsRow.holds Tryd.pinned (OpenSpec.ofChange keyTellsWrong)

/-- 'shoalsynclaw04.KeyFolds': WHATEVER THE INPUT: true; the input reads as it did. -/
def keyFoldsSpec : ChangeSpec := { name := "keyFolds", fn := fun _ => fun
  | [d] => { results := [.lit (.bool true)], args := [d] }
  | _ => none }
def keyFoldsRow : OpenClaim := { program := "ytidmjepfpjfkoaadoor", sum := "a22783a57a88e9ad613d08a9d02abbc603a028ffd7ea4d948c0ee774f3e79b51", func := "shoalsync/shoalsynclaw04.KeyFolds", spec := "keyFolds", inPlace := ["internal/bytealg.IndexByteString", "internal/bytealg.CountString", "internal/bytealg.IndexString", "internal/abi.NoEscape"], unfollowed := true, recurses := true, named := ["unicode/utf8.first", "unicode/utf8.acceptRanges", "internal/bytealg.MaxLen"], plainKeys := false, apart := false, laid := [("unicode/utf8.acceptRanges", laid_unicode_utf8_acceptRanges), ("unicode/utf8.first", laid_unicode_utf8_first)] }
def KeyFoldsSaid : Prop := keyFoldsRow.holds Tryd.pinned (OpenSpec.ofChange keyFoldsSpec)

/-- ITS FALSE NEIGHBOUR: 'it returns false'. Refute it at one input. -/
def keyFoldsWrong : ChangeSpec := { name := "keyFolds", fn := fun _ => fun
  | [d] => { results := [.lit (.bool false)], args := [d] }
  | _ => none }
def KeyFoldsWrongFalsely : Prop := keyFoldsRow.holds Tryd.pinned (OpenSpec.ofChange keyFoldsWrong)

/-- 'shoalsynclaw04.KeyBack': WHATEVER THE INPUT: true; the input reads as it did. -/
def keyBackSpec : ChangeSpec := { name := "keyBack", fn := fun _ => fun
  | [d1, d2] => { results := [.lit (.bool true)], args := [d1, d2] }
  | _ => none }
def keyBackRow : OpenClaim := { program := "ytidmjepfpjfkoaadoor", sum := "a22783a57a88e9ad613d08a9d02abbc603a028ffd7ea4d948c0ee774f3e79b51", func := "shoalsync/shoalsynclaw04.KeyBack", spec := "keyBack", inPlace := ["internal/bytealg.IndexByteString", "internal/bytealg.CountString", "internal/bytealg.IndexString", "internal/abi.NoEscape"], unfollowed := true, recurses := true, named := ["unicode/utf8.first", "unicode/utf8.acceptRanges", "internal/bytealg.MaxLen"], plainKeys := false, apart := false, laid := [("unicode/utf8.acceptRanges", laid_unicode_utf8_acceptRanges), ("unicode/utf8.first", laid_unicode_utf8_first)] }
def KeyBackSaid : Prop := keyBackRow.holds Tryd.pinned (OpenSpec.ofChange keyBackSpec)

/-- ITS FALSE NEIGHBOUR: 'it returns false'. Refute it at one input. -/
def keyBackWrong : ChangeSpec := { name := "keyBack", fn := fun _ => fun
  | [d1, d2] => { results := [.lit (.bool false)], args := [d1, d2] }
  | _ => none }
def KeyBackWrongFalsely : Prop := keyBackRow.holds Tryd.pinned (OpenSpec.ofChange keyBackWrong)

/-- 'shoalsynclaw04.KeyEntries': WHATEVER THE INPUT: true; the input reads as it did. -/
def keyEntriesSpec : ChangeSpec := { name := "keyEntries", fn := fun _ => fun
  | [d] => { results := [.lit (.bool true)], args := [d] }
  | _ => none }
def keyEntriesRow : OpenClaim := { program := "ytidmjepfpjfkoaadoor", sum := "a22783a57a88e9ad613d08a9d02abbc603a028ffd7ea4d948c0ee774f3e79b51", func := "shoalsync/shoalsynclaw04.KeyEntries", spec := "keyEntries", inPlace := ["internal/bytealg.IndexByteString", "internal/bytealg.CountString", "internal/bytealg.IndexString", "internal/abi.NoEscape"], unfollowed := true, recurses := true, named := ["unicode/utf8.first", "unicode/utf8.acceptRanges", "internal/bytealg.MaxLen"], plainKeys := false, apart := false, laid := [("unicode/utf8.acceptRanges", laid_unicode_utf8_acceptRanges), ("unicode/utf8.first", laid_unicode_utf8_first)] }
def KeyEntriesSaid : Prop := keyEntriesRow.holds Tryd.pinned (OpenSpec.ofChange keyEntriesSpec)

/-- ITS FALSE NEIGHBOUR: 'it returns false'. Refute it at one input. -/
def keyEntriesWrong : ChangeSpec := { name := "keyEntries", fn := fun _ => fun
  | [d] => { results := [.lit (.bool false)], args := [d] }
  | _ => none }
def KeyEntriesWrongFalsely : Prop := keyEntriesRow.holds Tryd.pinned (OpenSpec.ofChange keyEntriesWrong)

/-- 'shoalsynclaw03.PathTells': WHATEVER THE INPUT: true; the input reads as it did. -/
def pathTellsSpec : ChangeSpec := { name := "pathTells", fn := fun _ => fun
  | [d1, d2] => { results := [.lit (.bool true)], args := [d1, d2] }
  | _ => none }
def pathTellsRow : OpenClaim := { program := "ytidmjepfpjfkoaadoor", sum := "a22783a57a88e9ad613d08a9d02abbc603a028ffd7ea4d948c0ee774f3e79b51", func := "shoalsync/shoalsynclaw03.PathTells", spec := "pathTells", inPlace := ["internal/bytealg.IndexByteString", "internal/bytealg.IndexString", "internal/abi.NoEscape", "internal/bytealg.MakeNoZero", "internal/bytealg.CountString"], unfollowed := true, recurses := true, named := ["unicode/utf8.first", "unicode/utf8.acceptRanges", "internal/bytealg.MaxLen"], plainKeys := false, apart := false, laid := [("unicode/utf8.acceptRanges", laid_unicode_utf8_acceptRanges), ("unicode/utf8.first", laid_unicode_utf8_first)] }
def PathTellsSaid : Prop := pathTellsRow.holds Tryd.pinned (OpenSpec.ofChange pathTellsSpec)

/-- ITS FALSE NEIGHBOUR: 'it returns false'. Refute it at one input. -/
def pathTellsWrong : ChangeSpec := { name := "pathTells", fn := fun _ => fun
  | [d1, d2] => { results := [.lit (.bool false)], args := [d1, d2] }
  | _ => none }
def PathTellsWrongFalsely : Prop := pathTellsRow.holds Tryd.pinned (OpenSpec.ofChange pathTellsWrong)

/-- 'shoalsynclaw03.PathOrders': WHATEVER THE INPUT: true; the input reads as it did. -/
def pathOrdersSpec : ChangeSpec := { name := "pathOrders", fn := fun _ => fun
  | [d1, d2, d3] => { results := [.lit (.bool true)], args := [d1, d2, d3] }
  | _ => none }
def pathOrdersRow : OpenClaim := { program := "ytidmjepfpjfkoaadoor", sum := "a22783a57a88e9ad613d08a9d02abbc603a028ffd7ea4d948c0ee774f3e79b51", func := "shoalsync/shoalsynclaw03.PathOrders", spec := "pathOrders", inPlace := ["internal/bytealg.IndexByteString", "internal/bytealg.IndexString", "internal/abi.NoEscape", "internal/bytealg.MakeNoZero", "internal/bytealg.CountString"], unfollowed := true, recurses := true, named := ["unicode/utf8.first", "unicode/utf8.acceptRanges", "internal/bytealg.MaxLen"], plainKeys := false, apart := false, laid := [("unicode/utf8.acceptRanges", laid_unicode_utf8_acceptRanges), ("unicode/utf8.first", laid_unicode_utf8_first)] }
def PathOrdersSaid : Prop := pathOrdersRow.holds Tryd.pinned (OpenSpec.ofChange pathOrdersSpec)

/-- ITS FALSE NEIGHBOUR: 'it returns false'. Refute it at one input. -/
def pathOrdersWrong : ChangeSpec := { name := "pathOrders", fn := fun _ => fun
  | [d1, d2, d3] => { results := [.lit (.bool false)], args := [d1, d2, d3] }
  | _ => none }
def PathOrdersWrongFalsely : Prop := pathOrdersRow.holds Tryd.pinned (OpenSpec.ofChange pathOrdersWrong)

/-- 'shoalsynclaw03.PathBack': WHATEVER THE INPUT: true; the input reads as it did. -/
def pathBackSpec : ChangeSpec := { name := "pathBack", fn := fun _ => fun
  | [d] => { results := [.lit (.bool true)], args := [d] }
  | _ => none }
def pathBackRow : OpenClaim := { program := "ytidmjepfpjfkoaadoor", sum := "a22783a57a88e9ad613d08a9d02abbc603a028ffd7ea4d948c0ee774f3e79b51", func := "shoalsync/shoalsynclaw03.PathBack", spec := "pathBack", inPlace := ["internal/bytealg.IndexByteString", "internal/bytealg.IndexString", "internal/abi.NoEscape", "internal/bytealg.MakeNoZero", "internal/bytealg.CountString"], unfollowed := true, recurses := true, named := ["unicode/utf8.first", "unicode/utf8.acceptRanges", "internal/bytealg.MaxLen"], plainKeys := false, apart := false, laid := [("unicode/utf8.acceptRanges", laid_unicode_utf8_acceptRanges), ("unicode/utf8.first", laid_unicode_utf8_first)] }
def PathBackSaid : Prop := pathBackRow.holds Tryd.pinned (OpenSpec.ofChange pathBackSpec)

/-- ITS FALSE NEIGHBOUR: 'it returns false'. Refute it at one input. -/
def pathBackWrong : ChangeSpec := { name := "pathBack", fn := fun _ => fun
  | [d] => { results := [.lit (.bool false)], args := [d] }
  | _ => none }
def PathBackWrongFalsely : Prop := pathBackRow.holds Tryd.pinned (OpenSpec.ofChange pathBackWrong)

/-- 'shoalsynclaw03.PathChain': WHATEVER THE INPUT: true; the input reads as it did. -/
def pathChainSpec : ChangeSpec := { name := "pathChain", fn := fun _ => fun
  | [d1, d2, d3, d4] => { results := [.lit (.bool true)], args := [d1, d2, d3, d4] }
  | _ => none }
def pathChainRow : OpenClaim := { program := "ytidmjepfpjfkoaadoor", sum := "a22783a57a88e9ad613d08a9d02abbc603a028ffd7ea4d948c0ee774f3e79b51", func := "shoalsync/shoalsynclaw03.PathChain", spec := "pathChain", inPlace := ["internal/bytealg.IndexByteString", "internal/bytealg.IndexString", "internal/abi.NoEscape", "internal/bytealg.MakeNoZero", "internal/bytealg.CountString"], unfollowed := true, recurses := true, named := ["unicode/utf8.first", "unicode/utf8.acceptRanges", "internal/bytealg.MaxLen"], plainKeys := false, apart := false, laid := [("unicode/utf8.acceptRanges", laid_unicode_utf8_acceptRanges), ("unicode/utf8.first", laid_unicode_utf8_first)] }
def PathChainSaid : Prop := pathChainRow.holds Tryd.pinned (OpenSpec.ofChange pathChainSpec)

/-- ITS FALSE NEIGHBOUR: 'it returns false'. Refute it at one input. -/
def pathChainWrong : ChangeSpec := { name := "pathChain", fn := fun _ => fun
  | [d1, d2, d3, d4] => { results := [.lit (.bool false)], args := [d1, d2, d3, d4] }
  | _ => none }
def PathChainWrongFalsely : Prop := pathChainRow.holds Tryd.pinned (OpenSpec.ofChange pathChainWrong)

/- THE SECOND FORM. 'bulk': how many values and letters a reading holds, each counted each time it is reached (what is shared counts as often as it is met; a slice's spare places count too). A statement '..UptoSaid' is the law's where the arguments, and the package variables that the reading takes, are together of bulk at most 1048576: NARROWER than '..Said'. Prove '..Said' where nothing that the law and all that it calls make is longer than what came in: it says more and counts as full. Else prove '..UptoSaid'. A law counts once. -/
mutual
def uptoBulk {H : Type} : DataW H → Nat
  | .lit (.string bytes) => bytes.length + 1
  | .lit _ => 1
  | .nil => 1
  | .ptr d => uptoBulk d + 1
  | .slice elems spare => uptoBulkAll elems + uptoBulkAll spare + 1
  | .agg parts => uptoBulkAll parts + 1
  | .iface _ d => uptoBulk d + 1
  | .map entries => uptoBulkEntries entries + 1
  | .held _ => 1
def uptoBulkAll {H : Type} : List (DataW H) → Nat
  | [] => 0
  | d :: r => uptoBulk d + uptoBulkAll r
def uptoBulkEntries {H : Type} : List (Lit × DataW H) → Nat
  | [] => 0
  | x :: r => uptoBulkEntry x + uptoBulkEntries r
def uptoBulkEntry {H : Type} : Lit × DataW H → Nat
  | (.string bytes, d) => bytes.length + uptoBulk d + 1
  | (_, d) => uptoBulk d + 1
 end
def uptoSmall : (H : Type) → List (DataW H) → Bool := fun _ ds => decide (uptoBulkAll ds ≤ 1048576)
def OpenSpec.upto (s : _root_.Go.ChangeSpec) : _root_.Go.OpenSpec := { _root_.Go.OpenSpec.ofChange s with cond := some uptoSmall }

/-- 'shoalsynclaw12.DecideTells', WHERE WHAT IT READS IS OF BULK AT MOST 1048576: true; the input reads as it did. -/
def decideTellsUptoRow : OpenClaim := { program := "ytidmjepfpjfkoaadoor", sum := "a22783a57a88e9ad613d08a9d02abbc603a028ffd7ea4d948c0ee774f3e79b51", func := "shoalsync/shoalsynclaw12.DecideTells", spec := "decideTells", inPlace := ["internal/bytealg.IndexByteString", "internal/bytealg.CountString", "internal/bytealg.IndexString"], unfollowed := true, recurses := true, named := ["unicode/utf8.first", "unicode/utf8.acceptRanges", "internal/bytealg.MaxLen"], plainKeys := false, apart := false, laid := [("unicode/utf8.acceptRanges", laid_unicode_utf8_acceptRanges), ("unicode/utf8.first", laid_unicode_utf8_first)], narrowed := true }
def DecideTellsUptoSaid : Prop := decideTellsUptoRow.holds Tryd.pinned (OpenSpec.upto decideTellsSpec)

/-- 'shoalsynclaw12.DecideMeets', WHERE WHAT IT READS IS OF BULK AT MOST 1048576: true; the input reads as it did. -/
def decideMeetsUptoRow : OpenClaim := { program := "ytidmjepfpjfkoaadoor", sum := "a22783a57a88e9ad613d08a9d02abbc603a028ffd7ea4d948c0ee774f3e79b51", func := "shoalsync/shoalsynclaw12.DecideMeets", spec := "decideMeets", inPlace := ["internal/bytealg.IndexByteString", "internal/bytealg.CountString", "internal/bytealg.IndexString"], unfollowed := true, recurses := true, named := ["unicode/utf8.first", "unicode/utf8.acceptRanges", "internal/bytealg.MaxLen"], plainKeys := false, apart := false, laid := [("unicode/utf8.acceptRanges", laid_unicode_utf8_acceptRanges), ("unicode/utf8.first", laid_unicode_utf8_first)], narrowed := true }
def DecideMeetsUptoSaid : Prop := decideMeetsUptoRow.holds Tryd.pinned (OpenSpec.upto decideMeetsSpec)

/-- 'shoalsynclaw12.DecideOrder', WHERE WHAT IT READS IS OF BULK AT MOST 1048576: true; the input reads as it did. -/
def decideOrderUptoRow : OpenClaim := { program := "ytidmjepfpjfkoaadoor", sum := "a22783a57a88e9ad613d08a9d02abbc603a028ffd7ea4d948c0ee774f3e79b51", func := "shoalsync/shoalsynclaw12.DecideOrder", spec := "decideOrder", inPlace := ["internal/bytealg.IndexByteString", "internal/bytealg.CountString", "internal/bytealg.IndexString"], unfollowed := true, recurses := true, named := ["unicode/utf8.first", "unicode/utf8.acceptRanges", "internal/bytealg.MaxLen"], plainKeys := false, apart := false, laid := [("unicode/utf8.acceptRanges", laid_unicode_utf8_acceptRanges), ("unicode/utf8.first", laid_unicode_utf8_first)], narrowed := true }
def DecideOrderUptoSaid : Prop := decideOrderUptoRow.holds Tryd.pinned (OpenSpec.upto decideOrderSpec)

/-- 'shoalsynclaw12.DecideLeaves', WHERE WHAT IT READS IS OF BULK AT MOST 1048576: true; the input reads as it did. -/
def decideLeavesUptoRow : OpenClaim := { program := "ytidmjepfpjfkoaadoor", sum := "a22783a57a88e9ad613d08a9d02abbc603a028ffd7ea4d948c0ee774f3e79b51", func := "shoalsync/shoalsynclaw12.DecideLeaves", spec := "decideLeaves", inPlace := ["internal/bytealg.IndexByteString", "internal/bytealg.CountString", "internal/bytealg.IndexString"], unfollowed := true, recurses := true, named := ["unicode/utf8.first", "unicode/utf8.acceptRanges", "internal/bytealg.MaxLen"], plainKeys := false, apart := false, laid := [("unicode/utf8.acceptRanges", laid_unicode_utf8_acceptRanges), ("unicode/utf8.first", laid_unicode_utf8_first)], narrowed := true }
def DecideLeavesUptoSaid : Prop := decideLeavesUptoRow.holds Tryd.pinned (OpenSpec.upto decideLeavesSpec)

/-- 'shoalsynclaw04.KeyTells', WHERE WHAT IT READS IS OF BULK AT MOST 1048576: true; the input reads as it did. -/
def keyTellsUptoRow : OpenClaim := { program := "ytidmjepfpjfkoaadoor", sum := "a22783a57a88e9ad613d08a9d02abbc603a028ffd7ea4d948c0ee774f3e79b51", func := "shoalsync/shoalsynclaw04.KeyTells", spec := "keyTells", inPlace := ["internal/bytealg.IndexByteString", "internal/bytealg.CountString", "internal/bytealg.IndexString", "internal/abi.NoEscape"], unfollowed := true, recurses := true, named := ["unicode/utf8.first", "unicode/utf8.acceptRanges", "internal/bytealg.MaxLen"], plainKeys := false, apart := false, laid := [("unicode/utf8.acceptRanges", laid_unicode_utf8_acceptRanges), ("unicode/utf8.first", laid_unicode_utf8_first)], narrowed := true }
def KeyTellsUptoSaid : Prop := keyTellsUptoRow.holds Tryd.pinned (OpenSpec.upto keyTellsSpec)

/-- 'shoalsynclaw04.KeyFolds', WHERE WHAT IT READS IS OF BULK AT MOST 1048576: true; the input reads as it did. -/
def keyFoldsUptoRow : OpenClaim := { program := "ytidmjepfpjfkoaadoor", sum := "a22783a57a88e9ad613d08a9d02abbc603a028ffd7ea4d948c0ee774f3e79b51", func := "shoalsync/shoalsynclaw04.KeyFolds", spec := "keyFolds", inPlace := ["internal/bytealg.IndexByteString", "internal/bytealg.CountString", "internal/bytealg.IndexString", "internal/abi.NoEscape"], unfollowed := true, recurses := true, named := ["unicode/utf8.first", "unicode/utf8.acceptRanges", "internal/bytealg.MaxLen"], plainKeys := false, apart := false, laid := [("unicode/utf8.acceptRanges", laid_unicode_utf8_acceptRanges), ("unicode/utf8.first", laid_unicode_utf8_first)], narrowed := true }
def KeyFoldsUptoSaid : Prop := keyFoldsUptoRow.holds Tryd.pinned (OpenSpec.upto keyFoldsSpec)

/-- 'shoalsynclaw04.KeyBack', WHERE WHAT IT READS IS OF BULK AT MOST 1048576: true; the input reads as it did. -/
def keyBackUptoRow : OpenClaim := { program := "ytidmjepfpjfkoaadoor", sum := "a22783a57a88e9ad613d08a9d02abbc603a028ffd7ea4d948c0ee774f3e79b51", func := "shoalsync/shoalsynclaw04.KeyBack", spec := "keyBack", inPlace := ["internal/bytealg.IndexByteString", "internal/bytealg.CountString", "internal/bytealg.IndexString", "internal/abi.NoEscape"], unfollowed := true, recurses := true, named := ["unicode/utf8.first", "unicode/utf8.acceptRanges", "internal/bytealg.MaxLen"], plainKeys := false, apart := false, laid := [("unicode/utf8.acceptRanges", laid_unicode_utf8_acceptRanges), ("unicode/utf8.first", laid_unicode_utf8_first)], narrowed := true }
def KeyBackUptoSaid : Prop := keyBackUptoRow.holds Tryd.pinned (OpenSpec.upto keyBackSpec)

/-- 'shoalsynclaw04.KeyEntries', WHERE WHAT IT READS IS OF BULK AT MOST 1048576: true; the input reads as it did. -/
def keyEntriesUptoRow : OpenClaim := { program := "ytidmjepfpjfkoaadoor", sum := "a22783a57a88e9ad613d08a9d02abbc603a028ffd7ea4d948c0ee774f3e79b51", func := "shoalsync/shoalsynclaw04.KeyEntries", spec := "keyEntries", inPlace := ["internal/bytealg.IndexByteString", "internal/bytealg.CountString", "internal/bytealg.IndexString", "internal/abi.NoEscape"], unfollowed := true, recurses := true, named := ["unicode/utf8.first", "unicode/utf8.acceptRanges", "internal/bytealg.MaxLen"], plainKeys := false, apart := false, laid := [("unicode/utf8.acceptRanges", laid_unicode_utf8_acceptRanges), ("unicode/utf8.first", laid_unicode_utf8_first)], narrowed := true }
def KeyEntriesUptoSaid : Prop := keyEntriesUptoRow.holds Tryd.pinned (OpenSpec.upto keyEntriesSpec)

/-- 'shoalsynclaw03.PathTells', WHERE WHAT IT READS IS OF BULK AT MOST 1048576: true; the input reads as it did. -/
def pathTellsUptoRow : OpenClaim := { program := "ytidmjepfpjfkoaadoor", sum := "a22783a57a88e9ad613d08a9d02abbc603a028ffd7ea4d948c0ee774f3e79b51", func := "shoalsync/shoalsynclaw03.PathTells", spec := "pathTells", inPlace := ["internal/bytealg.IndexByteString", "internal/bytealg.IndexString", "internal/abi.NoEscape", "internal/bytealg.MakeNoZero", "internal/bytealg.CountString"], unfollowed := true, recurses := true, named := ["unicode/utf8.first", "unicode/utf8.acceptRanges", "internal/bytealg.MaxLen"], plainKeys := false, apart := false, laid := [("unicode/utf8.acceptRanges", laid_unicode_utf8_acceptRanges), ("unicode/utf8.first", laid_unicode_utf8_first)], narrowed := true }
def PathTellsUptoSaid : Prop := pathTellsUptoRow.holds Tryd.pinned (OpenSpec.upto pathTellsSpec)

/-- 'shoalsynclaw03.PathOrders', WHERE WHAT IT READS IS OF BULK AT MOST 1048576: true; the input reads as it did. -/
def pathOrdersUptoRow : OpenClaim := { program := "ytidmjepfpjfkoaadoor", sum := "a22783a57a88e9ad613d08a9d02abbc603a028ffd7ea4d948c0ee774f3e79b51", func := "shoalsync/shoalsynclaw03.PathOrders", spec := "pathOrders", inPlace := ["internal/bytealg.IndexByteString", "internal/bytealg.IndexString", "internal/abi.NoEscape", "internal/bytealg.MakeNoZero", "internal/bytealg.CountString"], unfollowed := true, recurses := true, named := ["unicode/utf8.first", "unicode/utf8.acceptRanges", "internal/bytealg.MaxLen"], plainKeys := false, apart := false, laid := [("unicode/utf8.acceptRanges", laid_unicode_utf8_acceptRanges), ("unicode/utf8.first", laid_unicode_utf8_first)], narrowed := true }
def PathOrdersUptoSaid : Prop := pathOrdersUptoRow.holds Tryd.pinned (OpenSpec.upto pathOrdersSpec)

/-- 'shoalsynclaw03.PathBack', WHERE WHAT IT READS IS OF BULK AT MOST 1048576: true; the input reads as it did. -/
def pathBackUptoRow : OpenClaim := { program := "ytidmjepfpjfkoaadoor", sum := "a22783a57a88e9ad613d08a9d02abbc603a028ffd7ea4d948c0ee774f3e79b51", func := "shoalsync/shoalsynclaw03.PathBack", spec := "pathBack", inPlace := ["internal/bytealg.IndexByteString", "internal/bytealg.IndexString", "internal/abi.NoEscape", "internal/bytealg.MakeNoZero", "internal/bytealg.CountString"], unfollowed := true, recurses := true, named := ["unicode/utf8.first", "unicode/utf8.acceptRanges", "internal/bytealg.MaxLen"], plainKeys := false, apart := false, laid := [("unicode/utf8.acceptRanges", laid_unicode_utf8_acceptRanges), ("unicode/utf8.first", laid_unicode_utf8_first)], narrowed := true }
def PathBackUptoSaid : Prop := pathBackUptoRow.holds Tryd.pinned (OpenSpec.upto pathBackSpec)

/-- 'shoalsynclaw03.PathChain', WHERE WHAT IT READS IS OF BULK AT MOST 1048576: true; the input reads as it did. -/
def pathChainUptoRow : OpenClaim := { program := "ytidmjepfpjfkoaadoor", sum := "a22783a57a88e9ad613d08a9d02abbc603a028ffd7ea4d948c0ee774f3e79b51", func := "shoalsync/shoalsynclaw03.PathChain", spec := "pathChain", inPlace := ["internal/bytealg.IndexByteString", "internal/bytealg.IndexString", "internal/abi.NoEscape", "internal/bytealg.MakeNoZero", "internal/bytealg.CountString"], unfollowed := true, recurses := true, named := ["unicode/utf8.first", "unicode/utf8.acceptRanges", "internal/bytealg.MaxLen"], plainKeys := false, apart := false, laid := [("unicode/utf8.acceptRanges", laid_unicode_utf8_acceptRanges), ("unicode/utf8.first", laid_unicode_utf8_first)], narrowed := true }
def PathChainUptoSaid : Prop := pathChainUptoRow.holds Tryd.pinned (OpenSpec.upto pathChainSpec)

end Rows
end Go.Proofs.YtidmjepfpjfkoaaDoor
