/-
  NARROWER THAN 'FOR EVERY INPUT', by the rows' own cells (each row's printed sentence says how): TreeGoes: laid · TreeSums: laid · TreeChecks: laid · PathMay: laid · PathJoins: laid · PathUnder: laid · PathParts: laid · PathAbove: laid · TreeGets: laid · TreeDiffs: laid · TreePuts: laid.
  DERIVED. THE GIVEN ROWS OF THIS SEAT. 11 by the template 'for every input the law returns true; each argument reads behind the call as it read before'; 0 by the template 'total and deterministic' (their statements: YtjpaajpjajoijaaDoorTotals.lean).
  GIVEN WITH THE SEED: the statements are not yours to turn. If you find one false, say at which input.
  Laid BY PROGRAM, IN A SANDBOX (cutbox-rows.mjs): the forced cells as the released guide's own fill.sh prints them over the translation 814361069dab9862… (all of the seat's roots in one cut). By AI agents, Wed Nov 11 2026. No macro, syntax, notation, axiom, sorry.
-/
import Derived.Test.YtjpaajpjajoijaaDoorChecked
import GoSem.PinnedTables
import GoSem.Claim
import GoSem.ClaimJoined
import GoSem.ClaimMapViews
import Derived.JoinedTies
import Derived.KernelRfl
namespace Go.Proofs.YtjpaajpjajoijaaDoor
/- THE CELL 'sum', in the pinned program and in every row, IS THE sha256 OF THE DUMP (.gsa) THAT YtjpaajpjajoijaaDoorProg.lean LOADS. Nothing in Lean hashes anything: it is a label: what it is worth is what the hold of that sum in a sandbox is worth. -/
noncomputable def Tryd.pinned : Pinned := { name := "ytjpaajpjajoijaadoor", sum := "814361069dab98623eb180215e0aeae4ea228c9919389712729120a9656853ad", checked := Tryd.checked }
namespace Rows
def none {H : Type} : Left H := { results := [], args := [] }

/- WHAT THE LISTED PACKAGE-LEVEL VARIABLES READ AS WHEN THE CALL BEGINS. Each datum BY PROGRAM (the guide's laid-datum.mjs) off the statement by which the dump's own 'gosem.cut.vars' lays the variable. In a bare row this is a premise. The card (YtjpaajpjajoijaaDoorCards.lean) ties it to the program's text. -/
def laid_unicode_utf8_acceptRanges {H : Type} : DataW H := .agg [.agg [.lit (.int .u8 128), .lit (.int .u8 191)], .agg [.lit (.int .u8 160), .lit (.int .u8 191)], .agg [.lit (.int .u8 128), .lit (.int .u8 159)], .agg [.lit (.int .u8 144), .lit (.int .u8 191)], .agg [.lit (.int .u8 128), .lit (.int .u8 143)], .agg [.lit (.int .u8 0), .lit (.int .u8 0)], .agg [.lit (.int .u8 0), .lit (.int .u8 0)], .agg [.lit (.int .u8 0), .lit (.int .u8 0)], .agg [.lit (.int .u8 0), .lit (.int .u8 0)], .agg [.lit (.int .u8 0), .lit (.int .u8 0)], .agg [.lit (.int .u8 0), .lit (.int .u8 0)], .agg [.lit (.int .u8 0), .lit (.int .u8 0)], .agg [.lit (.int .u8 0), .lit (.int .u8 0)], .agg [.lit (.int .u8 0), .lit (.int .u8 0)], .agg [.lit (.int .u8 0), .lit (.int .u8 0)], .agg [.lit (.int .u8 0), .lit (.int .u8 0)]]
/-- One of Go's own tables, pinned by name: the form's constant. -/
def laid_unicode_utf8_first : DataW Unit := Go.Pinned.utf8First
def laid_math_bits_deBruijn32tab {H : Type} : DataW H := .agg [.lit (.int .u8 0), .lit (.int .u8 1), .lit (.int .u8 28), .lit (.int .u8 2), .lit (.int .u8 29), .lit (.int .u8 14), .lit (.int .u8 24), .lit (.int .u8 3), .lit (.int .u8 30), .lit (.int .u8 22), .lit (.int .u8 20), .lit (.int .u8 15), .lit (.int .u8 25), .lit (.int .u8 17), .lit (.int .u8 4), .lit (.int .u8 8), .lit (.int .u8 31), .lit (.int .u8 27), .lit (.int .u8 13), .lit (.int .u8 23), .lit (.int .u8 21), .lit (.int .u8 19), .lit (.int .u8 16), .lit (.int .u8 7), .lit (.int .u8 26), .lit (.int .u8 12), .lit (.int .u8 18), .lit (.int .u8 6), .lit (.int .u8 11), .lit (.int .u8 5), .lit (.int .u8 10), .lit (.int .u8 9)]
def laid_math_bits_deBruijn64tab {H : Type} : DataW H := .agg [.lit (.int .u8 0), .lit (.int .u8 1), .lit (.int .u8 56), .lit (.int .u8 2), .lit (.int .u8 57), .lit (.int .u8 49), .lit (.int .u8 28), .lit (.int .u8 3), .lit (.int .u8 61), .lit (.int .u8 58), .lit (.int .u8 42), .lit (.int .u8 50), .lit (.int .u8 38), .lit (.int .u8 29), .lit (.int .u8 17), .lit (.int .u8 4), .lit (.int .u8 62), .lit (.int .u8 47), .lit (.int .u8 59), .lit (.int .u8 36), .lit (.int .u8 45), .lit (.int .u8 43), .lit (.int .u8 51), .lit (.int .u8 22), .lit (.int .u8 53), .lit (.int .u8 39), .lit (.int .u8 33), .lit (.int .u8 30), .lit (.int .u8 24), .lit (.int .u8 18), .lit (.int .u8 12), .lit (.int .u8 5), .lit (.int .u8 63), .lit (.int .u8 55), .lit (.int .u8 48), .lit (.int .u8 27), .lit (.int .u8 60), .lit (.int .u8 41), .lit (.int .u8 37), .lit (.int .u8 16), .lit (.int .u8 46), .lit (.int .u8 35), .lit (.int .u8 44), .lit (.int .u8 21), .lit (.int .u8 52), .lit (.int .u8 32), .lit (.int .u8 23), .lit (.int .u8 11), .lit (.int .u8 54), .lit (.int .u8 26), .lit (.int .u8 40), .lit (.int .u8 15), .lit (.int .u8 34), .lit (.int .u8 20), .lit (.int .u8 31), .lit (.int .u8 10), .lit (.int .u8 25), .lit (.int .u8 14), .lit (.int .u8 19), .lit (.int .u8 9), .lit (.int .u8 13), .lit (.int .u8 8), .lit (.int .u8 7), .lit (.int .u8 6)]
def laid_internal_strconv_uint64pow10 {H : Type} : DataW H := .agg [.lit (.int .u64 1), .lit (.int .u64 10), .lit (.int .u64 100), .lit (.int .u64 1000), .lit (.int .u64 10000), .lit (.int .u64 100000), .lit (.int .u64 1000000), .lit (.int .u64 10000000), .lit (.int .u64 100000000), .lit (.int .u64 1000000000), .lit (.int .u64 10000000000), .lit (.int .u64 100000000000), .lit (.int .u64 1000000000000), .lit (.int .u64 10000000000000), .lit (.int .u64 100000000000000), .lit (.int .u64 1000000000000000), .lit (.int .u64 10000000000000000), .lit (.int .u64 100000000000000000), .lit (.int .u64 1000000000000000000), .lit (.int .u64 10000000000000000000)]

/-- 'bloomerylaw05.TreeGoes': WHATEVER THE INPUT: true; the input reads as it did. -/
def treeGoesSpec : ChangeSpec := { name := "treeGoes", fn := fun _ => fun
  | [d1, d2] => { results := [.lit (.bool true)], args := [d1, d2] }
  | _ => none }
def treeGoesRow : OpenClaim := { program := "ytjpaajpjajoijaadoor", sum := "814361069dab98623eb180215e0aeae4ea228c9919389712729120a9656853ad", func := "bloomery/bloomerylaw05.TreeGoes", spec := "treeGoes", inPlace := ["internal/bytealg.IndexByteString", "internal/bytealg.IndexString", "internal/bytealg.abigen_runtime_cmpstring", "slices.overlaps[bloomery/api.File]"], unfollowed := true, recurses := true, named := ["unicode/utf8.first", "unicode/utf8.acceptRanges", "internal/bytealg.MaxLen"], apart := false, laid := [("unicode/utf8.acceptRanges", laid_unicode_utf8_acceptRanges), ("unicode/utf8.first", laid_unicode_utf8_first)] }
def TreeGoesSaid : Prop := treeGoesRow.holds Tryd.pinned (OpenSpec.ofChange treeGoesSpec)

/-- ITS FALSE NEIGHBOUR: 'it returns false'. Refute it at one input. -/
def treeGoesWrong : ChangeSpec := { name := "treeGoes", fn := fun _ => fun
  | [d1, d2] => { results := [.lit (.bool false)], args := [d1, d2] }
  | _ => none }
def TreeGoesWrongFalsely : Prop := treeGoesRow.holds Tryd.pinned (OpenSpec.ofChange treeGoesWrong)

/-- 'bloomerylaw05.TreeSums': WHATEVER THE INPUT: true; the input reads as it did. -/
def treeSumsSpec : ChangeSpec := { name := "treeSums", fn := fun _ => fun
  | [d1, d2] => { results := [.lit (.bool true)], args := [d1, d2] }
  | _ => none }
def treeSumsRow : OpenClaim := { program := "ytjpaajpjajoijaadoor", sum := "814361069dab98623eb180215e0aeae4ea228c9919389712729120a9656853ad", func := "bloomery/bloomerylaw05.TreeSums", spec := "treeSums", inPlace := ["internal/bytealg.IndexByteString", "internal/bytealg.IndexString", "internal/abi.NoEscape"], unfollowed := true, recurses := true, named := ["unicode/utf8.first", "unicode/utf8.acceptRanges", "internal/bytealg.MaxLen", "internal/strconv.uint64pow10", "math/bits.deBruijn32tab", "math/bits.deBruijn64tab"], apart := false, laid := [("math/bits.deBruijn32tab", laid_math_bits_deBruijn32tab), ("math/bits.deBruijn64tab", laid_math_bits_deBruijn64tab), ("internal/strconv.uint64pow10", laid_internal_strconv_uint64pow10), ("unicode/utf8.acceptRanges", laid_unicode_utf8_acceptRanges), ("unicode/utf8.first", laid_unicode_utf8_first)] }
def TreeSumsSaid : Prop := treeSumsRow.holds Tryd.pinned (OpenSpec.ofChange treeSumsSpec)

/-- ITS FALSE NEIGHBOUR: 'it returns false'. Refute it at one input. -/
def treeSumsWrong : ChangeSpec := { name := "treeSums", fn := fun _ => fun
  | [d1, d2] => { results := [.lit (.bool false)], args := [d1, d2] }
  | _ => none }
def TreeSumsWrongFalsely : Prop := treeSumsRow.holds Tryd.pinned (OpenSpec.ofChange treeSumsWrong)

/-- 'bloomerylaw05.TreeChecks': WHATEVER THE INPUT: true; the input reads as it did. -/
def treeChecksSpec : ChangeSpec := { name := "treeChecks", fn := fun _ => fun
  | [d] => { results := [.lit (.bool true)], args := [d] }
  | _ => none }
def treeChecksRow : OpenClaim := { program := "ytjpaajpjajoijaadoor", sum := "814361069dab98623eb180215e0aeae4ea228c9919389712729120a9656853ad", func := "bloomery/bloomerylaw05.TreeChecks", spec := "treeChecks", inPlace := ["internal/bytealg.IndexByteString", "internal/bytealg.IndexString"], unfollowed := true, recurses := true, named := ["unicode/utf8.first", "unicode/utf8.acceptRanges", "internal/bytealg.MaxLen"], apart := false, laid := [("unicode/utf8.acceptRanges", laid_unicode_utf8_acceptRanges), ("unicode/utf8.first", laid_unicode_utf8_first)] }
def TreeChecksSaid : Prop := treeChecksRow.holds Tryd.pinned (OpenSpec.ofChange treeChecksSpec)

/-- ITS FALSE NEIGHBOUR: 'it returns false'. Refute it at one input. -/
def treeChecksWrong : ChangeSpec := { name := "treeChecks", fn := fun _ => fun
  | [d] => { results := [.lit (.bool false)], args := [d] }
  | _ => none }
def TreeChecksWrongFalsely : Prop := treeChecksRow.holds Tryd.pinned (OpenSpec.ofChange treeChecksWrong)

/-- 'bloomerylaw03.PathMay': WHATEVER THE INPUT: true; the input reads as it did. -/
def pathMaySpec : ChangeSpec := { name := "pathMay", fn := fun _ => fun
  | [d] => { results := [.lit (.bool true)], args := [d] }
  | _ => none }
def pathMayRow : OpenClaim := { program := "ytjpaajpjajoijaadoor", sum := "814361069dab98623eb180215e0aeae4ea228c9919389712729120a9656853ad", func := "bloomery/bloomerylaw03.PathMay", spec := "pathMay", inPlace := ["internal/bytealg.IndexByteString", "internal/bytealg.IndexString"], unfollowed := true, recurses := true, named := ["unicode/utf8.first", "unicode/utf8.acceptRanges", "internal/bytealg.MaxLen"], apart := false, laid := [("unicode/utf8.acceptRanges", laid_unicode_utf8_acceptRanges), ("unicode/utf8.first", laid_unicode_utf8_first)] }
def PathMaySaid : Prop := pathMayRow.holds Tryd.pinned (OpenSpec.ofChange pathMaySpec)

/-- ITS FALSE NEIGHBOUR: 'it returns false'. Refute it at one input. -/
def pathMayWrong : ChangeSpec := { name := "pathMay", fn := fun _ => fun
  | [d] => { results := [.lit (.bool false)], args := [d] }
  | _ => none }
def PathMayWrongFalsely : Prop := pathMayRow.holds Tryd.pinned (OpenSpec.ofChange pathMayWrong)

/-- 'bloomerylaw03.PathJoins': WHATEVER THE INPUT: true; the input reads as it did. -/
def pathJoinsSpec : ChangeSpec := { name := "pathJoins", fn := fun _ => fun
  | [d1, d2] => { results := [.lit (.bool true)], args := [d1, d2] }
  | _ => none }
def pathJoinsRow : OpenClaim := { program := "ytjpaajpjajoijaadoor", sum := "814361069dab98623eb180215e0aeae4ea228c9919389712729120a9656853ad", func := "bloomery/bloomerylaw03.PathJoins", spec := "pathJoins", inPlace := ["internal/bytealg.IndexByteString", "internal/bytealg.IndexString"], unfollowed := true, recurses := true, named := ["unicode/utf8.first", "unicode/utf8.acceptRanges", "internal/bytealg.MaxLen"], apart := false, laid := [("unicode/utf8.acceptRanges", laid_unicode_utf8_acceptRanges), ("unicode/utf8.first", laid_unicode_utf8_first)] }
def PathJoinsSaid : Prop := pathJoinsRow.holds Tryd.pinned (OpenSpec.ofChange pathJoinsSpec)

/-- ITS FALSE NEIGHBOUR: 'it returns false'. Refute it at one input. -/
def pathJoinsWrong : ChangeSpec := { name := "pathJoins", fn := fun _ => fun
  | [d1, d2] => { results := [.lit (.bool false)], args := [d1, d2] }
  | _ => none }
def PathJoinsWrongFalsely : Prop := pathJoinsRow.holds Tryd.pinned (OpenSpec.ofChange pathJoinsWrong)

/-- 'bloomerylaw03.PathUnder': WHATEVER THE INPUT: true; the input reads as it did. -/
def pathUnderSpec : ChangeSpec := { name := "pathUnder", fn := fun _ => fun
  | [d1, d2] => { results := [.lit (.bool true)], args := [d1, d2] }
  | _ => none }
def pathUnderRow : OpenClaim := { program := "ytjpaajpjajoijaadoor", sum := "814361069dab98623eb180215e0aeae4ea228c9919389712729120a9656853ad", func := "bloomery/bloomerylaw03.PathUnder", spec := "pathUnder", inPlace := ["internal/bytealg.IndexByteString", "internal/bytealg.IndexString"], unfollowed := true, recurses := true, named := ["unicode/utf8.first", "unicode/utf8.acceptRanges", "internal/bytealg.MaxLen"], apart := false, laid := [("unicode/utf8.acceptRanges", laid_unicode_utf8_acceptRanges), ("unicode/utf8.first", laid_unicode_utf8_first)] }
def PathUnderSaid : Prop := pathUnderRow.holds Tryd.pinned (OpenSpec.ofChange pathUnderSpec)

/-- ITS FALSE NEIGHBOUR: 'it returns false'. Refute it at one input. -/
def pathUnderWrong : ChangeSpec := { name := "pathUnder", fn := fun _ => fun
  | [d1, d2] => { results := [.lit (.bool false)], args := [d1, d2] }
  | _ => none }
def PathUnderWrongFalsely : Prop := pathUnderRow.holds Tryd.pinned (OpenSpec.ofChange pathUnderWrong)

/-- 'bloomerylaw03.PathParts': WHATEVER THE INPUT: true; the input reads as it did. -/
def pathPartsSpec : ChangeSpec := { name := "pathParts", fn := fun _ => fun
  | [d] => { results := [.lit (.bool true)], args := [d] }
  | _ => none }
def pathPartsRow : OpenClaim := { program := "ytjpaajpjajoijaadoor", sum := "814361069dab98623eb180215e0aeae4ea228c9919389712729120a9656853ad", func := "bloomery/bloomerylaw03.PathParts", spec := "pathParts", inPlace := ["internal/bytealg.IndexByteString", "internal/bytealg.IndexString"], unfollowed := true, recurses := true, named := ["unicode/utf8.first", "unicode/utf8.acceptRanges", "internal/bytealg.MaxLen"], apart := false, laid := [("unicode/utf8.acceptRanges", laid_unicode_utf8_acceptRanges), ("unicode/utf8.first", laid_unicode_utf8_first)] }
def PathPartsSaid : Prop := pathPartsRow.holds Tryd.pinned (OpenSpec.ofChange pathPartsSpec)

/-- ITS FALSE NEIGHBOUR: 'it returns false'. Refute it at one input. -/
def pathPartsWrong : ChangeSpec := { name := "pathParts", fn := fun _ => fun
  | [d] => { results := [.lit (.bool false)], args := [d] }
  | _ => none }
def PathPartsWrongFalsely : Prop := pathPartsRow.holds Tryd.pinned (OpenSpec.ofChange pathPartsWrong)

/-- 'bloomerylaw03.PathAbove': WHATEVER THE INPUT: true; the input reads as it did. -/
def pathAboveSpec : ChangeSpec := { name := "pathAbove", fn := fun _ => fun
  | [d1, d2] => { results := [.lit (.bool true)], args := [d1, d2] }
  | _ => none }
def pathAboveRow : OpenClaim := { program := "ytjpaajpjajoijaadoor", sum := "814361069dab98623eb180215e0aeae4ea228c9919389712729120a9656853ad", func := "bloomery/bloomerylaw03.PathAbove", spec := "pathAbove", inPlace := ["internal/bytealg.IndexByteString", "internal/bytealg.IndexString"], unfollowed := true, recurses := true, named := ["unicode/utf8.first", "unicode/utf8.acceptRanges", "internal/bytealg.MaxLen"], apart := false, laid := [("unicode/utf8.acceptRanges", laid_unicode_utf8_acceptRanges), ("unicode/utf8.first", laid_unicode_utf8_first)] }
def PathAboveSaid : Prop := pathAboveRow.holds Tryd.pinned (OpenSpec.ofChange pathAboveSpec)

/-- ITS FALSE NEIGHBOUR: 'it returns false'. Refute it at one input. -/
def pathAboveWrong : ChangeSpec := { name := "pathAbove", fn := fun _ => fun
  | [d1, d2] => { results := [.lit (.bool false)], args := [d1, d2] }
  | _ => none }
def PathAboveWrongFalsely : Prop := pathAboveRow.holds Tryd.pinned (OpenSpec.ofChange pathAboveWrong)

/-- 'bloomerylaw05.TreeGets': WHATEVER THE INPUT: true; the input reads as it did. -/
def treeGetsSpec : ChangeSpec := { name := "treeGets", fn := fun _ => fun
  | [d1, d2, d3] => { results := [.lit (.bool true)], args := [d1, d2, d3] }
  | _ => none }
def treeGetsRow : OpenClaim := { program := "ytjpaajpjajoijaadoor", sum := "814361069dab98623eb180215e0aeae4ea228c9919389712729120a9656853ad", func := "bloomery/bloomerylaw05.TreeGets", spec := "treeGets", inPlace := ["internal/bytealg.IndexByteString", "internal/bytealg.IndexString"], unfollowed := true, recurses := true, named := ["unicode/utf8.first", "unicode/utf8.acceptRanges", "internal/bytealg.MaxLen"], apart := false, laid := [("unicode/utf8.acceptRanges", laid_unicode_utf8_acceptRanges), ("unicode/utf8.first", laid_unicode_utf8_first)] }
def TreeGetsSaid : Prop := treeGetsRow.holds Tryd.pinned (OpenSpec.ofChange treeGetsSpec)

/-- ITS FALSE NEIGHBOUR: 'it returns false'. Refute it at one input. -/
def treeGetsWrong : ChangeSpec := { name := "treeGets", fn := fun _ => fun
  | [d1, d2, d3] => { results := [.lit (.bool false)], args := [d1, d2, d3] }
  | _ => none }
def TreeGetsWrongFalsely : Prop := treeGetsRow.holds Tryd.pinned (OpenSpec.ofChange treeGetsWrong)

/-- 'bloomerylaw05.TreeDiffs': WHATEVER THE INPUT: true; the input reads as it did. -/
def treeDiffsSpec : ChangeSpec := { name := "treeDiffs", fn := fun _ => fun
  | [d1, d2] => { results := [.lit (.bool true)], args := [d1, d2] }
  | _ => none }
def treeDiffsRow : OpenClaim := { program := "ytjpaajpjajoijaadoor", sum := "814361069dab98623eb180215e0aeae4ea228c9919389712729120a9656853ad", func := "bloomery/bloomerylaw05.TreeDiffs", spec := "treeDiffs", inPlace := ["internal/bytealg.IndexByteString", "internal/bytealg.IndexString"], unfollowed := true, recurses := true, named := ["unicode/utf8.first", "unicode/utf8.acceptRanges", "internal/bytealg.MaxLen"], apart := false, laid := [("unicode/utf8.acceptRanges", laid_unicode_utf8_acceptRanges), ("unicode/utf8.first", laid_unicode_utf8_first)] }
def TreeDiffsSaid : Prop := treeDiffsRow.holds Tryd.pinned (OpenSpec.ofChange treeDiffsSpec)

/-- ITS FALSE NEIGHBOUR: 'it returns false'. Refute it at one input. -/
def treeDiffsWrong : ChangeSpec := { name := "treeDiffs", fn := fun _ => fun
  | [d1, d2] => { results := [.lit (.bool false)], args := [d1, d2] }
  | _ => none }
def TreeDiffsWrongFalsely : Prop := treeDiffsRow.holds Tryd.pinned (OpenSpec.ofChange treeDiffsWrong)

/-- 'bloomerylaw05.TreePuts': WHATEVER THE INPUT: true; the input reads as it did. -/
def treePutsSpec : ChangeSpec := { name := "treePuts", fn := fun _ => fun
  | [d1, d2, d3] => { results := [.lit (.bool true)], args := [d1, d2, d3] }
  | _ => none }
def treePutsRow : OpenClaim := { program := "ytjpaajpjajoijaadoor", sum := "814361069dab98623eb180215e0aeae4ea228c9919389712729120a9656853ad", func := "bloomery/bloomerylaw05.TreePuts", spec := "treePuts", inPlace := ["internal/bytealg.IndexByteString", "internal/bytealg.IndexString", "internal/bytealg.abigen_runtime_cmpstring", "slices.overlaps[bloomery/api.File]"], unfollowed := true, recurses := true, named := ["unicode/utf8.first", "unicode/utf8.acceptRanges", "internal/bytealg.MaxLen"], apart := false, laid := [("unicode/utf8.acceptRanges", laid_unicode_utf8_acceptRanges), ("unicode/utf8.first", laid_unicode_utf8_first)] }
def TreePutsSaid : Prop := treePutsRow.holds Tryd.pinned (OpenSpec.ofChange treePutsSpec)

/-- ITS FALSE NEIGHBOUR: 'it returns false'. Refute it at one input. -/
def treePutsWrong : ChangeSpec := { name := "treePuts", fn := fun _ => fun
  | [d1, d2, d3] => { results := [.lit (.bool false)], args := [d1, d2, d3] }
  | _ => none }
def TreePutsWrongFalsely : Prop := treePutsRow.holds Tryd.pinned (OpenSpec.ofChange treePutsWrong)

/- THE SECOND FORM. 'bulk': how many values and letters a reading holds, each counted each time it is reached (what is shared counts as often as it is met; a slice's spare places count too). A statement '..UptoSaid' is the law's where the arguments, and the package variables that the reading takes, are together of bulk at most 1048576: NARROWER than '..Said'. Prove '..Said' where nothing that the law and all that it calls make is longer than what came in: it says more and counts as full. Else prove '..UptoSaid'. A law counts once. -/
mutual
def uptoBulk {H : Type} : DataW H → Nat
  | .lit (.string bytes) => bytes.length + 1
  | .lit _ => 1
  | .nil => 1
  | .ptr d => uptoBulk d + 1
  | .slice elems spare => uptoBulkAll elems + uptoBulkAll spare + 1
  | .agg parts => uptoBulkAll parts + 1
  | .iface _ d => uptoBulk d + 1
  | .map entries => uptoBulkEntries entries + 1
  | .held _ => 1
def uptoBulkAll {H : Type} : List (DataW H) → Nat
  | [] => 0
  | d :: r => uptoBulk d + uptoBulkAll r
def uptoBulkEntries {H : Type} : List (Lit × DataW H) → Nat
  | [] => 0
  | x :: r => uptoBulkEntry x + uptoBulkEntries r
def uptoBulkEntry {H : Type} : Lit × DataW H → Nat
  | (.string bytes, d) => bytes.length + uptoBulk d + 1
  | (_, d) => uptoBulk d + 1
 end
def uptoSmall : (H : Type) → List (DataW H) → Bool := fun _ ds => decide (uptoBulkAll ds ≤ 1048576)
def OpenSpec.upto (s : _root_.Go.ChangeSpec) : _root_.Go.OpenSpec := { _root_.Go.OpenSpec.ofChange s with cond := some uptoSmall }

/-- 'bloomerylaw05.TreeGoes', WHERE WHAT IT READS IS OF BULK AT MOST 1048576: true; the input reads as it did. -/
def treeGoesUptoRow : OpenClaim := { program := "ytjpaajpjajoijaadoor", sum := "814361069dab98623eb180215e0aeae4ea228c9919389712729120a9656853ad", func := "bloomery/bloomerylaw05.TreeGoes", spec := "treeGoes", inPlace := ["internal/bytealg.IndexByteString", "internal/bytealg.IndexString", "internal/bytealg.abigen_runtime_cmpstring", "slices.overlaps[bloomery/api.File]"], unfollowed := true, recurses := true, named := ["unicode/utf8.first", "unicode/utf8.acceptRanges", "internal/bytealg.MaxLen"], apart := false, laid := [("unicode/utf8.acceptRanges", laid_unicode_utf8_acceptRanges), ("unicode/utf8.first", laid_unicode_utf8_first)], narrowed := true }
def TreeGoesUptoSaid : Prop := treeGoesUptoRow.holds Tryd.pinned (OpenSpec.upto treeGoesSpec)

/-- 'bloomerylaw05.TreeSums', WHERE WHAT IT READS IS OF BULK AT MOST 1048576: true; the input reads as it did. -/
def treeSumsUptoRow : OpenClaim := { program := "ytjpaajpjajoijaadoor", sum := "814361069dab98623eb180215e0aeae4ea228c9919389712729120a9656853ad", func := "bloomery/bloomerylaw05.TreeSums", spec := "treeSums", inPlace := ["internal/bytealg.IndexByteString", "internal/bytealg.IndexString", "internal/abi.NoEscape"], unfollowed := true, recurses := true, named := ["unicode/utf8.first", "unicode/utf8.acceptRanges", "internal/bytealg.MaxLen", "internal/strconv.uint64pow10", "math/bits.deBruijn32tab", "math/bits.deBruijn64tab"], apart := false, laid := [("math/bits.deBruijn32tab", laid_math_bits_deBruijn32tab), ("math/bits.deBruijn64tab", laid_math_bits_deBruijn64tab), ("internal/strconv.uint64pow10", laid_internal_strconv_uint64pow10), ("unicode/utf8.acceptRanges", laid_unicode_utf8_acceptRanges), ("unicode/utf8.first", laid_unicode_utf8_first)], narrowed := true }
def TreeSumsUptoSaid : Prop := treeSumsUptoRow.holds Tryd.pinned (OpenSpec.upto treeSumsSpec)

/-- 'bloomerylaw05.TreeChecks', WHERE WHAT IT READS IS OF BULK AT MOST 1048576: true; the input reads as it did. -/
def treeChecksUptoRow : OpenClaim := { program := "ytjpaajpjajoijaadoor", sum := "814361069dab98623eb180215e0aeae4ea228c9919389712729120a9656853ad", func := "bloomery/bloomerylaw05.TreeChecks", spec := "treeChecks", inPlace := ["internal/bytealg.IndexByteString", "internal/bytealg.IndexString"], unfollowed := true, recurses := true, named := ["unicode/utf8.first", "unicode/utf8.acceptRanges", "internal/bytealg.MaxLen"], apart := false, laid := [("unicode/utf8.acceptRanges", laid_unicode_utf8_acceptRanges), ("unicode/utf8.first", laid_unicode_utf8_first)], narrowed := true }
def TreeChecksUptoSaid : Prop := treeChecksUptoRow.holds Tryd.pinned (OpenSpec.upto treeChecksSpec)

/-- 'bloomerylaw03.PathMay', WHERE WHAT IT READS IS OF BULK AT MOST 1048576: true; the input reads as it did. -/
def pathMayUptoRow : OpenClaim := { program := "ytjpaajpjajoijaadoor", sum := "814361069dab98623eb180215e0aeae4ea228c9919389712729120a9656853ad", func := "bloomery/bloomerylaw03.PathMay", spec := "pathMay", inPlace := ["internal/bytealg.IndexByteString", "internal/bytealg.IndexString"], unfollowed := true, recurses := true, named := ["unicode/utf8.first", "unicode/utf8.acceptRanges", "internal/bytealg.MaxLen"], apart := false, laid := [("unicode/utf8.acceptRanges", laid_unicode_utf8_acceptRanges), ("unicode/utf8.first", laid_unicode_utf8_first)], narrowed := true }
def PathMayUptoSaid : Prop := pathMayUptoRow.holds Tryd.pinned (OpenSpec.upto pathMaySpec)

/-- 'bloomerylaw03.PathJoins', WHERE WHAT IT READS IS OF BULK AT MOST 1048576: true; the input reads as it did. -/
def pathJoinsUptoRow : OpenClaim := { program := "ytjpaajpjajoijaadoor", sum := "814361069dab98623eb180215e0aeae4ea228c9919389712729120a9656853ad", func := "bloomery/bloomerylaw03.PathJoins", spec := "pathJoins", inPlace := ["internal/bytealg.IndexByteString", "internal/bytealg.IndexString"], unfollowed := true, recurses := true, named := ["unicode/utf8.first", "unicode/utf8.acceptRanges", "internal/bytealg.MaxLen"], apart := false, laid := [("unicode/utf8.acceptRanges", laid_unicode_utf8_acceptRanges), ("unicode/utf8.first", laid_unicode_utf8_first)], narrowed := true }
def PathJoinsUptoSaid : Prop := pathJoinsUptoRow.holds Tryd.pinned (OpenSpec.upto pathJoinsSpec)

/-- 'bloomerylaw03.PathUnder', WHERE WHAT IT READS IS OF BULK AT MOST 1048576: true; the input reads as it did. -/
def pathUnderUptoRow : OpenClaim := { program := "ytjpaajpjajoijaadoor", sum := "814361069dab98623eb180215e0aeae4ea228c9919389712729120a9656853ad", func := "bloomery/bloomerylaw03.PathUnder", spec := "pathUnder", inPlace := ["internal/bytealg.IndexByteString", "internal/bytealg.IndexString"], unfollowed := true, recurses := true, named := ["unicode/utf8.first", "unicode/utf8.acceptRanges", "internal/bytealg.MaxLen"], apart := false, laid := [("unicode/utf8.acceptRanges", laid_unicode_utf8_acceptRanges), ("unicode/utf8.first", laid_unicode_utf8_first)], narrowed := true }
def PathUnderUptoSaid : Prop := pathUnderUptoRow.holds Tryd.pinned (OpenSpec.upto pathUnderSpec)

/-- 'bloomerylaw03.PathParts', WHERE WHAT IT READS IS OF BULK AT MOST 1048576: true; the input reads as it did. -/
def pathPartsUptoRow : OpenClaim := { program := "ytjpaajpjajoijaadoor", sum := "814361069dab98623eb180215e0aeae4ea228c9919389712729120a9656853ad", func := "bloomery/bloomerylaw03.PathParts", spec := "pathParts", inPlace := ["internal/bytealg.IndexByteString", "internal/bytealg.IndexString"], unfollowed := true, recurses := true, named := ["unicode/utf8.first", "unicode/utf8.acceptRanges", "internal/bytealg.MaxLen"], apart := false, laid := [("unicode/utf8.acceptRanges", laid_unicode_utf8_acceptRanges), ("unicode/utf8.first", laid_unicode_utf8_first)], narrowed := true }
def PathPartsUptoSaid : Prop := pathPartsUptoRow.holds Tryd.pinned (OpenSpec.upto pathPartsSpec)

/-- 'bloomerylaw03.PathAbove', WHERE WHAT IT READS IS OF BULK AT MOST 1048576: true; the input reads as it did. -/
def pathAboveUptoRow : OpenClaim := { program := "ytjpaajpjajoijaadoor", sum := "814361069dab98623eb180215e0aeae4ea228c9919389712729120a9656853ad", func := "bloomery/bloomerylaw03.PathAbove", spec := "pathAbove", inPlace := ["internal/bytealg.IndexByteString", "internal/bytealg.IndexString"], unfollowed := true, recurses := true, named := ["unicode/utf8.first", "unicode/utf8.acceptRanges", "internal/bytealg.MaxLen"], apart := false, laid := [("unicode/utf8.acceptRanges", laid_unicode_utf8_acceptRanges), ("unicode/utf8.first", laid_unicode_utf8_first)], narrowed := true }
def PathAboveUptoSaid : Prop := pathAboveUptoRow.holds Tryd.pinned (OpenSpec.upto pathAboveSpec)

/-- 'bloomerylaw05.TreeGets', WHERE WHAT IT READS IS OF BULK AT MOST 1048576: true; the input reads as it did. -/
def treeGetsUptoRow : OpenClaim := { program := "ytjpaajpjajoijaadoor", sum := "814361069dab98623eb180215e0aeae4ea228c9919389712729120a9656853ad", func := "bloomery/bloomerylaw05.TreeGets", spec := "treeGets", inPlace := ["internal/bytealg.IndexByteString", "internal/bytealg.IndexString"], unfollowed := true, recurses := true, named := ["unicode/utf8.first", "unicode/utf8.acceptRanges", "internal/bytealg.MaxLen"], apart := false, laid := [("unicode/utf8.acceptRanges", laid_unicode_utf8_acceptRanges), ("unicode/utf8.first", laid_unicode_utf8_first)], narrowed := true }
def TreeGetsUptoSaid : Prop := treeGetsUptoRow.holds Tryd.pinned (OpenSpec.upto treeGetsSpec)

/-- 'bloomerylaw05.TreeDiffs', WHERE WHAT IT READS IS OF BULK AT MOST 1048576: true; the input reads as it did. -/
def treeDiffsUptoRow : OpenClaim := { program := "ytjpaajpjajoijaadoor", sum := "814361069dab98623eb180215e0aeae4ea228c9919389712729120a9656853ad", func := "bloomery/bloomerylaw05.TreeDiffs", spec := "treeDiffs", inPlace := ["internal/bytealg.IndexByteString", "internal/bytealg.IndexString"], unfollowed := true, recurses := true, named := ["unicode/utf8.first", "unicode/utf8.acceptRanges", "internal/bytealg.MaxLen"], apart := false, laid := [("unicode/utf8.acceptRanges", laid_unicode_utf8_acceptRanges), ("unicode/utf8.first", laid_unicode_utf8_first)], narrowed := true }
def TreeDiffsUptoSaid : Prop := treeDiffsUptoRow.holds Tryd.pinned (OpenSpec.upto treeDiffsSpec)

/-- 'bloomerylaw05.TreePuts', WHERE WHAT IT READS IS OF BULK AT MOST 1048576: true; the input reads as it did. -/
def treePutsUptoRow : OpenClaim := { program := "ytjpaajpjajoijaadoor", sum := "814361069dab98623eb180215e0aeae4ea228c9919389712729120a9656853ad", func := "bloomery/bloomerylaw05.TreePuts", spec := "treePuts", inPlace := ["internal/bytealg.IndexByteString", "internal/bytealg.IndexString", "internal/bytealg.abigen_runtime_cmpstring", "slices.overlaps[bloomery/api.File]"], unfollowed := true, recurses := true, named := ["unicode/utf8.first", "unicode/utf8.acceptRanges", "internal/bytealg.MaxLen"], apart := false, laid := [("unicode/utf8.acceptRanges", laid_unicode_utf8_acceptRanges), ("unicode/utf8.first", laid_unicode_utf8_first)], narrowed := true }
def TreePutsUptoSaid : Prop := treePutsUptoRow.holds Tryd.pinned (OpenSpec.upto treePutsSpec)

end Rows
end Go.Proofs.YtjpaajpjajoijaaDoor
