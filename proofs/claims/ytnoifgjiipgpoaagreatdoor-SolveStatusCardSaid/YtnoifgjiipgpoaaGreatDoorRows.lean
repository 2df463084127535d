/-
  NARROWER THAN 'FOR EVERY INPUT', by the rows' own cells (each row's printed sentence says how): SolveTells: laid · SolveStatus: laid · SolveNotes: laid · SolveText: laid · SolveAccepted: laid · TopBrackets: laid · TopPairs: laid · TopMoves: laid.
  DERIVED. THE GIVEN ROWS OF THIS SEAT. 8 by the template 'for every input the law returns true; each argument reads behind the call as it read before'; 0 by the template 'total and deterministic' (their statements: YtnoifgjiipgpoaaGreatDoorTotals.lean).
  GIVEN WITH THE SEED: the statements are not yours to turn. If you find one false, say at which input.
  Laid BY PROGRAM, IN A SANDBOX (cutbox-rows.mjs): the forced cells as the released guide's own fill.sh prints them over the translation c3ffaf0a8e64f883… (all of the seat's roots in one cut). By AI agents, Wed Nov 11 2026. No macro, syntax, notation, axiom, sorry.
-/
import Derived.Test.YtnoifgjiipgpoaaGreatDoorChecked
import GoSem.Claim
import GoSem.ClaimJoined
import GoSem.ClaimMapViews
import Derived.JoinedTies
import Derived.KernelRfl
namespace Go.Proofs.YtnoifgjiipgpoaaGreatDoor
/- THE CELL 'sum', in the pinned program and in every row, IS THE sha256 OF THE DUMP (.gsa) THAT YtnoifgjiipgpoaaGreatDoorProg.lean LOADS. Nothing in Lean hashes anything: it is a label: what it is worth is what the hold of that sum in a sandbox is worth. -/
noncomputable def Tryz.pinned : Pinned := { name := "ytnoifgjiipgpoaagreatdoor", sum := "c3ffaf0a8e64f8835365beafc0365e8c74660f77cd1beb0c04fe4d5e669727a9", checked := Tryz.checked }
namespace Rows
def none {H : Type} : Left H := { results := [], args := [] }

/- WHAT THE LISTED PACKAGE-LEVEL VARIABLES READ AS WHEN THE CALL BEGINS. Each datum BY PROGRAM (the guide's laid-datum.mjs) off the statement by which the dump's own 'gosem.cut.vars' lays the variable. In a bare row this is a premise. The card (YtnoifgjiipgpoaaGreatDoorCards.lean) ties it to the program's text. -/
def laid_math_bits_deBruijn32tab {H : Type} : DataW H := .agg [.lit (.int .u8 0), .lit (.int .u8 1), .lit (.int .u8 28), .lit (.int .u8 2), .lit (.int .u8 29), .lit (.int .u8 14), .lit (.int .u8 24), .lit (.int .u8 3), .lit (.int .u8 30), .lit (.int .u8 22), .lit (.int .u8 20), .lit (.int .u8 15), .lit (.int .u8 25), .lit (.int .u8 17), .lit (.int .u8 4), .lit (.int .u8 8), .lit (.int .u8 31), .lit (.int .u8 27), .lit (.int .u8 13), .lit (.int .u8 23), .lit (.int .u8 21), .lit (.int .u8 19), .lit (.int .u8 16), .lit (.int .u8 7), .lit (.int .u8 26), .lit (.int .u8 12), .lit (.int .u8 18), .lit (.int .u8 6), .lit (.int .u8 11), .lit (.int .u8 5), .lit (.int .u8 10), .lit (.int .u8 9)]
def laid_math_bits_deBruijn64tab {H : Type} : DataW H := .agg [.lit (.int .u8 0), .lit (.int .u8 1), .lit (.int .u8 56), .lit (.int .u8 2), .lit (.int .u8 57), .lit (.int .u8 49), .lit (.int .u8 28), .lit (.int .u8 3), .lit (.int .u8 61), .lit (.int .u8 58), .lit (.int .u8 42), .lit (.int .u8 50), .lit (.int .u8 38), .lit (.int .u8 29), .lit (.int .u8 17), .lit (.int .u8 4), .lit (.int .u8 62), .lit (.int .u8 47), .lit (.int .u8 59), .lit (.int .u8 36), .lit (.int .u8 45), .lit (.int .u8 43), .lit (.int .u8 51), .lit (.int .u8 22), .lit (.int .u8 53), .lit (.int .u8 39), .lit (.int .u8 33), .lit (.int .u8 30), .lit (.int .u8 24), .lit (.int .u8 18), .lit (.int .u8 12), .lit (.int .u8 5), .lit (.int .u8 63), .lit (.int .u8 55), .lit (.int .u8 48), .lit (.int .u8 27), .lit (.int .u8 60), .lit (.int .u8 41), .lit (.int .u8 37), .lit (.int .u8 16), .lit (.int .u8 46), .lit (.int .u8 35), .lit (.int .u8 44), .lit (.int .u8 21), .lit (.int .u8 52), .lit (.int .u8 32), .lit (.int .u8 23), .lit (.int .u8 11), .lit (.int .u8 54), .lit (.int .u8 26), .lit (.int .u8 40), .lit (.int .u8 15), .lit (.int .u8 34), .lit (.int .u8 20), .lit (.int .u8 31), .lit (.int .u8 10), .lit (.int .u8 25), .lit (.int .u8 14), .lit (.int .u8 19), .lit (.int .u8 9), .lit (.int .u8 13), .lit (.int .u8 8), .lit (.int .u8 7), .lit (.int .u8 6)]
def laid_internal_strconv_uint64pow10 {H : Type} : DataW H := .agg [.lit (.int .u64 1), .lit (.int .u64 10), .lit (.int .u64 100), .lit (.int .u64 1000), .lit (.int .u64 10000), .lit (.int .u64 100000), .lit (.int .u64 1000000), .lit (.int .u64 10000000), .lit (.int .u64 100000000), .lit (.int .u64 1000000000), .lit (.int .u64 10000000000), .lit (.int .u64 100000000000), .lit (.int .u64 1000000000000), .lit (.int .u64 10000000000000), .lit (.int .u64 100000000000000), .lit (.int .u64 1000000000000000), .lit (.int .u64 10000000000000000), .lit (.int .u64 100000000000000000), .lit (.int .u64 1000000000000000000), .lit (.int .u64 10000000000000000000)]

/-- 'haulierlaw23.SolveTells': WHATEVER THE INPUT: true; the input reads as it did. -/
def solveTellsSpec : ChangeSpec := { name := "solveTells", fn := fun _ => fun
  | [d1, d2] => { results := [.lit (.bool true)], args := [d1, d2] }
  | _ => none }
def solveTellsRow : OpenClaim := { program := "ytnoifgjiipgpoaagreatdoor", sum := "c3ffaf0a8e64f8835365beafc0365e8c74660f77cd1beb0c04fe4d5e669727a9", func := "haulier/haulierlaw23.SolveTells", spec := "solveTells", unfollowed := true, recurses := true, named := ["internal/strconv.uint64pow10", "math/bits.deBruijn32tab", "math/bits.deBruijn64tab"], plainKeys := false, apart := false, laid := [("math/bits.deBruijn32tab", laid_math_bits_deBruijn32tab), ("math/bits.deBruijn64tab", laid_math_bits_deBruijn64tab), ("internal/strconv.uint64pow10", laid_internal_strconv_uint64pow10)] }
def SolveTellsSaid : Prop := solveTellsRow.holds Tryz.pinned (OpenSpec.ofChange solveTellsSpec)

/-- ITS FALSE NEIGHBOUR: 'it returns false'. Refute it at one input. -/
def solveTellsWrong : ChangeSpec := { name := "solveTells", fn := fun _ => fun
  | [d1, d2] => { results := [.lit (.bool false)], args := [d1, d2] }
  | _ => none }
def SolveTellsWrongFalsely : Prop := solveTellsRow.holds Tryz.pinned (OpenSpec.ofChange solveTellsWrong)

/-- 'haulierlaw23.SolveStatus': WHATEVER THE INPUT: true; the input reads as it did. -/
def solveStatusSpec : ChangeSpec := { name := "solveStatus", fn := fun _ => fun
  | [d1, d2] => { results := [.lit (.bool true)], args := [d1, d2] }
  | _ => none }
def solveStatusRow : OpenClaim := { program := "ytnoifgjiipgpoaagreatdoor", sum := "c3ffaf0a8e64f8835365beafc0365e8c74660f77cd1beb0c04fe4d5e669727a9", func := "haulier/haulierlaw23.SolveStatus", spec := "solveStatus", unfollowed := true, recurses := true, named := ["internal/strconv.uint64pow10", "math/bits.deBruijn32tab", "math/bits.deBruijn64tab"], plainKeys := false, apart := false, laid := [("math/bits.deBruijn32tab", laid_math_bits_deBruijn32tab), ("math/bits.deBruijn64tab", laid_math_bits_deBruijn64tab), ("internal/strconv.uint64pow10", laid_internal_strconv_uint64pow10)] }
def SolveStatusSaid : Prop := solveStatusRow.holds Tryz.pinned (OpenSpec.ofChange solveStatusSpec)

/-- ITS FALSE NEIGHBOUR: 'it returns false'. Refute it at one input. -/
def solveStatusWrong : ChangeSpec := { name := "solveStatus", fn := fun _ => fun
  | [d1, d2] => { results := [.lit (.bool false)], args := [d1, d2] }
  | _ => none }
def SolveStatusWrongFalsely : Prop := solveStatusRow.holds Tryz.pinned (OpenSpec.ofChange solveStatusWrong)

/-- 'haulierlaw23.SolveNotes': WHATEVER THE INPUT: true; the input reads as it did. -/
def solveNotesSpec : ChangeSpec := { name := "solveNotes", fn := fun _ => fun
  | [d1, d2] => { results := [.lit (.bool true)], args := [d1, d2] }
  | _ => none }
def solveNotesRow : OpenClaim := { program := "ytnoifgjiipgpoaagreatdoor", sum := "c3ffaf0a8e64f8835365beafc0365e8c74660f77cd1beb0c04fe4d5e669727a9", func := "haulier/haulierlaw23.SolveNotes", spec := "solveNotes", unfollowed := true, recurses := true, named := ["internal/strconv.uint64pow10", "math/bits.deBruijn32tab", "math/bits.deBruijn64tab"], plainKeys := false, apart := false, laid := [("math/bits.deBruijn32tab", laid_math_bits_deBruijn32tab), ("math/bits.deBruijn64tab", laid_math_bits_deBruijn64tab), ("internal/strconv.uint64pow10", laid_internal_strconv_uint64pow10)] }
def SolveNotesSaid : Prop := solveNotesRow.holds Tryz.pinned (OpenSpec.ofChange solveNotesSpec)

/-- ITS FALSE NEIGHBOUR: 'it returns false'. Refute it at one input. -/
def solveNotesWrong : ChangeSpec := { name := "solveNotes", fn := fun _ => fun
  | [d1, d2] => { results := [.lit (.bool false)], args := [d1, d2] }
  | _ => none }
def SolveNotesWrongFalsely : Prop := solveNotesRow.holds Tryz.pinned (OpenSpec.ofChange solveNotesWrong)

/-- 'haulierlaw23.SolveText': WHATEVER THE INPUT: true; the input reads as it did. -/
def solveTextSpec : ChangeSpec := { name := "solveText", fn := fun _ => fun
  | [d1, d2] => { results := [.lit (.bool true)], args := [d1, d2] }
  | _ => none }
def solveTextRow : OpenClaim := { program := "ytnoifgjiipgpoaagreatdoor", sum := "c3ffaf0a8e64f8835365beafc0365e8c74660f77cd1beb0c04fe4d5e669727a9", func := "haulier/haulierlaw23.SolveText", spec := "solveText", unfollowed := true, recurses := true, named := ["internal/strconv.uint64pow10", "math/bits.deBruijn32tab", "math/bits.deBruijn64tab"], plainKeys := false, apart := false, laid := [("math/bits.deBruijn32tab", laid_math_bits_deBruijn32tab), ("math/bits.deBruijn64tab", laid_math_bits_deBruijn64tab), ("internal/strconv.uint64pow10", laid_internal_strconv_uint64pow10)] }
def SolveTextSaid : Prop := solveTextRow.holds Tryz.pinned (OpenSpec.ofChange solveTextSpec)

/-- ITS FALSE NEIGHBOUR: 'it returns false'. Refute it at one input. -/
def solveTextWrong : ChangeSpec := { name := "solveText", fn := fun _ => fun
  | [d1, d2] => { results := [.lit (.bool false)], args := [d1, d2] }
  | _ => none }
def SolveTextWrongFalsely : Prop := solveTextRow.holds Tryz.pinned (OpenSpec.ofChange solveTextWrong)

/-- 'haulierlaw23.SolveAccepted': WHATEVER THE INPUT: true; the input reads as it did. -/
def solveAcceptedSpec : ChangeSpec := { name := "solveAccepted", fn := fun _ => fun
  | [d1, d2] => { results := [.lit (.bool true)], args := [d1, d2] }
  | _ => none }
def solveAcceptedRow : OpenClaim := { program := "ytnoifgjiipgpoaagreatdoor", sum := "c3ffaf0a8e64f8835365beafc0365e8c74660f77cd1beb0c04fe4d5e669727a9", func := "haulier/haulierlaw23.SolveAccepted", spec := "solveAccepted", unfollowed := true, recurses := true, named := ["internal/strconv.uint64pow10", "math/bits.deBruijn32tab", "math/bits.deBruijn64tab"], plainKeys := false, apart := false, laid := [("math/bits.deBruijn32tab", laid_math_bits_deBruijn32tab), ("math/bits.deBruijn64tab", laid_math_bits_deBruijn64tab), ("internal/strconv.uint64pow10", laid_internal_strconv_uint64pow10)] }
def SolveAcceptedSaid : Prop := solveAcceptedRow.holds Tryz.pinned (OpenSpec.ofChange solveAcceptedSpec)

/-- ITS FALSE NEIGHBOUR: 'it returns false'. Refute it at one input. -/
def solveAcceptedWrong : ChangeSpec := { name := "solveAccepted", fn := fun _ => fun
  | [d1, d2] => { results := [.lit (.bool false)], args := [d1, d2] }
  | _ => none }
def SolveAcceptedWrongFalsely : Prop := solveAcceptedRow.holds Tryz.pinned (OpenSpec.ofChange solveAcceptedWrong)

/-- 'hauliertop.TopBrackets': WHATEVER THE INPUT: true; the input reads as it did. -/
def topBracketsSpec : ChangeSpec := { name := "topBrackets", fn := fun _ => fun
  | [d1, d2, d3] => { results := [.lit (.bool true)], args := [d1, d2, d3] }
  | _ => none }
def topBracketsRow : OpenClaim := { program := "ytnoifgjiipgpoaagreatdoor", sum := "c3ffaf0a8e64f8835365beafc0365e8c74660f77cd1beb0c04fe4d5e669727a9", func := "haulier/hauliertop.TopBrackets", spec := "topBrackets", unfollowed := true, recurses := true, named := ["internal/strconv.uint64pow10", "math/bits.deBruijn32tab", "math/bits.deBruijn64tab"], plainKeys := false, apart := false, laid := [("math/bits.deBruijn32tab", laid_math_bits_deBruijn32tab), ("math/bits.deBruijn64tab", laid_math_bits_deBruijn64tab), ("internal/strconv.uint64pow10", laid_internal_strconv_uint64pow10)] }
def TopBracketsSaid : Prop := topBracketsRow.holds Tryz.pinned (OpenSpec.ofChange topBracketsSpec)

/-- ITS FALSE NEIGHBOUR: 'it returns false'. Refute it at one input. -/
def topBracketsWrong : ChangeSpec := { name := "topBrackets", fn := fun _ => fun
  | [d1, d2, d3] => { results := [.lit (.bool false)], args := [d1, d2, d3] }
  | _ => none }
def TopBracketsWrongFalsely : Prop := topBracketsRow.holds Tryz.pinned (OpenSpec.ofChange topBracketsWrong)

/-- 'hauliertop.TopPairs': WHATEVER THE INPUT: true; the input reads as it did. -/
def topPairsSpec : ChangeSpec := { name := "topPairs", fn := fun _ => fun
  | [d1, d2, d3] => { results := [.lit (.bool true)], args := [d1, d2, d3] }
  | _ => none }
def topPairsRow : OpenClaim := { program := "ytnoifgjiipgpoaagreatdoor", sum := "c3ffaf0a8e64f8835365beafc0365e8c74660f77cd1beb0c04fe4d5e669727a9", func := "haulier/hauliertop.TopPairs", spec := "topPairs", unfollowed := true, recurses := true, named := ["internal/strconv.uint64pow10", "math/bits.deBruijn32tab", "math/bits.deBruijn64tab"], plainKeys := false, apart := false, laid := [("math/bits.deBruijn32tab", laid_math_bits_deBruijn32tab), ("math/bits.deBruijn64tab", laid_math_bits_deBruijn64tab), ("internal/strconv.uint64pow10", laid_internal_strconv_uint64pow10)] }
def TopPairsSaid : Prop := topPairsRow.holds Tryz.pinned (OpenSpec.ofChange topPairsSpec)

/-- ITS FALSE NEIGHBOUR: 'it returns false'. Refute it at one input. -/
def topPairsWrong : ChangeSpec := { name := "topPairs", fn := fun _ => fun
  | [d1, d2, d3] => { results := [.lit (.bool false)], args := [d1, d2, d3] }
  | _ => none }
def TopPairsWrongFalsely : Prop := topPairsRow.holds Tryz.pinned (OpenSpec.ofChange topPairsWrong)

/-- 'hauliertop.TopMoves': WHATEVER THE INPUT: true; the input reads as it did. -/
def topMovesSpec : ChangeSpec := { name := "topMoves", fn := fun _ => fun
  | [d1, d2, d3, d4] => { results := [.lit (.bool true)], args := [d1, d2, d3, d4] }
  | _ => none }
def topMovesRow : OpenClaim := { program := "ytnoifgjiipgpoaagreatdoor", sum := "c3ffaf0a8e64f8835365beafc0365e8c74660f77cd1beb0c04fe4d5e669727a9", func := "haulier/hauliertop.TopMoves", spec := "topMoves", unfollowed := true, recurses := true, named := ["internal/strconv.uint64pow10", "math/bits.deBruijn32tab", "math/bits.deBruijn64tab"], plainKeys := false, apart := false, laid := [("math/bits.deBruijn32tab", laid_math_bits_deBruijn32tab), ("math/bits.deBruijn64tab", laid_math_bits_deBruijn64tab), ("internal/strconv.uint64pow10", laid_internal_strconv_uint64pow10)] }
def TopMovesSaid : Prop := topMovesRow.holds Tryz.pinned (OpenSpec.ofChange topMovesSpec)

/-- ITS FALSE NEIGHBOUR: 'it returns false'. Refute it at one input. -/
def topMovesWrong : ChangeSpec := { name := "topMoves", fn := fun _ => fun
  | [d1, d2, d3, d4] => { results := [.lit (.bool false)], args := [d1, d2, d3, d4] }
  | _ => none }
def TopMovesWrongFalsely : Prop := topMovesRow.holds Tryz.pinned (OpenSpec.ofChange topMovesWrong)

/- THE SECOND FORM. 'bulk': how many values and letters a reading holds, each counted each time it is reached (what is shared counts as often as it is met; a slice's spare places count too). A statement '..UptoSaid' is the law's where the arguments, and the package variables that the reading takes, are together of bulk at most 1048576: NARROWER than '..Said'. Prove '..Said' where nothing that the law and all that it calls make is longer than what came in: it says more and counts as full. Else prove '..UptoSaid'. A law counts once. -/
mutual
def uptoBulk {H : Type} : DataW H → Nat
  | .lit (.string bytes) => bytes.length + 1
  | .lit _ => 1
  | .nil => 1
  | .ptr d => uptoBulk d + 1
  | .slice elems spare => uptoBulkAll elems + uptoBulkAll spare + 1
  | .agg parts => uptoBulkAll parts + 1
  | .iface _ d => uptoBulk d + 1
  | .map entries => uptoBulkEntries entries + 1
  | .held _ => 1
def uptoBulkAll {H : Type} : List (DataW H) → Nat
  | [] => 0
  | d :: r => uptoBulk d + uptoBulkAll r
def uptoBulkEntries {H : Type} : List (Lit × DataW H) → Nat
  | [] => 0
  | x :: r => uptoBulkEntry x + uptoBulkEntries r
def uptoBulkEntry {H : Type} : Lit × DataW H → Nat
  | (.string bytes, d) => bytes.length + uptoBulk d + 1
  | (_, d) => uptoBulk d + 1
 end
def uptoSmall : (H : Type) → List (DataW H) → Bool := fun _ ds => decide (uptoBulkAll ds ≤ 1048576)
def OpenSpec.upto (s : _root_.Go.ChangeSpec) : _root_.Go.OpenSpec := { _root_.Go.OpenSpec.ofChange s with cond := some uptoSmall }

/-- 'haulierlaw23.SolveTells', WHERE WHAT IT READS IS OF BULK AT MOST 1048576: true; the input reads as it did. -/
def solveTellsUptoRow : OpenClaim := { program := "ytnoifgjiipgpoaagreatdoor", sum := "c3ffaf0a8e64f8835365beafc0365e8c74660f77cd1beb0c04fe4d5e669727a9", func := "haulier/haulierlaw23.SolveTells", spec := "solveTells", unfollowed := true, recurses := true, named := ["internal/strconv.uint64pow10", "math/bits.deBruijn32tab", "math/bits.deBruijn64tab"], plainKeys := false, apart := false, laid := [("math/bits.deBruijn32tab", laid_math_bits_deBruijn32tab), ("math/bits.deBruijn64tab", laid_math_bits_deBruijn64tab), ("internal/strconv.uint64pow10", laid_internal_strconv_uint64pow10)], narrowed := true }
def SolveTellsUptoSaid : Prop := solveTellsUptoRow.holds Tryz.pinned (OpenSpec.upto solveTellsSpec)

/-- 'haulierlaw23.SolveStatus', WHERE WHAT IT READS IS OF BULK AT MOST 1048576: true; the input reads as it did. -/
def solveStatusUptoRow : OpenClaim := { program := "ytnoifgjiipgpoaagreatdoor", sum := "c3ffaf0a8e64f8835365beafc0365e8c74660f77cd1beb0c04fe4d5e669727a9", func := "haulier/haulierlaw23.SolveStatus", spec := "solveStatus", unfollowed := true, recurses := true, named := ["internal/strconv.uint64pow10", "math/bits.deBruijn32tab", "math/bits.deBruijn64tab"], plainKeys := false, apart := false, laid := [("math/bits.deBruijn32tab", laid_math_bits_deBruijn32tab), ("math/bits.deBruijn64tab", laid_math_bits_deBruijn64tab), ("internal/strconv.uint64pow10", laid_internal_strconv_uint64pow10)], narrowed := true }
def SolveStatusUptoSaid : Prop := solveStatusUptoRow.holds Tryz.pinned (OpenSpec.upto solveStatusSpec)

/-- 'haulierlaw23.SolveNotes', WHERE WHAT IT READS IS OF BULK AT MOST 1048576: true; the input reads as it did. -/
def solveNotesUptoRow : OpenClaim := { program := "ytnoifgjiipgpoaagreatdoor", sum := "c3ffaf0a8e64f8835365beafc0365e8c74660f77cd1beb0c04fe4d5e669727a9", func := "haulier/haulierlaw23.SolveNotes", spec := "solveNotes", unfollowed := true, recurses := true, named := ["internal/strconv.uint64pow10", "math/bits.deBruijn32tab", "math/bits.deBruijn64tab"], plainKeys := false, apart := false, laid := [("math/bits.deBruijn32tab", laid_math_bits_deBruijn32tab), ("math/bits.deBruijn64tab", laid_math_bits_deBruijn64tab), ("internal/strconv.uint64pow10", laid_internal_strconv_uint64pow10)], narrowed := true }
def SolveNotesUptoSaid : Prop := solveNotesUptoRow.holds Tryz.pinned (OpenSpec.upto solveNotesSpec)

/-- 'haulierlaw23.SolveText', WHERE WHAT IT READS IS OF BULK AT MOST 1048576: true; the input reads as it did. -/
def solveTextUptoRow : OpenClaim := { program := "ytnoifgjiipgpoaagreatdoor", sum := "c3ffaf0a8e64f8835365beafc0365e8c74660f77cd1beb0c04fe4d5e669727a9", func := "haulier/haulierlaw23.SolveText", spec := "solveText", unfollowed := true, recurses := true, named := ["internal/strconv.uint64pow10", "math/bits.deBruijn32tab", "math/bits.deBruijn64tab"], plainKeys := false, apart := false, laid := [("math/bits.deBruijn32tab", laid_math_bits_deBruijn32tab), ("math/bits.deBruijn64tab", laid_math_bits_deBruijn64tab), ("internal/strconv.uint64pow10", laid_internal_strconv_uint64pow10)], narrowed := true }
def SolveTextUptoSaid : Prop := solveTextUptoRow.holds Tryz.pinned (OpenSpec.upto solveTextSpec)

/-- 'haulierlaw23.SolveAccepted', WHERE WHAT IT READS IS OF BULK AT MOST 1048576: true; the input reads as it did. -/
def solveAcceptedUptoRow : OpenClaim := { program := "ytnoifgjiipgpoaagreatdoor", sum := "c3ffaf0a8e64f8835365beafc0365e8c74660f77cd1beb0c04fe4d5e669727a9", func := "haulier/haulierlaw23.SolveAccepted", spec := "solveAccepted", unfollowed := true, recurses := true, named := ["internal/strconv.uint64pow10", "math/bits.deBruijn32tab", "math/bits.deBruijn64tab"], plainKeys := false, apart := false, laid := [("math/bits.deBruijn32tab", laid_math_bits_deBruijn32tab), ("math/bits.deBruijn64tab", laid_math_bits_deBruijn64tab), ("internal/strconv.uint64pow10", laid_internal_strconv_uint64pow10)], narrowed := true }
def SolveAcceptedUptoSaid : Prop := solveAcceptedUptoRow.holds Tryz.pinned (OpenSpec.upto solveAcceptedSpec)

/-- 'hauliertop.TopBrackets', WHERE WHAT IT READS IS OF BULK AT MOST 1048576: true; the input reads as it did. -/
def topBracketsUptoRow : OpenClaim := { program := "ytnoifgjiipgpoaagreatdoor", sum := "c3ffaf0a8e64f8835365beafc0365e8c74660f77cd1beb0c04fe4d5e669727a9", func := "haulier/hauliertop.TopBrackets", spec := "topBrackets", unfollowed := true, recurses := true, named := ["internal/strconv.uint64pow10", "math/bits.deBruijn32tab", "math/bits.deBruijn64tab"], plainKeys := false, apart := false, laid := [("math/bits.deBruijn32tab", laid_math_bits_deBruijn32tab), ("math/bits.deBruijn64tab", laid_math_bits_deBruijn64tab), ("internal/strconv.uint64pow10", laid_internal_strconv_uint64pow10)], narrowed := true }
def TopBracketsUptoSaid : Prop := topBracketsUptoRow.holds Tryz.pinned (OpenSpec.upto topBracketsSpec)

/-- 'hauliertop.TopPairs', WHERE WHAT IT READS IS OF BULK AT MOST 1048576: true; the input reads as it did. -/
def topPairsUptoRow : OpenClaim := { program := "ytnoifgjiipgpoaagreatdoor", sum := "c3ffaf0a8e64f8835365beafc0365e8c74660f77cd1beb0c04fe4d5e669727a9", func := "haulier/hauliertop.TopPairs", spec := "topPairs", unfollowed := true, recurses := true, named := ["internal/strconv.uint64pow10", "math/bits.deBruijn32tab", "math/bits.deBruijn64tab"], plainKeys := false, apart := false, laid := [("math/bits.deBruijn32tab", laid_math_bits_deBruijn32tab), ("math/bits.deBruijn64tab", laid_math_bits_deBruijn64tab), ("internal/strconv.uint64pow10", laid_internal_strconv_uint64pow10)], narrowed := true }
def TopPairsUptoSaid : Prop := topPairsUptoRow.holds Tryz.pinned (OpenSpec.upto topPairsSpec)

/-- 'hauliertop.TopMoves', WHERE WHAT IT READS IS OF BULK AT MOST 1048576: true; the input reads as it did. -/
def topMovesUptoRow : OpenClaim := { program := "ytnoifgjiipgpoaagreatdoor", sum := "c3ffaf0a8e64f8835365beafc0365e8c74660f77cd1beb0c04fe4d5e669727a9", func := "haulier/hauliertop.TopMoves", spec := "topMoves", unfollowed := true, recurses := true, named := ["internal/strconv.uint64pow10", "math/bits.deBruijn32tab", "math/bits.deBruijn64tab"], plainKeys := false, apart := false, laid := [("math/bits.deBruijn32tab", laid_math_bits_deBruijn32tab), ("math/bits.deBruijn64tab", laid_math_bits_deBruijn64tab), ("internal/strconv.uint64pow10", laid_internal_strconv_uint64pow10)], narrowed := true }
def TopMovesUptoSaid : Prop := topMovesUptoRow.holds Tryz.pinned (OpenSpec.upto topMovesSpec)

end Rows
end Go.Proofs.YtnoifgjiipgpoaaGreatDoor
