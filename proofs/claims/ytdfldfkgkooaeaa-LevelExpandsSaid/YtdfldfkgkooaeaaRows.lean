/-
  No cell of these rows narrows 'for every input' (looked for: loops, veiled, ifaces, maps, wideKeys, modest, calm, conditions, laid).
  DERIVED. THE GIVEN ROWS OF THIS SEAT. 12 by the template 'for every input the law returns true; each argument reads behind the call as it read before'; 0 by the template 'total and deterministic' (their statements: YtdfldfkgkooaeaaTotals.lean).
  GIVEN WITH THE SEED: the statements are not yours to turn. If you find one false, say at which input.
  Laid BY PROGRAM, IN A SANDBOX (cutbox-rows.mjs): the forced cells as the released guide's own fill.sh prints them over the translation 7dc80843f21d3ce4… (all of the seat's roots in one cut). By AI agents, Wed Nov 11 2026. No macro, syntax, notation, axiom, sorry.
-/
import Derived.Test.YtdfldfkgkooaeaaChecked
import GoSem.Claim
import GoSem.ClaimJoined
import GoSem.ClaimMapViews
import Derived.JoinedTies
import Derived.KernelRfl
namespace Go.Proofs.Ytdfldfkgkooaeaa
/- THE CELL 'sum', in the pinned program and in every row, IS THE sha256 OF THE DUMP (.gsa) THAT YtdfldfkgkooaeaaProg.lean LOADS. Nothing in Lean hashes anything: it is a label: what it is worth is what the hold of that sum in a sandbox is worth. -/
noncomputable def Try.pinned : Pinned := { name := "ytdfldfkgkooaeaa", sum := "7dc80843f21d3ce408f40322b63187cfe2219defc63d17a236bd6c50054afbae", checked := Try.checked }
namespace Rows
def none {H : Type} : Left H := { results := [], args := [] }

/-- 'haulierlaw12.BoundTells': WHATEVER THE INPUT: true; the input reads as it did. -/
def boundTellsSpec : ChangeSpec := { name := "boundTells", fn := fun _ => fun
  | [d1, d2] => { results := [.lit (.bool true)], args := [d1, d2] }
  | _ => none }
def boundTellsRow : OpenClaim := { program := "ytdfldfkgkooaeaa", sum := "7dc80843f21d3ce408f40322b63187cfe2219defc63d17a236bd6c50054afbae", func := "haulier/haulierlaw12.BoundTells", spec := "boundTells", unfollowed := true, recurses := true, plainKeys := false, apart := false }
def BoundTellsSaid : Prop := boundTellsRow.holds Try.pinned (OpenSpec.ofChange boundTellsSpec)

/-- ITS FALSE NEIGHBOUR: 'it returns false'. Refute it at one input. -/
def boundTellsWrong : ChangeSpec := { name := "boundTells", fn := fun _ => fun
  | [d1, d2] => { results := [.lit (.bool false)], args := [d1, d2] }
  | _ => none }
def BoundTellsWrongFalsely : Prop := boundTellsRow.holds Try.pinned (OpenSpec.ofChange boundTellsWrong)

/-- 'haulierlaw12.BoundCovers': WHATEVER THE INPUT: true; the input reads as it did. -/
def boundCoversSpec : ChangeSpec := { name := "boundCovers", fn := fun _ => fun
  | [d1, d2, d3] => { results := [.lit (.bool true)], args := [d1, d2, d3] }
  | _ => none }
def boundCoversRow : OpenClaim := { program := "ytdfldfkgkooaeaa", sum := "7dc80843f21d3ce408f40322b63187cfe2219defc63d17a236bd6c50054afbae", func := "haulier/haulierlaw12.BoundCovers", spec := "boundCovers", unfollowed := true, recurses := true, plainKeys := false, apart := false }
def BoundCoversSaid : Prop := boundCoversRow.holds Try.pinned (OpenSpec.ofChange boundCoversSpec)

/-- ITS FALSE NEIGHBOUR: 'it returns false'. Refute it at one input. -/
def boundCoversWrong : ChangeSpec := { name := "boundCovers", fn := fun _ => fun
  | [d1, d2, d3] => { results := [.lit (.bool false)], args := [d1, d2, d3] }
  | _ => none }
def BoundCoversWrongFalsely : Prop := boundCoversRow.holds Try.pinned (OpenSpec.ofChange boundCoversWrong)

/-- 'haulierlaw10.StateMoves': WHATEVER THE INPUT: true; the input reads as it did. -/
def stateMovesSpec : ChangeSpec := { name := "stateMoves", fn := fun _ => fun
  | [d1, d2, d3] => { results := [.lit (.bool true)], args := [d1, d2, d3] }
  | _ => none }
def stateMovesRow : OpenClaim := { program := "ytdfldfkgkooaeaa", sum := "7dc80843f21d3ce408f40322b63187cfe2219defc63d17a236bd6c50054afbae", func := "haulier/haulierlaw10.StateMoves", spec := "stateMoves", unfollowed := true, recurses := true, plainKeys := false, apart := false }
def StateMovesSaid : Prop := stateMovesRow.holds Try.pinned (OpenSpec.ofChange stateMovesSpec)

/-- ITS FALSE NEIGHBOUR: 'it returns false'. Refute it at one input. -/
def stateMovesWrong : ChangeSpec := { name := "stateMoves", fn := fun _ => fun
  | [d1, d2, d3] => { results := [.lit (.bool false)], args := [d1, d2, d3] }
  | _ => none }
def StateMovesWrongFalsely : Prop := stateMovesRow.holds Try.pinned (OpenSpec.ofChange stateMovesWrong)

/-- 'haulierlaw10.StateFollows': WHATEVER THE INPUT: true; the input reads as it did. -/
def stateFollowsSpec : ChangeSpec := { name := "stateFollows", fn := fun _ => fun
  | [d1, d2] => { results := [.lit (.bool true)], args := [d1, d2] }
  | _ => none }
def stateFollowsRow : OpenClaim := { program := "ytdfldfkgkooaeaa", sum := "7dc80843f21d3ce408f40322b63187cfe2219defc63d17a236bd6c50054afbae", func := "haulier/haulierlaw10.StateFollows", spec := "stateFollows", unfollowed := true, recurses := true, plainKeys := false, apart := false }
def StateFollowsSaid : Prop := stateFollowsRow.holds Try.pinned (OpenSpec.ofChange stateFollowsSpec)

/-- ITS FALSE NEIGHBOUR: 'it returns false'. Refute it at one input. -/
def stateFollowsWrong : ChangeSpec := { name := "stateFollows", fn := fun _ => fun
  | [d1, d2] => { results := [.lit (.bool false)], args := [d1, d2] }
  | _ => none }
def StateFollowsWrongFalsely : Prop := stateFollowsRow.holds Try.pinned (OpenSpec.ofChange stateFollowsWrong)

/-- 'haulierlaw10.StateSeen': WHATEVER THE INPUT: true; the input reads as it did. -/
def stateSeenSpec : ChangeSpec := { name := "stateSeen", fn := fun _ => fun
  | [d1, d2] => { results := [.lit (.bool true)], args := [d1, d2] }
  | _ => none }
def stateSeenRow : OpenClaim := { program := "ytdfldfkgkooaeaa", sum := "7dc80843f21d3ce408f40322b63187cfe2219defc63d17a236bd6c50054afbae", func := "haulier/haulierlaw10.StateSeen", spec := "stateSeen", unfollowed := true, recurses := true, plainKeys := false, apart := false }
def StateSeenSaid : Prop := stateSeenRow.holds Try.pinned (OpenSpec.ofChange stateSeenSpec)

/-- ITS FALSE NEIGHBOUR: 'it returns false'. Refute it at one input. -/
def stateSeenWrong : ChangeSpec := { name := "stateSeen", fn := fun _ => fun
  | [d1, d2] => { results := [.lit (.bool false)], args := [d1, d2] }
  | _ => none }
def StateSeenWrongFalsely : Prop := stateSeenRow.holds Try.pinned (OpenSpec.ofChange stateSeenWrong)

/-- 'haulierlaw10.StateSteps': WHATEVER THE INPUT: true; the input reads as it did. -/
def stateStepsSpec : ChangeSpec := { name := "stateSteps", fn := fun _ => fun
  | [d1, d2] => { results := [.lit (.bool true)], args := [d1, d2] }
  | _ => none }
def stateStepsRow : OpenClaim := { program := "ytdfldfkgkooaeaa", sum := "7dc80843f21d3ce408f40322b63187cfe2219defc63d17a236bd6c50054afbae", func := "haulier/haulierlaw10.StateSteps", spec := "stateSteps", unfollowed := true, recurses := true, plainKeys := false, apart := false }
def StateStepsSaid : Prop := stateStepsRow.holds Try.pinned (OpenSpec.ofChange stateStepsSpec)

/-- ITS FALSE NEIGHBOUR: 'it returns false'. Refute it at one input. -/
def stateStepsWrong : ChangeSpec := { name := "stateSteps", fn := fun _ => fun
  | [d1, d2] => { results := [.lit (.bool false)], args := [d1, d2] }
  | _ => none }
def StateStepsWrongFalsely : Prop := stateStepsRow.holds Try.pinned (OpenSpec.ofChange stateStepsWrong)

/-- 'haulierlaw10.StateLate': WHATEVER THE INPUT: true; the input reads as it did. -/
def stateLateSpec : ChangeSpec := { name := "stateLate", fn := fun _ => fun
  | [d1, d2, d3, d4, d5] => { results := [.lit (.bool true)], args := [d1, d2, d3, d4, d5] }
  | _ => none }
def stateLateRow : OpenClaim := { program := "ytdfldfkgkooaeaa", sum := "7dc80843f21d3ce408f40322b63187cfe2219defc63d17a236bd6c50054afbae", func := "haulier/haulierlaw10.StateLate", spec := "stateLate", unfollowed := true, recurses := true, plainKeys := false, apart := false }
def StateLateSaid : Prop := stateLateRow.holds Try.pinned (OpenSpec.ofChange stateLateSpec)

/-- ITS FALSE NEIGHBOUR: 'it returns false'. Refute it at one input. -/
def stateLateWrong : ChangeSpec := { name := "stateLate", fn := fun _ => fun
  | [d1, d2, d3, d4, d5] => { results := [.lit (.bool false)], args := [d1, d2, d3, d4, d5] }
  | _ => none }
def StateLateWrongFalsely : Prop := stateLateRow.holds Try.pinned (OpenSpec.ofChange stateLateWrong)

/-- 'haulierlaw10.StateEnds': WHATEVER THE INPUT: true; the input reads as it did. -/
def stateEndsSpec : ChangeSpec := { name := "stateEnds", fn := fun _ => fun
  | [d1, d2] => { results := [.lit (.bool true)], args := [d1, d2] }
  | _ => none }
def stateEndsRow : OpenClaim := { program := "ytdfldfkgkooaeaa", sum := "7dc80843f21d3ce408f40322b63187cfe2219defc63d17a236bd6c50054afbae", func := "haulier/haulierlaw10.StateEnds", spec := "stateEnds", unfollowed := true, recurses := true, plainKeys := false, apart := false }
def StateEndsSaid : Prop := stateEndsRow.holds Try.pinned (OpenSpec.ofChange stateEndsSpec)

/-- ITS FALSE NEIGHBOUR: 'it returns false'. Refute it at one input. -/
def stateEndsWrong : ChangeSpec := { name := "stateEnds", fn := fun _ => fun
  | [d1, d2] => { results := [.lit (.bool false)], args := [d1, d2] }
  | _ => none }
def StateEndsWrongFalsely : Prop := stateEndsRow.holds Try.pinned (OpenSpec.ofChange stateEndsWrong)

/-- 'haulierlaw12.BoundSteps': WHATEVER THE INPUT: true; the input reads as it did. -/
def boundStepsSpec : ChangeSpec := { name := "boundSteps", fn := fun _ => fun
  | [d1, d2] => { results := [.lit (.bool true)], args := [d1, d2] }
  | _ => none }
def boundStepsRow : OpenClaim := { program := "ytdfldfkgkooaeaa", sum := "7dc80843f21d3ce408f40322b63187cfe2219defc63d17a236bd6c50054afbae", func := "haulier/haulierlaw12.BoundSteps", spec := "boundSteps", unfollowed := true, recurses := true, plainKeys := false, apart := false }
def BoundStepsSaid : Prop := boundStepsRow.holds Try.pinned (OpenSpec.ofChange boundStepsSpec)

/-- ITS FALSE NEIGHBOUR: 'it returns false'. Refute it at one input. -/
def boundStepsWrong : ChangeSpec := { name := "boundSteps", fn := fun _ => fun
  | [d1, d2] => { results := [.lit (.bool false)], args := [d1, d2] }
  | _ => none }
def BoundStepsWrongFalsely : Prop := boundStepsRow.holds Try.pinned (OpenSpec.ofChange boundStepsWrong)

/-- 'haulierlaw12.BoundLess': WHATEVER THE INPUT: true; the input reads as it did. -/
def boundLessSpec : ChangeSpec := { name := "boundLess", fn := fun _ => fun
  | [d1, d2, d3] => { results := [.lit (.bool true)], args := [d1, d2, d3] }
  | _ => none }
def boundLessRow : OpenClaim := { program := "ytdfldfkgkooaeaa", sum := "7dc80843f21d3ce408f40322b63187cfe2219defc63d17a236bd6c50054afbae", func := "haulier/haulierlaw12.BoundLess", spec := "boundLess", unfollowed := true, recurses := true, plainKeys := false, apart := false }
def BoundLessSaid : Prop := boundLessRow.holds Try.pinned (OpenSpec.ofChange boundLessSpec)

/-- ITS FALSE NEIGHBOUR: 'it returns false'. Refute it at one input. -/
def boundLessWrong : ChangeSpec := { name := "boundLess", fn := fun _ => fun
  | [d1, d2, d3] => { results := [.lit (.bool false)], args := [d1, d2, d3] }
  | _ => none }
def BoundLessWrongFalsely : Prop := boundLessRow.holds Try.pinned (OpenSpec.ofChange boundLessWrong)

/-- 'haulierlaw12.BoundWays': WHATEVER THE INPUT: true; the input reads as it did. -/
def boundWaysSpec : ChangeSpec := { name := "boundWays", fn := fun _ => fun
  | [d1, d2, d3] => { results := [.lit (.bool true)], args := [d1, d2, d3] }
  | _ => none }
def boundWaysRow : OpenClaim := { program := "ytdfldfkgkooaeaa", sum := "7dc80843f21d3ce408f40322b63187cfe2219defc63d17a236bd6c50054afbae", func := "haulier/haulierlaw12.BoundWays", spec := "boundWays", unfollowed := true, recurses := true, plainKeys := false, apart := false }
def BoundWaysSaid : Prop := boundWaysRow.holds Try.pinned (OpenSpec.ofChange boundWaysSpec)

/-- ITS FALSE NEIGHBOUR: 'it returns false'. Refute it at one input. -/
def boundWaysWrong : ChangeSpec := { name := "boundWays", fn := fun _ => fun
  | [d1, d2, d3] => { results := [.lit (.bool false)], args := [d1, d2, d3] }
  | _ => none }
def BoundWaysWrongFalsely : Prop := boundWaysRow.holds Try.pinned (OpenSpec.ofChange boundWaysWrong)

/-- 'haulierlaw14.LevelExpands': WHATEVER THE INPUT: true; the input reads as it did. -/
def levelExpandsSpec : ChangeSpec := { name := "levelExpands", fn := fun _ => fun
  | [d1, d2, d3] => { results := [.lit (.bool true)], args := [d1, d2, d3] }
  | _ => none }
def levelExpandsRow : OpenClaim := { program := "ytdfldfkgkooaeaa", sum := "7dc80843f21d3ce408f40322b63187cfe2219defc63d17a236bd6c50054afbae", func := "haulier/haulierlaw14.LevelExpands", spec := "levelExpands", unfollowed := true, recurses := true, plainKeys := false, apart := false }
def LevelExpandsSaid : Prop := levelExpandsRow.holds Try.pinned (OpenSpec.ofChange levelExpandsSpec)

/-- ITS FALSE NEIGHBOUR: 'it returns false'. Refute it at one input. -/
def levelExpandsWrong : ChangeSpec := { name := "levelExpands", fn := fun _ => fun
  | [d1, d2, d3] => { results := [.lit (.bool false)], args := [d1, d2, d3] }
  | _ => none }
def LevelExpandsWrongFalsely : Prop := levelExpandsRow.holds Try.pinned (OpenSpec.ofChange levelExpandsWrong)

/- THE SECOND FORM. 'bulk': how many values and letters a reading holds, each counted each time it is reached (what is shared counts as often as it is met; a slice's spare places count too). A statement '..UptoSaid' is the law's where the arguments, and the package variables that the reading takes, are together of bulk at most 1048576: NARROWER than '..Said'. Prove '..Said' where nothing that the law and all that it calls make is longer than what came in: it says more and counts as full. Else prove '..UptoSaid'. A law counts once. -/
mutual
def uptoBulk {H : Type} : DataW H → Nat
  | .lit (.string bytes) => bytes.length + 1
  | .lit _ => 1
  | .nil => 1
  | .ptr d => uptoBulk d + 1
  | .slice elems spare => uptoBulkAll elems + uptoBulkAll spare + 1
  | .agg parts => uptoBulkAll parts + 1
  | .iface _ d => uptoBulk d + 1
  | .map entries => uptoBulkEntries entries + 1
  | .held _ => 1
def uptoBulkAll {H : Type} : List (DataW H) → Nat
  | [] => 0
  | d :: r => uptoBulk d + uptoBulkAll r
def uptoBulkEntries {H : Type} : List (Lit × DataW H) → Nat
  | [] => 0
  | x :: r => uptoBulkEntry x + uptoBulkEntries r
def uptoBulkEntry {H : Type} : Lit × DataW H → Nat
  | (.string bytes, d) => bytes.length + uptoBulk d + 1
  | (_, d) => uptoBulk d + 1
 end
def uptoSmall : (H : Type) → List (DataW H) → Bool := fun _ ds => decide (uptoBulkAll ds ≤ 1048576)
def OpenSpec.upto (s : _root_.Go.ChangeSpec) : _root_.Go.OpenSpec := { _root_.Go.OpenSpec.ofChange s with cond := some uptoSmall }

/-- 'haulierlaw12.BoundTells', WHERE WHAT IT READS IS OF BULK AT MOST 1048576: true; the input reads as it did. -/
def boundTellsUptoRow : OpenClaim := { program := "ytdfldfkgkooaeaa", sum := "7dc80843f21d3ce408f40322b63187cfe2219defc63d17a236bd6c50054afbae", func := "haulier/haulierlaw12.BoundTells", spec := "boundTells", unfollowed := true, recurses := true, plainKeys := false, apart := false, narrowed := true }
def BoundTellsUptoSaid : Prop := boundTellsUptoRow.holds Try.pinned (OpenSpec.upto boundTellsSpec)

/-- 'haulierlaw12.BoundCovers', WHERE WHAT IT READS IS OF BULK AT MOST 1048576: true; the input reads as it did. -/
def boundCoversUptoRow : OpenClaim := { program := "ytdfldfkgkooaeaa", sum := "7dc80843f21d3ce408f40322b63187cfe2219defc63d17a236bd6c50054afbae", func := "haulier/haulierlaw12.BoundCovers", spec := "boundCovers", unfollowed := true, recurses := true, plainKeys := false, apart := false, narrowed := true }
def BoundCoversUptoSaid : Prop := boundCoversUptoRow.holds Try.pinned (OpenSpec.upto boundCoversSpec)

/-- 'haulierlaw10.StateMoves', WHERE WHAT IT READS IS OF BULK AT MOST 1048576: true; the input reads as it did. -/
def stateMovesUptoRow : OpenClaim := { program := "ytdfldfkgkooaeaa", sum := "7dc80843f21d3ce408f40322b63187cfe2219defc63d17a236bd6c50054afbae", func := "haulier/haulierlaw10.StateMoves", spec := "stateMoves", unfollowed := true, recurses := true, plainKeys := false, apart := false, narrowed := true }
def StateMovesUptoSaid : Prop := stateMovesUptoRow.holds Try.pinned (OpenSpec.upto stateMovesSpec)

/-- 'haulierlaw10.StateFollows', WHERE WHAT IT READS IS OF BULK AT MOST 1048576: true; the input reads as it did. -/
def stateFollowsUptoRow : OpenClaim := { program := "ytdfldfkgkooaeaa", sum := "7dc80843f21d3ce408f40322b63187cfe2219defc63d17a236bd6c50054afbae", func := "haulier/haulierlaw10.StateFollows", spec := "stateFollows", unfollowed := true, recurses := true, plainKeys := false, apart := false, narrowed := true }
def StateFollowsUptoSaid : Prop := stateFollowsUptoRow.holds Try.pinned (OpenSpec.upto stateFollowsSpec)

/-- 'haulierlaw10.StateSeen', WHERE WHAT IT READS IS OF BULK AT MOST 1048576: true; the input reads as it did. -/
def stateSeenUptoRow : OpenClaim := { program := "ytdfldfkgkooaeaa", sum := "7dc80843f21d3ce408f40322b63187cfe2219defc63d17a236bd6c50054afbae", func := "haulier/haulierlaw10.StateSeen", spec := "stateSeen", unfollowed := true, recurses := true, plainKeys := false, apart := false, narrowed := true }
def StateSeenUptoSaid : Prop := stateSeenUptoRow.holds Try.pinned (OpenSpec.upto stateSeenSpec)

/-- 'haulierlaw10.StateSteps', WHERE WHAT IT READS IS OF BULK AT MOST 1048576: true; the input reads as it did. -/
def stateStepsUptoRow : OpenClaim := { program := "ytdfldfkgkooaeaa", sum := "7dc80843f21d3ce408f40322b63187cfe2219defc63d17a236bd6c50054afbae", func := "haulier/haulierlaw10.StateSteps", spec := "stateSteps", unfollowed := true, recurses := true, plainKeys := false, apart := false, narrowed := true }
def StateStepsUptoSaid : Prop := stateStepsUptoRow.holds Try.pinned (OpenSpec.upto stateStepsSpec)

/-- 'haulierlaw10.StateLate', WHERE WHAT IT READS IS OF BULK AT MOST 1048576: true; the input reads as it did. -/
def stateLateUptoRow : OpenClaim := { program := "ytdfldfkgkooaeaa", sum := "7dc80843f21d3ce408f40322b63187cfe2219defc63d17a236bd6c50054afbae", func := "haulier/haulierlaw10.StateLate", spec := "stateLate", unfollowed := true, recurses := true, plainKeys := false, apart := false, narrowed := true }
def StateLateUptoSaid : Prop := stateLateUptoRow.holds Try.pinned (OpenSpec.upto stateLateSpec)

/-- 'haulierlaw10.StateEnds', WHERE WHAT IT READS IS OF BULK AT MOST 1048576: true; the input reads as it did. -/
def stateEndsUptoRow : OpenClaim := { program := "ytdfldfkgkooaeaa", sum := "7dc80843f21d3ce408f40322b63187cfe2219defc63d17a236bd6c50054afbae", func := "haulier/haulierlaw10.StateEnds", spec := "stateEnds", unfollowed := true, recurses := true, plainKeys := false, apart := false, narrowed := true }
def StateEndsUptoSaid : Prop := stateEndsUptoRow.holds Try.pinned (OpenSpec.upto stateEndsSpec)

/-- 'haulierlaw12.BoundSteps', WHERE WHAT IT READS IS OF BULK AT MOST 1048576: true; the input reads as it did. -/
def boundStepsUptoRow : OpenClaim := { program := "ytdfldfkgkooaeaa", sum := "7dc80843f21d3ce408f40322b63187cfe2219defc63d17a236bd6c50054afbae", func := "haulier/haulierlaw12.BoundSteps", spec := "boundSteps", unfollowed := true, recurses := true, plainKeys := false, apart := false, narrowed := true }
def BoundStepsUptoSaid : Prop := boundStepsUptoRow.holds Try.pinned (OpenSpec.upto boundStepsSpec)

/-- 'haulierlaw12.BoundLess', WHERE WHAT IT READS IS OF BULK AT MOST 1048576: true; the input reads as it did. -/
def boundLessUptoRow : OpenClaim := { program := "ytdfldfkgkooaeaa", sum := "7dc80843f21d3ce408f40322b63187cfe2219defc63d17a236bd6c50054afbae", func := "haulier/haulierlaw12.BoundLess", spec := "boundLess", unfollowed := true, recurses := true, plainKeys := false, apart := false, narrowed := true }
def BoundLessUptoSaid : Prop := boundLessUptoRow.holds Try.pinned (OpenSpec.upto boundLessSpec)

/-- 'haulierlaw12.BoundWays', WHERE WHAT IT READS IS OF BULK AT MOST 1048576: true; the input reads as it did. -/
def boundWaysUptoRow : OpenClaim := { program := "ytdfldfkgkooaeaa", sum := "7dc80843f21d3ce408f40322b63187cfe2219defc63d17a236bd6c50054afbae", func := "haulier/haulierlaw12.BoundWays", spec := "boundWays", unfollowed := true, recurses := true, plainKeys := false, apart := false, narrowed := true }
def BoundWaysUptoSaid : Prop := boundWaysUptoRow.holds Try.pinned (OpenSpec.upto boundWaysSpec)

/-- 'haulierlaw14.LevelExpands', WHERE WHAT IT READS IS OF BULK AT MOST 1048576: true; the input reads as it did. -/
def levelExpandsUptoRow : OpenClaim := { program := "ytdfldfkgkooaeaa", sum := "7dc80843f21d3ce408f40322b63187cfe2219defc63d17a236bd6c50054afbae", func := "haulier/haulierlaw14.LevelExpands", spec := "levelExpands", unfollowed := true, recurses := true, plainKeys := false, apart := false, narrowed := true }
def LevelExpandsUptoSaid : Prop := levelExpandsUptoRow.holds Try.pinned (OpenSpec.upto levelExpandsSpec)

end Rows
end Go.Proofs.Ytdfldfkgkooaeaa
