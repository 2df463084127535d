/-
  No cell of these rows narrows 'for every input' (looked for: loops, veiled, ifaces, maps, wideKeys, modest, calm, conditions, laid).
  DERIVED. THE GIVEN ROWS OF THIS SEAT. 12 by the template 'for every input the law returns true; each argument reads behind the call as it read before'; 0 by the template 'total and deterministic' (their statements: YtackfabapangdaaGreatTotals.lean).
  GIVEN WITH THE SEED: the statements are not yours to turn. If you find one false, say at which input.
  Laid BY PROGRAM, IN A SANDBOX (cutbox-rows.mjs): the forced cells as the released guide's own fill.sh prints them over the translation 4e6a19761a2a4c76… (all of the seat's roots in one cut). By AI agents, Wed Nov 11 2026. No macro, syntax, notation, axiom, sorry.
-/
import Derived.Test.YtackfabapangdaaGreatChecked
import GoSem.Claim
import GoSem.ClaimJoined
import GoSem.ClaimMapViews
import Derived.JoinedTies
import Derived.KernelRfl
namespace Go.Proofs.YtackfabapangdaaGreat
/- THE CELL 'sum', in the pinned program and in every row, IS THE sha256 OF THE DUMP (.gsa) THAT YtackfabapangdaaGreatProg.lean LOADS. Nothing in Lean hashes anything: it is a label: what it is worth is what the hold of that sum in a sandbox is worth. -/
noncomputable def Tryz.pinned : Pinned := { name := "ytackfabapangdaagreat", sum := "4e6a19761a2a4c7692ea82545c5d3a855a92609af66e49950fe78df28baa350f", checked := Tryz.checked }
namespace Rows
def none {H : Type} : Left H := { results := [], args := [] }

/-- 'haulierlaw22.CheckTells': WHATEVER THE INPUT: true; the input reads as it did. -/
def checkTellsSpec : ChangeSpec := { name := "checkTells", fn := fun _ => fun
  | [d1, d2, d3] => { results := [.lit (.bool true)], args := [d1, d2, d3] }
  | _ => none }
def checkTellsRow : OpenClaim := { program := "ytackfabapangdaagreat", sum := "4e6a19761a2a4c7692ea82545c5d3a855a92609af66e49950fe78df28baa350f", func := "haulier/haulierlaw22.CheckTells", spec := "checkTells", unfollowed := true, recurses := true, plainKeys := false, apart := false }
def CheckTellsSaid : Prop := checkTellsRow.holds Tryz.pinned (OpenSpec.ofChange checkTellsSpec)

/-- ITS FALSE NEIGHBOUR: 'it returns false'. Refute it at one input. -/
def checkTellsWrong : ChangeSpec := { name := "checkTells", fn := fun _ => fun
  | [d1, d2, d3] => { results := [.lit (.bool false)], args := [d1, d2, d3] }
  | _ => none }
def CheckTellsWrongFalsely : Prop := checkTellsRow.holds Tryz.pinned (OpenSpec.ofChange checkTellsWrong)

/-- 'haulierlaw22.CheckSound': WHATEVER THE INPUT: true; the input reads as it did. -/
def checkSoundSpec : ChangeSpec := { name := "checkSound", fn := fun _ => fun
  | [d1, d2, d3, d4] => { results := [.lit (.bool true)], args := [d1, d2, d3, d4] }
  | _ => none }
def checkSoundRow : OpenClaim := { program := "ytackfabapangdaagreat", sum := "4e6a19761a2a4c7692ea82545c5d3a855a92609af66e49950fe78df28baa350f", func := "haulier/haulierlaw22.CheckSound", spec := "checkSound", unfollowed := true, recurses := true, plainKeys := false, apart := false }
def CheckSoundSaid : Prop := checkSoundRow.holds Tryz.pinned (OpenSpec.ofChange checkSoundSpec)

/-- ITS FALSE NEIGHBOUR: 'it returns false'. Refute it at one input. -/
def checkSoundWrong : ChangeSpec := { name := "checkSound", fn := fun _ => fun
  | [d1, d2, d3, d4] => { results := [.lit (.bool false)], args := [d1, d2, d3, d4] }
  | _ => none }
def CheckSoundWrongFalsely : Prop := checkSoundRow.holds Tryz.pinned (OpenSpec.ofChange checkSoundWrong)

/-- 'haulierlaw22.CheckParts': WHATEVER THE INPUT: true; the input reads as it did. -/
def checkPartsSpec : ChangeSpec := { name := "checkParts", fn := fun _ => fun
  | [d1, d2, d3] => { results := [.lit (.bool true)], args := [d1, d2, d3] }
  | _ => none }
def checkPartsRow : OpenClaim := { program := "ytackfabapangdaagreat", sum := "4e6a19761a2a4c7692ea82545c5d3a855a92609af66e49950fe78df28baa350f", func := "haulier/haulierlaw22.CheckParts", spec := "checkParts", unfollowed := true, recurses := true, plainKeys := false, apart := false }
def CheckPartsSaid : Prop := checkPartsRow.holds Tryz.pinned (OpenSpec.ofChange checkPartsSpec)

/-- ITS FALSE NEIGHBOUR: 'it returns false'. Refute it at one input. -/
def checkPartsWrong : ChangeSpec := { name := "checkParts", fn := fun _ => fun
  | [d1, d2, d3] => { results := [.lit (.bool false)], args := [d1, d2, d3] }
  | _ => none }
def CheckPartsWrongFalsely : Prop := checkPartsRow.holds Tryz.pinned (OpenSpec.ofChange checkPartsWrong)

/-- 'haulierlaw22.CheckOther': WHATEVER THE INPUT: true; the input reads as it did. -/
def checkOtherSpec : ChangeSpec := { name := "checkOther", fn := fun _ => fun
  | [d1, d2] => { results := [.lit (.bool true)], args := [d1, d2] }
  | _ => none }
def checkOtherRow : OpenClaim := { program := "ytackfabapangdaagreat", sum := "4e6a19761a2a4c7692ea82545c5d3a855a92609af66e49950fe78df28baa350f", func := "haulier/haulierlaw22.CheckOther", spec := "checkOther", unfollowed := true, recurses := true, plainKeys := false, apart := false }
def CheckOtherSaid : Prop := checkOtherRow.holds Tryz.pinned (OpenSpec.ofChange checkOtherSpec)

/-- ITS FALSE NEIGHBOUR: 'it returns false'. Refute it at one input. -/
def checkOtherWrong : ChangeSpec := { name := "checkOther", fn := fun _ => fun
  | [d1, d2] => { results := [.lit (.bool false)], args := [d1, d2] }
  | _ => none }
def CheckOtherWrongFalsely : Prop := checkOtherRow.holds Tryz.pinned (OpenSpec.ofChange checkOtherWrong)

/-- 'haulierlaw19.SearchRuns': WHATEVER THE INPUT: true; the input reads as it did. -/
def searchRunsSpec : ChangeSpec := { name := "searchRuns", fn := fun _ => fun
  | [d1, d2] => { results := [.lit (.bool true)], args := [d1, d2] }
  | _ => none }
def searchRunsRow : OpenClaim := { program := "ytackfabapangdaagreat", sum := "4e6a19761a2a4c7692ea82545c5d3a855a92609af66e49950fe78df28baa350f", func := "haulier/haulierlaw19.SearchRuns", spec := "searchRuns", unfollowed := true, recurses := true, plainKeys := false, apart := false }
def SearchRunsSaid : Prop := searchRunsRow.holds Tryz.pinned (OpenSpec.ofChange searchRunsSpec)

/-- ITS FALSE NEIGHBOUR: 'it returns false'. Refute it at one input. -/
def searchRunsWrong : ChangeSpec := { name := "searchRuns", fn := fun _ => fun
  | [d1, d2] => { results := [.lit (.bool false)], args := [d1, d2] }
  | _ => none }
def SearchRunsWrongFalsely : Prop := searchRunsRow.holds Tryz.pinned (OpenSpec.ofChange searchRunsWrong)

/-- 'haulierlaw19.SearchEvery': WHATEVER THE INPUT: true; the input reads as it did. -/
def searchEverySpec : ChangeSpec := { name := "searchEvery", fn := fun _ => fun
  | [d1, d2] => { results := [.lit (.bool true)], args := [d1, d2] }
  | _ => none }
def searchEveryRow : OpenClaim := { program := "ytackfabapangdaagreat", sum := "4e6a19761a2a4c7692ea82545c5d3a855a92609af66e49950fe78df28baa350f", func := "haulier/haulierlaw19.SearchEvery", spec := "searchEvery", unfollowed := true, recurses := true, plainKeys := false, apart := false }
def SearchEverySaid : Prop := searchEveryRow.holds Tryz.pinned (OpenSpec.ofChange searchEverySpec)

/-- ITS FALSE NEIGHBOUR: 'it returns false'. Refute it at one input. -/
def searchEveryWrong : ChangeSpec := { name := "searchEvery", fn := fun _ => fun
  | [d1, d2] => { results := [.lit (.bool false)], args := [d1, d2] }
  | _ => none }
def SearchEveryWrongFalsely : Prop := searchEveryRow.holds Tryz.pinned (OpenSpec.ofChange searchEveryWrong)

/-- 'haulierlaw19.SearchBudget': WHATEVER THE INPUT: true; the input reads as it did. -/
def searchBudgetSpec : ChangeSpec := { name := "searchBudget", fn := fun _ => fun
  | [d1, d2, d3] => { results := [.lit (.bool true)], args := [d1, d2, d3] }
  | _ => none }
def searchBudgetRow : OpenClaim := { program := "ytackfabapangdaagreat", sum := "4e6a19761a2a4c7692ea82545c5d3a855a92609af66e49950fe78df28baa350f", func := "haulier/haulierlaw19.SearchBudget", spec := "searchBudget", unfollowed := true, recurses := true, plainKeys := false, apart := false }
def SearchBudgetSaid : Prop := searchBudgetRow.holds Tryz.pinned (OpenSpec.ofChange searchBudgetSpec)

/-- ITS FALSE NEIGHBOUR: 'it returns false'. Refute it at one input. -/
def searchBudgetWrong : ChangeSpec := { name := "searchBudget", fn := fun _ => fun
  | [d1, d2, d3] => { results := [.lit (.bool false)], args := [d1, d2, d3] }
  | _ => none }
def SearchBudgetWrongFalsely : Prop := searchBudgetRow.holds Tryz.pinned (OpenSpec.ofChange searchBudgetWrong)

/-- 'haulierlaw19.SearchWidths': WHATEVER THE INPUT: true; the input reads as it did. -/
def searchWidthsSpec : ChangeSpec := { name := "searchWidths", fn := fun _ => fun
  | [d1, d2, d3] => { results := [.lit (.bool true)], args := [d1, d2, d3] }
  | _ => none }
def searchWidthsRow : OpenClaim := { program := "ytackfabapangdaagreat", sum := "4e6a19761a2a4c7692ea82545c5d3a855a92609af66e49950fe78df28baa350f", func := "haulier/haulierlaw19.SearchWidths", spec := "searchWidths", unfollowed := true, recurses := true, plainKeys := false, apart := false }
def SearchWidthsSaid : Prop := searchWidthsRow.holds Tryz.pinned (OpenSpec.ofChange searchWidthsSpec)

/-- ITS FALSE NEIGHBOUR: 'it returns false'. Refute it at one input. -/
def searchWidthsWrong : ChangeSpec := { name := "searchWidths", fn := fun _ => fun
  | [d1, d2, d3] => { results := [.lit (.bool false)], args := [d1, d2, d3] }
  | _ => none }
def SearchWidthsWrongFalsely : Prop := searchWidthsRow.holds Tryz.pinned (OpenSpec.ofChange searchWidthsWrong)

/-- 'haulierlaw19.SearchSteps': WHATEVER THE INPUT: true; the input reads as it did. -/
def searchStepsSpec : ChangeSpec := { name := "searchSteps", fn := fun _ => fun
  | [d1, d2] => { results := [.lit (.bool true)], args := [d1, d2] }
  | _ => none }
def searchStepsRow : OpenClaim := { program := "ytackfabapangdaagreat", sum := "4e6a19761a2a4c7692ea82545c5d3a855a92609af66e49950fe78df28baa350f", func := "haulier/haulierlaw19.SearchSteps", spec := "searchSteps", unfollowed := true, recurses := true, plainKeys := false, apart := false }
def SearchStepsSaid : Prop := searchStepsRow.holds Tryz.pinned (OpenSpec.ofChange searchStepsSpec)

/-- ITS FALSE NEIGHBOUR: 'it returns false'. Refute it at one input. -/
def searchStepsWrong : ChangeSpec := { name := "searchSteps", fn := fun _ => fun
  | [d1, d2] => { results := [.lit (.bool false)], args := [d1, d2] }
  | _ => none }
def SearchStepsWrongFalsely : Prop := searchStepsRow.holds Tryz.pinned (OpenSpec.ofChange searchStepsWrong)

/-- 'haulierlaw19.SearchCars': WHATEVER THE INPUT: true; the input reads as it did. -/
def searchCarsSpec : ChangeSpec := { name := "searchCars", fn := fun _ => fun
  | [d1, d2, d3, d4] => { results := [.lit (.bool true)], args := [d1, d2, d3, d4] }
  | _ => none }
def searchCarsRow : OpenClaim := { program := "ytackfabapangdaagreat", sum := "4e6a19761a2a4c7692ea82545c5d3a855a92609af66e49950fe78df28baa350f", func := "haulier/haulierlaw19.SearchCars", spec := "searchCars", unfollowed := true, recurses := true, plainKeys := false, apart := false }
def SearchCarsSaid : Prop := searchCarsRow.holds Tryz.pinned (OpenSpec.ofChange searchCarsSpec)

/-- ITS FALSE NEIGHBOUR: 'it returns false'. Refute it at one input. -/
def searchCarsWrong : ChangeSpec := { name := "searchCars", fn := fun _ => fun
  | [d1, d2, d3, d4] => { results := [.lit (.bool false)], args := [d1, d2, d3, d4] }
  | _ => none }
def SearchCarsWrongFalsely : Prop := searchCarsRow.holds Tryz.pinned (OpenSpec.ofChange searchCarsWrong)

/-- 'haulierlaw19.SearchLog': WHATEVER THE INPUT: true; the input reads as it did. -/
def searchLogSpec : ChangeSpec := { name := "searchLog", fn := fun _ => fun
  | [d1, d2] => { results := [.lit (.bool true)], args := [d1, d2] }
  | _ => none }
def searchLogRow : OpenClaim := { program := "ytackfabapangdaagreat", sum := "4e6a19761a2a4c7692ea82545c5d3a855a92609af66e49950fe78df28baa350f", func := "haulier/haulierlaw19.SearchLog", spec := "searchLog", unfollowed := true, recurses := true, plainKeys := false, apart := false }
def SearchLogSaid : Prop := searchLogRow.holds Tryz.pinned (OpenSpec.ofChange searchLogSpec)

/-- ITS FALSE NEIGHBOUR: 'it returns false'. Refute it at one input. -/
def searchLogWrong : ChangeSpec := { name := "searchLog", fn := fun _ => fun
  | [d1, d2] => { results := [.lit (.bool false)], args := [d1, d2] }
  | _ => none }
def SearchLogWrongFalsely : Prop := searchLogRow.holds Tryz.pinned (OpenSpec.ofChange searchLogWrong)

/-- 'haulierlaw19.SearchLeast': WHATEVER THE INPUT: true; the input reads as it did. -/
def searchLeastSpec : ChangeSpec := { name := "searchLeast", fn := fun _ => fun
  | [d1, d2, d3] => { results := [.lit (.bool true)], args := [d1, d2, d3] }
  | _ => none }
def searchLeastRow : OpenClaim := { program := "ytackfabapangdaagreat", sum := "4e6a19761a2a4c7692ea82545c5d3a855a92609af66e49950fe78df28baa350f", func := "haulier/haulierlaw19.SearchLeast", spec := "searchLeast", unfollowed := true, recurses := true, plainKeys := false, apart := false }
def SearchLeastSaid : Prop := searchLeastRow.holds Tryz.pinned (OpenSpec.ofChange searchLeastSpec)

/-- ITS FALSE NEIGHBOUR: 'it returns false'. Refute it at one input. -/
def searchLeastWrong : ChangeSpec := { name := "searchLeast", fn := fun _ => fun
  | [d1, d2, d3] => { results := [.lit (.bool false)], args := [d1, d2, d3] }
  | _ => none }
def SearchLeastWrongFalsely : Prop := searchLeastRow.holds Tryz.pinned (OpenSpec.ofChange searchLeastWrong)

/- THE SECOND FORM. 'bulk': how many values and letters a reading holds, each counted each time it is reached (what is shared counts as often as it is met; a slice's spare places count too). A statement '..UptoSaid' is the law's where the arguments, and the package variables that the reading takes, are together of bulk at most 1048576: NARROWER than '..Said'. Prove '..Said' where nothing that the law and all that it calls make is longer than what came in: it says more and counts as full. Else prove '..UptoSaid'. A law counts once. -/
mutual
def uptoBulk {H : Type} : DataW H → Nat
  | .lit (.string bytes) => bytes.length + 1
  | .lit _ => 1
  | .nil => 1
  | .ptr d => uptoBulk d + 1
  | .slice elems spare => uptoBulkAll elems + uptoBulkAll spare + 1
  | .agg parts => uptoBulkAll parts + 1
  | .iface _ d => uptoBulk d + 1
  | .map entries => uptoBulkEntries entries + 1
  | .held _ => 1
def uptoBulkAll {H : Type} : List (DataW H) → Nat
  | [] => 0
  | d :: r => uptoBulk d + uptoBulkAll r
def uptoBulkEntries {H : Type} : List (Lit × DataW H) → Nat
  | [] => 0
  | x :: r => uptoBulkEntry x + uptoBulkEntries r
def uptoBulkEntry {H : Type} : Lit × DataW H → Nat
  | (.string bytes, d) => bytes.length + uptoBulk d + 1
  | (_, d) => uptoBulk d + 1
 end
def uptoSmall : (H : Type) → List (DataW H) → Bool := fun _ ds => decide (uptoBulkAll ds ≤ 1048576)
def OpenSpec.upto (s : _root_.Go.ChangeSpec) : _root_.Go.OpenSpec := { _root_.Go.OpenSpec.ofChange s with cond := some uptoSmall }

/-- 'haulierlaw22.CheckTells', WHERE WHAT IT READS IS OF BULK AT MOST 1048576: true; the input reads as it did. -/
def checkTellsUptoRow : OpenClaim := { program := "ytackfabapangdaagreat", sum := "4e6a19761a2a4c7692ea82545c5d3a855a92609af66e49950fe78df28baa350f", func := "haulier/haulierlaw22.CheckTells", spec := "checkTells", unfollowed := true, recurses := true, plainKeys := false, apart := false, narrowed := true }
def CheckTellsUptoSaid : Prop := checkTellsUptoRow.holds Tryz.pinned (OpenSpec.upto checkTellsSpec)

/-- 'haulierlaw22.CheckSound', WHERE WHAT IT READS IS OF BULK AT MOST 1048576: true; the input reads as it did. -/
def checkSoundUptoRow : OpenClaim := { program := "ytackfabapangdaagreat", sum := "4e6a19761a2a4c7692ea82545c5d3a855a92609af66e49950fe78df28baa350f", func := "haulier/haulierlaw22.CheckSound", spec := "checkSound", unfollowed := true, recurses := true, plainKeys := false, apart := false, narrowed := true }
def CheckSoundUptoSaid : Prop := checkSoundUptoRow.holds Tryz.pinned (OpenSpec.upto checkSoundSpec)

/-- 'haulierlaw22.CheckParts', WHERE WHAT IT READS IS OF BULK AT MOST 1048576: true; the input reads as it did. -/
def checkPartsUptoRow : OpenClaim := { program := "ytackfabapangdaagreat", sum := "4e6a19761a2a4c7692ea82545c5d3a855a92609af66e49950fe78df28baa350f", func := "haulier/haulierlaw22.CheckParts", spec := "checkParts", unfollowed := true, recurses := true, plainKeys := false, apart := false, narrowed := true }
def CheckPartsUptoSaid : Prop := checkPartsUptoRow.holds Tryz.pinned (OpenSpec.upto checkPartsSpec)

/-- 'haulierlaw22.CheckOther', WHERE WHAT IT READS IS OF BULK AT MOST 1048576: true; the input reads as it did. -/
def checkOtherUptoRow : OpenClaim := { program := "ytackfabapangdaagreat", sum := "4e6a19761a2a4c7692ea82545c5d3a855a92609af66e49950fe78df28baa350f", func := "haulier/haulierlaw22.CheckOther", spec := "checkOther", unfollowed := true, recurses := true, plainKeys := false, apart := false, narrowed := true }
def CheckOtherUptoSaid : Prop := checkOtherUptoRow.holds Tryz.pinned (OpenSpec.upto checkOtherSpec)

/-- 'haulierlaw19.SearchRuns', WHERE WHAT IT READS IS OF BULK AT MOST 1048576: true; the input reads as it did. -/
def searchRunsUptoRow : OpenClaim := { program := "ytackfabapangdaagreat", sum := "4e6a19761a2a4c7692ea82545c5d3a855a92609af66e49950fe78df28baa350f", func := "haulier/haulierlaw19.SearchRuns", spec := "searchRuns", unfollowed := true, recurses := true, plainKeys := false, apart := false, narrowed := true }
def SearchRunsUptoSaid : Prop := searchRunsUptoRow.holds Tryz.pinned (OpenSpec.upto searchRunsSpec)

/-- 'haulierlaw19.SearchEvery', WHERE WHAT IT READS IS OF BULK AT MOST 1048576: true; the input reads as it did. -/
def searchEveryUptoRow : OpenClaim := { program := "ytackfabapangdaagreat", sum := "4e6a19761a2a4c7692ea82545c5d3a855a92609af66e49950fe78df28baa350f", func := "haulier/haulierlaw19.SearchEvery", spec := "searchEvery", unfollowed := true, recurses := true, plainKeys := false, apart := false, narrowed := true }
def SearchEveryUptoSaid : Prop := searchEveryUptoRow.holds Tryz.pinned (OpenSpec.upto searchEverySpec)

/-- 'haulierlaw19.SearchBudget', WHERE WHAT IT READS IS OF BULK AT MOST 1048576: true; the input reads as it did. -/
def searchBudgetUptoRow : OpenClaim := { program := "ytackfabapangdaagreat", sum := "4e6a19761a2a4c7692ea82545c5d3a855a92609af66e49950fe78df28baa350f", func := "haulier/haulierlaw19.SearchBudget", spec := "searchBudget", unfollowed := true, recurses := true, plainKeys := false, apart := false, narrowed := true }
def SearchBudgetUptoSaid : Prop := searchBudgetUptoRow.holds Tryz.pinned (OpenSpec.upto searchBudgetSpec)

/-- 'haulierlaw19.SearchWidths', WHERE WHAT IT READS IS OF BULK AT MOST 1048576: true; the input reads as it did. -/
def searchWidthsUptoRow : OpenClaim := { program := "ytackfabapangdaagreat", sum := "4e6a19761a2a4c7692ea82545c5d3a855a92609af66e49950fe78df28baa350f", func := "haulier/haulierlaw19.SearchWidths", spec := "searchWidths", unfollowed := true, recurses := true, plainKeys := false, apart := false, narrowed := true }
def SearchWidthsUptoSaid : Prop := searchWidthsUptoRow.holds Tryz.pinned (OpenSpec.upto searchWidthsSpec)

/-- 'haulierlaw19.SearchSteps', WHERE WHAT IT READS IS OF BULK AT MOST 1048576: true; the input reads as it did. -/
def searchStepsUptoRow : OpenClaim := { program := "ytackfabapangdaagreat", sum := "4e6a19761a2a4c7692ea82545c5d3a855a92609af66e49950fe78df28baa350f", func := "haulier/haulierlaw19.SearchSteps", spec := "searchSteps", unfollowed := true, recurses := true, plainKeys := false, apart := false, narrowed := true }
def SearchStepsUptoSaid : Prop := searchStepsUptoRow.holds Tryz.pinned (OpenSpec.upto searchStepsSpec)

/-- 'haulierlaw19.SearchCars', WHERE WHAT IT READS IS OF BULK AT MOST 1048576: true; the input reads as it did. -/
def searchCarsUptoRow : OpenClaim := { program := "ytackfabapangdaagreat", sum := "4e6a19761a2a4c7692ea82545c5d3a855a92609af66e49950fe78df28baa350f", func := "haulier/haulierlaw19.SearchCars", spec := "searchCars", unfollowed := true, recurses := true, plainKeys := false, apart := false, narrowed := true }
def SearchCarsUptoSaid : Prop := searchCarsUptoRow.holds Tryz.pinned (OpenSpec.upto searchCarsSpec)

/-- 'haulierlaw19.SearchLog', WHERE WHAT IT READS IS OF BULK AT MOST 1048576: true; the input reads as it did. -/
def searchLogUptoRow : OpenClaim := { program := "ytackfabapangdaagreat", sum := "4e6a19761a2a4c7692ea82545c5d3a855a92609af66e49950fe78df28baa350f", func := "haulier/haulierlaw19.SearchLog", spec := "searchLog", unfollowed := true, recurses := true, plainKeys := false, apart := false, narrowed := true }
def SearchLogUptoSaid : Prop := searchLogUptoRow.holds Tryz.pinned (OpenSpec.upto searchLogSpec)

/-- 'haulierlaw19.SearchLeast', WHERE WHAT IT READS IS OF BULK AT MOST 1048576: true; the input reads as it did. -/
def searchLeastUptoRow : OpenClaim := { program := "ytackfabapangdaagreat", sum := "4e6a19761a2a4c7692ea82545c5d3a855a92609af66e49950fe78df28baa350f", func := "haulier/haulierlaw19.SearchLeast", spec := "searchLeast", unfollowed := true, recurses := true, plainKeys := false, apart := false, narrowed := true }
def SearchLeastUptoSaid : Prop := searchLeastUptoRow.holds Tryz.pinned (OpenSpec.upto searchLeastSpec)

end Rows
end Go.Proofs.YtackfabapangdaaGreat
