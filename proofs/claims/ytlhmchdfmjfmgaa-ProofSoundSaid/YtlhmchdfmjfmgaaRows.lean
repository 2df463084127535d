/-
  No cell of these rows narrows 'for every input' (looked for: loops, veiled, ifaces, maps, wideKeys, modest, calm, conditions, laid).
  DERIVED. THE GIVEN ROWS OF THIS SEAT. 11 by the template 'for every input the law returns true; each argument reads behind the call as it read before'; 0 by the template 'total and deterministic' (their statements: YtlhmchdfmjfmgaaTotals.lean).
  GIVEN WITH THE SEED: the statements are not yours to turn. If you find one false, say at which input.
  Laid BY PROGRAM, IN A SANDBOX (cutbox-rows.mjs): the forced cells as the released guide's own fill.sh prints them over the translation 73098197b51c4090… (all of the seat's roots in one cut). By AI agents, Wed Nov 11 2026. No macro, syntax, notation, axiom, sorry.
-/
import Derived.Test.YtlhmchdfmjfmgaaChecked
import GoSem.Claim
import GoSem.ClaimJoined
import GoSem.ClaimMapViews
import Derived.JoinedTies
import Derived.KernelRfl
namespace Go.Proofs.Ytlhmchdfmjfmgaa
/- THE CELL 'sum', in the pinned program and in every row, IS THE sha256 OF THE DUMP (.gsa) THAT YtlhmchdfmjfmgaaProg.lean LOADS. Nothing in Lean hashes anything: it is a label: what it is worth is what the hold of that sum in a sandbox is worth. -/
noncomputable def Try.pinned : Pinned := { name := "ytlhmchdfmjfmgaa", sum := "73098197b51c409013664dcd034f4792fc85aebe19970327288029c4e53f0ba9", checked := Try.checked }
namespace Rows
def none {H : Type} : Left H := { results := [], args := [] }

/-- 'haulierlaw20.ProofLess': WHATEVER THE INPUT: true; the input reads as it did. -/
def proofLessSpec : ChangeSpec := { name := "proofLess", fn := fun _ => fun
  | [d1, d2, d3] => { results := [.lit (.bool true)], args := [d1, d2, d3] }
  | _ => none }
def proofLessRow : OpenClaim := { program := "ytlhmchdfmjfmgaa", sum := "73098197b51c409013664dcd034f4792fc85aebe19970327288029c4e53f0ba9", func := "haulier/haulierlaw20.ProofLess", spec := "proofLess", unfollowed := true, recurses := true, plainKeys := false, apart := false }
def ProofLessSaid : Prop := proofLessRow.holds Try.pinned (OpenSpec.ofChange proofLessSpec)

/-- ITS FALSE NEIGHBOUR: 'it returns false'. Refute it at one input. -/
def proofLessWrong : ChangeSpec := { name := "proofLess", fn := fun _ => fun
  | [d1, d2, d3] => { results := [.lit (.bool false)], args := [d1, d2, d3] }
  | _ => none }
def ProofLessWrongFalsely : Prop := proofLessRow.holds Try.pinned (OpenSpec.ofChange proofLessWrong)

/-- 'haulierlaw20.ProofRoot': WHATEVER THE INPUT: true; the input reads as it did. -/
def proofRootSpec : ChangeSpec := { name := "proofRoot", fn := fun _ => fun
  | [d1, d2, d3, d4] => { results := [.lit (.bool true)], args := [d1, d2, d3, d4] }
  | _ => none }
def proofRootRow : OpenClaim := { program := "ytlhmchdfmjfmgaa", sum := "73098197b51c409013664dcd034f4792fc85aebe19970327288029c4e53f0ba9", func := "haulier/haulierlaw20.ProofRoot", spec := "proofRoot", unfollowed := true, recurses := true, plainKeys := false, apart := false }
def ProofRootSaid : Prop := proofRootRow.holds Try.pinned (OpenSpec.ofChange proofRootSpec)

/-- ITS FALSE NEIGHBOUR: 'it returns false'. Refute it at one input. -/
def proofRootWrong : ChangeSpec := { name := "proofRoot", fn := fun _ => fun
  | [d1, d2, d3, d4] => { results := [.lit (.bool false)], args := [d1, d2, d3, d4] }
  | _ => none }
def ProofRootWrongFalsely : Prop := proofRootRow.holds Try.pinned (OpenSpec.ofChange proofRootWrong)

/-- 'haulierlaw14.LevelSorts': WHATEVER THE INPUT: true; the input reads as it did. -/
def levelSortsSpec : ChangeSpec := { name := "levelSorts", fn := fun _ => fun
  | [d1, d2] => { results := [.lit (.bool true)], args := [d1, d2] }
  | _ => none }
def levelSortsRow : OpenClaim := { program := "ytlhmchdfmjfmgaa", sum := "73098197b51c409013664dcd034f4792fc85aebe19970327288029c4e53f0ba9", func := "haulier/haulierlaw14.LevelSorts", spec := "levelSorts", unfollowed := true, recurses := true, plainKeys := false, apart := false }
def LevelSortsSaid : Prop := levelSortsRow.holds Try.pinned (OpenSpec.ofChange levelSortsSpec)

/-- ITS FALSE NEIGHBOUR: 'it returns false'. Refute it at one input. -/
def levelSortsWrong : ChangeSpec := { name := "levelSorts", fn := fun _ => fun
  | [d1, d2] => { results := [.lit (.bool false)], args := [d1, d2] }
  | _ => none }
def LevelSortsWrongFalsely : Prop := levelSortsRow.holds Try.pinned (OpenSpec.ofChange levelSortsWrong)

/-- 'haulierlaw14.LevelOrder': WHATEVER THE INPUT: true; the input reads as it did. -/
def levelOrderSpec : ChangeSpec := { name := "levelOrder", fn := fun _ => fun
  | [d1, d2] => { results := [.lit (.bool true)], args := [d1, d2] }
  | _ => none }
def levelOrderRow : OpenClaim := { program := "ytlhmchdfmjfmgaa", sum := "73098197b51c409013664dcd034f4792fc85aebe19970327288029c4e53f0ba9", func := "haulier/haulierlaw14.LevelOrder", spec := "levelOrder", unfollowed := true, recurses := true, plainKeys := false, apart := false }
def LevelOrderSaid : Prop := levelOrderRow.holds Try.pinned (OpenSpec.ofChange levelOrderSpec)

/-- ITS FALSE NEIGHBOUR: 'it returns false'. Refute it at one input. -/
def levelOrderWrong : ChangeSpec := { name := "levelOrder", fn := fun _ => fun
  | [d1, d2] => { results := [.lit (.bool false)], args := [d1, d2] }
  | _ => none }
def LevelOrderWrongFalsely : Prop := levelOrderRow.holds Try.pinned (OpenSpec.ofChange levelOrderWrong)

/-- 'haulierlaw16.NarrowBest': WHATEVER THE INPUT: true; the input reads as it did. -/
def narrowBestSpec : ChangeSpec := { name := "narrowBest", fn := fun _ => fun
  | [d1, d2, d3, d4] => { results := [.lit (.bool true)], args := [d1, d2, d3, d4] }
  | _ => none }
def narrowBestRow : OpenClaim := { program := "ytlhmchdfmjfmgaa", sum := "73098197b51c409013664dcd034f4792fc85aebe19970327288029c4e53f0ba9", func := "haulier/haulierlaw16.NarrowBest", spec := "narrowBest", unfollowed := true, recurses := true, plainKeys := false, apart := false }
def NarrowBestSaid : Prop := narrowBestRow.holds Try.pinned (OpenSpec.ofChange narrowBestSpec)

/-- ITS FALSE NEIGHBOUR: 'it returns false'. Refute it at one input. -/
def narrowBestWrong : ChangeSpec := { name := "narrowBest", fn := fun _ => fun
  | [d1, d2, d3, d4] => { results := [.lit (.bool false)], args := [d1, d2, d3, d4] }
  | _ => none }
def NarrowBestWrongFalsely : Prop := narrowBestRow.holds Try.pinned (OpenSpec.ofChange narrowBestWrong)

/-- 'haulierlaw16.NarrowBound': WHATEVER THE INPUT: true; the input reads as it did. -/
def narrowBoundSpec : ChangeSpec := { name := "narrowBound", fn := fun _ => fun
  | [d1, d2, d3] => { results := [.lit (.bool true)], args := [d1, d2, d3] }
  | _ => none }
def narrowBoundRow : OpenClaim := { program := "ytlhmchdfmjfmgaa", sum := "73098197b51c409013664dcd034f4792fc85aebe19970327288029c4e53f0ba9", func := "haulier/haulierlaw16.NarrowBound", spec := "narrowBound", unfollowed := true, recurses := true, plainKeys := false, apart := false }
def NarrowBoundSaid : Prop := narrowBoundRow.holds Try.pinned (OpenSpec.ofChange narrowBoundSpec)

/-- ITS FALSE NEIGHBOUR: 'it returns false'. Refute it at one input. -/
def narrowBoundWrong : ChangeSpec := { name := "narrowBound", fn := fun _ => fun
  | [d1, d2, d3] => { results := [.lit (.bool false)], args := [d1, d2, d3] }
  | _ => none }
def NarrowBoundWrongFalsely : Prop := narrowBoundRow.holds Try.pinned (OpenSpec.ofChange narrowBoundWrong)

/-- 'haulierlaw16.NarrowLow': WHATEVER THE INPUT: true; the input reads as it did. -/
def narrowLowSpec : ChangeSpec := { name := "narrowLow", fn := fun _ => fun
  | [d1, d2, d3] => { results := [.lit (.bool true)], args := [d1, d2, d3] }
  | _ => none }
def narrowLowRow : OpenClaim := { program := "ytlhmchdfmjfmgaa", sum := "73098197b51c409013664dcd034f4792fc85aebe19970327288029c4e53f0ba9", func := "haulier/haulierlaw16.NarrowLow", spec := "narrowLow", unfollowed := true, recurses := true, plainKeys := false, apart := false }
def NarrowLowSaid : Prop := narrowLowRow.holds Try.pinned (OpenSpec.ofChange narrowLowSpec)

/-- ITS FALSE NEIGHBOUR: 'it returns false'. Refute it at one input. -/
def narrowLowWrong : ChangeSpec := { name := "narrowLow", fn := fun _ => fun
  | [d1, d2, d3] => { results := [.lit (.bool false)], args := [d1, d2, d3] }
  | _ => none }
def NarrowLowWrongFalsely : Prop := narrowLowRow.holds Try.pinned (OpenSpec.ofChange narrowLowWrong)

/-- 'haulierlaw15.ExactLeast': WHATEVER THE INPUT: true; the input reads as it did. -/
def exactLeastSpec : ChangeSpec := { name := "exactLeast", fn := fun _ => fun
  | [d1, d2, d3, d4] => { results := [.lit (.bool true)], args := [d1, d2, d3, d4] }
  | _ => none }
def exactLeastRow : OpenClaim := { program := "ytlhmchdfmjfmgaa", sum := "73098197b51c409013664dcd034f4792fc85aebe19970327288029c4e53f0ba9", func := "haulier/haulierlaw15.ExactLeast", spec := "exactLeast", unfollowed := true, recurses := true, plainKeys := false, apart := false }
def ExactLeastSaid : Prop := exactLeastRow.holds Try.pinned (OpenSpec.ofChange exactLeastSpec)

/-- ITS FALSE NEIGHBOUR: 'it returns false'. Refute it at one input. -/
def exactLeastWrong : ChangeSpec := { name := "exactLeast", fn := fun _ => fun
  | [d1, d2, d3, d4] => { results := [.lit (.bool false)], args := [d1, d2, d3, d4] }
  | _ => none }
def ExactLeastWrongFalsely : Prop := exactLeastRow.holds Try.pinned (OpenSpec.ofChange exactLeastWrong)

/-- 'haulierlaw20.ProofSound': WHATEVER THE INPUT: true; the input reads as it did. -/
def proofSoundSpec : ChangeSpec := { name := "proofSound", fn := fun _ => fun
  | [d1, d2, d3] => { results := [.lit (.bool true)], args := [d1, d2, d3] }
  | _ => none }
def proofSoundRow : OpenClaim := { program := "ytlhmchdfmjfmgaa", sum := "73098197b51c409013664dcd034f4792fc85aebe19970327288029c4e53f0ba9", func := "haulier/haulierlaw20.ProofSound", spec := "proofSound", unfollowed := true, recurses := true, plainKeys := false, apart := false }
def ProofSoundSaid : Prop := proofSoundRow.holds Try.pinned (OpenSpec.ofChange proofSoundSpec)

/-- ITS FALSE NEIGHBOUR: 'it returns false'. Refute it at one input. -/
def proofSoundWrong : ChangeSpec := { name := "proofSound", fn := fun _ => fun
  | [d1, d2, d3] => { results := [.lit (.bool false)], args := [d1, d2, d3] }
  | _ => none }
def ProofSoundWrongFalsely : Prop := proofSoundRow.holds Try.pinned (OpenSpec.ofChange proofSoundWrong)

/-- 'haulierlaw16.NarrowLeast': WHATEVER THE INPUT: true; the input reads as it did. -/
def narrowLeastSpec : ChangeSpec := { name := "narrowLeast", fn := fun _ => fun
  | [d1, d2] => { results := [.lit (.bool true)], args := [d1, d2] }
  | _ => none }
def narrowLeastRow : OpenClaim := { program := "ytlhmchdfmjfmgaa", sum := "73098197b51c409013664dcd034f4792fc85aebe19970327288029c4e53f0ba9", func := "haulier/haulierlaw16.NarrowLeast", spec := "narrowLeast", unfollowed := true, recurses := true, plainKeys := false, apart := false }
def NarrowLeastSaid : Prop := narrowLeastRow.holds Try.pinned (OpenSpec.ofChange narrowLeastSpec)

/-- ITS FALSE NEIGHBOUR: 'it returns false'. Refute it at one input. -/
def narrowLeastWrong : ChangeSpec := { name := "narrowLeast", fn := fun _ => fun
  | [d1, d2] => { results := [.lit (.bool false)], args := [d1, d2] }
  | _ => none }
def NarrowLeastWrongFalsely : Prop := narrowLeastRow.holds Try.pinned (OpenSpec.ofChange narrowLeastWrong)

/-- 'haulierlaw16.NarrowPlans': WHATEVER THE INPUT: true; the input reads as it did. -/
def narrowPlansSpec : ChangeSpec := { name := "narrowPlans", fn := fun _ => fun
  | [d1, d2, d3] => { results := [.lit (.bool true)], args := [d1, d2, d3] }
  | _ => none }
def narrowPlansRow : OpenClaim := { program := "ytlhmchdfmjfmgaa", sum := "73098197b51c409013664dcd034f4792fc85aebe19970327288029c4e53f0ba9", func := "haulier/haulierlaw16.NarrowPlans", spec := "narrowPlans", unfollowed := true, recurses := true, plainKeys := false, apart := false }
def NarrowPlansSaid : Prop := narrowPlansRow.holds Try.pinned (OpenSpec.ofChange narrowPlansSpec)

/-- ITS FALSE NEIGHBOUR: 'it returns false'. Refute it at one input. -/
def narrowPlansWrong : ChangeSpec := { name := "narrowPlans", fn := fun _ => fun
  | [d1, d2, d3] => { results := [.lit (.bool false)], args := [d1, d2, d3] }
  | _ => none }
def NarrowPlansWrongFalsely : Prop := narrowPlansRow.holds Try.pinned (OpenSpec.ofChange narrowPlansWrong)

/- THE SECOND FORM. 'bulk': how many values and letters a reading holds, each counted each time it is reached (what is shared counts as often as it is met; a slice's spare places count too). A statement '..UptoSaid' is the law's where the arguments, and the package variables that the reading takes, are together of bulk at most 1048576: NARROWER than '..Said'. Prove '..Said' where nothing that the law and all that it calls make is longer than what came in: it says more and counts as full. Else prove '..UptoSaid'. A law counts once. -/
mutual
def uptoBulk {H : Type} : DataW H → Nat
  | .lit (.string bytes) => bytes.length + 1
  | .lit _ => 1
  | .nil => 1
  | .ptr d => uptoBulk d + 1
  | .slice elems spare => uptoBulkAll elems + uptoBulkAll spare + 1
  | .agg parts => uptoBulkAll parts + 1
  | .iface _ d => uptoBulk d + 1
  | .map entries => uptoBulkEntries entries + 1
  | .held _ => 1
def uptoBulkAll {H : Type} : List (DataW H) → Nat
  | [] => 0
  | d :: r => uptoBulk d + uptoBulkAll r
def uptoBulkEntries {H : Type} : List (Lit × DataW H) → Nat
  | [] => 0
  | x :: r => uptoBulkEntry x + uptoBulkEntries r
def uptoBulkEntry {H : Type} : Lit × DataW H → Nat
  | (.string bytes, d) => bytes.length + uptoBulk d + 1
  | (_, d) => uptoBulk d + 1
 end
def uptoSmall : (H : Type) → List (DataW H) → Bool := fun _ ds => decide (uptoBulkAll ds ≤ 1048576)
def OpenSpec.upto (s : _root_.Go.ChangeSpec) : _root_.Go.OpenSpec := { _root_.Go.OpenSpec.ofChange s with cond := some uptoSmall }

/-- 'haulierlaw20.ProofLess', WHERE WHAT IT READS IS OF BULK AT MOST 1048576: true; the input reads as it did. -/
def proofLessUptoRow : OpenClaim := { program := "ytlhmchdfmjfmgaa", sum := "73098197b51c409013664dcd034f4792fc85aebe19970327288029c4e53f0ba9", func := "haulier/haulierlaw20.ProofLess", spec := "proofLess", unfollowed := true, recurses := true, plainKeys := false, apart := false, narrowed := true }
def ProofLessUptoSaid : Prop := proofLessUptoRow.holds Try.pinned (OpenSpec.upto proofLessSpec)

/-- 'haulierlaw20.ProofRoot', WHERE WHAT IT READS IS OF BULK AT MOST 1048576: true; the input reads as it did. -/
def proofRootUptoRow : OpenClaim := { program := "ytlhmchdfmjfmgaa", sum := "73098197b51c409013664dcd034f4792fc85aebe19970327288029c4e53f0ba9", func := "haulier/haulierlaw20.ProofRoot", spec := "proofRoot", unfollowed := true, recurses := true, plainKeys := false, apart := false, narrowed := true }
def ProofRootUptoSaid : Prop := proofRootUptoRow.holds Try.pinned (OpenSpec.upto proofRootSpec)

/-- 'haulierlaw14.LevelSorts', WHERE WHAT IT READS IS OF BULK AT MOST 1048576: true; the input reads as it did. -/
def levelSortsUptoRow : OpenClaim := { program := "ytlhmchdfmjfmgaa", sum := "73098197b51c409013664dcd034f4792fc85aebe19970327288029c4e53f0ba9", func := "haulier/haulierlaw14.LevelSorts", spec := "levelSorts", unfollowed := true, recurses := true, plainKeys := false, apart := false, narrowed := true }
def LevelSortsUptoSaid : Prop := levelSortsUptoRow.holds Try.pinned (OpenSpec.upto levelSortsSpec)

/-- 'haulierlaw14.LevelOrder', WHERE WHAT IT READS IS OF BULK AT MOST 1048576: true; the input reads as it did. -/
def levelOrderUptoRow : OpenClaim := { program := "ytlhmchdfmjfmgaa", sum := "73098197b51c409013664dcd034f4792fc85aebe19970327288029c4e53f0ba9", func := "haulier/haulierlaw14.LevelOrder", spec := "levelOrder", unfollowed := true, recurses := true, plainKeys := false, apart := false, narrowed := true }
def LevelOrderUptoSaid : Prop := levelOrderUptoRow.holds Try.pinned (OpenSpec.upto levelOrderSpec)

/-- 'haulierlaw16.NarrowBest', WHERE WHAT IT READS IS OF BULK AT MOST 1048576: true; the input reads as it did. -/
def narrowBestUptoRow : OpenClaim := { program := "ytlhmchdfmjfmgaa", sum := "73098197b51c409013664dcd034f4792fc85aebe19970327288029c4e53f0ba9", func := "haulier/haulierlaw16.NarrowBest", spec := "narrowBest", unfollowed := true, recurses := true, plainKeys := false, apart := false, narrowed := true }
def NarrowBestUptoSaid : Prop := narrowBestUptoRow.holds Try.pinned (OpenSpec.upto narrowBestSpec)

/-- 'haulierlaw16.NarrowBound', WHERE WHAT IT READS IS OF BULK AT MOST 1048576: true; the input reads as it did. -/
def narrowBoundUptoRow : OpenClaim := { program := "ytlhmchdfmjfmgaa", sum := "73098197b51c409013664dcd034f4792fc85aebe19970327288029c4e53f0ba9", func := "haulier/haulierlaw16.NarrowBound", spec := "narrowBound", unfollowed := true, recurses := true, plainKeys := false, apart := false, narrowed := true }
def NarrowBoundUptoSaid : Prop := narrowBoundUptoRow.holds Try.pinned (OpenSpec.upto narrowBoundSpec)

/-- 'haulierlaw16.NarrowLow', WHERE WHAT IT READS IS OF BULK AT MOST 1048576: true; the input reads as it did. -/
def narrowLowUptoRow : OpenClaim := { program := "ytlhmchdfmjfmgaa", sum := "73098197b51c409013664dcd034f4792fc85aebe19970327288029c4e53f0ba9", func := "haulier/haulierlaw16.NarrowLow", spec := "narrowLow", unfollowed := true, recurses := true, plainKeys := false, apart := false, narrowed := true }
def NarrowLowUptoSaid : Prop := narrowLowUptoRow.holds Try.pinned (OpenSpec.upto narrowLowSpec)

/-- 'haulierlaw15.ExactLeast', WHERE WHAT IT READS IS OF BULK AT MOST 1048576: true; the input reads as it did. -/
def exactLeastUptoRow : OpenClaim := { program := "ytlhmchdfmjfmgaa", sum := "73098197b51c409013664dcd034f4792fc85aebe19970327288029c4e53f0ba9", func := "haulier/haulierlaw15.ExactLeast", spec := "exactLeast", unfollowed := true, recurses := true, plainKeys := false, apart := false, narrowed := true }
def ExactLeastUptoSaid : Prop := exactLeastUptoRow.holds Try.pinned (OpenSpec.upto exactLeastSpec)

/-- 'haulierlaw20.ProofSound', WHERE WHAT IT READS IS OF BULK AT MOST 1048576: true; the input reads as it did. -/
def proofSoundUptoRow : OpenClaim := { program := "ytlhmchdfmjfmgaa", sum := "73098197b51c409013664dcd034f4792fc85aebe19970327288029c4e53f0ba9", func := "haulier/haulierlaw20.ProofSound", spec := "proofSound", unfollowed := true, recurses := true, plainKeys := false, apart := false, narrowed := true }
def ProofSoundUptoSaid : Prop := proofSoundUptoRow.holds Try.pinned (OpenSpec.upto proofSoundSpec)

/-- 'haulierlaw16.NarrowLeast', WHERE WHAT IT READS IS OF BULK AT MOST 1048576: true; the input reads as it did. -/
def narrowLeastUptoRow : OpenClaim := { program := "ytlhmchdfmjfmgaa", sum := "73098197b51c409013664dcd034f4792fc85aebe19970327288029c4e53f0ba9", func := "haulier/haulierlaw16.NarrowLeast", spec := "narrowLeast", unfollowed := true, recurses := true, plainKeys := false, apart := false, narrowed := true }
def NarrowLeastUptoSaid : Prop := narrowLeastUptoRow.holds Try.pinned (OpenSpec.upto narrowLeastSpec)

/-- 'haulierlaw16.NarrowPlans', WHERE WHAT IT READS IS OF BULK AT MOST 1048576: true; the input reads as it did. -/
def narrowPlansUptoRow : OpenClaim := { program := "ytlhmchdfmjfmgaa", sum := "73098197b51c409013664dcd034f4792fc85aebe19970327288029c4e53f0ba9", func := "haulier/haulierlaw16.NarrowPlans", spec := "narrowPlans", unfollowed := true, recurses := true, plainKeys := false, apart := false, narrowed := true }
def NarrowPlansUptoSaid : Prop := narrowPlansUptoRow.holds Try.pinned (OpenSpec.upto narrowPlansSpec)

end Rows
end Go.Proofs.Ytlhmchdfmjfmgaa
