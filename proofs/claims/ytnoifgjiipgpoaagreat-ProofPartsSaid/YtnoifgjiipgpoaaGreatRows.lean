/-
  No cell of these rows narrows 'for every input' (looked for: loops, veiled, ifaces, maps, wideKeys, modest, calm, conditions, laid).
  DERIVED. THE GIVEN ROWS OF THIS SEAT. 4 by the template 'for every input the law returns true; each argument reads behind the call as it read before'; 0 by the template 'total and deterministic' (their statements: YtnoifgjiipgpoaaGreatTotals.lean).
  GIVEN WITH THE SEED: the statements are not yours to turn. If you find one false, say at which input.
  Laid BY PROGRAM, IN A SANDBOX (cutbox-rows.mjs): the forced cells as the released guide's own fill.sh prints them over the translation cce680ba059d2c3e… (all of the seat's roots in one cut). By AI agents, Wed Nov 11 2026. No macro, syntax, notation, axiom, sorry.
-/
import Derived.Test.YtnoifgjiipgpoaaGreatChecked
import GoSem.Claim
import GoSem.ClaimJoined
import GoSem.ClaimMapViews
import Derived.JoinedTies
import Derived.KernelRfl
namespace Go.Proofs.YtnoifgjiipgpoaaGreat
/- THE CELL 'sum', in the pinned program and in every row, IS THE sha256 OF THE DUMP (.gsa) THAT YtnoifgjiipgpoaaGreatProg.lean LOADS. Nothing in Lean hashes anything: it is a label: what it is worth is what the hold of that sum in a sandbox is worth. -/
noncomputable def Tryz.pinned : Pinned := { name := "ytnoifgjiipgpoaagreat", sum := "cce680ba059d2c3efd0a6f074b25b2ea026de72f22e16b74b21b2a55b9a95499", checked := Tryz.checked }
namespace Rows
def none {H : Type} : Left H := { results := [], args := [] }

/-- 'haulierlaw20.ProofMakes': WHATEVER THE INPUT: true; the input reads as it did. -/
def proofMakesSpec : ChangeSpec := { name := "proofMakes", fn := fun _ => fun
  | [d1, d2] => { results := [.lit (.bool true)], args := [d1, d2] }
  | _ => none }
def proofMakesRow : OpenClaim := { program := "ytnoifgjiipgpoaagreat", sum := "cce680ba059d2c3efd0a6f074b25b2ea026de72f22e16b74b21b2a55b9a95499", func := "haulier/haulierlaw20.ProofMakes", spec := "proofMakes", unfollowed := true, recurses := true, plainKeys := false, apart := false }
def ProofMakesSaid : Prop := proofMakesRow.holds Tryz.pinned (OpenSpec.ofChange proofMakesSpec)

/-- ITS FALSE NEIGHBOUR: 'it returns false'. Refute it at one input. -/
def proofMakesWrong : ChangeSpec := { name := "proofMakes", fn := fun _ => fun
  | [d1, d2] => { results := [.lit (.bool false)], args := [d1, d2] }
  | _ => none }
def ProofMakesWrongFalsely : Prop := proofMakesRow.holds Tryz.pinned (OpenSpec.ofChange proofMakesWrong)

/-- 'haulierlaw20.ProofHolds': WHATEVER THE INPUT: true; the input reads as it did. -/
def proofHoldsSpec : ChangeSpec := { name := "proofHolds", fn := fun _ => fun
  | [d1, d2] => { results := [.lit (.bool true)], args := [d1, d2] }
  | _ => none }
def proofHoldsRow : OpenClaim := { program := "ytnoifgjiipgpoaagreat", sum := "cce680ba059d2c3efd0a6f074b25b2ea026de72f22e16b74b21b2a55b9a95499", func := "haulier/haulierlaw20.ProofHolds", spec := "proofHolds", unfollowed := true, recurses := true, plainKeys := false, apart := false }
def ProofHoldsSaid : Prop := proofHoldsRow.holds Tryz.pinned (OpenSpec.ofChange proofHoldsSpec)

/-- ITS FALSE NEIGHBOUR: 'it returns false'. Refute it at one input. -/
def proofHoldsWrong : ChangeSpec := { name := "proofHolds", fn := fun _ => fun
  | [d1, d2] => { results := [.lit (.bool false)], args := [d1, d2] }
  | _ => none }
def ProofHoldsWrongFalsely : Prop := proofHoldsRow.holds Tryz.pinned (OpenSpec.ofChange proofHoldsWrong)

/-- 'haulierlaw20.ProofTops': WHATEVER THE INPUT: true; the input reads as it did. -/
def proofTopsSpec : ChangeSpec := { name := "proofTops", fn := fun _ => fun
  | [d1, d2, d3] => { results := [.lit (.bool true)], args := [d1, d2, d3] }
  | _ => none }
def proofTopsRow : OpenClaim := { program := "ytnoifgjiipgpoaagreat", sum := "cce680ba059d2c3efd0a6f074b25b2ea026de72f22e16b74b21b2a55b9a95499", func := "haulier/haulierlaw20.ProofTops", spec := "proofTops", unfollowed := true, recurses := true, plainKeys := false, apart := false }
def ProofTopsSaid : Prop := proofTopsRow.holds Tryz.pinned (OpenSpec.ofChange proofTopsSpec)

/-- ITS FALSE NEIGHBOUR: 'it returns false'. Refute it at one input. -/
def proofTopsWrong : ChangeSpec := { name := "proofTops", fn := fun _ => fun
  | [d1, d2, d3] => { results := [.lit (.bool false)], args := [d1, d2, d3] }
  | _ => none }
def ProofTopsWrongFalsely : Prop := proofTopsRow.holds Tryz.pinned (OpenSpec.ofChange proofTopsWrong)

/-- 'haulierlaw20.ProofParts': WHATEVER THE INPUT: true; the input reads as it did. -/
def proofPartsSpec : ChangeSpec := { name := "proofParts", fn := fun _ => fun
  | [d1, d2] => { results := [.lit (.bool true)], args := [d1, d2] }
  | _ => none }
def proofPartsRow : OpenClaim := { program := "ytnoifgjiipgpoaagreat", sum := "cce680ba059d2c3efd0a6f074b25b2ea026de72f22e16b74b21b2a55b9a95499", func := "haulier/haulierlaw20.ProofParts", spec := "proofParts", unfollowed := true, recurses := true, plainKeys := false, apart := false }
def ProofPartsSaid : Prop := proofPartsRow.holds Tryz.pinned (OpenSpec.ofChange proofPartsSpec)

/-- ITS FALSE NEIGHBOUR: 'it returns false'. Refute it at one input. -/
def proofPartsWrong : ChangeSpec := { name := "proofParts", fn := fun _ => fun
  | [d1, d2] => { results := [.lit (.bool false)], args := [d1, d2] }
  | _ => none }
def ProofPartsWrongFalsely : Prop := proofPartsRow.holds Tryz.pinned (OpenSpec.ofChange proofPartsWrong)

/- THE SECOND FORM. 'bulk': how many values and letters a reading holds, each counted each time it is reached (what is shared counts as often as it is met; a slice's spare places count too). A statement '..UptoSaid' is the law's where the arguments, and the package variables that the reading takes, are together of bulk at most 1048576: NARROWER than '..Said'. Prove '..Said' where nothing that the law and all that it calls make is longer than what came in: it says more and counts as full. Else prove '..UptoSaid'. A law counts once. -/
mutual
def uptoBulk {H : Type} : DataW H → Nat
  | .lit (.string bytes) => bytes.length + 1
  | .lit _ => 1
  | .nil => 1
  | .ptr d => uptoBulk d + 1
  | .slice elems spare => uptoBulkAll elems + uptoBulkAll spare + 1
  | .agg parts => uptoBulkAll parts + 1
  | .iface _ d => uptoBulk d + 1
  | .map entries => uptoBulkEntries entries + 1
  | .held _ => 1
def uptoBulkAll {H : Type} : List (DataW H) → Nat
  | [] => 0
  | d :: r => uptoBulk d + uptoBulkAll r
def uptoBulkEntries {H : Type} : List (Lit × DataW H) → Nat
  | [] => 0
  | x :: r => uptoBulkEntry x + uptoBulkEntries r
def uptoBulkEntry {H : Type} : Lit × DataW H → Nat
  | (.string bytes, d) => bytes.length + uptoBulk d + 1
  | (_, d) => uptoBulk d + 1
 end
def uptoSmall : (H : Type) → List (DataW H) → Bool := fun _ ds => decide (uptoBulkAll ds ≤ 1048576)
def OpenSpec.upto (s : _root_.Go.ChangeSpec) : _root_.Go.OpenSpec := { _root_.Go.OpenSpec.ofChange s with cond := some uptoSmall }

/-- 'haulierlaw20.ProofMakes', WHERE WHAT IT READS IS OF BULK AT MOST 1048576: true; the input reads as it did. -/
def proofMakesUptoRow : OpenClaim := { program := "ytnoifgjiipgpoaagreat", sum := "cce680ba059d2c3efd0a6f074b25b2ea026de72f22e16b74b21b2a55b9a95499", func := "haulier/haulierlaw20.ProofMakes", spec := "proofMakes", unfollowed := true, recurses := true, plainKeys := false, apart := false, narrowed := true }
def ProofMakesUptoSaid : Prop := proofMakesUptoRow.holds Tryz.pinned (OpenSpec.upto proofMakesSpec)

/-- 'haulierlaw20.ProofHolds', WHERE WHAT IT READS IS OF BULK AT MOST 1048576: true; the input reads as it did. -/
def proofHoldsUptoRow : OpenClaim := { program := "ytnoifgjiipgpoaagreat", sum := "cce680ba059d2c3efd0a6f074b25b2ea026de72f22e16b74b21b2a55b9a95499", func := "haulier/haulierlaw20.ProofHolds", spec := "proofHolds", unfollowed := true, recurses := true, plainKeys := false, apart := false, narrowed := true }
def ProofHoldsUptoSaid : Prop := proofHoldsUptoRow.holds Tryz.pinned (OpenSpec.upto proofHoldsSpec)

/-- 'haulierlaw20.ProofTops', WHERE WHAT IT READS IS OF BULK AT MOST 1048576: true; the input reads as it did. -/
def proofTopsUptoRow : OpenClaim := { program := "ytnoifgjiipgpoaagreat", sum := "cce680ba059d2c3efd0a6f074b25b2ea026de72f22e16b74b21b2a55b9a95499", func := "haulier/haulierlaw20.ProofTops", spec := "proofTops", unfollowed := true, recurses := true, plainKeys := false, apart := false, narrowed := true }
def ProofTopsUptoSaid : Prop := proofTopsUptoRow.holds Tryz.pinned (OpenSpec.upto proofTopsSpec)

/-- 'haulierlaw20.ProofParts', WHERE WHAT IT READS IS OF BULK AT MOST 1048576: true; the input reads as it did. -/
def proofPartsUptoRow : OpenClaim := { program := "ytnoifgjiipgpoaagreat", sum := "cce680ba059d2c3efd0a6f074b25b2ea026de72f22e16b74b21b2a55b9a95499", func := "haulier/haulierlaw20.ProofParts", spec := "proofParts", unfollowed := true, recurses := true, plainKeys := false, apart := false, narrowed := true }
def ProofPartsUptoSaid : Prop := proofPartsUptoRow.holds Tryz.pinned (OpenSpec.upto proofPartsSpec)

end Rows
end Go.Proofs.YtnoifgjiipgpoaaGreat
