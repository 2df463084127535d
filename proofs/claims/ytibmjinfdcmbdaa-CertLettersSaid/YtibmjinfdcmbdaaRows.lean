/-
  No cell of these rows narrows 'for every input' (looked for: loops, veiled, ifaces, maps, wideKeys, modest, calm, conditions, laid).
  DERIVED. THE GIVEN ROWS OF THIS SEAT. 6 by the template 'for every input the law returns true; each argument reads behind the call as it read before'; 0 by the template 'total and deterministic' (their statements: YtibmjinfdcmbdaaTotals.lean).
  GIVEN WITH THE SEED: the statements are not yours to turn. If you find one false, say at which input.
  Laid BY PROGRAM, IN A SANDBOX (cutbox-rows.mjs): the forced cells as the released guide's own fill.sh prints them over the translation ef93e91d9d86c4c5… (all of the seat's roots in one cut). By AI agents, Wed Nov 11 2026. No macro, syntax, notation, axiom, sorry.
-/
import Derived.Test.YtibmjinfdcmbdaaChecked
import GoSem.Claim
import GoSem.ClaimJoined
import GoSem.ClaimMapViews
import Derived.JoinedTies
import Derived.KernelRfl
namespace Go.Proofs.Ytibmjinfdcmbdaa
/- THE CELL 'sum', in the pinned program and in every row, IS THE sha256 OF THE DUMP (.gsa) THAT YtibmjinfdcmbdaaProg.lean LOADS. Nothing in Lean hashes anything: it is a label: what it is worth is what the hold of that sum in a sandbox is worth. -/
noncomputable def Try.pinned : Pinned := { name := "ytibmjinfdcmbdaa", sum := "ef93e91d9d86c4c524061ca279fb60b75b9b63c46f3cace1b45790c3a71cc873", checked := Try.checked }
namespace Rows
def none {H : Type} : Left H := { results := [], args := [] }

/-- 'haulierlaw21.CertEncodes': WHATEVER THE INPUT: true; the input reads as it did. -/
def certEncodesSpec : ChangeSpec := { name := "certEncodes", fn := fun _ => fun
  | [d] => { results := [.lit (.bool true)], args := [d] }
  | _ => none }
def certEncodesRow : OpenClaim := { program := "ytibmjinfdcmbdaa", sum := "ef93e91d9d86c4c524061ca279fb60b75b9b63c46f3cace1b45790c3a71cc873", func := "haulier/haulierlaw21.CertEncodes", spec := "certEncodes", unfollowed := true, recurses := true, apart := false }
def CertEncodesSaid : Prop := certEncodesRow.holds Try.pinned (OpenSpec.ofChange certEncodesSpec)

/-- ITS FALSE NEIGHBOUR: 'it returns false'. Refute it at one input. -/
def certEncodesWrong : ChangeSpec := { name := "certEncodes", fn := fun _ => fun
  | [d] => { results := [.lit (.bool false)], args := [d] }
  | _ => none }
def CertEncodesWrongFalsely : Prop := certEncodesRow.holds Try.pinned (OpenSpec.ofChange certEncodesWrong)

/-- 'haulierlaw21.CertBack': WHATEVER THE INPUT: true; the input reads as it did. -/
def certBackSpec : ChangeSpec := { name := "certBack", fn := fun _ => fun
  | [d1, d2, d3] => { results := [.lit (.bool true)], args := [d1, d2, d3] }
  | _ => none }
def certBackRow : OpenClaim := { program := "ytibmjinfdcmbdaa", sum := "ef93e91d9d86c4c524061ca279fb60b75b9b63c46f3cace1b45790c3a71cc873", func := "haulier/haulierlaw21.CertBack", spec := "certBack", unfollowed := true, recurses := true, apart := false }
def CertBackSaid : Prop := certBackRow.holds Try.pinned (OpenSpec.ofChange certBackSpec)

/-- ITS FALSE NEIGHBOUR: 'it returns false'. Refute it at one input. -/
def certBackWrong : ChangeSpec := { name := "certBack", fn := fun _ => fun
  | [d1, d2, d3] => { results := [.lit (.bool false)], args := [d1, d2, d3] }
  | _ => none }
def CertBackWrongFalsely : Prop := certBackRow.holds Try.pinned (OpenSpec.ofChange certBackWrong)

/-- 'haulierlaw21.CertOnce': WHATEVER THE INPUT: true; the input reads as it did. -/
def certOnceSpec : ChangeSpec := { name := "certOnce", fn := fun _ => fun
  | [d] => { results := [.lit (.bool true)], args := [d] }
  | _ => none }
def certOnceRow : OpenClaim := { program := "ytibmjinfdcmbdaa", sum := "ef93e91d9d86c4c524061ca279fb60b75b9b63c46f3cace1b45790c3a71cc873", func := "haulier/haulierlaw21.CertOnce", spec := "certOnce", unfollowed := true, recurses := true, apart := false }
def CertOnceSaid : Prop := certOnceRow.holds Try.pinned (OpenSpec.ofChange certOnceSpec)

/-- ITS FALSE NEIGHBOUR: 'it returns false'. Refute it at one input. -/
def certOnceWrong : ChangeSpec := { name := "certOnce", fn := fun _ => fun
  | [d] => { results := [.lit (.bool false)], args := [d] }
  | _ => none }
def CertOnceWrongFalsely : Prop := certOnceRow.holds Try.pinned (OpenSpec.ofChange certOnceWrong)

/-- 'haulierlaw21.CertLetters': WHATEVER THE INPUT: true; the input reads as it did. -/
def certLettersSpec : ChangeSpec := { name := "certLetters", fn := fun _ => fun
  | [d1, d2, d3] => { results := [.lit (.bool true)], args := [d1, d2, d3] }
  | _ => none }
def certLettersRow : OpenClaim := { program := "ytibmjinfdcmbdaa", sum := "ef93e91d9d86c4c524061ca279fb60b75b9b63c46f3cace1b45790c3a71cc873", func := "haulier/haulierlaw21.CertLetters", spec := "certLetters", unfollowed := true, recurses := true, apart := false }
def CertLettersSaid : Prop := certLettersRow.holds Try.pinned (OpenSpec.ofChange certLettersSpec)

/-- ITS FALSE NEIGHBOUR: 'it returns false'. Refute it at one input. -/
def certLettersWrong : ChangeSpec := { name := "certLetters", fn := fun _ => fun
  | [d1, d2, d3] => { results := [.lit (.bool false)], args := [d1, d2, d3] }
  | _ => none }
def CertLettersWrongFalsely : Prop := certLettersRow.holds Try.pinned (OpenSpec.ofChange certLettersWrong)

/-- 'haulierlaw21.CertLong': WHATEVER THE INPUT: true; the input reads as it did. -/
def certLongSpec : ChangeSpec := { name := "certLong", fn := fun _ => fun
  | [d1, d2] => { results := [.lit (.bool true)], args := [d1, d2] }
  | _ => none }
def certLongRow : OpenClaim := { program := "ytibmjinfdcmbdaa", sum := "ef93e91d9d86c4c524061ca279fb60b75b9b63c46f3cace1b45790c3a71cc873", func := "haulier/haulierlaw21.CertLong", spec := "certLong", unfollowed := true, recurses := true, apart := false }
def CertLongSaid : Prop := certLongRow.holds Try.pinned (OpenSpec.ofChange certLongSpec)

/-- ITS FALSE NEIGHBOUR: 'it returns false'. Refute it at one input. -/
def certLongWrong : ChangeSpec := { name := "certLong", fn := fun _ => fun
  | [d1, d2] => { results := [.lit (.bool false)], args := [d1, d2] }
  | _ => none }
def CertLongWrongFalsely : Prop := certLongRow.holds Try.pinned (OpenSpec.ofChange certLongWrong)

/-- 'haulierlaw12.BoundTells': WHATEVER THE INPUT: true; the input reads as it did. -/
def boundTellsSpec : ChangeSpec := { name := "boundTells", fn := fun _ => fun
  | [d1, d2] => { results := [.lit (.bool true)], args := [d1, d2] }
  | _ => none }
def boundTellsRow : OpenClaim := { program := "ytibmjinfdcmbdaa", sum := "ef93e91d9d86c4c524061ca279fb60b75b9b63c46f3cace1b45790c3a71cc873", func := "haulier/haulierlaw12.BoundTells", spec := "boundTells", unfollowed := true, recurses := true, apart := false }
def BoundTellsSaid : Prop := boundTellsRow.holds Try.pinned (OpenSpec.ofChange boundTellsSpec)

/-- ITS FALSE NEIGHBOUR: 'it returns false'. Refute it at one input. -/
def boundTellsWrong : ChangeSpec := { name := "boundTells", fn := fun _ => fun
  | [d1, d2] => { results := [.lit (.bool false)], args := [d1, d2] }
  | _ => none }
def BoundTellsWrongFalsely : Prop := boundTellsRow.holds Try.pinned (OpenSpec.ofChange boundTellsWrong)

/- THE SECOND FORM. 'bulk': how many values and letters a reading holds, each counted each time it is reached (what is shared counts as often as it is met; a slice's spare places count too). A statement '..UptoSaid' is the law's where the arguments, and the package variables that the reading takes, are together of bulk at most 1048576: NARROWER than '..Said'. Prove '..Said' where nothing that the law and all that it calls make is longer than what came in: it says more and counts as full. Else prove '..UptoSaid'. A law counts once. -/
mutual
def uptoBulk {H : Type} : DataW H → Nat
  | .lit (.string bytes) => bytes.length + 1
  | .lit _ => 1
  | .nil => 1
  | .ptr d => uptoBulk d + 1
  | .slice elems spare => uptoBulkAll elems + uptoBulkAll spare + 1
  | .agg parts => uptoBulkAll parts + 1
  | .iface _ d => uptoBulk d + 1
  | .map entries => uptoBulkEntries entries + 1
  | .held _ => 1
def uptoBulkAll {H : Type} : List (DataW H) → Nat
  | [] => 0
  | d :: r => uptoBulk d + uptoBulkAll r
def uptoBulkEntries {H : Type} : List (Lit × DataW H) → Nat
  | [] => 0
  | x :: r => uptoBulkEntry x + uptoBulkEntries r
def uptoBulkEntry {H : Type} : Lit × DataW H → Nat
  | (.string bytes, d) => bytes.length + uptoBulk d + 1
  | (_, d) => uptoBulk d + 1
 end
def uptoSmall : (H : Type) → List (DataW H) → Bool := fun _ ds => decide (uptoBulkAll ds ≤ 1048576)
def OpenSpec.upto (s : _root_.Go.ChangeSpec) : _root_.Go.OpenSpec := { _root_.Go.OpenSpec.ofChange s with cond := some uptoSmall }

/-- 'haulierlaw21.CertEncodes', WHERE WHAT IT READS IS OF BULK AT MOST 1048576: true; the input reads as it did. -/
def certEncodesUptoRow : OpenClaim := { program := "ytibmjinfdcmbdaa", sum := "ef93e91d9d86c4c524061ca279fb60b75b9b63c46f3cace1b45790c3a71cc873", func := "haulier/haulierlaw21.CertEncodes", spec := "certEncodes", unfollowed := true, recurses := true, apart := false, narrowed := true }
def CertEncodesUptoSaid : Prop := certEncodesUptoRow.holds Try.pinned (OpenSpec.upto certEncodesSpec)

/-- 'haulierlaw21.CertBack', WHERE WHAT IT READS IS OF BULK AT MOST 1048576: true; the input reads as it did. -/
def certBackUptoRow : OpenClaim := { program := "ytibmjinfdcmbdaa", sum := "ef93e91d9d86c4c524061ca279fb60b75b9b63c46f3cace1b45790c3a71cc873", func := "haulier/haulierlaw21.CertBack", spec := "certBack", unfollowed := true, recurses := true, apart := false, narrowed := true }
def CertBackUptoSaid : Prop := certBackUptoRow.holds Try.pinned (OpenSpec.upto certBackSpec)

/-- 'haulierlaw21.CertOnce', WHERE WHAT IT READS IS OF BULK AT MOST 1048576: true; the input reads as it did. -/
def certOnceUptoRow : OpenClaim := { program := "ytibmjinfdcmbdaa", sum := "ef93e91d9d86c4c524061ca279fb60b75b9b63c46f3cace1b45790c3a71cc873", func := "haulier/haulierlaw21.CertOnce", spec := "certOnce", unfollowed := true, recurses := true, apart := false, narrowed := true }
def CertOnceUptoSaid : Prop := certOnceUptoRow.holds Try.pinned (OpenSpec.upto certOnceSpec)

/-- 'haulierlaw21.CertLetters', WHERE WHAT IT READS IS OF BULK AT MOST 1048576: true; the input reads as it did. -/
def certLettersUptoRow : OpenClaim := { program := "ytibmjinfdcmbdaa", sum := "ef93e91d9d86c4c524061ca279fb60b75b9b63c46f3cace1b45790c3a71cc873", func := "haulier/haulierlaw21.CertLetters", spec := "certLetters", unfollowed := true, recurses := true, apart := false, narrowed := true }
def CertLettersUptoSaid : Prop := certLettersUptoRow.holds Try.pinned (OpenSpec.upto certLettersSpec)

/-- 'haulierlaw21.CertLong', WHERE WHAT IT READS IS OF BULK AT MOST 1048576: true; the input reads as it did. -/
def certLongUptoRow : OpenClaim := { program := "ytibmjinfdcmbdaa", sum := "ef93e91d9d86c4c524061ca279fb60b75b9b63c46f3cace1b45790c3a71cc873", func := "haulier/haulierlaw21.CertLong", spec := "certLong", unfollowed := true, recurses := true, apart := false, narrowed := true }
def CertLongUptoSaid : Prop := certLongUptoRow.holds Try.pinned (OpenSpec.upto certLongSpec)

/-- 'haulierlaw12.BoundTells', WHERE WHAT IT READS IS OF BULK AT MOST 1048576: true; the input reads as it did. -/
def boundTellsUptoRow : OpenClaim := { program := "ytibmjinfdcmbdaa", sum := "ef93e91d9d86c4c524061ca279fb60b75b9b63c46f3cace1b45790c3a71cc873", func := "haulier/haulierlaw12.BoundTells", spec := "boundTells", unfollowed := true, recurses := true, apart := false, narrowed := true }
def BoundTellsUptoSaid : Prop := boundTellsUptoRow.holds Try.pinned (OpenSpec.upto boundTellsSpec)

end Rows
end Go.Proofs.Ytibmjinfdcmbdaa
