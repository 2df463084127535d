/-
  No cell of these rows narrows 'for every input' (looked for: loops, veiled, ifaces, maps, wideKeys, modest, calm, conditions, laid).
  DERIVED. THE GIVEN ROWS OF THIS SEAT. 4 by the template 'for every input the law returns true; each argument reads behind the call as it read before'; 0 by the template 'total and deterministic' (their statements: YtdjbapglfdacmaaTotals.lean).
  GIVEN WITH THE SEED: the statements are not yours to turn. If you find one false, say at which input.
  Laid BY PROGRAM, IN A SANDBOX (cutbox-rows.mjs): the forced cells as the released guide's own fill.sh prints them over the translation f377e39de1b7d5fd… (all of the seat's roots in one cut). By AI agents, Wed Nov 11 2026. No macro, syntax, notation, axiom, sorry.
-/
import Derived.Test.YtdjbapglfdacmaaChecked
import GoSem.Claim
import GoSem.ClaimJoined
import GoSem.ClaimMapViews
import Derived.JoinedTies
import Derived.KernelRfl
namespace Go.Proofs.Ytdjbapglfdacmaa
/- THE CELL 'sum', in the pinned program and in every row, IS THE sha256 OF THE DUMP (.gsa) THAT YtdjbapglfdacmaaProg.lean LOADS. Nothing in Lean hashes anything: it is a label: what it is worth is what the hold of that sum in a sandbox is worth. -/
noncomputable def Try.pinned : Pinned := { name := "ytdjbapglfdacmaa", sum := "f377e39de1b7d5fd3be437e87964a9fed3bf69641349aa548e7dfed89fdcb1e8", checked := Try.checked }
namespace Rows
def none {H : Type} : Left H := { results := [], args := [] }

/-- 'haulierlaw17.WideSqueezes': WHATEVER THE INPUT: true; the input reads as it did. -/
def wideSqueezesSpec : ChangeSpec := { name := "wideSqueezes", fn := fun _ => fun
  | [d1, d2, d3] => { results := [.lit (.bool true)], args := [d1, d2, d3] }
  | _ => none }
def wideSqueezesRow : OpenClaim := { program := "ytdjbapglfdacmaa", sum := "f377e39de1b7d5fd3be437e87964a9fed3bf69641349aa548e7dfed89fdcb1e8", func := "haulier/haulierlaw17.WideSqueezes", spec := "wideSqueezes", unfollowed := true, recurses := true, plainKeys := false, apart := false }
def WideSqueezesSaid : Prop := wideSqueezesRow.holds Try.pinned (OpenSpec.ofChange wideSqueezesSpec)

/-- ITS FALSE NEIGHBOUR: 'it returns false'. Refute it at one input. -/
def wideSqueezesWrong : ChangeSpec := { name := "wideSqueezes", fn := fun _ => fun
  | [d1, d2, d3] => { results := [.lit (.bool false)], args := [d1, d2, d3] }
  | _ => none }
def WideSqueezesWrongFalsely : Prop := wideSqueezesRow.holds Try.pinned (OpenSpec.ofChange wideSqueezesWrong)

/-- 'haulierlaw17.WideCovers': WHATEVER THE INPUT: true; the input reads as it did. -/
def wideCoversSpec : ChangeSpec := { name := "wideCovers", fn := fun _ => fun
  | [d1, d2, d3] => { results := [.lit (.bool true)], args := [d1, d2, d3] }
  | _ => none }
def wideCoversRow : OpenClaim := { program := "ytdjbapglfdacmaa", sum := "f377e39de1b7d5fd3be437e87964a9fed3bf69641349aa548e7dfed89fdcb1e8", func := "haulier/haulierlaw17.WideCovers", spec := "wideCovers", unfollowed := true, recurses := true, plainKeys := false, apart := false }
def WideCoversSaid : Prop := wideCoversRow.holds Try.pinned (OpenSpec.ofChange wideCoversSpec)

/-- ITS FALSE NEIGHBOUR: 'it returns false'. Refute it at one input. -/
def wideCoversWrong : ChangeSpec := { name := "wideCovers", fn := fun _ => fun
  | [d1, d2, d3] => { results := [.lit (.bool false)], args := [d1, d2, d3] }
  | _ => none }
def WideCoversWrongFalsely : Prop := wideCoversRow.holds Try.pinned (OpenSpec.ofChange wideCoversWrong)

/-- 'haulierlaw17.WideLayers': WHATEVER THE INPUT: true; the input reads as it did. -/
def wideLayersSpec : ChangeSpec := { name := "wideLayers", fn := fun _ => fun
  | [d1, d2, d3] => { results := [.lit (.bool true)], args := [d1, d2, d3] }
  | _ => none }
def wideLayersRow : OpenClaim := { program := "ytdjbapglfdacmaa", sum := "f377e39de1b7d5fd3be437e87964a9fed3bf69641349aa548e7dfed89fdcb1e8", func := "haulier/haulierlaw17.WideLayers", spec := "wideLayers", unfollowed := true, recurses := true, plainKeys := false, apart := false }
def WideLayersSaid : Prop := wideLayersRow.holds Try.pinned (OpenSpec.ofChange wideLayersSpec)

/-- ITS FALSE NEIGHBOUR: 'it returns false'. Refute it at one input. -/
def wideLayersWrong : ChangeSpec := { name := "wideLayers", fn := fun _ => fun
  | [d1, d2, d3] => { results := [.lit (.bool false)], args := [d1, d2, d3] }
  | _ => none }
def WideLayersWrongFalsely : Prop := wideLayersRow.holds Try.pinned (OpenSpec.ofChange wideLayersWrong)

/-- 'haulierlaw17.WideLow': WHATEVER THE INPUT: true; the input reads as it did. -/
def wideLowSpec : ChangeSpec := { name := "wideLow", fn := fun _ => fun
  | [d1, d2, d3, d4] => { results := [.lit (.bool true)], args := [d1, d2, d3, d4] }
  | _ => none }
def wideLowRow : OpenClaim := { program := "ytdjbapglfdacmaa", sum := "f377e39de1b7d5fd3be437e87964a9fed3bf69641349aa548e7dfed89fdcb1e8", func := "haulier/haulierlaw17.WideLow", spec := "wideLow", unfollowed := true, recurses := true, plainKeys := false, apart := false }
def WideLowSaid : Prop := wideLowRow.holds Try.pinned (OpenSpec.ofChange wideLowSpec)

/-- ITS FALSE NEIGHBOUR: 'it returns false'. Refute it at one input. -/
def wideLowWrong : ChangeSpec := { name := "wideLow", fn := fun _ => fun
  | [d1, d2, d3, d4] => { results := [.lit (.bool false)], args := [d1, d2, d3, d4] }
  | _ => none }
def WideLowWrongFalsely : Prop := wideLowRow.holds Try.pinned (OpenSpec.ofChange wideLowWrong)

/- THE SECOND FORM. 'bulk': how many values and letters a reading holds, each counted each time it is reached (what is shared counts as often as it is met; a slice's spare places count too). A statement '..UptoSaid' is the law's where the arguments, and the package variables that the reading takes, are together of bulk at most 1048576: NARROWER than '..Said'. Prove '..Said' where nothing that the law and all that it calls make is longer than what came in: it says more and counts as full. Else prove '..UptoSaid'. A law counts once. -/
mutual
def uptoBulk {H : Type} : DataW H → Nat
  | .lit (.string bytes) => bytes.length + 1
  | .lit _ => 1
  | .nil => 1
  | .ptr d => uptoBulk d + 1
  | .slice elems spare => uptoBulkAll elems + uptoBulkAll spare + 1
  | .agg parts => uptoBulkAll parts + 1
  | .iface _ d => uptoBulk d + 1
  | .map entries => uptoBulkEntries entries + 1
  | .held _ => 1
def uptoBulkAll {H : Type} : List (DataW H) → Nat
  | [] => 0
  | d :: r => uptoBulk d + uptoBulkAll r
def uptoBulkEntries {H : Type} : List (Lit × DataW H) → Nat
  | [] => 0
  | x :: r => uptoBulkEntry x + uptoBulkEntries r
def uptoBulkEntry {H : Type} : Lit × DataW H → Nat
  | (.string bytes, d) => bytes.length + uptoBulk d + 1
  | (_, d) => uptoBulk d + 1
 end
def uptoSmall : (H : Type) → List (DataW H) → Bool := fun _ ds => decide (uptoBulkAll ds ≤ 1048576)
def OpenSpec.upto (s : _root_.Go.ChangeSpec) : _root_.Go.OpenSpec := { _root_.Go.OpenSpec.ofChange s with cond := some uptoSmall }

/-- 'haulierlaw17.WideSqueezes', WHERE WHAT IT READS IS OF BULK AT MOST 1048576: true; the input reads as it did. -/
def wideSqueezesUptoRow : OpenClaim := { program := "ytdjbapglfdacmaa", sum := "f377e39de1b7d5fd3be437e87964a9fed3bf69641349aa548e7dfed89fdcb1e8", func := "haulier/haulierlaw17.WideSqueezes", spec := "wideSqueezes", unfollowed := true, recurses := true, plainKeys := false, apart := false, narrowed := true }
def WideSqueezesUptoSaid : Prop := wideSqueezesUptoRow.holds Try.pinned (OpenSpec.upto wideSqueezesSpec)

/-- 'haulierlaw17.WideCovers', WHERE WHAT IT READS IS OF BULK AT MOST 1048576: true; the input reads as it did. -/
def wideCoversUptoRow : OpenClaim := { program := "ytdjbapglfdacmaa", sum := "f377e39de1b7d5fd3be437e87964a9fed3bf69641349aa548e7dfed89fdcb1e8", func := "haulier/haulierlaw17.WideCovers", spec := "wideCovers", unfollowed := true, recurses := true, plainKeys := false, apart := false, narrowed := true }
def WideCoversUptoSaid : Prop := wideCoversUptoRow.holds Try.pinned (OpenSpec.upto wideCoversSpec)

/-- 'haulierlaw17.WideLayers', WHERE WHAT IT READS IS OF BULK AT MOST 1048576: true; the input reads as it did. -/
def wideLayersUptoRow : OpenClaim := { program := "ytdjbapglfdacmaa", sum := "f377e39de1b7d5fd3be437e87964a9fed3bf69641349aa548e7dfed89fdcb1e8", func := "haulier/haulierlaw17.WideLayers", spec := "wideLayers", unfollowed := true, recurses := true, plainKeys := false, apart := false, narrowed := true }
def WideLayersUptoSaid : Prop := wideLayersUptoRow.holds Try.pinned (OpenSpec.upto wideLayersSpec)

/-- 'haulierlaw17.WideLow', WHERE WHAT IT READS IS OF BULK AT MOST 1048576: true; the input reads as it did. -/
def wideLowUptoRow : OpenClaim := { program := "ytdjbapglfdacmaa", sum := "f377e39de1b7d5fd3be437e87964a9fed3bf69641349aa548e7dfed89fdcb1e8", func := "haulier/haulierlaw17.WideLow", spec := "wideLow", unfollowed := true, recurses := true, plainKeys := false, apart := false, narrowed := true }
def WideLowUptoSaid : Prop := wideLowUptoRow.holds Try.pinned (OpenSpec.upto wideLowSpec)

end Rows
end Go.Proofs.Ytdjbapglfdacmaa
