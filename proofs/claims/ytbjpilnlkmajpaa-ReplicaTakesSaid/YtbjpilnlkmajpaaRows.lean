/-
  No cell of these rows narrows 'for every input' (looked for: loops, veiled, ifaces, maps, wideKeys, modest, calm, conditions, laid).
  DERIVED. THE GIVEN ROWS OF THIS SEAT. 2 by the template 'for every input the law returns true; each argument reads behind the call as it read before'; 0 by the template 'total and deterministic' (their statements: YtbjpilnlkmajpaaTotals.lean).
  GIVEN WITH THE SEED: the statements are not yours to turn. If you find one false, say at which input.
  Laid BY PROGRAM, IN A SANDBOX (cutbox-rows.mjs): the forced cells as the released guide's own fill.sh prints them over the translation 3f4790a5c6fc70c4… (all of the seat's roots in one cut). By AI agents, Wed Nov 11 2026. No macro, syntax, notation, axiom, sorry.
-/
import Derived.Test.YtbjpilnlkmajpaaChecked
import GoSem.Claim
import GoSem.ClaimJoined
import GoSem.ClaimMapViews
import Derived.JoinedTies
import Derived.KernelRfl
namespace Go.Proofs.Ytbjpilnlkmajpaa
/- THE CELL 'sum', in the pinned program and in every row, IS THE sha256 OF THE DUMP (.gsa) THAT YtbjpilnlkmajpaaProg.lean LOADS. Nothing in Lean hashes anything: it is a label: what it is worth is what the hold of that sum in a sandbox is worth. -/
noncomputable def Try.pinned : Pinned := { name := "ytbjpilnlkmajpaa", sum := "3f4790a5c6fc70c4c92abc61eb6eeb445e67a4bec008f45080fecd22945f4d33", checked := Try.checked }
namespace Rows
def none {H : Type} : Left H := { results := [], args := [] }

/-- 'quadrigalaw34.ReplicaTakes': WHATEVER THE INPUT: true; the input reads as it did. -/
def replicaTakesSpec : ChangeSpec := { name := "replicaTakes", fn := fun _ => fun
  | [d1, d2, d3, d4] => { results := [.lit (.bool true)], args := [d1, d2, d3, d4] }
  | _ => none }
def replicaTakesRow : OpenClaim := { program := "ytbjpilnlkmajpaa", sum := "3f4790a5c6fc70c4c92abc61eb6eeb445e67a4bec008f45080fecd22945f4d33", func := "quadriga/quadrigalaw34.ReplicaTakes", spec := "replicaTakes", unfollowed := true, recurses := true, apart := false }
def ReplicaTakesSaid : Prop := replicaTakesRow.holds Try.pinned (OpenSpec.ofChange replicaTakesSpec)

/-- ITS FALSE NEIGHBOUR: 'it returns false'. Refute it at one input. -/
def replicaTakesWrong : ChangeSpec := { name := "replicaTakes", fn := fun _ => fun
  | [d1, d2, d3, d4] => { results := [.lit (.bool false)], args := [d1, d2, d3, d4] }
  | _ => none }
def ReplicaTakesWrongFalsely : Prop := replicaTakesRow.holds Try.pinned (OpenSpec.ofChange replicaTakesWrong)

/-- 'quadrigalaw34.ReplicaParts': WHATEVER THE INPUT: true; the input reads as it did. -/
def replicaPartsSpec : ChangeSpec := { name := "replicaParts", fn := fun _ => fun
  | [d] => { results := [.lit (.bool true)], args := [d] }
  | _ => none }
def replicaPartsRow : OpenClaim := { program := "ytbjpilnlkmajpaa", sum := "3f4790a5c6fc70c4c92abc61eb6eeb445e67a4bec008f45080fecd22945f4d33", func := "quadriga/quadrigalaw34.ReplicaParts", spec := "replicaParts", unfollowed := true, recurses := true, apart := false }
def ReplicaPartsSaid : Prop := replicaPartsRow.holds Try.pinned (OpenSpec.ofChange replicaPartsSpec)

/-- ITS FALSE NEIGHBOUR: 'it returns false'. Refute it at one input. -/
def replicaPartsWrong : ChangeSpec := { name := "replicaParts", fn := fun _ => fun
  | [d] => { results := [.lit (.bool false)], args := [d] }
  | _ => none }
def ReplicaPartsWrongFalsely : Prop := replicaPartsRow.holds Try.pinned (OpenSpec.ofChange replicaPartsWrong)

/- THE SECOND FORM. 'bulk': how many values and letters a reading holds, each counted each time it is reached (what is shared counts as often as it is met; a slice's spare places count too). A statement '..UptoSaid' is the law's where the arguments, and the package variables that the reading takes, are together of bulk at most 1048576: NARROWER than '..Said'. Prove '..Said' where nothing that the law and all that it calls make is longer than what came in: it says more and counts as full. Else prove '..UptoSaid'. A law counts once. -/
mutual
def uptoBulk {H : Type} : DataW H → Nat
  | .lit (.string bytes) => bytes.length + 1
  | .lit _ => 1
  | .nil => 1
  | .ptr d => uptoBulk d + 1
  | .slice elems spare => uptoBulkAll elems + uptoBulkAll spare + 1
  | .agg parts => uptoBulkAll parts + 1
  | .iface _ d => uptoBulk d + 1
  | .map entries => uptoBulkEntries entries + 1
  | .held _ => 1
def uptoBulkAll {H : Type} : List (DataW H) → Nat
  | [] => 0
  | d :: r => uptoBulk d + uptoBulkAll r
def uptoBulkEntries {H : Type} : List (Lit × DataW H) → Nat
  | [] => 0
  | x :: r => uptoBulkEntry x + uptoBulkEntries r
def uptoBulkEntry {H : Type} : Lit × DataW H → Nat
  | (.string bytes, d) => bytes.length + uptoBulk d + 1
  | (_, d) => uptoBulk d + 1
 end
def uptoSmall : (H : Type) → List (DataW H) → Bool := fun _ ds => decide (uptoBulkAll ds ≤ 1048576)
def OpenSpec.upto (s : _root_.Go.ChangeSpec) : _root_.Go.OpenSpec := { _root_.Go.OpenSpec.ofChange s with cond := some uptoSmall }

/-- 'quadrigalaw34.ReplicaTakes', WHERE WHAT IT READS IS OF BULK AT MOST 1048576: true; the input reads as it did. -/
def replicaTakesUptoRow : OpenClaim := { program := "ytbjpilnlkmajpaa", sum := "3f4790a5c6fc70c4c92abc61eb6eeb445e67a4bec008f45080fecd22945f4d33", func := "quadriga/quadrigalaw34.ReplicaTakes", spec := "replicaTakes", unfollowed := true, recurses := true, apart := false, narrowed := true }
def ReplicaTakesUptoSaid : Prop := replicaTakesUptoRow.holds Try.pinned (OpenSpec.upto replicaTakesSpec)

/-- 'quadrigalaw34.ReplicaParts', WHERE WHAT IT READS IS OF BULK AT MOST 1048576: true; the input reads as it did. -/
def replicaPartsUptoRow : OpenClaim := { program := "ytbjpilnlkmajpaa", sum := "3f4790a5c6fc70c4c92abc61eb6eeb445e67a4bec008f45080fecd22945f4d33", func := "quadriga/quadrigalaw34.ReplicaParts", spec := "replicaParts", unfollowed := true, recurses := true, apart := false, narrowed := true }
def ReplicaPartsUptoSaid : Prop := replicaPartsUptoRow.holds Try.pinned (OpenSpec.upto replicaPartsSpec)

end Rows
end Go.Proofs.Ytbjpilnlkmajpaa
