/-
  No cell of these rows narrows 'for every input' (looked for: loops, veiled, ifaces, maps, wideKeys, modest, calm, conditions, laid).
  DERIVED. THE GIVEN ROWS OF THIS SEAT. 3 by the template 'for every input the law returns true; each argument reads behind the call as it read before'; 0 by the template 'total and deterministic' (their statements: YtapjjhdopelpjaaTotals.lean).
  GIVEN WITH THE SEED: the statements are not yours to turn. If you find one false, say at which input.
  Laid BY PROGRAM, IN A SANDBOX (cutbox-rows.mjs): the forced cells as the released guide's own fill.sh prints them over the translation 09d602c811b2c9a7… (all of the seat's roots in one cut). By AI agents, Wed Nov 11 2026. No macro, syntax, notation, axiom, sorry.
-/
import Derived.Test.YtapjjhdopelpjaaChecked
import GoSem.Claim
import GoSem.ClaimJoined
import GoSem.ClaimMapViews
import Derived.JoinedTies
import Derived.KernelRfl
namespace Go.Proofs.Ytapjjhdopelpjaa
/- THE CELL 'sum', in the pinned program and in every row, IS THE sha256 OF THE DUMP (.gsa) THAT YtapjjhdopelpjaaProg.lean LOADS. Nothing in Lean hashes anything: it is a label: what it is worth is what the hold of that sum in a sandbox is worth. -/
noncomputable def Try.pinned : Pinned := { name := "ytapjjhdopelpjaa", sum := "09d602c811b2c9a7211d886c0fe3e40920bf058cc36d03f225983ee825435f9f", checked := Try.checked }
namespace Rows
def none {H : Type} : Left H := { results := [], args := [] }

/-- 'quadrigalaw31.HistoryTells': WHATEVER THE INPUT: true; the input reads as it did. -/
def historyTellsSpec : ChangeSpec := { name := "historyTells", fn := fun _ => fun
  | [d] => { results := [.lit (.bool true)], args := [d] }
  | _ => none }
def historyTellsRow : OpenClaim := { program := "ytapjjhdopelpjaa", sum := "09d602c811b2c9a7211d886c0fe3e40920bf058cc36d03f225983ee825435f9f", func := "quadriga/quadrigalaw31.HistoryTells", spec := "historyTells", inPlace := ["slices.overlaps[int]"], unfollowed := true, recurses := true, apart := false }
def HistoryTellsSaid : Prop := historyTellsRow.holds Try.pinned (OpenSpec.ofChange historyTellsSpec)

/-- ITS FALSE NEIGHBOUR: 'it returns false'. Refute it at one input. -/
def historyTellsWrong : ChangeSpec := { name := "historyTells", fn := fun _ => fun
  | [d] => { results := [.lit (.bool false)], args := [d] }
  | _ => none }
def HistoryTellsWrongFalsely : Prop := historyTellsRow.holds Try.pinned (OpenSpec.ofChange historyTellsWrong)

/-- 'quadrigalaw31.HistoryStrict': WHATEVER THE INPUT: true; the input reads as it did. -/
def historyStrictSpec : ChangeSpec := { name := "historyStrict", fn := fun _ => fun
  | [d1, d2] => { results := [.lit (.bool true)], args := [d1, d2] }
  | _ => none }
def historyStrictRow : OpenClaim := { program := "ytapjjhdopelpjaa", sum := "09d602c811b2c9a7211d886c0fe3e40920bf058cc36d03f225983ee825435f9f", func := "quadriga/quadrigalaw31.HistoryStrict", spec := "historyStrict", inPlace := ["slices.overlaps[int]"], unfollowed := true, recurses := true, apart := false }
def HistoryStrictSaid : Prop := historyStrictRow.holds Try.pinned (OpenSpec.ofChange historyStrictSpec)

/-- ITS FALSE NEIGHBOUR: 'it returns false'. Refute it at one input. -/
def historyStrictWrong : ChangeSpec := { name := "historyStrict", fn := fun _ => fun
  | [d1, d2] => { results := [.lit (.bool false)], args := [d1, d2] }
  | _ => none }
def HistoryStrictWrongFalsely : Prop := historyStrictRow.holds Try.pinned (OpenSpec.ofChange historyStrictWrong)

/-- 'quadrigalaw31.HistoryOrders': WHATEVER THE INPUT: true; the input reads as it did. -/
def historyOrdersSpec : ChangeSpec := { name := "historyOrders", fn := fun _ => fun
  | [d] => { results := [.lit (.bool true)], args := [d] }
  | _ => none }
def historyOrdersRow : OpenClaim := { program := "ytapjjhdopelpjaa", sum := "09d602c811b2c9a7211d886c0fe3e40920bf058cc36d03f225983ee825435f9f", func := "quadriga/quadrigalaw31.HistoryOrders", spec := "historyOrders", inPlace := ["slices.overlaps[int]"], unfollowed := true, recurses := true, apart := false }
def HistoryOrdersSaid : Prop := historyOrdersRow.holds Try.pinned (OpenSpec.ofChange historyOrdersSpec)

/-- ITS FALSE NEIGHBOUR: 'it returns false'. Refute it at one input. -/
def historyOrdersWrong : ChangeSpec := { name := "historyOrders", fn := fun _ => fun
  | [d] => { results := [.lit (.bool false)], args := [d] }
  | _ => none }
def HistoryOrdersWrongFalsely : Prop := historyOrdersRow.holds Try.pinned (OpenSpec.ofChange historyOrdersWrong)

/- THE SECOND FORM. 'bulk': how many values and letters a reading holds, each counted each time it is reached (what is shared counts as often as it is met; a slice's spare places count too). A statement '..UptoSaid' is the law's where the arguments, and the package variables that the reading takes, are together of bulk at most 1048576: NARROWER than '..Said'. Prove '..Said' where nothing that the law and all that it calls make is longer than what came in: it says more and counts as full. Else prove '..UptoSaid'. A law counts once. -/
mutual
def uptoBulk {H : Type} : DataW H → Nat
  | .lit (.string bytes) => bytes.length + 1
  | .lit _ => 1
  | .nil => 1
  | .ptr d => uptoBulk d + 1
  | .slice elems spare => uptoBulkAll elems + uptoBulkAll spare + 1
  | .agg parts => uptoBulkAll parts + 1
  | .iface _ d => uptoBulk d + 1
  | .map entries => uptoBulkEntries entries + 1
  | .held _ => 1
def uptoBulkAll {H : Type} : List (DataW H) → Nat
  | [] => 0
  | d :: r => uptoBulk d + uptoBulkAll r
def uptoBulkEntries {H : Type} : List (Lit × DataW H) → Nat
  | [] => 0
  | x :: r => uptoBulkEntry x + uptoBulkEntries r
def uptoBulkEntry {H : Type} : Lit × DataW H → Nat
  | (.string bytes, d) => bytes.length + uptoBulk d + 1
  | (_, d) => uptoBulk d + 1
 end
def uptoSmall : (H : Type) → List (DataW H) → Bool := fun _ ds => decide (uptoBulkAll ds ≤ 1048576)
def OpenSpec.upto (s : _root_.Go.ChangeSpec) : _root_.Go.OpenSpec := { _root_.Go.OpenSpec.ofChange s with cond := some uptoSmall }

/-- 'quadrigalaw31.HistoryTells', WHERE WHAT IT READS IS OF BULK AT MOST 1048576: true; the input reads as it did. -/
def historyTellsUptoRow : OpenClaim := { program := "ytapjjhdopelpjaa", sum := "09d602c811b2c9a7211d886c0fe3e40920bf058cc36d03f225983ee825435f9f", func := "quadriga/quadrigalaw31.HistoryTells", spec := "historyTells", inPlace := ["slices.overlaps[int]"], unfollowed := true, recurses := true, apart := false, narrowed := true }
def HistoryTellsUptoSaid : Prop := historyTellsUptoRow.holds Try.pinned (OpenSpec.upto historyTellsSpec)

/-- 'quadrigalaw31.HistoryStrict', WHERE WHAT IT READS IS OF BULK AT MOST 1048576: true; the input reads as it did. -/
def historyStrictUptoRow : OpenClaim := { program := "ytapjjhdopelpjaa", sum := "09d602c811b2c9a7211d886c0fe3e40920bf058cc36d03f225983ee825435f9f", func := "quadriga/quadrigalaw31.HistoryStrict", spec := "historyStrict", inPlace := ["slices.overlaps[int]"], unfollowed := true, recurses := true, apart := false, narrowed := true }
def HistoryStrictUptoSaid : Prop := historyStrictUptoRow.holds Try.pinned (OpenSpec.upto historyStrictSpec)

/-- 'quadrigalaw31.HistoryOrders', WHERE WHAT IT READS IS OF BULK AT MOST 1048576: true; the input reads as it did. -/
def historyOrdersUptoRow : OpenClaim := { program := "ytapjjhdopelpjaa", sum := "09d602c811b2c9a7211d886c0fe3e40920bf058cc36d03f225983ee825435f9f", func := "quadriga/quadrigalaw31.HistoryOrders", spec := "historyOrders", inPlace := ["slices.overlaps[int]"], unfollowed := true, recurses := true, apart := false, narrowed := true }
def HistoryOrdersUptoSaid : Prop := historyOrdersUptoRow.holds Try.pinned (OpenSpec.upto historyOrdersSpec)

end Rows
end Go.Proofs.Ytapjjhdopelpjaa
