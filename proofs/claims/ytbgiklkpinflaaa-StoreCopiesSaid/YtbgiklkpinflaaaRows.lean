/-
  No cell of these rows narrows 'for every input' (looked for: loops, veiled, ifaces, maps, wideKeys, modest, calm, conditions, laid).
  DERIVED. THE GIVEN ROWS OF THIS SEAT. 4 by the template 'for every input the law returns true; each argument reads behind the call as it read before'; 0 by the template 'total and deterministic' (their statements: YtbgiklkpinflaaaTotals.lean).
  GIVEN WITH THE SEED: the statements are not yours to turn. If you find one false, say at which input.
  Laid BY PROGRAM, IN A SANDBOX (cutbox-rows.mjs): the forced cells as the released guide's own fill.sh prints them over the translation df8af93e34a955d3… (all of the seat's roots in one cut). By AI agents, Wed Nov 11 2026. No macro, syntax, notation, axiom, sorry.
-/
import Derived.Test.YtbgiklkpinflaaaChecked
import GoSem.Claim
import GoSem.ClaimJoined
import GoSem.ClaimMapViews
import Derived.JoinedTies
import Derived.KernelRfl
namespace Go.Proofs.Ytbgiklkpinflaaa
/- THE CELL 'sum', in the pinned program and in every row, IS THE sha256 OF THE DUMP (.gsa) THAT YtbgiklkpinflaaaProg.lean LOADS. Nothing in Lean hashes anything: it is a label: what it is worth is what the hold of that sum in a sandbox is worth. -/
noncomputable def Try.pinned : Pinned := { name := "ytbgiklkpinflaaa", sum := "df8af93e34a955d3698f7afae519c2e455c23c988b9ed993b458fccea6784357", checked := Try.checked }
namespace Rows
def none {H : Type} : Left H := { results := [], args := [] }

/-- 'arrayarchivelaw05.StoreEdges': WHATEVER THE INPUT: true; the input reads as it did. -/
def storeEdgesSpec : ChangeSpec := { name := "storeEdges", fn := fun _ => fun
  | [d1, d2] => { results := [.lit (.bool true)], args := [d1, d2] }
  | _ => none }
def storeEdgesRow : OpenClaim := { program := "ytbgiklkpinflaaa", sum := "df8af93e34a955d3698f7afae519c2e455c23c988b9ed993b458fccea6784357", func := "arrayarchive/arrayarchivelaw05.StoreEdges", spec := "storeEdges", inPlace := ["maps.clone"], unfollowed := true, recurses := true, apart := false }
def StoreEdgesSaid : Prop := storeEdgesRow.holds Try.pinned (OpenSpec.ofChange storeEdgesSpec)

/-- ITS FALSE NEIGHBOUR: 'it returns false'. Refute it at one input. -/
def storeEdgesWrong : ChangeSpec := { name := "storeEdges", fn := fun _ => fun
  | [d1, d2] => { results := [.lit (.bool false)], args := [d1, d2] }
  | _ => none }
def StoreEdgesWrongFalsely : Prop := storeEdgesRow.holds Try.pinned (OpenSpec.ofChange storeEdgesWrong)

/-- 'arrayarchivelaw05.StoreKept': WHATEVER THE INPUT: true; the input reads as it did. -/
def storeKeptSpec : ChangeSpec := { name := "storeKept", fn := fun _ => fun
  | [d1, d2, d3] => { results := [.lit (.bool true)], args := [d1, d2, d3] }
  | _ => none }
def storeKeptRow : OpenClaim := { program := "ytbgiklkpinflaaa", sum := "df8af93e34a955d3698f7afae519c2e455c23c988b9ed993b458fccea6784357", func := "arrayarchive/arrayarchivelaw05.StoreKept", spec := "storeKept", inPlace := ["maps.clone"], unfollowed := true, recurses := true, apart := false }
def StoreKeptSaid : Prop := storeKeptRow.holds Try.pinned (OpenSpec.ofChange storeKeptSpec)

/-- ITS FALSE NEIGHBOUR: 'it returns false'. Refute it at one input. -/
def storeKeptWrong : ChangeSpec := { name := "storeKept", fn := fun _ => fun
  | [d1, d2, d3] => { results := [.lit (.bool false)], args := [d1, d2, d3] }
  | _ => none }
def StoreKeptWrongFalsely : Prop := storeKeptRow.holds Try.pinned (OpenSpec.ofChange storeKeptWrong)

/-- 'arrayarchivelaw05.StoreDisks': WHATEVER THE INPUT: true; the input reads as it did. -/
def storeDisksSpec : ChangeSpec := { name := "storeDisks", fn := fun _ => fun
  | [d1, d2] => { results := [.lit (.bool true)], args := [d1, d2] }
  | _ => none }
def storeDisksRow : OpenClaim := { program := "ytbgiklkpinflaaa", sum := "df8af93e34a955d3698f7afae519c2e455c23c988b9ed993b458fccea6784357", func := "arrayarchive/arrayarchivelaw05.StoreDisks", spec := "storeDisks", inPlace := ["maps.clone"], unfollowed := true, recurses := true, apart := false }
def StoreDisksSaid : Prop := storeDisksRow.holds Try.pinned (OpenSpec.ofChange storeDisksSpec)

/-- ITS FALSE NEIGHBOUR: 'it returns false'. Refute it at one input. -/
def storeDisksWrong : ChangeSpec := { name := "storeDisks", fn := fun _ => fun
  | [d1, d2] => { results := [.lit (.bool false)], args := [d1, d2] }
  | _ => none }
def StoreDisksWrongFalsely : Prop := storeDisksRow.holds Try.pinned (OpenSpec.ofChange storeDisksWrong)

/-- 'arrayarchivelaw05.StoreCopies': WHATEVER THE INPUT: true; the input reads as it did. -/
def storeCopiesSpec : ChangeSpec := { name := "storeCopies", fn := fun _ => fun
  | [d1, d2] => { results := [.lit (.bool true)], args := [d1, d2] }
  | _ => none }
def storeCopiesRow : OpenClaim := { program := "ytbgiklkpinflaaa", sum := "df8af93e34a955d3698f7afae519c2e455c23c988b9ed993b458fccea6784357", func := "arrayarchive/arrayarchivelaw05.StoreCopies", spec := "storeCopies", inPlace := ["maps.clone"], unfollowed := true, recurses := true, apart := false }
def StoreCopiesSaid : Prop := storeCopiesRow.holds Try.pinned (OpenSpec.ofChange storeCopiesSpec)

/-- ITS FALSE NEIGHBOUR: 'it returns false'. Refute it at one input. -/
def storeCopiesWrong : ChangeSpec := { name := "storeCopies", fn := fun _ => fun
  | [d1, d2] => { results := [.lit (.bool false)], args := [d1, d2] }
  | _ => none }
def StoreCopiesWrongFalsely : Prop := storeCopiesRow.holds Try.pinned (OpenSpec.ofChange storeCopiesWrong)

/- THE SECOND FORM. 'bulk': how many values and letters a reading holds, each counted each time it is reached (what is shared counts as often as it is met; a slice's spare places count too). A statement '..UptoSaid' is the law's where the arguments, and the package variables that the reading takes, are together of bulk at most 1048576: NARROWER than '..Said'. Prove '..Said' where nothing that the law and all that it calls make is longer than what came in: it says more and counts as full. Else prove '..UptoSaid'. A law counts once. -/
mutual
def uptoBulk {H : Type} : DataW H → Nat
  | .lit (.string bytes) => bytes.length + 1
  | .lit _ => 1
  | .nil => 1
  | .ptr d => uptoBulk d + 1
  | .slice elems spare => uptoBulkAll elems + uptoBulkAll spare + 1
  | .agg parts => uptoBulkAll parts + 1
  | .iface _ d => uptoBulk d + 1
  | .map entries => uptoBulkEntries entries + 1
  | .held _ => 1
def uptoBulkAll {H : Type} : List (DataW H) → Nat
  | [] => 0
  | d :: r => uptoBulk d + uptoBulkAll r
def uptoBulkEntries {H : Type} : List (Lit × DataW H) → Nat
  | [] => 0
  | x :: r => uptoBulkEntry x + uptoBulkEntries r
def uptoBulkEntry {H : Type} : Lit × DataW H → Nat
  | (.string bytes, d) => bytes.length + uptoBulk d + 1
  | (_, d) => uptoBulk d + 1
 end
def uptoSmall : (H : Type) → List (DataW H) → Bool := fun _ ds => decide (uptoBulkAll ds ≤ 1048576)
def OpenSpec.upto (s : _root_.Go.ChangeSpec) : _root_.Go.OpenSpec := { _root_.Go.OpenSpec.ofChange s with cond := some uptoSmall }

/-- 'arrayarchivelaw05.StoreEdges', WHERE WHAT IT READS IS OF BULK AT MOST 1048576: true; the input reads as it did. -/
def storeEdgesUptoRow : OpenClaim := { program := "ytbgiklkpinflaaa", sum := "df8af93e34a955d3698f7afae519c2e455c23c988b9ed993b458fccea6784357", func := "arrayarchive/arrayarchivelaw05.StoreEdges", spec := "storeEdges", inPlace := ["maps.clone"], unfollowed := true, recurses := true, apart := false, narrowed := true }
def StoreEdgesUptoSaid : Prop := storeEdgesUptoRow.holds Try.pinned (OpenSpec.upto storeEdgesSpec)

/-- 'arrayarchivelaw05.StoreKept', WHERE WHAT IT READS IS OF BULK AT MOST 1048576: true; the input reads as it did. -/
def storeKeptUptoRow : OpenClaim := { program := "ytbgiklkpinflaaa", sum := "df8af93e34a955d3698f7afae519c2e455c23c988b9ed993b458fccea6784357", func := "arrayarchive/arrayarchivelaw05.StoreKept", spec := "storeKept", inPlace := ["maps.clone"], unfollowed := true, recurses := true, apart := false, narrowed := true }
def StoreKeptUptoSaid : Prop := storeKeptUptoRow.holds Try.pinned (OpenSpec.upto storeKeptSpec)

/-- 'arrayarchivelaw05.StoreDisks', WHERE WHAT IT READS IS OF BULK AT MOST 1048576: true; the input reads as it did. -/
def storeDisksUptoRow : OpenClaim := { program := "ytbgiklkpinflaaa", sum := "df8af93e34a955d3698f7afae519c2e455c23c988b9ed993b458fccea6784357", func := "arrayarchive/arrayarchivelaw05.StoreDisks", spec := "storeDisks", inPlace := ["maps.clone"], unfollowed := true, recurses := true, apart := false, narrowed := true }
def StoreDisksUptoSaid : Prop := storeDisksUptoRow.holds Try.pinned (OpenSpec.upto storeDisksSpec)

/-- 'arrayarchivelaw05.StoreCopies', WHERE WHAT IT READS IS OF BULK AT MOST 1048576: true; the input reads as it did. -/
def storeCopiesUptoRow : OpenClaim := { program := "ytbgiklkpinflaaa", sum := "df8af93e34a955d3698f7afae519c2e455c23c988b9ed993b458fccea6784357", func := "arrayarchive/arrayarchivelaw05.StoreCopies", spec := "storeCopies", inPlace := ["maps.clone"], unfollowed := true, recurses := true, apart := false, narrowed := true }
def StoreCopiesUptoSaid : Prop := storeCopiesUptoRow.holds Try.pinned (OpenSpec.upto storeCopiesSpec)

end Rows
end Go.Proofs.Ytbgiklkpinflaaa
