/-
  No cell of these rows narrows 'for every input' (looked for: loops, veiled, ifaces, maps, wideKeys, modest, calm, conditions, laid).
  DERIVED. THE GIVEN ROWS OF THIS SEAT. 8 by the template 'for every input the law returns true; each argument reads behind the call as it read before'; 0 by the template 'total and deterministic' (their statements: YtbgiklkpinflaaaGreatTotals.lean).
  GIVEN WITH THE SEED: the statements are not yours to turn. If you find one false, say at which input.
  Laid BY PROGRAM, IN A SANDBOX (cutbox-rows.mjs): the forced cells as the released guide's own fill.sh prints them over the translation 733903b0705a5340… (all of the seat's roots in one cut). By AI agents, Wed Nov 11 2026. No macro, syntax, notation, axiom, sorry.
-/
import Derived.Test.YtbgiklkpinflaaaGreatChecked
import GoSem.Claim
import GoSem.ClaimJoined
import GoSem.ClaimMapViews
import Derived.JoinedTies
import Derived.KernelRfl
namespace Go.Proofs.YtbgiklkpinflaaaGreat
/- THE CELL 'sum', in the pinned program and in every row, IS THE sha256 OF THE DUMP (.gsa) THAT YtbgiklkpinflaaaGreatProg.lean LOADS. Nothing in Lean hashes anything: it is a label: what it is worth is what the hold of that sum in a sandbox is worth. -/
noncomputable def Tryz.pinned : Pinned := { name := "ytbgiklkpinflaaagreat", sum := "733903b0705a5340d62363d0335be851d5a83997fc0757245096cd5980397963", checked := Tryz.checked }
namespace Rows
def none {H : Type} : Left H := { results := [], args := [] }

/-- 'arrayarchivelaw05.StorePins': WHATEVER THE INPUT: true; the input reads as it did. -/
def storePinsSpec : ChangeSpec := { name := "storePins", fn := fun _ => fun
  | [d1, d2] => { results := [.lit (.bool true)], args := [d1, d2] }
  | _ => none }
def storePinsRow : OpenClaim := { program := "ytbgiklkpinflaaagreat", sum := "733903b0705a5340d62363d0335be851d5a83997fc0757245096cd5980397963", func := "arrayarchive/arrayarchivelaw05.StorePins", spec := "storePins", inPlace := ["maps.clone"], unfollowed := true, recurses := true, apart := false }
def StorePinsSaid : Prop := storePinsRow.holds Tryz.pinned (OpenSpec.ofChange storePinsSpec)

/-- ITS FALSE NEIGHBOUR: 'it returns false'. Refute it at one input. -/
def storePinsWrong : ChangeSpec := { name := "storePins", fn := fun _ => fun
  | [d1, d2] => { results := [.lit (.bool false)], args := [d1, d2] }
  | _ => none }
def StorePinsWrongFalsely : Prop := storePinsRow.holds Tryz.pinned (OpenSpec.ofChange storePinsWrong)

/-- 'arrayarchivelaw05.StoreLast': WHATEVER THE INPUT: true; the input reads as it did. -/
def storeLastSpec : ChangeSpec := { name := "storeLast", fn := fun _ => fun
  | [d] => { results := [.lit (.bool true)], args := [d] }
  | _ => none }
def storeLastRow : OpenClaim := { program := "ytbgiklkpinflaaagreat", sum := "733903b0705a5340d62363d0335be851d5a83997fc0757245096cd5980397963", func := "arrayarchive/arrayarchivelaw05.StoreLast", spec := "storeLast", inPlace := ["maps.clone"], unfollowed := true, recurses := true, apart := false }
def StoreLastSaid : Prop := storeLastRow.holds Tryz.pinned (OpenSpec.ofChange storeLastSpec)

/-- ITS FALSE NEIGHBOUR: 'it returns false'. Refute it at one input. -/
def storeLastWrong : ChangeSpec := { name := "storeLast", fn := fun _ => fun
  | [d] => { results := [.lit (.bool false)], args := [d] }
  | _ => none }
def StoreLastWrongFalsely : Prop := storeLastRow.holds Tryz.pinned (OpenSpec.ofChange storeLastWrong)

/-- 'arrayarchivelaw05.StorePlays': WHATEVER THE INPUT: true; the input reads as it did. -/
def storePlaysSpec : ChangeSpec := { name := "storePlays", fn := fun _ => fun
  | [d1, d2] => { results := [.lit (.bool true)], args := [d1, d2] }
  | _ => none }
def storePlaysRow : OpenClaim := { program := "ytbgiklkpinflaaagreat", sum := "733903b0705a5340d62363d0335be851d5a83997fc0757245096cd5980397963", func := "arrayarchive/arrayarchivelaw05.StorePlays", spec := "storePlays", inPlace := ["maps.clone"], unfollowed := true, recurses := true, apart := false }
def StorePlaysSaid : Prop := storePlaysRow.holds Tryz.pinned (OpenSpec.ofChange storePlaysSpec)

/-- ITS FALSE NEIGHBOUR: 'it returns false'. Refute it at one input. -/
def storePlaysWrong : ChangeSpec := { name := "storePlays", fn := fun _ => fun
  | [d1, d2] => { results := [.lit (.bool false)], args := [d1, d2] }
  | _ => none }
def StorePlaysWrongFalsely : Prop := storePlaysRow.holds Tryz.pinned (OpenSpec.ofChange storePlaysWrong)

/-- 'arrayarchivelaw05.StoreOpens': WHATEVER THE INPUT: true; the input reads as it did. -/
def storeOpensSpec : ChangeSpec := { name := "storeOpens", fn := fun _ => fun
  | [d1, d2, d3] => { results := [.lit (.bool true)], args := [d1, d2, d3] }
  | _ => none }
def storeOpensRow : OpenClaim := { program := "ytbgiklkpinflaaagreat", sum := "733903b0705a5340d62363d0335be851d5a83997fc0757245096cd5980397963", func := "arrayarchive/arrayarchivelaw05.StoreOpens", spec := "storeOpens", inPlace := ["maps.clone"], unfollowed := true, recurses := true, apart := false }
def StoreOpensSaid : Prop := storeOpensRow.holds Tryz.pinned (OpenSpec.ofChange storeOpensSpec)

/-- ITS FALSE NEIGHBOUR: 'it returns false'. Refute it at one input. -/
def storeOpensWrong : ChangeSpec := { name := "storeOpens", fn := fun _ => fun
  | [d1, d2, d3] => { results := [.lit (.bool false)], args := [d1, d2, d3] }
  | _ => none }
def StoreOpensWrongFalsely : Prop := storeOpensRow.holds Tryz.pinned (OpenSpec.ofChange storeOpensWrong)

/-- 'arrayarchivelaw05.StoreWhole': WHATEVER THE INPUT: true; the input reads as it did. -/
def storeWholeSpec : ChangeSpec := { name := "storeWhole", fn := fun _ => fun
  | [d] => { results := [.lit (.bool true)], args := [d] }
  | _ => none }
def storeWholeRow : OpenClaim := { program := "ytbgiklkpinflaaagreat", sum := "733903b0705a5340d62363d0335be851d5a83997fc0757245096cd5980397963", func := "arrayarchive/arrayarchivelaw05.StoreWhole", spec := "storeWhole", inPlace := ["maps.clone"], unfollowed := true, recurses := true, apart := false }
def StoreWholeSaid : Prop := storeWholeRow.holds Tryz.pinned (OpenSpec.ofChange storeWholeSpec)

/-- ITS FALSE NEIGHBOUR: 'it returns false'. Refute it at one input. -/
def storeWholeWrong : ChangeSpec := { name := "storeWhole", fn := fun _ => fun
  | [d] => { results := [.lit (.bool false)], args := [d] }
  | _ => none }
def StoreWholeWrongFalsely : Prop := storeWholeRow.holds Tryz.pinned (OpenSpec.ofChange storeWholeWrong)

/-- 'arrayarchivelaw05.StoreReads': WHATEVER THE INPUT: true; the input reads as it did. -/
def storeReadsSpec : ChangeSpec := { name := "storeReads", fn := fun _ => fun
  | [d1, d2, d3, d4] => { results := [.lit (.bool true)], args := [d1, d2, d3, d4] }
  | _ => none }
def storeReadsRow : OpenClaim := { program := "ytbgiklkpinflaaagreat", sum := "733903b0705a5340d62363d0335be851d5a83997fc0757245096cd5980397963", func := "arrayarchive/arrayarchivelaw05.StoreReads", spec := "storeReads", inPlace := ["maps.clone"], unfollowed := true, recurses := true, apart := false }
def StoreReadsSaid : Prop := storeReadsRow.holds Tryz.pinned (OpenSpec.ofChange storeReadsSpec)

/-- ITS FALSE NEIGHBOUR: 'it returns false'. Refute it at one input. -/
def storeReadsWrong : ChangeSpec := { name := "storeReads", fn := fun _ => fun
  | [d1, d2, d3, d4] => { results := [.lit (.bool false)], args := [d1, d2, d3, d4] }
  | _ => none }
def StoreReadsWrongFalsely : Prop := storeReadsRow.holds Tryz.pinned (OpenSpec.ofChange storeReadsWrong)

/-- 'arrayarchivelaw05.StoreFresh': WHATEVER THE INPUT: true; the input reads as it did. -/
def storeFreshSpec : ChangeSpec := { name := "storeFresh", fn := fun _ => fun
  | [d1, d2] => { results := [.lit (.bool true)], args := [d1, d2] }
  | _ => none }
def storeFreshRow : OpenClaim := { program := "ytbgiklkpinflaaagreat", sum := "733903b0705a5340d62363d0335be851d5a83997fc0757245096cd5980397963", func := "arrayarchive/arrayarchivelaw05.StoreFresh", spec := "storeFresh", inPlace := ["maps.clone"], unfollowed := true, recurses := true, apart := false }
def StoreFreshSaid : Prop := storeFreshRow.holds Tryz.pinned (OpenSpec.ofChange storeFreshSpec)

/-- ITS FALSE NEIGHBOUR: 'it returns false'. Refute it at one input. -/
def storeFreshWrong : ChangeSpec := { name := "storeFresh", fn := fun _ => fun
  | [d1, d2] => { results := [.lit (.bool false)], args := [d1, d2] }
  | _ => none }
def StoreFreshWrongFalsely : Prop := storeFreshRow.holds Tryz.pinned (OpenSpec.ofChange storeFreshWrong)

/-- 'arrayarchivelaw05.StoreNil': WHATEVER THE INPUT: true; the input reads as it did. -/
def storeNilSpec : ChangeSpec := { name := "storeNil", fn := fun _ => fun
  | [d1, d2, d3] => { results := [.lit (.bool true)], args := [d1, d2, d3] }
  | _ => none }
def storeNilRow : OpenClaim := { program := "ytbgiklkpinflaaagreat", sum := "733903b0705a5340d62363d0335be851d5a83997fc0757245096cd5980397963", func := "arrayarchive/arrayarchivelaw05.StoreNil", spec := "storeNil", inPlace := ["maps.clone"], unfollowed := true, recurses := true, apart := false }
def StoreNilSaid : Prop := storeNilRow.holds Tryz.pinned (OpenSpec.ofChange storeNilSpec)

/-- ITS FALSE NEIGHBOUR: 'it returns false'. Refute it at one input. -/
def storeNilWrong : ChangeSpec := { name := "storeNil", fn := fun _ => fun
  | [d1, d2, d3] => { results := [.lit (.bool false)], args := [d1, d2, d3] }
  | _ => none }
def StoreNilWrongFalsely : Prop := storeNilRow.holds Tryz.pinned (OpenSpec.ofChange storeNilWrong)

/- THE SECOND FORM. 'bulk': how many values and letters a reading holds, each counted each time it is reached (what is shared counts as often as it is met; a slice's spare places count too). A statement '..UptoSaid' is the law's where the arguments, and the package variables that the reading takes, are together of bulk at most 1048576: NARROWER than '..Said'. Prove '..Said' where nothing that the law and all that it calls make is longer than what came in: it says more and counts as full. Else prove '..UptoSaid'. A law counts once. -/
mutual
def uptoBulk {H : Type} : DataW H → Nat
  | .lit (.string bytes) => bytes.length + 1
  | .lit _ => 1
  | .nil => 1
  | .ptr d => uptoBulk d + 1
  | .slice elems spare => uptoBulkAll elems + uptoBulkAll spare + 1
  | .agg parts => uptoBulkAll parts + 1
  | .iface _ d => uptoBulk d + 1
  | .map entries => uptoBulkEntries entries + 1
  | .held _ => 1
def uptoBulkAll {H : Type} : List (DataW H) → Nat
  | [] => 0
  | d :: r => uptoBulk d + uptoBulkAll r
def uptoBulkEntries {H : Type} : List (Lit × DataW H) → Nat
  | [] => 0
  | x :: r => uptoBulkEntry x + uptoBulkEntries r
def uptoBulkEntry {H : Type} : Lit × DataW H → Nat
  | (.string bytes, d) => bytes.length + uptoBulk d + 1
  | (_, d) => uptoBulk d + 1
 end
def uptoSmall : (H : Type) → List (DataW H) → Bool := fun _ ds => decide (uptoBulkAll ds ≤ 1048576)
def OpenSpec.upto (s : _root_.Go.ChangeSpec) : _root_.Go.OpenSpec := { _root_.Go.OpenSpec.ofChange s with cond := some uptoSmall }

/-- 'arrayarchivelaw05.StorePins', WHERE WHAT IT READS IS OF BULK AT MOST 1048576: true; the input reads as it did. -/
def storePinsUptoRow : OpenClaim := { program := "ytbgiklkpinflaaagreat", sum := "733903b0705a5340d62363d0335be851d5a83997fc0757245096cd5980397963", func := "arrayarchive/arrayarchivelaw05.StorePins", spec := "storePins", inPlace := ["maps.clone"], unfollowed := true, recurses := true, apart := false, narrowed := true }
def StorePinsUptoSaid : Prop := storePinsUptoRow.holds Tryz.pinned (OpenSpec.upto storePinsSpec)

/-- 'arrayarchivelaw05.StoreLast', WHERE WHAT IT READS IS OF BULK AT MOST 1048576: true; the input reads as it did. -/
def storeLastUptoRow : OpenClaim := { program := "ytbgiklkpinflaaagreat", sum := "733903b0705a5340d62363d0335be851d5a83997fc0757245096cd5980397963", func := "arrayarchive/arrayarchivelaw05.StoreLast", spec := "storeLast", inPlace := ["maps.clone"], unfollowed := true, recurses := true, apart := false, narrowed := true }
def StoreLastUptoSaid : Prop := storeLastUptoRow.holds Tryz.pinned (OpenSpec.upto storeLastSpec)

/-- 'arrayarchivelaw05.StorePlays', WHERE WHAT IT READS IS OF BULK AT MOST 1048576: true; the input reads as it did. -/
def storePlaysUptoRow : OpenClaim := { program := "ytbgiklkpinflaaagreat", sum := "733903b0705a5340d62363d0335be851d5a83997fc0757245096cd5980397963", func := "arrayarchive/arrayarchivelaw05.StorePlays", spec := "storePlays", inPlace := ["maps.clone"], unfollowed := true, recurses := true, apart := false, narrowed := true }
def StorePlaysUptoSaid : Prop := storePlaysUptoRow.holds Tryz.pinned (OpenSpec.upto storePlaysSpec)

/-- 'arrayarchivelaw05.StoreOpens', WHERE WHAT IT READS IS OF BULK AT MOST 1048576: true; the input reads as it did. -/
def storeOpensUptoRow : OpenClaim := { program := "ytbgiklkpinflaaagreat", sum := "733903b0705a5340d62363d0335be851d5a83997fc0757245096cd5980397963", func := "arrayarchive/arrayarchivelaw05.StoreOpens", spec := "storeOpens", inPlace := ["maps.clone"], unfollowed := true, recurses := true, apart := false, narrowed := true }
def StoreOpensUptoSaid : Prop := storeOpensUptoRow.holds Tryz.pinned (OpenSpec.upto storeOpensSpec)

/-- 'arrayarchivelaw05.StoreWhole', WHERE WHAT IT READS IS OF BULK AT MOST 1048576: true; the input reads as it did. -/
def storeWholeUptoRow : OpenClaim := { program := "ytbgiklkpinflaaagreat", sum := "733903b0705a5340d62363d0335be851d5a83997fc0757245096cd5980397963", func := "arrayarchive/arrayarchivelaw05.StoreWhole", spec := "storeWhole", inPlace := ["maps.clone"], unfollowed := true, recurses := true, apart := false, narrowed := true }
def StoreWholeUptoSaid : Prop := storeWholeUptoRow.holds Tryz.pinned (OpenSpec.upto storeWholeSpec)

/-- 'arrayarchivelaw05.StoreReads', WHERE WHAT IT READS IS OF BULK AT MOST 1048576: true; the input reads as it did. -/
def storeReadsUptoRow : OpenClaim := { program := "ytbgiklkpinflaaagreat", sum := "733903b0705a5340d62363d0335be851d5a83997fc0757245096cd5980397963", func := "arrayarchive/arrayarchivelaw05.StoreReads", spec := "storeReads", inPlace := ["maps.clone"], unfollowed := true, recurses := true, apart := false, narrowed := true }
def StoreReadsUptoSaid : Prop := storeReadsUptoRow.holds Tryz.pinned (OpenSpec.upto storeReadsSpec)

/-- 'arrayarchivelaw05.StoreFresh', WHERE WHAT IT READS IS OF BULK AT MOST 1048576: true; the input reads as it did. -/
def storeFreshUptoRow : OpenClaim := { program := "ytbgiklkpinflaaagreat", sum := "733903b0705a5340d62363d0335be851d5a83997fc0757245096cd5980397963", func := "arrayarchive/arrayarchivelaw05.StoreFresh", spec := "storeFresh", inPlace := ["maps.clone"], unfollowed := true, recurses := true, apart := false, narrowed := true }
def StoreFreshUptoSaid : Prop := storeFreshUptoRow.holds Tryz.pinned (OpenSpec.upto storeFreshSpec)

/-- 'arrayarchivelaw05.StoreNil', WHERE WHAT IT READS IS OF BULK AT MOST 1048576: true; the input reads as it did. -/
def storeNilUptoRow : OpenClaim := { program := "ytbgiklkpinflaaagreat", sum := "733903b0705a5340d62363d0335be851d5a83997fc0757245096cd5980397963", func := "arrayarchive/arrayarchivelaw05.StoreNil", spec := "storeNil", inPlace := ["maps.clone"], unfollowed := true, recurses := true, apart := false, narrowed := true }
def StoreNilUptoSaid : Prop := storeNilUptoRow.holds Tryz.pinned (OpenSpec.upto storeNilSpec)

end Rows
end Go.Proofs.YtbgiklkpinflaaaGreat
