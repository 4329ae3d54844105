/- The store as data, and how it lies in memory. -/
import Derived.Test.YtbgiklkpinflaaaGreatSave
namespace Go.Proofs.YtbgiklkpinflaaaGreat
open Go.RowKit Go.Shelf Go.Maps

structure Sto where
  disk : Dsk
  life : Nat
  now : St
  pins : List St
  opened : Bool
  notes : List (List UInt8 × List UInt8)
  gone : List (List UInt8 × Unit)

/-- The slice v holds l; it may be nil where there is nothing. -/
def NoteAt (P : Nat → Prop) (w : World) (v : Value) (l : List UInt8) : Prop := (v = .slice none 0 0 ∧ l = []) ∨ BytesAt P w v l
def NotesAt (P : Nat → Prop) (w : World) (nb : Nat) (ns : List (List UInt8 × List UInt8)) : Prop :=
  ∃ l : List (List UInt8 × (Value × List UInt8)), MapAt w nb (mmap (·.1) l) ∧ ns = mmap (·.2) l ∧ ∀ x ∈ l, NoteAt P w x.2.1 x.2.2
def GoneAt (w : World) (gb : Nat) (gs : List (List UInt8 × Unit)) : Prop := MapAt w gb (mmap (fun _ => .bool true) gs)

/-- A pin: the snapshot's block, the state's, its map's. -/
abbrev PinPlace := Nat × Nat × Nat
def ptrs (ps : List PinPlace) : List Value := ps.map fun p => .pointer (some ⟨p.1, 0, none⟩)

/-- What the transaction holds. -/
def TransAt (P : Nat → Prop) (w : World) (X : Sto) (ms : List Nat) (nv gv : Value) (T : List Nat) : Prop :=
  (X.opened = false ∧ nv = .map none ∧ gv = .map none ∧ T = []) ∨
  (X.opened = true ∧ ∃ nb gb, nv = .map (some nb) ∧ gv = .map (some gb) ∧ T = [nb, gb] ∧ nb ≠ gb ∧ (∀ m ∈ ms, m ≠ nb ∧ m ≠ gb) ∧ NotesAt P w nb X.notes ∧ GoneAt w gb X.gone)

/-- How the store lies in memory. -/
structure StoRep (P : Nat → Prop) (w : World) (s : Nat) (X : Sto) (d : Nat) (Sd : List Nat) (a mb : Nat) (pv : Value) (pins : List PinPlace) (nv gv : Value) (T : List Nat) : Prop where
  hs : Blk w s 100 #[.pointer (some ⟨d, 0, none⟩), .int .i64 (X.life : Int), .pointer (some ⟨a, 0, none⟩), pv, .bool X.opened, nv, gv]
  disk : DiskAt P w d X.disk Sd
  now : StateAt w a mb X.now
  pown : w.ownsRow 0 31 1 pv pins.length (ptrs pins)
  plen : pins.length = X.pins.length
  pat : ∀ (i : Nat) (q : PinPlace) (st : St), pins[i]? = some q → X.pins[i]? = some st → Blk w q.1 103 #[.pointer (some ⟨s, 0, none⟩), .pointer (some ⟨q.2.1, 0, none⟩)] ∧ StateAt w q.2.1 q.2.2 st
  trans : TransAt P w X (mb :: pins.map (·.2.2)) nv gv T

end Go.Proofs.YtbgiklkpinflaaaGreat
