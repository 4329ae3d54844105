/- A state in memory. -/
import Derived.Test.YtbgiklkpinflaaaGreatKeys
import Derived.Test.YtbgiklkpinflaaaGreatRoot
namespace Go.Proofs.YtbgiklkpinflaaaGreat
open Go.RowKit Go.Shelf Go.Maps

structure Place where
  size : Nat
  sum : Int
  blocks : List Nat
structure St where
  gen : Nat
  places : List (List UInt8 × Place)
  index : List Nat

/-- The value v is the place p. -/
def PlaceAt (w : World) (v : Value) (p : Place) : Prop := ∃ sv, v = .agg #[.int .i64 (p.size : Int), .int .u32 p.sum, sv] ∧ NumsAt w sv p.blocks
/-- Block mb holds the places. -/
def PlacesAt (w : World) (mb : Nat) (ps : List (List UInt8 × Place)) : Prop :=
  ∃ l : List (List UInt8 × (Value × Place)), MapAt w mb (mmap (·.1) l) ∧ ps = mmap (·.2) l ∧ ∀ x ∈ l, PlaceAt w x.2.1 x.2.2
/-- The state st lies at block a, its map at block mb. -/
def StateAt (w : World) (a mb : Nat) (st : St) : Prop :=
  ∃ sv, Blk w a 133 #[.int .i64 (st.gen : Int), .map (some mb), sv] ∧ NumsAt w sv st.index ∧ PlacesAt w mb st.places

/-- What every place keeps to, with n blocks on the disk. -/
structure PlaceOk (n : Nat) (p : Place) : Prop where
  size : p.size ≤ 65536
  sum0 : 0 ≤ p.sum
  sum1 : p.sum ≤ 4294967295
  len : p.blocks.length = (p.size + 239) / 240
  blk : ∀ b ∈ p.blocks, 2 ≤ b ∧ b < n
structure StOk (n : Nat) (st : St) : Prop where
  srt : Srt st.places
  keys : ∀ x ∈ st.places, 0 < x.1.length ∧ x.1.length ≤ 64
  places : ∀ x ∈ st.places, PlaceOk n x.2
  few : st.places.length ≤ 512
  index : 0 < st.index.length
  index1 : st.index.length ≤ 1024
  iblk : ∀ b ∈ st.index, 2 ≤ b ∧ b < n
  gen : st.gen ≤ 4611686018427387904
  most : n ≤ 1024

section
variable {F : Nat → Prop} {w w' : World}
theorem PlaceAt.keeps {v : Value} {p : Place} (h : PlaceAt w v p) (k : Keeps F w w') (hF : ∀ g cs, F g → Blk w g 3 cs → False) : PlaceAt w' v p := by
  obtain ⟨sv, hv, hn⟩ := h
  exact ⟨sv, hv, hn.keeps k hF⟩
theorem PlacesAt.keeps {mb : Nat} {ps : List (List UInt8 × Place)} (h : PlacesAt w mb ps) (k : Keeps F w w') (hF : ∀ g cs, F g → Blk w g 3 cs → False) (hm : ¬ F mb) : PlacesAt w' mb ps := by
  obtain ⟨l, h1, h2, h3⟩ := h
  exact ⟨l, h1.keeps k hm, h2, fun x hx => (h3 x hx).keeps k hF⟩
theorem StateAt.keeps {a mb : Nat} {st : St} (h : StateAt w a mb st) (k : Keeps F w w') (hF : ∀ g t cs, F g → Blk w g t cs → t ≠ 3 ∧ t ≠ 133) (hm : ¬ F mb) : StateAt w' a mb st := by
  obtain ⟨sv, h1, h2, h3⟩ := h
  exact ⟨sv, h1.keeps k (fun hg => (hF _ _ _ hg h1).2 rfl), h2.keeps k (fun g cs hg hb => (hF g _ cs hg hb).1 rfl), h3.keeps k (fun g cs hg hb => (hF g _ cs hg hb).1 rfl) hm⟩
theorem StateAt.below {a mb : Nat} {st : St} (h : StateAt w a mb st) (hb : Below w.heap.size w w') : StateAt w' a mb st :=
  h.keeps (F := fun _ => False) (Keeps.of_below hb) (fun _ _ _ h => h.elim) id
theorem PlacesAt.mb_lt {mb : Nat} {ps : List (List UInt8 × Place)} (h : PlacesAt w mb ps) : mb < w.heap.size := by
  obtain ⟨l, h1, _⟩ := h
  exact h1.lt
end

/-- The bytes of a state's list of places. -/
def placeBytes (x : List UInt8 × Place) : List UInt8 := UInt8.ofNat x.1.length :: (x.1 ++ (be x.2.size 3 ++ (be x.2.sum.toNat 4 ++ x.2.blocks.flatMap fun b => be b 2)))
def writtenOf (ps : List (List UInt8 × Place)) : List UInt8 := ps.flatMap placeBytes
theorem beAll_length (l : List Nat) : (l.flatMap fun b => be b 2).length = 2 * l.length := by
  induction l with
  | nil => rfl
  | cons b l ih => rw [List.flatMap_cons, List.length_append, be_length, ih, List.length_cons]; omega
theorem placeBytes_length (x : List UInt8 × Place) : (placeBytes x).length = 8 + x.1.length + 2 * x.2.blocks.length := by
  simp only [placeBytes, List.length_cons, List.length_append, be_length, beAll_length]
  omega
theorem writtenOf_take (ps : List (List UInt8 × Place)) {k : Nat} (h : k < ps.length) : writtenOf (ps.take (k + 1)) = writtenOf (ps.take k) ++ placeBytes ps[k] := by
  unfold writtenOf
  rw [List.take_succ_eq_append_getElem h, List.flatMap_append, List.flatMap_singleton]

end Go.Proofs.YtbgiklkpinflaaaGreat
