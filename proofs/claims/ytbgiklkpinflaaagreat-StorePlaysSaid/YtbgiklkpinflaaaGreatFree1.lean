/- free: plain facts. -/
import Derived.Test.YtbgiklkpinflaaaGreatPut2
namespace Go.Proofs.YtbgiklkpinflaaaGreat
open Go.RowKit Go.Shelf Go.Maps

/-- Which blocks a state has. -/
def stHas (st : St) (i : Nat) : Bool := st.index.contains i || st.places.any fun x => x.2.blocks.contains i
def takenBy (sts : List St) (i : Nat) : Bool := sts.any fun st => stHas st i
def freeOf (n : Nat) (sts : List St) : List Nat := (List.range n).filter fun i => decide (2 ≤ i) && !takenBy sts i
def tkCells (n : Nat) (M : Nat → Bool) : Array Value := ((List.range n).map fun i => Value.bool (M i)).toArray
theorem tkCells_size (n : Nat) (M : Nat → Bool) : (tkCells n M).size = n := by simp [tkCells]
theorem tkCells_get (n : Nat) (M : Nat → Bool) {i : Nat} (h : i < n) : (tkCells n M)[i]? = some (.bool (M i)) := by simp [tkCells, h]
theorem tkCells_set (n : Nat) (M : Nat → Bool) {b : Nat} (_h : b < n) : (tkCells n M).setIfInBounds b (.bool true) = tkCells n (fun i => M i || i == b) := by
  apply Array.ext
  · simp [tkCells]
  · intro i h1 h2
    have hi : i < n := by simpa [tkCells] using h2
    rw [Array.getElem_setIfInBounds (by simpa [tkCells] using h2)]
    by_cases e : b = i
    · subst e
      simp [tkCells]
    · rw [if_neg e]
      have : (i == b) = false := by simpa using fun h => e h.symm
      simp [tkCells, this]
theorem tkCells_none (n : Nat) : ((madeCells #[Value.bool false] n)).toList = (tkCells n (fun _ => false)).toList := by
  rw [madeCells_one]
  simp only [tkCells]
  apply List.ext_getElem
  · simp
  · intro i h1 h2
    simp
/-- The block of marks. -/
def Marks (w0 : World) (tb n : Nat) (M : Nat → Bool) (wr : World) : Prop := Blk wr tb 4 (tkCells n M) ∧ Keeps (· = tb) w0 wr
theorem Marks.set {w0 wr : World} {tb n b : Nat} {M : Nat → Bool} (h : Marks w0 tb n M wr) (hb : b < n) : Marks w0 tb n (fun i => M i || i == b) (wr.setCell ⟨tb, b, none⟩ (.bool true)) := by
  refine ⟨?_, h.2.setCell (p := ⟨tb, b, none⟩) (fun _ => rfl) _⟩
  rw [← tkCells_set n M hb]
  exact h.1.set_ b _
theorem Marks.below {w0 wr w1 : World} {tb n : Nat} {M : Nat → Bool} (h : Marks w0 tb n M wr) (hb : Below wr.heap.size wr w1) : Marks w0 tb n M w1 :=
  ⟨h.1.below hb h.1.lt, h.2.trans (Keeps.of_below (F := fun _ => False) hb) (fun _ _ h => h.elim)⟩
theorem Marks.keeps {w0 wr w1 : World} {tb n : Nat} {M : Nat → Bool} (h : Marks w0 tb n M wr) (k : Keeps (fun _ => False) wr w1) : Marks w0 tb n M w1 := h.below k.below
theorem Marks.congr {w0 wr : World} {tb n : Nat} {M M' : Nat → Bool} (h : Marks w0 tb n M wr) (e : ∀ i, M i = M' i) : Marks w0 tb n M' wr := by
  have : M = M' := funext e
  rw [← this]
  exact h

def M3 (T : Nat → Bool) (l : List Nat) (i : Nat) : Bool := T i || l.contains i
theorem M3_step (T : Nat → Bool) (l : List Nat) {j : Nat} (h : j < l.length) (i : Nat) : (M3 T (l.take j) i || i == l[j]) = M3 T (l.take (j + 1)) i := by
  unfold M3
  rw [List.take_succ_eq_append_getElem h, List.contains_append, Bool.or_assoc]
  rw [List.contains_cons, List.contains_nil, Bool.or_false]
/-- Marked: T, and what the places have that are no longer to come. -/
def M4 (T : Nat → Bool) (ps : List (List UInt8 × Place)) (rem : List (List UInt8 × Value)) (i : Nat) : Bool := T i || ps.any fun x => !(rem.any fun y => y.1 == x.1) && x.2.blocks.contains i
theorem M4_start (T : Nat → Bool) {ps : List (List UInt8 × Place)} {M : List (List UInt8 × Value)} (h : ∀ x ∈ ps, (mget M x.1).isSome = true) (i : Nat) : T i = M4 T ps M i := by
  unfold M4
  have : (ps.any fun x => !(M.any fun y => y.1 == x.1) && x.2.blocks.contains i) = false := by
    rw [List.any_eq_false]
    intro x hx
    have h1 := h x hx
    unfold mget at h1
    rw [Option.isSome_map, List.isSome_find?] at h1
    simp [h1]
  rw [this, Bool.or_false]
theorem M4_end (T : Nat → Bool) (ps : List (List UInt8 × Place)) (i : Nat) : M4 T ps [] i = (T i || ps.any fun x => x.2.blocks.contains i) := by
  unfold M4
  simp
theorem M4_step (T : Nat → Bool) {ps : List (List UInt8 × Place)} {rem : List (List UInt8 × Value)} {k : List UInt8} {p : Place} (hs : Srt ps) (hk : mget ps k = some p) (i : Nat) : M3 (M4 T ps rem) p.blocks i = M4 T ps (mdel rem k) i := by
  unfold M3 M4
  rw [Bool.or_assoc]
  congr 1
  rw [Bool.eq_iff_iff]
  simp only [Bool.or_eq_true, List.any_eq_true, Bool.and_eq_true, Bool.not_eq_true', List.any_eq_false]
  have huniq : ∀ x ∈ ps, x.1 = k → x.2 = p := by
    intro x hx e
    obtain ⟨j, hj⟩ := List.getElem?_of_mem hx
    have := mget_at hs hj
    rw [e, hk] at this
    injection this with this
    exact this.symm
  constructor
  · rintro (⟨x, hx, h1, h2⟩ | h)
    · exact ⟨x, hx, fun y hy => h1 y (mdel_mem hy).1, h2⟩
    · exact ⟨(k, p), mget_mem hk, fun y hy => by simpa using (mdel_mem hy).2, h⟩
  · rintro ⟨x, hx, h1, h2⟩
    by_cases e : x.1 = k
    · exact .inr (by rw [← huniq x hx e]; exact h2)
    · refine .inl ⟨x, hx, fun y hy => ?_, h2⟩
      by_cases e2 : y.1 = k
      · simp [e2]; exact fun h => e h.symm
      · exact h1 y (List.mem_filter.2 ⟨hy, by simpa using e2⟩)

theorem takenBy_take (sts : List St) {k : Nat} (h : k < sts.length) (i : Nat) : (takenBy (sts.take k) i || stHas sts[k] i) = takenBy (sts.take (k + 1)) i := by
  unfold takenBy
  rw [List.take_succ_eq_append_getElem h, List.any_append]
  simp

end Go.Proofs.YtbgiklkpinflaaaGreat
