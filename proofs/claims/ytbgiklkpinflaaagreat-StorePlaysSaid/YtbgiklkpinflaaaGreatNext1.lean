/- next: plain facts, and what the walk needs. -/
import Derived.Test.YtbgiklkpinflaaaGreatTake
namespace Go.Proofs.YtbgiklkpinflaaaGreat
open Go.RowKit Go.Shelf Go.Maps

def need (n : Nat) : Nat := (n + 239) / 240
abbrev Acc := List (List UInt8 × Place) × List Nat
/-- A note takes its blocks. -/
def takeStep (acc : Acc) (x : List UInt8 × List UInt8) : Option Acc :=
  if need x.2.length ≤ acc.2.length then some (mput acc.1 x.1 ⟨x.2.length, crc x.2, acc.2.take (need x.2.length)⟩, acc.2.drop (need x.2.length)) else none
def takeAll (ns : List (List UInt8 × List UInt8)) (acc : Acc) : Option Acc := ns.foldlM takeStep acc
theorem takeAll_take (ns : List (List UInt8 × List UInt8)) (acc : Acc) {k : Nat} (h : k < ns.length) : takeAll (ns.take (k + 1)) acc = (takeAll (ns.take k) acc).bind fun a => takeStep a ns[k] := by
  unfold takeAll
  rw [List.take_succ_eq_append_getElem h, List.foldlM_append]
  show ((ns.take k).foldlM takeStep acc).bind (fun a => [ns[k]].foldlM takeStep a) = _
  congr 1
  funext a
  simp [List.foldlM]
theorem takeAll_none {ns : List (List UInt8 × List UInt8)} {acc : Acc} {k : Nat} (h : takeAll (ns.take k) acc = none) : takeAll ns acc = none := by
  have e : ns = ns.take k ++ ns.drop k := (List.take_append_drop k ns).symm
  unfold takeAll at h ⊢
  rw [e, List.foldlM_append, h]
  rfl
/-- The places that are left where keys are gone. -/
def lessGone {α β : Type} (ps : List (List UInt8 × α)) (gs : List (List UInt8 × β)) : List (List UInt8 × α) := ps.filter fun x => !(gs.any fun y => y.1 == x.1)
def St.next (st : St) (ns : List (List UInt8 × List UInt8)) (gs : List (List UInt8 × Unit)) (fr : List Nat) : Option St :=
  (takeAll ns (lessGone st.places gs, fr)).bind fun a =>
    if max 1 (need (writtenOf a.1).length) ≤ a.2.length then some ⟨st.gen + 1, a.1, a.2.take (max 1 (need (writtenOf a.1).length))⟩ else none

/-- Notes in memory: their values are not nil. -/
def NotesW (w : World) (nb : Nat) (ns : List (List UInt8 × List UInt8)) : Prop :=
  ∃ l : List (List UInt8 × (Value × List UInt8)), MapAt w nb (mmap (fun x : Value × List UInt8 => x.1) l) ∧ ns = mmap (fun x : Value × List UInt8 => x.2) l ∧ ∀ x ∈ l, BytesAt (fun _ => True) w x.2.1 x.2.2
theorem NotesW.keeps {F : Nat → Prop} {w w' : World} {nb : Nat} {ns : List (List UInt8 × List UInt8)} (h : NotesW w nb ns) (k : Keeps F w w') (hF : ∀ g cs, F g → Blk w g 5 cs → False) (hn : ¬ F nb) : NotesW w' nb ns := by
  obtain ⟨l, h1, h2, h3⟩ := h
  exact ⟨l, h1.keeps k hn, h2, fun x hx => (h3 x hx).keeps k fun g cs hg _ hb => hF g cs hg hb⟩
theorem NotesW.below {w w' : World} {nb : Nat} {ns : List (List UInt8 × List UInt8)} (h : NotesW w nb ns) (hb : Below w.heap.size w w') : NotesW w' nb ns := h.keeps (Keeps.of_below (F := fun _ => False) hb) (fun _ _ h => h.elim) id

theorem clone_places {w : World} {mb : Nat} {M : List (List UInt8 × Value)} (h : MapAt w mb M) :
    Calls Tryz.prog 108 #[.map (some mb)] w fun e w' => e = .returned (.map (some w.heap.size)) ∧ MapAt w' w.heap.size M ∧ Below w.heap.size w w' :=
  (AnyW.maps_Clone_owns Tryz.cloneM108 9 rv mb M.length (mapD M) w h).mono fun _ _ ⟨h1, h2, _, h4⟩ => ⟨h1, h2, h4⟩

theorem updP_run {w : World} {b : Nat} {M : List (List UInt8 × Value)} (hM : MapAt w b M) (hn : M.length < 100000) (s : ByteArray) (hs : s.size ≤ maxLen) (v : Value) :
    ∃ w', (Instr.mapUpdate 131 (.map (some b)) (.string s) v).run Tryz.prog w = .ok () w' ∧ MapAt w' b (mput M s.data.toList v) ∧ w.grownBy w' (some b) := by
  obtain ⟨w', hrun, r1, r2⟩ := World.ownsMap.update (H := Value) hM Tryz.lawStr Tryz.underlying131 (by unfold maxLen; omega) (key_of s hs) (R := rv) (val := v) (d := .held v) (ps := []) rfl
  rw [mapD_put] at r1
  exact ⟨w', hrun, MapAt.fit r1, r2⟩

theorem mdel_filter {α : Type} (ps : List (List UInt8 × α)) (f : List UInt8 × α → Bool) (k : List UInt8) : mdel (ps.filter f) k = ps.filter fun x => f x && !(x.1 == k) := by
  unfold mdel
  rw [List.filter_filter]
  congr 1
  funext p
  rw [Bool.and_comm]
/-- The copy with some of the keys struck. -/
def struck (M Mg rem : List (List UInt8 × Value)) : List (List UInt8 × Value) := M.filter fun x => !((Mg.any fun y => y.1 == x.1) && !(rem.any fun y => y.1 == x.1))
theorem struck_start (M Mg : List (List UInt8 × Value)) : struck M Mg Mg = M := by
  unfold struck
  rw [List.filter_eq_self]
  intro x _
  cases (Mg.any fun y => y.1 == x.1) <;> rfl
theorem struck_end (M Mg : List (List UInt8 × Value)) : struck M Mg [] = lessGone M Mg := by
  unfold struck lessGone
  congr 1
  funext x
  simp
theorem struck_step {M Mg rem : List (List UInt8 × Value)} {k : List UInt8} {v : Value} (h : (k, v) ∈ rem) (hsub : ∀ y ∈ rem, y ∈ Mg) : mdel (struck M Mg rem) k = struck M Mg (mdel rem k) := by
  unfold struck
  rw [mdel_filter]
  congr 1
  funext x
  rw [Bool.eq_iff_iff]
  simp only [Bool.and_eq_true, Bool.not_eq_true', Bool.and_eq_false_iff, Bool.not_eq_false', List.any_eq_true, List.any_eq_false]
  constructor
  · rintro ⟨h1, h2⟩
    have hx : ¬ x.1 = k := by simpa using h2
    rcases h1 with h1 | ⟨y, hy, e⟩
    · exact .inl h1
    · have e' : y.1 = x.1 := by simpa using e
      exact .inr ⟨y, List.mem_filter.2 ⟨hy, by rw [e']; simpa using hx⟩, e⟩
  · rintro (h1 | ⟨y, hy, e⟩)
    · have h2 := h1 (k, v) (hsub _ h)
      exact ⟨.inl h1, beq_eq_false_iff_ne.2 fun e => h2 (by rw [e]; exact beq_self_eq_true _)⟩
    · have e' : y.1 = x.1 := by simpa using e
      have h3 := (mdel_mem hy)
      exact ⟨.inr ⟨y, h3.1, e⟩, by have := h3.2; rw [e'] at this; simpa using this⟩

end Go.Proofs.YtbgiklkpinflaaaGreat
