/- The store beside its specification: the calls of both, and that they answer alike. The store beside its specification: Commit. -/
import Derived.Test.YtbgiklkpinflaaaGreatJoA

namespace Go.Proofs.YtbgiklkpinflaaaGreat
open Go.RowKit Go.Shelf Go.Maps

/-- Both: base: the numbers of the committed values are not above it. -/
structure Joint where
  n : Nat
  disk : Dsk
  life : Nat
  now : JSt
  pins : List (JSt × Bool)
  trans : Option Nx
  base : Nat
  last : Nat
structure RSto where
  blocks : Nat
  now : RSt
  next : RSt
  opened : Bool
  pins : List (RSt × Bool)
  last : Nat
def Joint.sto (Y : Joint) : Sto := ⟨Y.disk, Y.life, Y.now.st, (heldJ Y.pins).map JSt.st, Y.trans.isSome, (Y.trans.map noted).getD [], (Y.trans.map (goneOf Y.now)).getD []⟩
def nextR (now : JSt) : Option Nx → RSt
  | none => ⟨0, []⟩
  | some nx => ⟨now.gen, nxEnts nx⟩
def Joint.ref (Y : Joint) : RSto := ⟨Y.n, Y.now.rs, nextR Y.now Y.trans, Y.trans.isSome, pinsR Y.pins, Y.last⟩
def Joint.live (Y : Joint) : List JSt := Y.now :: heldJ Y.pins

structure TransOk (m : Nat) (Y : Joint) (nx : Nx) : Prop where
  ok : NxOk Y.now nx
  new : ∀ x ∈ nx, x.2 = none → Y.base < x.1.id ∧ x.1.id ≤ Y.last
  apart : ∀ x ∈ nx, ∀ y ∈ nx, x.2 = none → y.2 = none → x.1.id = y.1.id → x = y
  few : nx.length ≤ m
structure Ok (m : Nat) (Y : Joint) : Prop where
  m100 : m ≤ 100
  n4 : 4 ≤ Y.n
  n5 : Y.n ≤ 1024
  len : Y.disk.blocks.length = Y.n
  down : Y.disk.down = false
  pend : Y.disk.pending = []
  life : Y.life = Y.disk.life
  dlife : Y.disk.life ≤ m
  own : ∃ own, World_ Y.n Y.disk own Y.live
  few : ∀ J ∈ Y.live, J.ents.length ≤ m
  gen : Y.now.gen ≤ m
  top : ∀ J ∈ Y.live, J.gen ≤ Y.now.gen
  old : ∀ J ∈ Y.live, ∀ x ∈ J.ents, x.1.id ≤ Y.base
  base : Y.base ≤ Y.last
  last : Y.last ≤ m
  pins : Y.pins.length ≤ m
  trans : ∀ nx, Y.trans = some nx → TransOk m Y nx

section
variable {m : Nat} {Y : Joint} {nx : Nx}
theorem Ok.mono {k : Nat} (h : Ok m Y) (hk : m ≤ k) (h100 : k ≤ 100) : Ok k Y :=
  ⟨h100, h.n4, h.n5, h.len, h.down, h.pend, h.life, Nat.le_trans h.dlife hk, h.own, fun J hJ => Nat.le_trans (h.few J hJ) hk, Nat.le_trans h.gen hk, h.top, h.old, h.base, Nat.le_trans h.last hk, Nat.le_trans h.pins hk,
    fun nx hn => let t := h.trans nx hn; ⟨t.ok, t.new, t.apart, Nat.le_trans t.few hk⟩⟩
theorem Ok.alive (h : Ok m Y) : isDead Y.sto.life Y.sto.disk = false := by
  unfold isDead
  show (Y.life != Y.disk.life || Y.disk.down) = false
  rw [h.life, h.down]
  simp
theorem Ok.srt (h : Ok m Y) : SrtJ Y.now := by
  obtain ⟨own, hw⟩ := h.own
  exact (hw.ok Y.now (by simp [Joint.live])).srt
theorem Ok.stOk (h : Ok m Y) : ∀ J ∈ Y.live, StOk Y.disk.blocks.length J.st := by
  obtain ⟨own, hw⟩ := h.own
  intro J hJ
  rw [h.len]
  exact (hw.ok J hJ).stOk h.n5
theorem Ok.stNow (h : Ok m Y) : StOk Y.sto.disk.blocks.length Y.sto.now := h.stOk Y.now (by simp [Joint.live])
theorem Ok.stPins (h : Ok m Y) : ∀ st ∈ Y.sto.pins, StOk Y.sto.disk.blocks.length st := by
  intro st hs
  obtain ⟨J, hJ, rfl⟩ := List.mem_map.1 hs
  exact h.stOk J (List.mem_cons_of_mem _ hJ)
theorem heldJ_length (pins : List (JSt × Bool)) : (heldJ pins).length ≤ pins.length := by
  unfold heldJ
  rw [List.length_map]
  exact List.length_filter_le _ _
theorem Ok.few_pins (h : Ok m Y) : Y.sto.pins.length ≤ 1000 := by
  show ((heldJ Y.pins).map JSt.st).length ≤ 1000
  rw [List.length_map]
  have := heldJ_length Y.pins
  have := h.pins
  have := h.m100
  omega

/-! ### Free -/
def RSto.free (R : RSto) : Int := R.blocks - (usedOf (statesOf R.now R.pins)).1
theorem Ok.free (h : Ok m Y) : ((freeOf Y.sto.disk.blocks.length (Y.sto.now :: Y.sto.pins)).length : Int) = Y.ref.free := by
  obtain ⟨own, hw⟩ := h.own
  have := free_count (J0 := Y.now) (pins := Y.pins) hw (by have := h.n4; omega)
  have e : Y.sto.disk.blocks.length = Y.n := h.len
  rw [e]
  show ((freeOf Y.n (Y.now.st :: (heldJ Y.pins).map JSt.st)).length : Int) = (Y.n : Int) - ((usedOf (statesOf Y.now.rs (pinsR Y.pins))).1 : Int)
  omega

/-! ### Begin, Put, Delete, Abort -/
def Joint.begin_ (Y : Joint) : Joint := { Y with trans := some (Y.now.ents.map fun x => (x.1, some x.2)), base := Y.last }
def RSto.begin_ (R : RSto) : RSto := { R with opened := true, next := R.now }
theorem begin_sto (hs : Y.trans = none) : Y.begin_.sto = Y.sto.begun := by
  unfold Joint.begin_ Joint.sto Sto.begun
  simp only [Option.isSome_some, Option.map_some, Option.getD_some, noted_start, goneOf_start]
theorem begin_ref : Y.begin_.ref = Y.ref.begin_ := by
  unfold Joint.begin_ Joint.ref RSto.begin_ nextR
  simp only [Option.isSome_some]
  congr 1
  show (⟨Y.now.gen, nxEnts (Y.now.ents.map fun x => (x.1, some x.2))⟩ : RSt) = Y.now.rs
  unfold JSt.rs nxEnts
  rw [List.map_map]
  rfl
theorem Ok.begin_ (h : Ok m Y) : Ok m Y.begin_ := by
  obtain ⟨own, hw⟩ := h.own
  have hn := hw.ok Y.now (by simp [Joint.live])
  refine ⟨h.m100, h.n4, h.n5, h.len, h.down, h.pend, h.life, h.dlife, ⟨own, hw⟩, h.few, h.gen, h.top, fun J hJ x hx => Nat.le_trans (h.old J hJ x hx) h.base, Nat.le_refl _, h.last, h.pins, ?_⟩
  intro nx hnx
  injection hnx with hnx
  subst hnx
  refine ⟨NxOk.start hn.srt hn.keys hn.vals, ?_, ?_, ?_⟩
  · intro x hx he
    obtain ⟨y, _, rfl⟩ := List.mem_map.1 hx
    cases he
  · intro x hx y _ he
    obtain ⟨y, _, rfl⟩ := List.mem_map.1 hx
    cases he
  · rw [List.length_map]
    exact h.few Y.now (by simp [Joint.live])
def Joint.put (Y : Joint) (nx : Nx) (k : ByteArray) (l : List UInt8) : Joint := { Y with trans := some (withJ ⟨k, l, Y.last + 1⟩ nx), last := Y.last + 1 }
def RSto.put (R : RSto) (k : ByteArray) (l : List UInt8) : RSto := { R with next := ⟨R.next.gen, withE ⟨k, l, R.last + 1⟩ R.next.ents⟩, last := R.last + 1 }
theorem put_sto (h : Ok m Y) (ht : Y.trans = some nx) (k : ByteArray) (l : List UInt8) : (Y.put nx k l).sto = Y.sto.noted (kb k) l := by
  have t := h.trans nx ht
  unfold Joint.put Joint.sto Sto.noted
  simp only [ht, Option.isSome_some, Option.map_some, Option.getD_some, noted_put t.ok.srt, goneOf_put]
theorem put_ref (ht : Y.trans = some nx) (k : ByteArray) (l : List UInt8) : (Y.put nx k l).ref = Y.ref.put k l := by
  unfold Joint.put Joint.ref RSto.put
  simp only [ht, nextR, withJ_ents, Option.isSome_some]
theorem withJ_length (e : Ent) : ∀ nx : Nx, (withJ e nx).length ≤ nx.length + 1
  | [] => by simp [withJ]
  | x :: r => by
    unfold withJ
    split
    · have := withJ_length e r
      simp only [List.length_cons]
      omega
    · have := List.length_filter_le (fun y : Ent × Option Place => decide (y.1.key ≠ e.key)) (x :: r)
      simp only [List.length_cons] at this ⊢
      omega
theorem Ok.put (h : Ok m Y) (ht : Y.trans = some nx) {k : ByteArray} {l : List UInt8} (hk : 0 < k.size ∧ k.size ≤ 64) (hl : l.length ≤ 65536) (hm : m + 1 ≤ 100) : Ok (m + 1) (Y.put nx k l) := by
  have t := h.trans nx ht
  have h' := h.mono (Nat.le_succ m) hm
  refine ⟨hm, h.n4, h.n5, h.len, h.down, h.pend, h.life, h'.dlife, h.own, h'.few, h'.gen, h.top, h.old, Nat.le_trans h.base (Nat.le_succ _), Nat.succ_le_succ h.last, h'.pins, ?_⟩
  intro nx' hnx
  injection hnx with hnx
  subst hnx
  refine ⟨t.ok.put hk hl, ?_, ?_, ?_⟩
  · intro x hx he
    show Y.base < x.1.id ∧ x.1.id ≤ Y.last + 1
    rcases mem_withJ hx with rfl | hx
    · have := h.base
      exact ⟨by show Y.base < Y.last + 1; omega, Nat.le_refl _⟩
    · have := t.new x hx he
      omega
  · intro x hx y hy hxn hyn he
    rcases mem_withJ hx with rfl | hx
    · rcases mem_withJ hy with rfl | hy
      · rfl
      · have := t.new y hy hyn
        have he : Y.last + 1 = y.1.id := he
        omega
    · rcases mem_withJ hy with rfl | hy
      · have := t.new x hx hxn
        have he : x.1.id = Y.last + 1 := he
        omega
      · exact t.apart x hx y hy hxn hyn he
  · have := withJ_length ⟨k, l, Y.last + 1⟩ nx
    have := t.few
    omega
theorem noted_few (nx : Nx) : (noted nx).length ≤ nx.length := List.length_filterMap_le _ _
theorem goneOf_few (J : JSt) (nx : Nx) : (goneOf J nx).length ≤ J.ents.length := by
  unfold goneOf
  rw [List.length_map]
  exact List.length_filter_le _ _
/-- There is room for a key. -/
theorem Ok.room (h : Ok m Y) (ht : Y.trans = some nx) : (Y.sto.now.places.length : Int) - Y.sto.gone.length + newNotes Y.sto.now.places Y.sto.notes < 512 := by
  have t := h.trans nx ht
  have h1 : Y.sto.now.places.length ≤ 100 := by
    show (Y.now.ents.map _).length ≤ 100
    rw [List.length_map]
    exact Nat.le_trans (h.few Y.now (by simp [Joint.live])) h.m100
  have h2 : newNotes Y.sto.now.places Y.sto.notes ≤ 100 := by
    unfold newNotes
    refine Nat.le_trans (List.length_filter_le _ _) ?_
    have : Y.sto.notes = noted nx := by unfold Joint.sto; simp [ht]
    rw [this]
    exact Nat.le_trans (noted_few nx) (Nat.le_trans t.few h.m100)
  omega
theorem Ok.notes (_h : Ok m Y) (ht : Y.trans = some nx) : Y.sto.notes = noted nx := by unfold Joint.sto; simp [ht]
theorem Ok.goneEq (_h : Ok m Y) (ht : Y.trans = some nx) : Y.sto.gone = goneOf Y.now nx := by unfold Joint.sto; simp [ht]
theorem Ok.hasKey (h : Ok m Y) (ht : Y.trans = some nx) (k : ByteArray) : Y.sto.hasKey (kb k) = nxHas nx k := by
  unfold Sto.hasKey
  rw [h.notes ht, h.goneEq ht]
  exact has_key h.srt (h.trans nx ht).ok k
theorem nxHas_find (nx : Nx) (k : ByteArray) : nxHas nx k = decide (0 ≤ findInt (nxEnts nx) k) := by
  unfold nxHas findInt findIx nxEnts
  rw [List.findIdx?_map]
  cases h : nx.findIdx? ((fun e : Ent => decide (e.key = k)) ∘ fun x : Ent × Option Place => x.1) with
  | none =>
    rw [List.findIdx?_eq_none_iff] at h
    have : ¬ (0 : Int) ≤ -1 := by omega
    simp only [this, decide_false]
    rw [List.any_eq_false]
    intro x hx
    have := h x hx
    simpa using this
  | some i =>
    have hi : (0 : Int) ≤ (i : Int) := by omega
    simp only [hi, decide_true]
    rw [List.findIdx?_eq_some_iff_getElem] at h
    obtain ⟨hi, hx, _⟩ := h
    exact List.any_eq_true.2 ⟨_, List.getElem_mem hi, hx⟩
def Joint.del (Y : Joint) (nx : Nx) (k : ByteArray) : Joint := { Y with trans := some (withoutJ k nx) }
def RSto.del (R : RSto) (k : ByteArray) : RSto := { R with next := ⟨R.next.gen, withoutE k R.next.ents⟩ }
/-- The store's Delete. -/
def Sto.struck_ (X : Sto) (k : List UInt8) : Sto := { X with notes := mdel X.notes k, gone := if (mget X.now.places k).isSome then mput X.gone k () else X.gone }
theorem del_sto (h : Ok m Y) (ht : Y.trans = some nx) (k : ByteArray) : (Y.del nx k).sto = Y.sto.struck_ (kb k) := by
  unfold Joint.del Joint.sto Sto.struck_
  simp only [ht, Option.isSome_some, Option.map_some, Option.getD_some, noted_del]
  rw [h.srt.get_isSome]
  cases hj : Y.now.has k with
  | true => rw [if_pos rfl, goneOf_del_in h.srt nx hj]
  | false => rw [if_neg (by simp), goneOf_del_out nx hj]
theorem del_ref (ht : Y.trans = some nx) (k : ByteArray) : (Y.del nx k).ref = Y.ref.del k := by
  unfold Joint.del Joint.ref RSto.del
  simp only [ht, nextR, withoutJ_ents, Option.isSome_some]
theorem Ok.del (h : Ok m Y) (ht : Y.trans = some nx) (k : ByteArray) : Ok m (Y.del nx k) := by
  have t := h.trans nx ht
  refine ⟨h.m100, h.n4, h.n5, h.len, h.down, h.pend, h.life, h.dlife, h.own, h.few, h.gen, h.top, h.old, h.base, h.last, h.pins, ?_⟩
  intro nx' hnx
  injection hnx with hnx
  subst hnx
  exact ⟨t.ok.del k, fun x hx => t.new x (List.mem_filter.1 hx).1, fun x hx y hy => t.apart x (List.mem_filter.1 hx).1 y (List.mem_filter.1 hy).1, Nat.le_trans (List.length_filter_le _ _) t.few⟩
def Joint.abort (Y : Joint) : Joint := { Y with trans := none }
def RSto.abort (R : RSto) : RSto := { R with opened := false, next := ⟨0, []⟩ }
def Sto.aborted (X : Sto) : Sto := { X with opened := false, notes := [], gone := [] }
theorem abort_sto : Y.abort.sto = Y.sto.aborted := rfl
theorem abort_ref : Y.abort.ref = Y.ref.abort := rfl
theorem Ok.abort (h : Ok m Y) : Ok m Y.abort := ⟨h.m100, h.n4, h.n5, h.len, h.down, h.pend, h.life, h.dlife, h.own, h.few, h.gen, h.top, h.old, h.base, h.last, h.pins, fun nx hnx => by cases hnx⟩

/-! ### Get -/
def getR (t : RSt) (k : ByteArray) : Int × List UInt8 := match t.ents.find? fun e => decide (e.key = k) with | some e => (0, e.val) | none => (55, [])
theorem JOk.get {n : Nat} {D : Dsk} {own : Nat → Bool × Nat} {J : JSt} (h : JOk n D own J) (k : ByteArray) : D.fetch J.st.places (kb k) = getR J.rs k := by
  unfold getR
  have e : J.rs.ents.find? (fun e => decide (e.key = k)) = (J.ents.find? fun x => decide (x.1.key = k)).map (·.1) := by
    show (J.ents.map (·.1)).find? _ = _
    rw [List.find?_map]
    rfl
  rw [e]
  cases hf : J.ents.find? fun x => decide (x.1.key = k) with
  | none =>
    rw [List.find?_eq_none] at hf
    have : J.has k = false := by
      unfold JSt.has
      rw [List.any_eq_false]
      exact hf
    unfold Dsk.fetch
    rw [JSt.get_none this]
    rfl
  | some x =>
    have hx := List.mem_of_find?_eq_some hf
    have hk : x.1.key = k := by simpa using List.find?_some hf
    exact (h.holds x hx).fetch (by rw [← hk]; exact h.srt.get_some hx)
theorem Ok.get (h : Ok m Y) (k : ByteArray) : getOf Y.sto.life Y.sto.disk Y.sto.now.places (kb k) = getR Y.ref.now k := by
  obtain ⟨own, hw⟩ := h.own
  unfold getOf
  rw [h.alive]
  simp only [Bool.false_eq_true, if_false]
  exact (hw.ok Y.now (by simp [Joint.live])).get k

/-! ### Snapshot, Release -/
def Joint.snap (Y : Joint) : Joint := { Y with pins := Y.pins ++ [(Y.now, true)] }
def RSto.snap (R : RSto) : RSto := { R with pins := R.pins ++ [(R.now, true)] }
theorem heldJ_append (a b : List (JSt × Bool)) : heldJ (a ++ b) = heldJ a ++ heldJ b := by simp [heldJ]
theorem snap_sto : Y.snap.sto = { Y.sto with pins := Y.sto.pins ++ [Y.sto.now] } := by
  unfold Joint.snap Joint.sto
  simp only [heldJ_append, List.map_append]
  rfl
theorem snap_ref : Y.snap.ref = Y.ref.snap := by
  unfold Joint.snap Joint.ref RSto.snap pinsR
  simp only [List.map_append]
  rfl
theorem snap_live {J : JSt} (h : J ∈ Y.snap.live) : J ∈ Y.live := by
  unfold Joint.live Joint.snap at h
  simp only [heldJ_append, List.mem_cons, List.mem_append] at h
  unfold Joint.live
  rcases h with h | h | h
  · simp [h]
  · simp [h]
  · simp [heldJ] at h
    simp [h]
theorem World_.sub {n : Nat} {D : Dsk} {own : Nat → Bool × Nat} {L M : List JSt} (h : World_ n D own L) (hs : ∀ J ∈ M, J ∈ L) : World_ n D own M :=
  ⟨fun J hJ => h.ok J (hs J hJ), fun J hJ K hK => h.same J (hs J hJ) K (hs K hK), fun J hJ K hK => h.ids J (hs J hJ) K (hs K hK)⟩
theorem Ok.snap (h : Ok m Y) (hm : m + 1 ≤ 100) : Ok (m + 1) Y.snap := by
  obtain ⟨own, hw⟩ := h.own
  have h' := h.mono (Nat.le_succ m) hm
  refine ⟨hm, h.n4, h.n5, h.len, h.down, h.pend, h.life, h'.dlife, ⟨own, hw.sub fun J hJ => snap_live hJ⟩, fun J hJ => h'.few J (snap_live hJ), h'.gen, fun J hJ => h.top J (snap_live hJ), fun J hJ => h.old J (snap_live hJ), h.base, h'.last, ?_, ?_⟩
  · show (Y.pins ++ [(Y.now, true)]).length ≤ m + 1
    rw [List.length_append, List.length_singleton]
    exact Nat.succ_le_succ h.pins
  · intro nx hnx
    have t := h'.trans nx hnx
    exact ⟨t.ok, t.new, t.apart, t.few⟩
def offAt {α : Type} (l : List (α × Bool)) (i : Nat) : List (α × Bool) := match l[i]? with | some p => l.set i (p.1, false) | none => l
def Joint.rel (Y : Joint) (i : Nat) : Joint := { Y with pins := offAt Y.pins i }
def RSto.rel (R : RSto) (i : Nat) : RSto := { R with pins := offAt R.pins i }
theorem rel_ref (i : Nat) : (Y.rel i).ref = Y.ref.rel i := by
  unfold Joint.rel Joint.ref RSto.rel
  congr 1
  show pinsR (offAt Y.pins i) = offAt (pinsR Y.pins) i
  unfold offAt pinsR
  rw [List.getElem?_map]
  cases h : Y.pins[i]? with
  | none => rfl
  | some p => simp [List.map_set]
/-- How many are held before place i. -/
def heldTo {α : Type} (l : List (α × Bool)) (i : Nat) : Nat := ((l.take i).filter (·.2)).length
theorem heldJ_off {l : List (JSt × Bool)} {i : Nat} {J : JSt} (h : l[i]? = some (J, true)) : heldJ (offAt l i) = (heldJ l).eraseIdx (heldTo l i) ∧ (heldJ l)[heldTo l i]? = some J := by
  obtain ⟨hi, he⟩ := List.getElem?_eq_some_iff.1 h
  have e1 : l = l.take i ++ (J, true) :: l.drop (i + 1) := by
    have := List.take_append_drop i l
    rw [List.drop_eq_getElem_cons hi, he] at this
    exact this.symm
  have e2 : offAt l i = l.take i ++ (J, false) :: l.drop (i + 1) := by
    unfold offAt
    rw [h]
    show l.set i (J, false) = _
    exact List.set_eq_take_append_cons_drop .. |>.trans (by rw [if_pos hi])
  have e3 : heldJ l = heldJ (l.take i) ++ J :: heldJ (l.drop (i + 1)) := by
    conv => lhs; rw [e1, heldJ_append]
    rfl
  have e4 : heldJ (offAt l i) = heldJ (l.take i) ++ heldJ (l.drop (i + 1)) := by
    rw [e2, heldJ_append]
    rfl
  have e5 : heldTo l i = (heldJ (l.take i)).length := by
    unfold heldTo heldJ
    rw [List.length_map]
  rw [e3, e4, e5]
  constructor
  · rw [List.eraseIdx_append_of_length_le (Nat.le_refl _), Nat.sub_self]
    rfl
  · rw [List.getElem?_append_right (Nat.le_refl _), Nat.sub_self]
    rfl
theorem heldJ_off_no {l : List (JSt × Bool)} {i : Nat} (h : ∀ J, l[i]? ≠ some (J, true)) : offAt l i = l := by
  unfold offAt
  cases e : l[i]? with
  | none => rfl
  | some p =>
    obtain ⟨J, b⟩ := p
    cases b with
    | true => exact absurd e (h J)
    | false =>
      obtain ⟨hi, he⟩ := List.getElem?_eq_some_iff.1 e
      show l.set i (J, false) = l
      rw [← he]
      exact List.set_getElem_self hi
theorem rel_live {i : Nat} {J : JSt} (h : J ∈ (Y.rel i).live) : J ∈ Y.live := by
  by_cases hn : ∃ K, Y.pins[i]? = some (K, true)
  · obtain ⟨K, hK⟩ := hn
    unfold Joint.live Joint.rel at h
    rw [(heldJ_off hK).1] at h
    unfold Joint.live
    rcases List.mem_cons.1 h with h | h
    · simp [h]
    · exact List.mem_cons_of_mem _ (List.mem_of_mem_eraseIdx h)
  · have : (Y.rel i) = Y := by
      unfold Joint.rel
      rw [heldJ_off_no fun J hJ => hn ⟨J, hJ⟩]
    rw [this] at h
    exact h
theorem Ok.rel (h : Ok m Y) (i : Nat) : Ok m (Y.rel i) := by
  obtain ⟨own, hw⟩ := h.own
  refine ⟨h.m100, h.n4, h.n5, h.len, h.down, h.pend, h.life, h.dlife, ⟨own, hw.sub fun J hJ => rel_live hJ⟩, fun J hJ => h.few J (rel_live hJ), h.gen, fun J hJ => h.top J (rel_live hJ), fun J hJ => h.old J (rel_live hJ), h.base, h.last, ?_, ?_⟩
  · have : (offAt Y.pins i).length = Y.pins.length := by
      unfold offAt
      split
      · rw [List.length_set]
      · rfl
    show (offAt Y.pins i).length ≤ m
    rw [this]
    exact h.pins
  · intro nx hnx
    have t := h.trans nx hnx
    exact ⟨t.ok, t.new, t.apart, t.few⟩
end

end Go.Proofs.YtbgiklkpinflaaaGreat

namespace Go.Proofs.YtbgiklkpinflaaaGreat
open Go.RowKit Go.Shelf Go.Maps

/-! ### what a commit needs -/
def nxNeed (nx : Nx) : Nat := (nx.map fun x => if x.2.isNone then blocksFor x.1.val.length else 0).sum
theorem noted_sum : ∀ nx : Nx, ((noted nx).map fun x => need x.2.length).sum = nxNeed nx
  | [] => rfl
  | x :: r => by
    have ih := noted_sum r
    unfold noted nxNeed at ih ⊢
    rw [List.filterMap_cons, List.map_cons, List.sum_cons]
    cases h : x.2 with
    | none =>
      simp only [Option.isNone_none, if_true, List.map_cons, List.sum_cons]
      rw [ih]
      rfl
    | some p =>
      simp only [Option.isNone_some, Bool.false_eq_true, if_false]
      rw [ih]
      omega
theorem takeAll_some : ∀ {ns : List (List UInt8 × List UInt8)} {acc : Acc}, (ns.map fun x => need x.2.length).sum ≤ acc.2.length → ∃ a, takeAll ns acc = some a
  | [], acc, _ => ⟨acc, rfl⟩
  | x :: r, acc, h => by
    rw [List.map_cons, List.sum_cons] at h
    rw [takeAll_cons]
    unfold takeStep
    rw [if_pos (by omega)]
    obtain ⟨a, ha⟩ := takeAll_some (ns := r) (acc := (mput acc.1 x.1 ⟨x.2.length, crc x.2, acc.2.take (need x.2.length)⟩, acc.2.drop (need x.2.length))) (by rw [List.length_drop]; omega)
    exact ⟨a, ha⟩
def needE (t : RSt) (e : Ent) : Nat := match t.ents.find? fun y => decide (y.key = e.key) with | some y => if y.id = e.id then 0 else blocksFor e.val.length | none => blocksFor e.val.length
def RSto.need (R : RSto) : Nat := indexOf R.next.ents + (R.next.ents.map (needE R.now)).sum

theorem mget_less {α β : Type} (ps : List (List UInt8 × α)) (gs : List (List UInt8 × β)) (k : List UInt8) : mget (lessGone ps gs) k = if (mget gs k).isSome then none else mget ps k := by
  have hg : (mget gs k).isSome = gs.any fun y => y.1 == k := by
    unfold mget
    rw [Option.isSome_map, List.isSome_find?]
  rw [hg]
  unfold lessGone
  induction ps with
  | nil => simp [mget]
  | cons x r ih =>
    rw [List.filter_cons, mget_cons]
    by_cases hx : x.1 = k
    · rw [if_pos hx, hx]
      cases h : gs.any fun y => y.1 == k with
      | true =>
        simp only [Bool.not_true, Bool.false_eq_true, if_false, if_true]
        rw [ih, h]
        rfl
      | false =>
        simp only [Bool.not_false, if_true, Bool.false_eq_true, if_false]
        rw [mget_cons, if_pos hx]
    · rw [if_neg hx]
      split
      · rw [mget_cons, if_neg hx, ih]
      · exact ih
def pl0 : Place := ⟨0, 0, []⟩
def jents (ps : List (List UInt8 × Place)) (nx : Nx) : List (Ent × Place) := nx.map fun x => (x.1, (mget ps (kb x.1.key)).getD pl0)
theorem jents_ents (ps : List (List UInt8 × Place)) (nx : Nx) : (jents ps nx).map (·.1) = nxEnts nx := by
  unfold jents nxEnts
  rw [List.map_map]
  rfl
/-- The state that a commit makes, with both sides. -/
def mkJ (now : JSt) (nx : Nx) (st' : St) : JSt := ⟨now.gen + 1, jents st'.places nx, st'.index⟩

section
variable {m : Nat} {Y : Joint} {nx : Nx}
theorem noted_ne {J : JSt} (h : NxOk J nx) {x : Ent × Option Place} (hx : x ∈ nx) {p : Place} (hp : x.2 = some p) : ∀ q ∈ noted nx, q.1 ≠ kb x.1.key := by
  intro q hq e
  obtain ⟨y, hy, hn, rfl⟩ := mem_noted.1 hq
  have := h.srt.uniq hy hx (kb_inj e)
  rw [this, hp] at hn
  cases hn
theorem gone_not {J : JSt} {x : Ent × Option Place} (hx : x ∈ nx) : mget (goneOf J nx) (kb x.1.key) = none := by
  refine mget_none_iff.2 fun q hq e => ?_
  obtain ⟨z, hz, hzn, rfl⟩ := mem_goneOf.1 hq
  exact hzn x hx (kb_inj e).symm
theorem next_old {J : JSt} (hJ : SrtJ J) (h : NxOk J nx) {fr fr' : List Nat} {ps' : List (List UInt8 × Place)} (ht : takeAll (noted nx) (lessGone J.st.places (goneOf J nx), fr) = some (ps', fr')) {x : Ent × Option Place} (hx : x ∈ nx) {p : Place} (hp : x.2 = some p) :
    mget ps' (kb x.1.key) = some p := by
  rw [takeAll_other ht (noted_ne h hx hp), mget_less, gone_not hx]
  exact hJ.get_some (h.old x p hx hp)
theorem next_new {J : JSt} (h : NxOk J nx) {acc : Acc} {fr' : List Nat} {ps' : List (List UInt8 × Place)} (ht : takeAll (noted nx) acc = some (ps', fr')) {x : Ent × Option Place} (hx : x ∈ nx) (hp : x.2 = none) :
    ∃ bs, mget ps' (kb x.1.key) = some ⟨x.1.val.length, crc x.1.val, bs⟩ ∧ bs.length = need x.1.val.length :=
  takeAll_has ht h.srt.noted_ (kb x.1.key, x.1.val) (mem_noted.2 ⟨x, hx, hp, rfl⟩)
theorem next_places {J : JSt} (hJ : SrtJ J) (h : NxOk J nx) {n : Nat} (hok : StOk n J.st) {fr fr' : List Nat} {ps' : List (List UInt8 × Place)} (ht : takeAll (noted nx) (lessGone J.st.places (goneOf J nx), fr) = some (ps', fr')) :
    ps' = (jents ps' nx).map fun x => (kb x.1.key, x.2) := by
  have hps := takeAll_ok ht (lessGone_ok hok) (fun q hq => by
    obtain ⟨x, hx, _, rfl⟩ := mem_noted.1 hq
    exact ⟨by show (kb x.1.key).length ≤ 64; rw [kb_length]; exact (h.keys x hx).2, h.vals x hx⟩)
  have hr : Srt ((jents ps' nx).map fun x => (kb x.1.key, x.2)) := by
    unfold Srt jents
    rw [List.map_map, List.pairwise_map]
    exact h.srt
  refine Srt.ext hps.1 hr fun k => ?_
  by_cases hk : ∃ x ∈ nx, kb x.1.key = k
  · obtain ⟨x, hx, rfl⟩ := hk
    have h1 := mget_some_of (x := (kb x.1.key, (mget ps' (kb x.1.key)).getD pl0)) hr (List.mem_map.2 ⟨(x.1, (mget ps' (kb x.1.key)).getD pl0), List.mem_map.2 ⟨x, hx, rfl⟩, rfl⟩)
    rw [h1]
    cases hp : x.2 with
    | some p => rw [next_old hJ h ht hx hp]; rfl
    | none =>
      obtain ⟨bs, hb, _⟩ := next_new h ht hx hp
      rw [hb]
      rfl
  · have h1 : mget ((jents ps' nx).map fun x => (kb x.1.key, x.2)) k = none := by
      refine mget_none_iff.2 fun q hq e => ?_
      obtain ⟨y, hy, rfl⟩ := List.mem_map.1 hq
      obtain ⟨x, hx, rfl⟩ := List.mem_map.1 hy
      exact hk ⟨x, hx, e⟩
    rw [h1, takeAll_other ht (fun q hq e => by
      obtain ⟨x, hx, _, rfl⟩ := mem_noted.1 hq
      exact hk ⟨x, hx, e⟩), mget_less]
    split
    · rfl
    · rename_i hg
      refine mget_none_iff.2 fun q hq e => ?_
      obtain ⟨x, hx, rfl⟩ := List.mem_map.1 hq
      have : mget (goneOf J nx) k = some () := mget_some_of (x := (k, ())) (hJ.gone nx) (mem_goneOf.2 ⟨x, hx, fun y hy e2 => hk ⟨y, hy, by rw [e2]; exact e⟩, by rw [← e]⟩)
      rw [this] at hg
      exact hg rfl
/-- The index of the state that is made. -/
theorem next_written {J : JSt} (hJ : SrtJ J) (h : NxOk J nx) {n : Nat} {D : Dsk} {own : Nat → Bool × Nat} (hok : JOk n D own J) (h5 : n ≤ 1024) {fr fr' : List Nat} {ps' : List (List UInt8 × Place)} (ht : takeAll (noted nx) (lessGone J.st.places (goneOf J nx), fr) = some (ps', fr')) :
    (writtenOf ps').length = entsLen (nxEnts nx) := by
  rw [next_places hJ h (hok.stOk h5) ht, written_ents, jents_ents]
  intro z hz
  obtain ⟨x, hx, rfl⟩ := List.mem_map.1 hz
  show ((mget ps' (kb x.1.key)).getD pl0).blocks.length = need x.1.val.length
  cases hp : x.2 with
  | some p =>
    rw [next_old hJ h ht hx hp]
    exact (hok.holds _ (h.old x p hx hp)).len
  | none =>
    obtain ⟨bs, hb, hl⟩ := next_new h ht hx hp
    rw [hb]
    exact hl
theorem Ok.jok (h : Ok m Y) : ∃ own, JOk Y.n Y.disk own Y.now := by
  obtain ⟨own, hw⟩ := h.own
  exact ⟨own, hw.ok Y.now (by simp [Joint.live])⟩
/-- There is a next state, or there is no room. -/
theorem Ok.next (h : Ok m Y) (ht : Y.trans = some nx) (fr : List Nat) : (nxNeed nx + indexOf (nxEnts nx) ≤ fr.length → ∃ st', Y.now.st.next (noted nx) (goneOf Y.now nx) fr = some st') ∧ (fr.length < nxNeed nx + indexOf (nxEnts nx) → Y.now.st.next (noted nx) (goneOf Y.now nx) fr = none) := by
  have t := h.trans nx ht
  obtain ⟨own, hj⟩ := h.jok
  have hix : ∀ {ps' : List (List UInt8 × Place)} {fr' : List Nat}, takeAll (noted nx) (lessGone Y.now.st.places (goneOf Y.now nx), fr) = some (ps', fr') → max 1 (need (writtenOf ps').length) = indexOf (nxEnts nx) := fun hk => by
    rw [next_written h.srt t.ok hj h.n5 hk]
    unfold indexOf blocksFor need
    omega
  constructor
  · intro hr
    obtain ⟨⟨ps', fr'⟩, ha⟩ := takeAll_some (ns := noted nx) (acc := (lessGone Y.now.st.places (goneOf Y.now nx), fr)) (by rw [noted_sum]; show _ ≤ fr.length; omega)
    have hs := takeAll_sum ha
    rw [noted_sum] at hs
    have hs : nxNeed nx + fr'.length = fr.length := hs
    unfold St.next
    rw [ha]
    show ∃ st', (if max 1 (need (writtenOf ps').length) ≤ fr'.length then some _ else none) = some st'
    rw [if_pos (by rw [hix ha]; omega)]
    exact ⟨_, rfl⟩
  · intro hr
    cases ha : takeAll (noted nx) (lessGone Y.now.st.places (goneOf Y.now nx), fr) with
    | none =>
      unfold St.next
      rw [ha]
      rfl
    | some acc =>
      obtain ⟨ps', fr'⟩ := acc
      have hs := takeAll_sum ha
      rw [noted_sum] at hs
      have hs : nxNeed nx + fr'.length = fr.length := hs
      unfold St.next
      rw [ha]
      show (if max 1 (need (writtenOf ps').length) ≤ fr'.length then some _ else none) = none
      rw [if_neg (by rw [hix ha]; omega)]
theorem needE_new (h : Ok m Y) {t : TransOk m Y nx} {x : Ent × Option Place} (hx : x ∈ nx) : needE Y.now.rs x.1 = if x.2.isNone then blocksFor x.1.val.length else 0 := by
  unfold needE
  have e : Y.now.rs.ents.find? (fun y => decide (y.key = x.1.key)) = (Y.now.ents.find? fun z => decide (z.1.key = x.1.key)).map (·.1) := by
    show (Y.now.ents.map (·.1)).find? _ = _
    rw [List.find?_map]
    rfl
  rw [e]
  cases hf : Y.now.ents.find? fun z => decide (z.1.key = x.1.key) with
  | none =>
    cases hp : x.2 with
    | none => rfl
    | some p =>
      rw [List.find?_eq_none] at hf
      exact (hf _ (t.ok.old x p hx hp) (by simp)).elim
  | some z =>
    have hz := List.mem_of_find?_eq_some hf
    have hk : z.1.key = x.1.key := by simpa using List.find?_some hf
    show (if z.1.id = x.1.id then 0 else blocksFor x.1.val.length) = _
    cases hp : x.2 with
    | none =>
      have h1 := (t.new x hx hp).1
      have h2 := h.old Y.now (by simp [Joint.live]) z hz
      rw [if_neg (by omega)]
      rfl
    | some p =>
      have := h.srt.uniq hz (t.ok.old x p hx hp) hk
      rw [this]
      rw [if_pos rfl]
      rfl
/-- The specification's count of what a commit needs. -/
theorem Ok.need (h : Ok m Y) (ht : Y.trans = some nx) : Y.ref.need = nxNeed nx + indexOf (nxEnts nx) := by
  have t := h.trans nx ht
  have e : Y.ref.next.ents = nxEnts nx := by
    show (nextR Y.now Y.trans).ents = _
    rw [ht]
    rfl
  unfold RSto.need
  rw [e]
  have e2 : ((nxEnts nx).map (needE Y.ref.now)).sum = nxNeed nx := by
    unfold nxEnts nxNeed
    rw [List.map_map]
    congr 1
    exact List.map_congr_left fun x hx => needE_new (t := t) h hx
  rw [e2, Nat.add_comm]

/-- The live states and the one that is made. -/
theorem Ok.world (h : Ok m Y) (ht : Y.trans = some nx) {st' : St} (hn : Y.now.st.next (noted nx) (goneOf Y.now nx) (freeOf Y.n (Y.live.map JSt.st)) = some st') {D' : Dsk} (hold : ∀ J ∈ Y.live, ∀ x ∈ J.ents, Holds D' x.2 x.1.val)
    (hnew : ∀ x ∈ noted nx, ∃ p, mget st'.places x.1 = some p ∧ Holds D' p x.2) : (mkJ Y.now nx st').st = st' ∧ ∃ own', World_ Y.n D' own' (mkJ Y.now nx st' :: Y.live) := by
  have t := h.trans nx ht
  obtain ⟨own, hw⟩ := h.own
  have hj := hw.ok Y.now (by simp [Joint.live])
  obtain ⟨⟨ps', fr'⟩, ha, hps, hil⟩ := next_parts hn
  have hps : st'.places = ps' := hps
  obtain ⟨rest, hr⟩ := next_front hn t.ok.srt.noted_
  have hnd := freeOf_nodup Y.n (Y.live.map JSt.st)
  have hgen := next_gen hn
  have hfree : ∀ b ∈ freeOf Y.n (Y.live.map JSt.st), b < Y.n ∧ 2 ≤ b ∧ (∀ J ∈ Y.live, b ∉ J.index ∧ ∀ x ∈ J.ents, b ∉ x.2.blocks) := fun b hb => by
    obtain ⟨h1, h2, h3⟩ := mem_freeOf.1 hb
    refine ⟨h1, h2, fun J hJ => ?_⟩
    unfold takenBy at h3
    rw [List.any_eq_false] at h3
    have := h3 J.st (List.mem_map.2 ⟨J, hJ, rfl⟩)
    simp only [stHas, Bool.not_eq_true, Bool.or_eq_false_iff] at this
    refine ⟨fun hm => ?_, fun x hx hm => ?_⟩
    · have h4 := this.1
      rw [show J.st.index = J.index from rfl, List.contains_eq_mem] at h4
      simp [hm] at h4
    · have h4 := this.2
      rw [List.any_eq_false] at h4
      exact h4 (kb x.1.key, x.2) (List.mem_map.2 ⟨x, hx, rfl⟩) (by simpa using hm)
  rw [hr] at hnd hfree
  rw [← List.append_assoc] at hnd
  have hnd2 := (List.nodup_append.1 hnd)
  rw [List.nodup_append] at hnd
  have hF := hnd.1
  have hFi : ∀ b ∈ (noted nx).flatMap (fun x => blocksOf st'.places x.1), b ∉ st'.index := fun b h1 h2 => (List.nodup_append.1 hF).2.2 b h1 b h2 rfl
  have hFn := (List.nodup_append.1 hF).1
  have hin := (List.nodup_append.1 hF).2.1
  -- the blocks of notes
  have hnb : ∀ x ∈ nx, x.2 = none → ∀ b ∈ blocksOf st'.places (kb x.1.key), b ∈ (noted nx).flatMap (fun x => blocksOf st'.places x.1) := fun x hx hp b hb => List.mem_flatMap.2 ⟨(kb x.1.key, x.1.val), mem_noted.2 ⟨x, hx, hp, rfl⟩, hb⟩
  have huniq : ∀ x ∈ nx, ∀ y ∈ nx, x.2 = none → y.2 = none → ∀ b, b ∈ blocksOf st'.places (kb x.1.key) → b ∈ blocksOf st'.places (kb y.1.key) → x = y := by
    intro x hx y hy hxn hyn b h1 h2
    unfold List.Nodup at hFn
    rw [List.pairwise_flatMap] at hFn
    refine Classical.byContradiction fun hne => ?_
    have hpq : (kb x.1.key, x.1.val) ≠ (kb y.1.key, y.1.val) := fun e => by
      injection e with e1 _
      exact hne (t.ok.srt.uniq hx hy (kb_inj e1))
    have := pw_all (R := fun a₁ a₂ : List UInt8 × List UInt8 => ∀ x ∈ blocksOf st'.places a₁.1, ∀ y ∈ blocksOf st'.places a₂.1, x ≠ y) (fun _ _ h a ha b hb e => h b hb a ha e.symm) hFn.2 (mem_noted.2 ⟨x, hx, hxn, rfl⟩) (mem_noted.2 ⟨y, hy, hyn, rfl⟩) hpq
    exact this b h1 b h2 rfl
  -- the entries
  have hent : ∀ z ∈ (mkJ Y.now nx st').ents, ∃ x ∈ nx, z.1 = x.1 ∧ ((∃ p, x.2 = some p ∧ z.2 = p ∧ (z.1, z.2) ∈ Y.now.ents) ∨ (x.2 = none ∧ z.2.blocks = blocksOf st'.places (kb x.1.key) ∧ Holds D' z.2 x.1.val)) := by
    intro z hz
    obtain ⟨x, hx, rfl⟩ := List.mem_map.1 hz
    refine ⟨x, hx, rfl, ?_⟩
    cases hp : x.2 with
    | some p =>
      have := next_old h.srt t.ok ha hx hp
      rw [← hps] at this
      refine .inl ⟨p, rfl, by show (mget st'.places (kb x.1.key)).getD pl0 = p; rw [this]; rfl, ?_⟩
      show (x.1, (mget st'.places (kb x.1.key)).getD pl0) ∈ _
      rw [this]
      exact t.ok.old x p hx hp
    | none =>
      obtain ⟨p, h1, h2⟩ := hnew (kb x.1.key, x.1.val) (mem_noted.2 ⟨x, hx, hp, rfl⟩)
      have h1 : mget st'.places (kb x.1.key) = some p := h1
      refine .inr ⟨rfl, ?_, ?_⟩
      · show ((mget st'.places (kb x.1.key)).getD pl0).blocks = blocksOf st'.places (kb x.1.key)
        unfold blocksOf
        rw [h1]
        rfl
      · show Holds D' ((mget st'.places (kb x.1.key)).getD pl0) x.1.val
        rw [h1]
        exact h2
  have hst : (mkJ Y.now nx st').st = st' := by
    have h1 := next_places h.srt t.ok (hj.stOk h.n5) ha
    rw [← hps] at h1
    show (⟨Y.now.gen + 1, (jents st'.places nx).map fun x => (kb x.1.key, x.2), st'.index⟩ : St) = st'
    rw [← h1]
    have : st'.gen = Y.now.gen + 1 := hgen
    rw [← this]
  -- to what a block belongs
  let own' : Nat → Bool × Nat := fun b => if b ∈ st'.index then (true, Y.now.gen + 1) else
    (open Classical in if hx : ∃ x ∈ nx, x.2 = none ∧ b ∈ blocksOf st'.places (kb x.1.key) then (false, (Classical.choose hx).1.id) else own b)
  have o1 : ∀ b ∈ st'.index, own' b = (true, Y.now.gen + 1) := fun b hb => by simp only [own', if_pos hb]
  have o2 : ∀ x ∈ nx, x.2 = none → ∀ b ∈ blocksOf st'.places (kb x.1.key), own' b = (false, x.1.id) := fun x hx hp b hb => by
    have hex : ∃ x ∈ nx, x.2 = none ∧ b ∈ blocksOf st'.places (kb x.1.key) := ⟨x, hx, hp, hb⟩
    have hc := Classical.choose_spec hex
    have := huniq _ hc.1 x hx hc.2.1 hp b hc.2.2 hb
    simp only [own', if_neg (hFi b (hnb x hx hp b hb)), dif_pos hex]
    rw [this]
  have o3 : ∀ b, (∃ J ∈ Y.live, b ∈ J.index ∨ ∃ x ∈ J.ents, b ∈ x.2.blocks) → own' b = own b := fun b hb => by
    have hno : b ∉ (noted nx).flatMap (fun x => blocksOf st'.places x.1) ++ (st'.index ++ rest) := fun hm => by
      obtain ⟨J, hJ, h1⟩ := hb
      have h2 := (hfree b hm).2.2 J hJ
      rcases h1 with h1 | ⟨x, hx, h1⟩
      · exact h2.1 h1
      · exact h2.2 x hx h1
    simp only [List.mem_append, not_or] at hno
    simp only [own', if_neg hno.2.1]
    rw [dif_neg]
    rintro ⟨x, hx, hp, h1⟩
    exact hno.1 (hnb x hx hp b h1)
  have hix : indexOf (nxEnts nx) = max 1 (Go.Proofs.YtbgiklkpinflaaaGreat.need (writtenOf st'.places).length) := by
    rw [hps, next_written h.srt t.ok hj h.n5 ha]
    unfold indexOf blocksFor Go.Proofs.YtbgiklkpinflaaaGreat.need
    omega
  have hJ' : JOk Y.n D' own' (mkJ Y.now nx st') := by
    refine ⟨?_, ?_, ?_, ?_, ?_, ?_, ?_, ?_, ?_, ?_, hin⟩
    · show Y.now.gen + 1 ≤ 1000000
      have := h.gen
      have := h.m100
      omega
    · unfold SrtJ mkJ jents
      rw [List.pairwise_map]
      exact t.ok.srt
    · show (jents st'.places nx).length ≤ 100
      unfold jents
      rw [List.length_map]
      exact Nat.le_trans t.few h.m100
    · intro z hz
      obtain ⟨x, hx, e, _⟩ := hent z hz
      rw [e]
      exact t.ok.keys x hx
    · intro z hz
      obtain ⟨x, hx, e, _⟩ := hent z hz
      rw [e]
      exact t.ok.vals x hx
    · intro z hz
      obtain ⟨x, hx, e, h1 | h1⟩ := hent z hz
      · obtain ⟨p, _, _, h2⟩ := h1
        exact hold Y.now (by simp [Joint.live]) (z.1, z.2) h2
      · rw [e]
        exact h1.2.2
    · intro z hz b hb
      obtain ⟨x, hx, e, h1 | h1⟩ := hent z hz
      · obtain ⟨p, _, _, h2⟩ := h1
        rw [o3 b ⟨Y.now, by simp [Joint.live], .inr ⟨(z.1, z.2), h2, hb⟩⟩]
        exact hj.blk (z.1, z.2) h2 b hb
      · rw [h1.2.1] at hb
        have hm := hnb x hx h1.1 b hb
        have h3 := hfree b (List.mem_append_left _ hm)
        refine ⟨h3.2.1, h3.1, ?_⟩
        rw [o2 x hx h1.1 b hb, e]
    · intro z hz
      obtain ⟨x, hx, e, h1 | h1⟩ := hent z hz
      · obtain ⟨p, _, _, h2⟩ := h1
        exact hj.nod (z.1, z.2) h2
      · rw [h1.2.1]
        unfold List.Nodup at hFn
        rw [List.pairwise_flatMap] at hFn
        exact hFn.1 (kb x.1.key, x.1.val) (mem_noted.2 ⟨x, hx, h1.1, rfl⟩)
    · show st'.index.length = indexOf ((jents st'.places nx).map (·.1))
      rw [jents_ents, hix]
      exact hil
    · intro b hb
      have hb : b ∈ st'.index := hb
      have h3 := hfree b (List.mem_append_right _ (List.mem_append_left _ hb))
      exact ⟨h3.2.1, h3.1, o1 b hb⟩
  refine ⟨hst, own', ?_, ?_, ?_⟩
  · intro J hJ
    rcases List.mem_cons.1 hJ with rfl | hJ
    · exact hJ'
    · have hk := hw.ok J hJ
      exact ⟨hk.gen, hk.srt, hk.few, hk.keys, hk.vals, hold J hJ, fun x hx b hb => by
        rw [o3 b ⟨J, hJ, .inr ⟨x, hx, hb⟩⟩]
        exact hk.blk x hx b hb, hk.nod, hk.ilen, fun b hb => by
        rw [o3 b ⟨J, hJ, .inl hb⟩]
        exact hk.iblk b hb, hk.inod⟩
  · intro J hJ K hK e
    rcases List.mem_cons.1 hJ with rfl | hJ
    · rcases List.mem_cons.1 hK with rfl | hK
      · rfl
      · have e : Y.now.gen + 1 = K.gen := e
        have := h.top K hK
        omega
    · rcases List.mem_cons.1 hK with rfl | hK
      · have e : J.gen = Y.now.gen + 1 := e
        have := h.top J hJ
        omega
      · exact hw.same J hJ K hK e
  · have cross : ∀ K ∈ Y.live, ∀ z ∈ (mkJ Y.now nx st').ents, ∀ y ∈ K.ents, z.1.id = y.1.id → z = y := by
      intro K hK z hz y hy e
      obtain ⟨x, hx, ez, h1 | h1⟩ := hent z hz
      · obtain ⟨p, _, _, h2⟩ := h1
        exact hw.ids Y.now (by simp [Joint.live]) K hK (z.1, z.2) h2 y hy e
      · have h3 := (t.new x hx h1.1).1
        have h4 := h.old K hK y hy
        rw [ez] at e
        omega
    intro J hJ K hK z hz y hy e
    rcases List.mem_cons.1 hJ with rfl | hJ
    · rcases List.mem_cons.1 hK with rfl | hK
      · obtain ⟨x, hx, ez, h1⟩ := hent z hz
        obtain ⟨x2, hx2, ey, h2⟩ := hent y hy
        rcases h1 with ⟨p, _, _, h1⟩ | h1
        · exact (cross Y.now (by simp [Joint.live]) y hy (z.1, z.2) h1 e.symm).symm
        · rcases h2 with ⟨p, _, _, h2⟩ | h2
          · exact cross Y.now (by simp [Joint.live]) z hz (y.1, y.2) h2 e
          · have := t.apart x hx x2 hx2 h1.1 h2.1 (by rw [← ez, ← ey]; exact e)
            refine (hJ'.srt.uniq hz hy ?_)
            rw [ez, ey, this]
      · exact cross K hK z hz y hy e
    · rcases List.mem_cons.1 hK with rfl | hK
      · exact (cross J hJ y hy z hz e.symm).symm
      · exact hw.ids J hJ K hK z hz y hy e

/-! ### Commit, on a disk on which no call is armed -/
def Joint.comm (Y : Joint) (nx : Nx) (D' : Dsk) (st' : St) : Joint := { Y with disk := D', now := mkJ Y.now nx st', trans := none, base := Y.last }
def RSto.comm (R : RSto) : RSto := { R with now := ⟨R.now.gen + 1, R.next.ents⟩, opened := false, next := ⟨0, []⟩ }
theorem comm_ref (ht : Y.trans = some nx) (D' : Dsk) (st' : St) : (Y.comm nx D' st').ref = Y.ref.comm := by
  unfold Joint.comm Joint.ref RSto.comm nextR JSt.rs mkJ
  simp only [ht, jents_ents, Option.isSome_none]
theorem Ok.comm (h : Ok m Y) (ht : Y.trans = some nx) {st' : St} (hn : Y.now.st.next (noted nx) (goneOf Y.now nx) (freeOf Y.n (Y.live.map JSt.st)) = some st') {D' : Dsk} (hD : D'.blocks.length = Y.n ∧ D'.down = false ∧ D'.pending = [] ∧ D'.life = Y.disk.life) (hold : ∀ J ∈ Y.live, ∀ x ∈ J.ents, Holds D' x.2 x.1.val)
    (hnew : ∀ x ∈ noted nx, ∃ p, mget st'.places x.1 = some p ∧ Holds D' p x.2) (hm : m + 1 ≤ 100) : Ok (m + 1) (Y.comm nx D' st') ∧ (Y.comm nx D' st').sto = { Y.sto with disk := D', now := st', opened := false, notes := [], gone := [] } := by
  have t := h.trans nx ht
  obtain ⟨hst, own', hw⟩ := h.world ht hn hold hnew
  have h' := h.mono (Nat.le_succ m) hm
  have hlive : ∀ J ∈ (Y.comm nx D' st').live, J ∈ mkJ Y.now nx st' :: Y.live := by
    intro J hJ
    rcases List.mem_cons.1 hJ with rfl | hJ
    · simp [Joint.comm]
    · exact List.mem_cons_of_mem _ (List.mem_cons_of_mem _ hJ)
  have hl2 : ∀ J ∈ (Y.comm nx D' st').live, J = mkJ Y.now nx st' ∨ J ∈ Y.live := fun J hJ => List.mem_cons.1 (hlive J hJ)
  refine ⟨⟨hm, h.n4, h.n5, hD.1, hD.2.1, hD.2.2.1, ?_, ?_, ⟨own', hw.sub hlive⟩, ?_, ?_, ?_, ?_, Nat.le_refl _, h'.last, h'.pins, fun nx hnx => by cases hnx⟩, ?_⟩
  · show Y.life = D'.life
    rw [hD.2.2.2]
    exact h.life
  · show D'.life ≤ m + 1
    rw [hD.2.2.2]
    exact h'.dlife
  · intro J hJ
    rcases hl2 J hJ with rfl | hJ
    · show (jents st'.places nx).length ≤ m + 1
      unfold jents
      rw [List.length_map]
      have := t.few
      omega
    · exact h'.few J hJ
  · show Y.now.gen + 1 ≤ m + 1
    have := h.gen
    omega
  · intro J hJ
    show J.gen ≤ Y.now.gen + 1
    rcases hl2 J hJ with rfl | hJ
    · exact Nat.le_refl _
    · have := h.top J hJ
      omega
  · intro J hJ x hx
    show x.1.id ≤ Y.last
    rcases hl2 J hJ with rfl | hJ
    · obtain ⟨y, hy, rfl⟩ := List.mem_map.1 hx
      show y.1.id ≤ Y.last
      cases hp : y.2 with
      | none => exact (t.new y hy hp).2
      | some p => exact Nat.le_trans (h.old Y.now (by simp [Joint.live]) _ (t.ok.old y p hy hp)) h.base
    · exact Nat.le_trans (h.old J hJ x hx) h.base
  · unfold Joint.comm Joint.sto
    simp only [hst, Option.isSome_none, Option.map_none, Option.getD_none]
/-- A commit that goes through. -/
theorem Ok.commit_yes (h : Ok m Y) (h0 : Y.disk.armed = 0) (ht : Y.trans = some nx) (hroom : (Y.ref.need : Int) ≤ Y.ref.free) (hm : m + 1 ≤ 100) : ∃ Y', Y.sto.commit = (0, Y'.sto) ∧ Y'.ref = Y.ref.comm ∧ Ok (m + 1) Y' ∧ Y'.disk.armed = 0 ∧ Y'.pins = Y.pins ∧ Y'.trans = none ∧ (Rooted Y.disk Y.now.st → Rooted Y'.disk Y'.now.st) := by
  have t := h.trans nx ht
  obtain ⟨own, hw⟩ := h.own
  have hup : Up Y.disk := ⟨h0, h.down⟩
  have hf := h.free
  have e0 : Y.sto.now :: Y.sto.pins = Y.live.map JSt.st := rfl
  have e1 : Y.sto.disk.blocks.length = Y.n := h.len
  rw [e0, e1] at hf
  obtain ⟨st', hn⟩ := (h.next ht (freeOf Y.n (Y.live.map JSt.st))).1 (by rw [h.need ht] at hroom; omega)
  obtain ⟨D', hc, hW⟩ := commit_up hup (st := Y.now.st) (ns := noted nx) (gs := goneOf Y.now nx) (sts := Y.sto.pins) t.ok.srt.noted_ (by rw [h.len]; have := h.n4; omega) (by rw [h.len]; exact hn)
  have hnew := commit_holds (D := Y.disk) (gs := goneOf Y.now nx) (st := Y.now.st) (sts := Y.live.map JSt.st) t.ok.srt.noted_ (by rw [h.len]; have := h.n4; omega) (by rw [h.len]; exact hn) hW
  have hold : ∀ J ∈ Y.live, ∀ x ∈ J.ents, Holds D' x.2 x.1.val := fun J hJ x hx => by
    refine ((hw.ok J hJ).holds x hx).wrote hW fun b hb => ?_
    have hbk := (hw.ok J hJ).blk x hx b hb
    refine ⟨by rw [h.len]; exact hbk.2.1, fun hm => ?_⟩
    rcases (commit_nodup hn t.ok.srt.noted_).2.1 b hm with h1 | h1
    · have h3 := (mem_freeOf.1 h1).2.2
      unfold takenBy at h3
      rw [List.any_eq_false] at h3
      refine h3 J.st (List.mem_map.2 ⟨J, hJ, rfl⟩) ?_
      simp only [stHas, Bool.or_eq_true, List.any_eq_true]
      exact .inr ⟨(kb x.1.key, x.2), List.mem_map.2 ⟨x, hx, rfl⟩, by simpa using hb⟩
    · omega
  obtain ⟨hok, hsto⟩ := h.comm ht hn (D' := D') ⟨by rw [hW.len]; exact h.len, hW.up.down, hW.pend, hW.life⟩ hold hnew hm
  refine ⟨Y.comm nx D' st', ?_, comm_ref ht D' st', hok, hW.up.armed, rfl, rfl, fun hR => by
    have e3 : (Y.comm nx D' st').now.st = st' := congrArg Sto.now hsto
    rw [e3]
    exact commit_rooted hR t.ok.srt.noted_ h.len hn hW⟩
  rw [hsto]
  unfold Sto.commit
  rw [h.notes ht, h.goneEq ht]
  show Y.sto.commitRes (Y.disk.commit Y.now.st (noted nx) (goneOf Y.now nx) Y.sto.pins) = _
  rw [hc]
  rfl
/-- No room. -/
theorem Ok.commit_no (h : Ok m Y) (ht : Y.trans = some nx) (hroom : Y.ref.free < (Y.ref.need : Int)) : Y.sto.commit = (52, Y.sto) := by
  have hf := h.free
  have e0 : Y.sto.now :: Y.sto.pins = Y.live.map JSt.st := rfl
  have e1 : Y.sto.disk.blocks.length = Y.n := h.len
  rw [e0, e1] at hf
  have hn := (h.next ht (freeOf Y.n (Y.live.map JSt.st))).2 (by rw [h.need ht] at hroom; omega)
  unfold Sto.commit
  rw [h.notes ht, h.goneEq ht]
  show Y.sto.commitRes (Y.disk.commit Y.now.st (noted nx) (goneOf Y.now nx) Y.sto.pins) = _
  rw [commit_none (by rw [h.len]; exact hn)]
  rfl
end

end Go.Proofs.YtbgiklkpinflaaaGreat
