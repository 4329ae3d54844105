/- Plain: what a disk that is up does. The store in memory, whole. The calls of a store that lies in memory, whole: Begin, Put, Get, Free, Generation. Commit and Format of a store that lies in memory, whole. -/
import Derived.Test.YtbgiklkpinflaaaGreatCommitA

namespace Go.Proofs.YtbgiklkpinflaaaGreat
open Go.RowKit Go.Shelf Go.Maps

/-- The last of some writes to a block. -/
def seeIn (L : List (Nat × List UInt8)) (b : Nat) : Option (List UInt8) := (L.reverse.find? fun p => p.1 == b).map (·.2)
theorem seeIn_nil (b : Nat) : seeIn [] b = none := rfl
theorem seeIn_append (L M : List (Nat × List UInt8)) (b : Nat) : seeIn (L ++ M) b = (seeIn M b).or (seeIn L b) := by
  unfold seeIn
  rw [List.reverse_append, List.find?_append]
  cases M.reverse.find? (fun p => p.1 == b) <;> rfl
theorem seeIn_one (p : Nat × List UInt8) (b : Nat) : seeIn [p] b = if p.1 = b then some p.2 else none := by
  unfold seeIn
  simp only [List.reverse_cons, List.reverse_nil, List.nil_append]
  by_cases h : p.1 = b
  · rw [List.find?_cons_of_pos (by simpa using h), if_pos h]; rfl
  · rw [List.find?_cons_of_neg (by simpa using h), if_neg h]; rfl
theorem seeIn_cons (p : Nat × List UInt8) (L : List (Nat × List UInt8)) (b : Nat) : seeIn (p :: L) b = (seeIn L b).or (if p.1 = b then some p.2 else none) := by
  have : p :: L = [p] ++ L := rfl
  rw [this, seeIn_append, seeIn_one]
theorem seeIn_none {L : List (Nat × List UInt8)} {b : Nat} (h : b ∉ L.map (·.1)) : seeIn L b = none := by
  unfold seeIn
  rw [find_none]
  · rfl
  · intro x hx
    have hx' := List.mem_reverse.1 hx
    simp only [beq_eq_false_iff_ne]
    intro e
    exact h (List.mem_map.2 ⟨x, hx', e⟩)
theorem seeIn_mem : ∀ {L : List (Nat × List UInt8)}, (L.map (·.1)).Nodup → ∀ {p : Nat × List UInt8}, p ∈ L → seeIn L p.1 = some p.2
  | [], _, _, h => by simp at h
  | q :: r, hn, p, h => by
    rw [List.map_cons, List.nodup_cons] at hn
    rw [seeIn_cons]
    rcases List.mem_cons.1 h with rfl | h
    · rw [seeIn_none hn.1, if_pos rfl]
      rfl
    · rw [seeIn_mem hn.2 h]
      rfl
theorem Dsk.see_eq (D : Dsk) (b : Nat) : D.see b = (seeIn D.pending b).getD (D.blocks[b]?.getD []) := rfl
theorem settle_see : ∀ (L : List (Nat × List UInt8)) (B : List (List UInt8)) {b : Nat}, b < B.length → (settle B L)[b]?.getD [] = (seeIn L b).getD (B[b]?.getD [])
  | [], B, b, _ => rfl
  | p :: r, B, b, h => by
    have e : settle B (p :: r) = settle (B.set p.1 p.2) r := rfl
    rw [e, settle_see r (B.set p.1 p.2) (by simpa using h), seeIn_cons]
    cases seeIn r b with
    | some x => rfl
    | none =>
      by_cases hp : p.1 = b
      · subst hp
        rw [if_pos rfl]
        simp [h]
      · rw [if_neg hp]
        simp [hp]

/-- The disk is up, and no call fails. -/
structure Up (D : Dsk) : Prop where
  armed : D.armed = 0
  down : D.down = false
theorem Dsk.fails_up {D : Dsk} (h : Up D) : D.fails = (false, D) := by unfold Dsk.fails; rw [if_pos h.armed]
theorem Dsk.write_up {D : Dsk} (h : Up D) {i : Nat} {l : List UInt8} (hi : i < D.blocks.length) (hl : l.length = 256) : D.write (i : Int) l = (0, { D with pending := D.pending ++ [(i, l)] }) := by
  unfold Dsk.write
  rw [h.down, if_neg (by simp), if_neg (by omega), Dsk.fails_up h]
  simp [h.down]
theorem Dsk.sync_up {D : Dsk} (h : Up D) : D.sync = (0, { D with blocks := settle D.blocks D.pending, pending := [] }) := by
  unfold Dsk.sync
  rw [h.down, if_neg (by simp), Dsk.fails_up h]
  simp [h.down]
theorem writes_up : ∀ (L : List (Nat × List UInt8)) {D : Dsk}, Up D → (∀ p ∈ L, p.1 < D.blocks.length ∧ p.2.length = 256) → writes L D = (0, { D with pending := D.pending ++ L })
  | [], D, _, _ => by simp [writes]
  | p :: r, D, h, hp => by
    have h1 := Dsk.write_up h (hp p (by simp)).1 (hp p (by simp)).2
    show (if (D.write (p.1 : Int) p.2).1 = 0 then writes r (D.write (p.1 : Int) p.2).2 else D.write (p.1 : Int) p.2) = _
    rw [h1, if_pos rfl]
    show writes r { D with pending := D.pending ++ [(p.1, p.2)] } = _
    rw [writes_up r (D := { D with pending := D.pending ++ [(p.1, p.2)] }) ⟨h.armed, h.down⟩ (fun q hq => hp q (by simp [hq]))]
    simp
theorem Up.blocks_ {D : Dsk} (h : Up D) (B : List (List UInt8)) (p : List (Nat × List UInt8)) : Up { D with blocks := B, pending := p } := ⟨h.armed, h.down⟩

/-- What a disk that is up has become: it differs by some writes that are durable. -/
structure Wrote (D D' : Dsk) (L : List (Nat × List UInt8)) : Prop where
  up : Up D'
  life : D'.life = D.life
  len : D'.blocks.length = D.blocks.length
  pend : D'.pending = []
  see : ∀ b, b < D.blocks.length → D'.see b = (seeIn L b).getD (D.see b)
theorem synced {D : Dsk} (h : Up D) (L : List (Nat × List UInt8)) : Wrote D ({ D with pending := D.pending ++ L } : Dsk).sync.2 L := by
  rw [Dsk.sync_up (D := { D with pending := D.pending ++ L }) ⟨h.armed, h.down⟩]
  refine ⟨⟨h.armed, h.down⟩, rfl, by simp [settle_length], rfl, fun b hb => ?_⟩
  rw [Dsk.see_eq, Dsk.see_eq]
  show ((settle D.blocks (D.pending ++ L))[b]?).getD [] = _
  rw [settle_see _ _ hb, seeIn_append]
  cases seeIn L b <;> rfl
theorem Wrote.trans {D E F : Dsk} {L M : List (Nat × List UInt8)} (h : Wrote D E L) (k : Wrote E F M) : Wrote D F (L ++ M) :=
  ⟨k.up, k.life.trans h.life, k.len.trans h.len, k.pend, fun b hb => by
    rw [k.see b (by rw [h.len]; exact hb), h.see b hb, seeIn_append]
    cases seeIn M b <;> rfl⟩

theorem spreadList_blocks (l : List UInt8) (blocks : List Nat) : (spreadList l blocks).map (·.1) = blocks := by
  apply List.ext_getElem
  · simp [spreadList]
  · intro i h1 h2
    simp [spreadList, h2]
theorem blockList_blocks (bs : List Nat) (l : List UInt8) : (blockList bs l).map (·.1) = bs := by
  apply List.ext_getElem
  · simp [blockList]
  · intro i h1 h2
    simp [blockList, h2]
theorem spreadList_len {l : List UInt8} {blocks : List Nat} : ∀ p ∈ spreadList l blocks, p.2.length = 256 := by
  intro p hp
  obtain ⟨i, _, rfl⟩ := List.mem_map.1 hp
  exact blockOf_length _ _ (by have := part_length l i; omega)
theorem blockList_len {l : List UInt8} {bs : List Nat} : ∀ p ∈ blockList bs l, p.2.length = 256 := by
  intro p hp
  obtain ⟨i, _, rfl⟩ := List.mem_map.1 hp
  exact blockOf_length _ _ (by have := part_length l i; omega)
theorem rootOf_length (gen first : Nat) (b : List UInt8) : (rootOf gen first b).length = 256 := by
  unfold rootOf
  refine blockOf_length _ _ ?_
  rw [List.length_append, rootHead_length, be_length]
  omega
/-- The writes of save. -/
def saveList (st : St) : List (Nat × List UInt8) := spreadList (writtenOf st.places) st.index ++ [(st.gen % 2, rootOf st.gen (st.index[0]?.getD 0) (writtenOf st.places))]
theorem save_up {D : Dsk} (h : Up D) {st : St} (hi : ∀ b ∈ st.index, b < D.blocks.length) (h2 : 2 ≤ D.blocks.length) : (D.save st).1 = 0 ∧ Wrote D (D.save st).2 (saveList st) := by
  have e1 := writes_up (spreadList (writtenOf st.places) st.index) h (fun p hp => ⟨hi _ (by rw [← spreadList_blocks (writtenOf st.places) st.index]; exact List.mem_map.2 ⟨p, hp, rfl⟩), spreadList_len p hp⟩)
  have w1 := synced h (spreadList (writtenOf st.places) st.index)
  have s1 := Dsk.sync_up (D := { D with pending := D.pending ++ spreadList (writtenOf st.places) st.index }) ⟨h.armed, h.down⟩
  obtain ⟨E, hE⟩ : ∃ E, E = ({ D with pending := D.pending ++ spreadList (writtenOf st.places) st.index } : Dsk).sync.2 := ⟨_, rfl⟩
  have s2 : ({ D with pending := D.pending ++ spreadList (writtenOf st.places) st.index } : Dsk).sync = (0, E) := by rw [hE, s1]
  rw [← hE] at w1
  have e2 := Dsk.write_up w1.up (i := st.gen % 2) (l := rootOf st.gen (st.index[0]?.getD 0) (writtenOf st.places)) (by rw [w1.len]; omega) (rootOf_length _ _ _)
  have w2 := synced w1.up [(st.gen % 2, rootOf st.gen (st.index[0]?.getD 0) (writtenOf st.places))]
  have s3 := Dsk.sync_up (D := { E with pending := E.pending ++ [(st.gen % 2, rootOf st.gen (st.index[0]?.getD 0) (writtenOf st.places))] }) ⟨w1.up.armed, w1.up.down⟩
  have e3 : D.save st = ({ E with pending := E.pending ++ [(st.gen % 2, rootOf st.gen (st.index[0]?.getD 0) (writtenOf st.places))] } : Dsk).sync := by
    unfold Dsk.save
    rw [e1]
    simp only [if_true]
    rw [s2]
    simp only [if_true]
    rw [e2]
    simp only [if_true]
  rw [e3]
  refine ⟨by rw [s3], w1.trans w2⟩

end Go.Proofs.YtbgiklkpinflaaaGreat

namespace Go.Proofs.YtbgiklkpinflaaaGreat
open Go.RowKit Go.Shelf Go.Maps

def NotesP (P : Nat → Prop) (w : World) (nb : Nat) (ns : List (List UInt8 × List UInt8)) : Prop :=
  ∃ l : List (List UInt8 × (Value × List UInt8)), MapAt w nb (mmap (fun x : Value × List UInt8 => x.1) l) ∧ ns = mmap (fun x : Value × List UInt8 => x.2) l ∧ ∀ x ∈ l, BytesAt P w x.2.1 x.2.2
theorem NotesP.w {P : Nat → Prop} {w : World} {nb : Nat} {ns : List (List UInt8 × List UInt8)} (h : NotesP P w nb ns) : NotesW w nb ns := by
  obtain ⟨l, h1, h2, h3⟩ := h
  exact ⟨l, h1, h2, fun x hx => (h3 x hx).mono fun _ _ => trivial⟩
theorem NotesP.keeps {P F : Nat → Prop} {w w' : World} {nb : Nat} {ns : List (List UInt8 × List UInt8)} (h : NotesP P w nb ns) (k : Keeps F w w') (hF : ∀ g cs, F g → P g → Blk w g 5 cs → False) (hn : ¬ F nb) : NotesP P w' nb ns := by
  obtain ⟨l, h1, h2, h3⟩ := h
  exact ⟨l, h1.keeps k hn, h2, fun x hx => (h3 x hx).keeps k hF⟩

/-- What the transaction holds. -/
def TransP (P : Nat → Prop) (w : World) (X : Sto) (nv gv : Value) (T : List Nat) : Prop :=
  (X.opened = false ∧ nv = .map none ∧ gv = .map none ∧ T = []) ∨
  (X.opened = true ∧ ∃ nb gb, nv = .map (some nb) ∧ gv = .map (some gb) ∧ T = [nb, gb] ∧ nb ≠ gb ∧ NotesP P w nb X.notes ∧ GoneAt w gb X.gone)
theorem TransP.keeps {P F : Nat → Prop} {w w' : World} {X : Sto} {nv gv : Value} {T : List Nat} (h : TransP P w X nv gv T) (k : Keeps F w w') (hF : ∀ g cs, F g → P g → Blk w g 5 cs → False) (hn : ∀ g ∈ T, ¬ F g) : TransP P w' X nv gv T := by
  rcases h with h | ⟨h1, nb, gb, h2, h3, rfl, h5, h6, h7⟩
  · exact .inl h
  · exact .inr ⟨h1, nb, gb, h2, h3, rfl, h5, h6.keeps k hF (hn nb (by simp)), MapAt.keeps h7 k (hn gb (by simp))⟩

structure StoParts (P : Nat → Prop) (w : World) (s d : Nat) (X : Sto) (Sd T : List Nat) (a mb : Nat) (pv : Value) (pins : List PinPlace) (nv gv : Value) : Prop where
  hs : StoBlk w s d X.life a pv X.opened nv gv
  disk : DiskAt P w d X.disk Sd
  now : StateAt w a mb X.now
  hpins : PinsAt w s pv pins X.pins
  trans : TransP P w X nv gv T
  mbT : mb ∉ T
  pinT : ∀ q ∈ pins, q.2.2 ∉ T
/-- The store X lies at block s, on the disk at block d; O: the blocks that its calls may write. -/
def StoA (P : Nat → Prop) (w : World) (s d : Nat) (X : Sto) (O : List Nat) : Prop :=
  ∃ Sd T a mb pv pins nv gv, StoParts P w s d X Sd T a mb pv pins nv gv ∧ O = s :: (Sd ++ (T ++ pv.ownBlock.toList))
/-- What a call of the store leaves. -/
def StoPost (P : Nat → Prop) (w : World) (s d : Nat) (X : Sto) (O : List Nat) (w' : World) : Prop :=
  ∃ O', StoA P w' s d X O' ∧ (∀ k ∈ O', k ∈ O ∨ w.heap.size ≤ k) ∧ Keeps (· ∈ O) w w'

theorem DiskAt.fresh_ {P : Nat → Prop} {w : World} {b : Nat} {D : Dsk} {S : List Nat} (h : DiskAt P w b D S) : ∀ k, w.heap.size ≤ k → P k := by
  obtain ⟨ho, g1, cur1, pv, ps, rfl, hr⟩ := h
  exact hr.fresh
/-- Blocks that are not the store's. -/
def Alien (P F : Nat → Prop) (w : World) (O : List Nat) : Prop :=
  ∀ g, F g → g ∉ O ∧ ∃ t cs, Blk w g t cs ∧ t ≠ 3 ∧ t ≠ 133 ∧ t ≠ 103 ∧ (t = 5 → ¬ P g)
theorem Alien.none (P : Nat → Prop) (w : World) (O : List Nat) : Alien P (fun _ => False) w O := fun _ h => h.elim

section
variable {P F : Nat → Prop} {w w' : World} {s d : Nat} {X : Sto} {O : List Nat} {Sd T : List Nat} {a mb : Nat} {pv nv gv : Value} {pins : List PinPlace}
theorem StoParts.keeps (h : StoParts P w s d X Sd T a mb pv pins nv gv) (k : Keeps F w w') (hF : Alien P F w (s :: (Sd ++ (T ++ pv.ownBlock.toList)))) : StoParts P w' s d X Sd T a mb pv pins nv gv := by
  have hU : ∀ g cs, F g → P g → Blk w g 5 cs → False := fun g cs hg hp hb => by
    obtain ⟨_, t, cs', hb', _, _, _, h4⟩ := hF g hg
    exact h4 (hb'.det hb).2 hp
  have hO : ∀ g, F g → g ∉ s :: (Sd ++ (T ++ pv.ownBlock.toList)) := fun g hg => (hF g hg).1
  have hT : ∀ g t cs, F g → Blk w g t cs → t ≠ 3 ∧ t ≠ 133 ∧ t ≠ 103 := fun g t cs hg hb => by
    obtain ⟨_, t', cs', hb', h1, h2, h3, _⟩ := hF g hg
    rw [(hb'.det hb).2] at h1 h2 h3
    exact ⟨h1, h2, h3⟩
  have hM : ∀ b M, MapAt w b M → ¬ F b := fun b M hM hb => by
    obtain ⟨_, t, cs, hb', _⟩ := hF b hb
    exact hM.not_blk hb'
  have hPl : ∀ b ps, PlacesAt w b ps → ¬ F b := fun b ps h => let ⟨_, h1, _⟩ := h; hM b _ h1
  refine ⟨h.hs.keeps k (fun e => hO _ e (by simp)), h.disk.keeps k (fun g hg e => hO g e (by simp [hg])) hU, h.now.keeps k (fun g t cs hg hb => ⟨(hT g t cs hg hb).1, (hT g t cs hg hb).2.1⟩) ?_, h.hpins.keeps k (fun g hg e => hO g e (by simp [hg])) hT ?_, h.trans.keeps k hU (fun g hg e => hO g e (by simp [hg])), h.mbT, h.pinT⟩
  · obtain ⟨_, _, _, h3⟩ := h.now
    exact hPl _ _ h3
  · intro q hq
    obtain ⟨i, hi⟩ := List.getElem?_of_mem hq
    have hil : i < X.pins.length := by rw [← h.hpins.len]; exact (List.getElem?_eq_some_iff.1 hi).1
    obtain ⟨_, _, _, _, h3⟩ := h.hpins.pat i q X.pins[i] hi (List.getElem?_eq_getElem hil)
    exact hPl _ _ h3
theorem StoA.keeps (h : StoA P w s d X O) (k : Keeps F w w') (hF : Alien P F w O) : StoA P w' s d X O := by
  obtain ⟨Sd, T, a, mb, pv, pins, nv, gv, h1, rfl⟩ := h
  exact ⟨Sd, T, a, mb, pv, pins, nv, gv, h1.keeps k hF, rfl⟩
theorem StoA.below (h : StoA P w s d X O) (hb : Below w.heap.size w w') : StoA P w' s d X O := h.keeps (Keeps.of_below (F := fun _ => False) hb) (Alien.none P w O)
theorem StoA.post (h : StoA P w s d X O) (hb : Below w.heap.size w w') : StoPost P w s d X O w' := ⟨O, h.below hb, fun _ hk => .inl hk, Keeps.of_below hb⟩
theorem StoPost.trans {w1 : World} {O1 : List Nat} {X2 : Sto} (hO : ∀ k ∈ O1, k ∈ O ∨ w.heap.size ≤ k) (k1 : Keeps (· ∈ O) w w1) (h : StoPost P w1 s d X2 O1 w') : StoPost P w s d X2 O w' := by
  obtain ⟨O2, h2, h3, k2⟩ := h
  refine ⟨O2, h2, fun k hk => ?_, k1.trans k2 fun i hi hg => ?_⟩
  · rcases h3 k hk with h | h
    · exact hO k h
    · exact .inr (Nat.le_trans k1.size h)
  · rcases hO i hg with h | h
    · exact h
    · omega
/-- All of the store's own blocks are of few types, or maps. -/
theorem StoA.own (h : StoA P w s d X O) : ∀ g ∈ O, ∀ t cs, Blk w g t cs → t = 100 ∨ t = 94 ∨ t = 89 ∨ t = 138 ∨ t = 31 := by
  obtain ⟨Sd, T, a, mb, pv, pins, nv, gv, h1, rfl⟩ := h
  intro g hg t cs hb
  simp only [List.mem_cons, List.mem_append, Option.mem_toList] at hg
  rcases hg with rfl | hg | hg | hg
  · exact .inl (hb.det h1.hs).2
  · obtain ⟨t', cs', hb', ht⟩ := h1.disk.lt g hg
    rw [(hb.det hb').2]
    rcases ht with h | h | h
    · exact .inr (.inl h)
    · exact .inr (.inr (.inl h))
    · exact .inr (.inr (.inr (.inl h)))
  · rcases h1.trans with ⟨_, _, _, rfl⟩ | ⟨_, nb, gb, _, _, rfl, _, hN, hG⟩
    · simp at hg
    · obtain ⟨l, hN, _⟩ := hN
      simp only [List.mem_cons, List.not_mem_nil, or_false] at hg
      rcases hg with rfl | rfl
      · exact (hN.not_blk hb).elim
      · exact (MapAt.not_blk hG hb).elim
  · by_cases ht : t = 31
    · exact .inr (.inr (.inr (.inr ht)))
    · exact (own_blk_ne h1.hpins.own hb (Ne.symm ht) hg).elim
/-- A block of bytes is none of the store's own. -/
theorem StoA.no_bytes (h : StoA P w s d X O) {g : Nat} {cs : Array Value} (hb : Blk w g 5 cs) : g ∉ O := by
  intro hg
  rcases h.own g hg _ _ hb with h | h | h | h | h
  all_goals exact absurd h (by decide)
theorem StoPost.bytes (h : StoPost P w s d X O w') {X0 : Sto} (h0 : StoA P w s d X0 O) {Q : Nat → Prop} {v : Value} {l : List UInt8} (hB : BytesAt Q w v l) : BytesAt Q w' v l := by
  obtain ⟨_, _, _, k⟩ := h
  exact hB.keeps k fun g cs hg _ hk => h0.no_bytes hk hg
end

end Go.Proofs.YtbgiklkpinflaaaGreat

namespace Go.Proofs.YtbgiklkpinflaaaGreat
open Go.RowKit Go.Shelf Go.Maps

section
variable {P F : Nat → Prop} {w w' : World} {s d : Nat} {X : Sto} {O : List Nat} {Sd T : List Nat} {a mb : Nat} {pv nv gv : Value} {pins : List PinPlace}
theorem TransP.maps (h : TransP P w X nv gv T) {g : Nat} (hg : g ∈ T) : ∃ M, MapAt w g M := by
  rcases h with ⟨_, _, _, rfl⟩ | ⟨_, nb, gb, _, _, rfl, _, ⟨l, hN, _⟩, hG⟩
  · simp at hg
  · simp only [List.mem_cons, List.not_mem_nil, or_false] at hg
    rcases hg with rfl | rfl
    · exact ⟨_, hN⟩
    · exact ⟨_, hG⟩
theorem StoParts.a_ (h : StoParts P w s d X Sd T a mb pv pins nv gv) : StoA P w s d X (s :: (Sd ++ (T ++ pv.ownBlock.toList))) := ⟨Sd, T, a, mb, pv, pins, nv, gv, h, rfl⟩
theorem StoParts.map_no (h : StoParts P w s d X Sd T a mb pv pins nv gv) {b : Nat} {M : List (List UInt8 × Value)} (hM : MapAt w b M) (hb : b ∉ T) : b ∉ s :: (Sd ++ T) := by
  simp only [List.mem_cons, List.mem_append, not_or]
  refine ⟨fun e => hM.not_blk (e ▸ h.hs), fun e => ?_, hb⟩
  obtain ⟨t, cs, hk, _⟩ := h.disk.lt _ e
  exact hM.not_blk hk
/-- The states stay, where only blocks of the transaction, the disk and the store's own turn. -/
theorem StoParts.rest (h : StoParts P w s d X Sd T a mb pv pins nv gv) (k : Keeps F w w') (hF : ∀ g, F g → g ∈ s :: (Sd ++ T)) : StateAt w' a mb X.now ∧ PinsAt w' s pv pins X.pins := by
  have hT : ∀ g t cs, F g → Blk w g t cs → t ≠ 3 ∧ t ≠ 133 ∧ t ≠ 103 := fun g t cs hg hb => by
    have hm : g ∈ s :: (Sd ++ (T ++ pv.ownBlock.toList)) := by
      have := hF g hg
      simp only [List.mem_cons, List.mem_append] at this ⊢
      rcases this with h | h | h
      · exact .inl h
      · exact .inr (.inl h)
      · exact .inr (.inr (.inl h))
    rcases h.a_.own g hm t cs hb with h | h | h | h | h
    all_goals
      subst h
      exact ⟨by decide, by decide, by decide⟩
  refine ⟨h.now.keeps k (fun g t cs hg hb => ⟨(hT g t cs hg hb).1, (hT g t cs hg hb).2.1⟩) ?_, h.hpins.keeps k ?_ hT ?_⟩
  · obtain ⟨_, _, _, l, hM, _⟩ := h.now
    exact fun e => h.map_no hM h.mbT (hF _ e)
  · intro g hg e
    have := hF g e
    simp only [List.mem_cons, List.mem_append] at this
    rcases this with h1 | h1 | h1
    · subst h1
      exact own_blk_ne h.hpins.own h.hs (by decide) hg
    · obtain ⟨t, cs, hk, ht⟩ := h.disk.lt _ h1
      refine own_blk_ne h.hpins.own hk ?_ hg
      rcases ht with rfl | rfl | rfl
      all_goals decide
    · obtain ⟨M, hM⟩ := h.trans.maps h1
      rcases h.hpins.own.2 with h2 | ⟨g', cap, cur, h2, _, h3, _⟩
      · rw [h2.1] at hg
        simp [Value.ownBlock] at hg
      · rw [h2] at hg
        have : g' = g := by simpa [Value.ownBlock] using hg
        subst this
        exact hM.not_blk (t := 31) h3
  · intro q hq e
    obtain ⟨i, hi⟩ := List.getElem?_of_mem hq
    have hil : i < X.pins.length := by rw [← h.hpins.len]; exact (List.getElem?_eq_some_iff.1 hi).1
    obtain ⟨_, _, _, _, l, hM, _⟩ := h.hpins.pat i q X.pins[i] hi (List.getElem?_eq_getElem hil)
    exact h.map_no hM (h.pinT q hq) (hF _ e)
theorem StoParts.disk_ (h : StoParts P w s d X Sd T a mb pv pins nv gv) (k : Keeps F w w') (hF : ∀ g, F g → g ∈ s :: T) : DiskAt P w' d X.disk Sd := by
  refine h.disk.keeps k (fun g hg e => ?_) (fun g cs e _ hb => ?_)
  · rcases List.mem_cons.1 (hF g e) with rfl | h1
    · exact h.disk.no (by decide) (by decide) (by decide) hg h.hs
    · obtain ⟨M, hM⟩ := h.trans.maps h1
      obtain ⟨t, cs, hk, _⟩ := h.disk.lt _ hg
      exact hM.not_blk hk
  · rcases List.mem_cons.1 (hF g e) with rfl | h1
    · exact absurd (hb.det h.hs).2 (by decide)
    · obtain ⟨M, hM⟩ := h.trans.maps h1
      exact hM.not_blk hb
end

def Sto.begun (X : Sto) : Sto := { X with opened := true, notes := [], gone := [] }
theorem sto_begin {P : Nat → Prop} {w : World} {s d : Nat} {X : Sto} {O : List Nat} (h : StoA P w s d X O) (hdd : isDead X.life X.disk = false) (hop : X.opened = false) :
    Calls Tryz.prog 32 #[.pointer (some ⟨s, 0, none⟩)] w fun e w' => e = .returned (.int .i64 0) ∧ StoPost P w s d X.begun O w' := by
  obtain ⟨Sd, T, a, mb, pv, pins, nv, gv, h1, rfl⟩ := h
  have hs := h1.hs
  rw [hop] at hs
  refine (begin_yes hs h1.disk hdd).mono ?_
  rintro e w' ⟨rfl, b1, b2, b3, k⟩
  have hF : ∀ g, g = s → g ∈ s :: (Sd ++ T) := fun g e => by simp [e]
  obtain ⟨r1, r2⟩ := h1.rest k hF
  have hsz : ∀ M b, MapAt w b M → b ∉ [w.heap.size, w.heap.size + 1] := fun M b hM => by
    have := hM.lt
    simp only [List.mem_cons, List.not_mem_nil, or_false, not_or]
    omega
  refine ⟨rfl, _, StoParts.a_ (X := X.begun) (T := [w.heap.size, w.heap.size + 1]) ⟨b1, h1.disk_ k (fun g e => by simp [e]), r1, r2, .inr ⟨rfl, _, _, rfl, rfl, rfl, by omega, ⟨[], b2, rfl, by simp⟩, b3⟩, ?_, ?_⟩, ?_, k.weaken fun g _ e => by simp [e]⟩
  · obtain ⟨_, _, _, l, hM, _⟩ := h1.now
    exact hsz _ _ hM
  · intro q hq
    obtain ⟨i, hi⟩ := List.getElem?_of_mem hq
    have hil : i < X.pins.length := by rw [← h1.hpins.len]; exact (List.getElem?_eq_some_iff.1 hi).1
    obtain ⟨_, _, _, _, l, hM, _⟩ := h1.hpins.pat i q X.pins[i] hi (List.getElem?_eq_getElem hil)
    exact hsz _ _ hM
  · intro k hk
    simp only [List.mem_cons, List.mem_append, List.not_mem_nil, or_false, false_or] at hk ⊢
    rcases hk with h | h | (h | h) | h
    · exact .inl (.inl h)
    · exact .inl (.inr (.inl h))
    · exact .inr (by omega)
    · exact .inr (by omega)
    · exact .inl (.inr (.inr (.inr h)))
theorem sto_begin_no {P : Nat → Prop} {w : World} {s d : Nat} {X : Sto} {O : List Nat} (h : StoA P w s d X O) (hno : isDead X.life X.disk = true ∨ X.opened = true) :
    Calls Tryz.prog 32 #[.pointer (some ⟨s, 0, none⟩)] w fun e w' => e = .returned (.int .i64 (beginCode X.life X.disk X.opened)) ∧ Below w.heap.size w w' := by
  obtain ⟨Sd, T, a, mb, pv, pins, nv, gv, h1, rfl⟩ := h
  refine (begin_no h1.hs h1.disk hno).mono ?_
  rintro e w' ⟨rfl, n, rfl⟩
  exact ⟨rfl, (Below.refl _ w).drewN_ n⟩
theorem sto_put_closed {P : Nat → Prop} {w : World} {s d : Nat} {X : Sto} {O : List Nat} (h : StoA P w s d X O) (hno : readyCode X.life X.disk X.opened ≠ 0) (key : ByteArray) (v : Value) :
    Calls Tryz.prog 49 #[.pointer (some ⟨s, 0, none⟩), .string key, v] w fun e w' => e = .returned (.int .i64 (readyCode X.life X.disk X.opened)) ∧ Below w.heap.size w w' := by
  obtain ⟨Sd, T, a, mb, pv, pins, nv, gv, h1, rfl⟩ := h
  refine (put_closed h1.hs h1.disk hno key v).mono ?_
  rintro e w' ⟨rfl, n, rfl⟩
  exact ⟨rfl, (Below.refl _ w).drewN_ n⟩
theorem sto_put_badkey {P : Nat → Prop} {w : World} {s d : Nat} {X : Sto} {O : List Nat} (h : StoA P w s d X O) (hdd : isDead X.life X.disk = false) (hop : X.opened = true) (key : ByteArray) (v : Value) (hk : key.size = 0 ∨ 64 < key.size) :
    Calls Tryz.prog 49 #[.pointer (some ⟨s, 0, none⟩), .string key, v] w fun e w' => e = .returned (.int .i64 55) ∧ Below w.heap.size w w' := by
  obtain ⟨Sd, T, a, mb, pv, pins, nv, gv, h1, rfl⟩ := h
  have hs := h1.hs
  rw [hop] at hs
  refine (put_badkey hs h1.disk hdd key v hk).mono ?_
  rintro e w' ⟨rfl, n, rfl⟩
  exact ⟨rfl, (Below.refl _ w).drewN_ n⟩
theorem sto_put_big {P : Nat → Prop} {w : World} {s d : Nat} {X : Sto} {O : List Nat} (h : StoA P w s d X O) (hdd : isDead X.life X.disk = false) (hop : X.opened = true) (key : ByteArray) (hk0 : 0 < key.size) (hk1 : key.size ≤ 64) (A : Option Addr) (n c : Nat) (hn : 65536 < n) (hn2 : n ≤ 1000000000) :
    Calls Tryz.prog 49 #[.pointer (some ⟨s, 0, none⟩), .string key, .slice A n c] w fun e w' => e = .returned (.int .i64 4) ∧ Below w.heap.size w w' := by
  obtain ⟨Sd, T, a, mb, pv, pins, nv, gv, h1, rfl⟩ := h
  have hs := h1.hs
  rw [hop] at hs
  refine (put_big hs h1.disk hdd key hk0 hk1 A n c hn hn2).mono ?_
  rintro e w' ⟨rfl, n, rfl⟩
  exact ⟨rfl, (Below.refl _ w).drewN_ n⟩

/-- How many of the notes are of new keys. -/
def newNotes (ps : List (List UInt8 × Place)) (ns : List (List UInt8 × List UInt8)) : Nat := (ns.filter fun p => (mget ps p.1).isNone).length
theorem newNotes_map (ps : List (List UInt8 × Place)) (l : List (List UInt8 × (Value × List UInt8))) : newKeys ps (mmap (fun x : Value × List UInt8 => x.1) l) = newNotes ps (mmap (fun x : Value × List UInt8 => x.2) l) := by
  unfold newKeys newNotes mmap
  rw [List.filter_map, List.filter_map, List.length_map, List.length_map]
  rfl
/-- Is the key there, with what the transaction has noted? -/
def Sto.hasKey (X : Sto) (k : List UInt8) : Bool := (mget X.notes k).isSome || ((mget X.now.places k).isSome && !(mget X.gone k).isSome)
def Sto.noted (X : Sto) (k l : List UInt8) : Sto := { X with notes := mput X.notes k l, gone := mdel X.gone k }
theorem sto_put {P Q : Nat → Prop} {w : World} {s d n : Nat} {X : Sto} {O : List Nat} (h : StoA P w s d X O) (hdd : isDead X.life X.disk = false) (hop : X.opened = true) (hok : StOk n X.now) (hsn : Srt X.notes) (hln : X.notes.length ≤ 1000) (hlg : X.gone.length ≤ 1000)
    (key : ByteArray) (hk0 : 0 < key.size) (hk1 : key.size ≤ 64) (v : Value) (l : List UInt8) (hv : BytesAt Q w v l) (hl : l.length ≤ 65536)
    (hroom : X.hasKey key.data.toList = true ∨ (X.now.places.length : Int) - X.gone.length + newNotes X.now.places X.notes < 512) :
    Calls Tryz.prog 49 #[.pointer (some ⟨s, 0, none⟩), .string key, v] w fun e w' => e = .returned (.int .i64 0) ∧ StoPost P w s d (X.noted key.data.toList l) O w' := by
  obtain ⟨Sd, T, a, mb, pv, pins, nv, gv, h1, rfl⟩ := h
  have hs := h1.hs
  rcases h1.trans with ⟨h2, _⟩ | ⟨h2, nb, gb, rfl, rfl, rfl, hng, ⟨L, hN, hL, hP⟩, hG⟩
  · rw [h2] at hop
    cases hop
  rw [h2] at hs
  have hg2 : (mget (mmap (fun x : Value × List UInt8 => x.1) L) key.data.toList).isSome = (mget X.notes key.data.toList).isSome := by
    rw [hL, mget_mmap, mget_mmap, Option.isSome_map, Option.isSome_map]
  have hS2 : Srt (mmap (fun x : Value × List UInt8 => x.1) L) := by
    have h3 : (X.notes.map (·.1)) = (mmap (fun x : Value × List UInt8 => x.1) L).map (·.1) := by
      rw [hL]
      simp [mmap]
    unfold Srt at hsn ⊢
    have h4 := List.pairwise_map.2 hsn
    rw [h3] at h4
    exact List.pairwise_map.1 h4
  refine (put_yes (n := n) hs h1.disk h1.now hok hN hG hng hS2 (by rw [mmap_length]; rw [hL, mmap_length] at hln; exact hln) hlg (fun x hx => ?_) hdd key hk0 hk1 v l hv hl ?_).mono ?_
  · obtain ⟨y, hy, rfl⟩ := List.mem_map.1 hx
    obtain ⟨g, cap, cur, hv, _⟩ := hP y hy
    exact ⟨_, _, _, hv⟩
  · rw [hg2, newNotes_map, ← hL]
    exact hroom
  · rintro e w' ⟨rfl, nv, b1, b2, b3, k⟩
    have hF : ∀ g, (g = nb ∨ g = gb) → g ∈ s :: (Sd ++ [nb, gb]) := fun g e => by rcases e with rfl | rfl <;> simp
    obtain ⟨r1, r2⟩ := h1.rest k hF
    have hk' : Keeps (· ∈ s :: (Sd ++ ([nb, gb] ++ pv.ownBlock.toList))) w w' := k.weaken fun g _ e => by rcases e with rfl | rfl <;> simp
    have hsn : Blk w' s _ _ := Blk.keeps hs k (fun e => by
      rcases e with rfl | rfl
      · exact hN.not_blk hs
      · exact MapAt.not_blk hG hs)
    refine ⟨rfl, _, StoParts.a_ (X := X.noted key.data.toList l) (T := [nb, gb]) ⟨by rw [show (X.noted key.data.toList l).opened = true from h2]; exact hsn, h1.disk_ k (fun g e => by rcases e with rfl | rfl <;> simp), r1, r2, .inr ⟨h2, nb, gb, rfl, rfl, rfl, hng, ⟨mput L key.data.toList (nv, l), ?_, ?_, ?_⟩, b3⟩, h1.mbT, h1.pinT⟩, fun k hk => .inl hk, hk'⟩
    · rw [mmap_mput]
      exact b2
    · show mput X.notes _ _ = _
      rw [mmap_mput, hL]
    · intro x hx
      rcases mput_mem hx with rfl | ⟨hx, _⟩
      · exact b1.mono fun g hg => DiskAt.fresh_ h1.disk g hg
      · exact (hP x hx).keeps k fun g cs e _ hb => by
          rcases e with rfl | rfl
          · exact hN.not_blk hb
          · exact MapAt.not_blk hG hb

theorem sto_get {P : Nat → Prop} {w : World} {s d : Nat} {X : Sto} {O : List Nat} (h : StoA P w s d X O) (hok : StOk X.disk.blocks.length X.now) (hpen : X.disk.pending.length ≤ 1000000000) (key : ByteArray) (hk : key.size ≤ maxLen) :
    Calls Tryz.prog 50 #[.pointer (some ⟨s, 0, none⟩), .string key] w (FetchPost w (getOf X.life X.disk X.now.places key.data.toList)) := by
  obtain ⟨Sd, T, a, mb, pv, pins, nv, gv, h1, rfl⟩ := h
  exact get_calls h1.hs h1.disk h1.now hok hpen key hk
theorem sto_free {P : Nat → Prop} {w : World} {s d : Nat} {X : Sto} {O : List Nat} (h : StoA P w s d X O) (hok : StOk X.disk.blocks.length X.now) (hoks : ∀ x ∈ X.pins, StOk X.disk.blocks.length x) (hpn : X.pins.length ≤ 1000) :
    Calls Tryz.prog 19 #[.pointer (some ⟨s, 0, none⟩)] w fun e w' => e = .returned (.int .i64 (if isDead X.life X.disk then 0 else ((freeOf X.disk.blocks.length (X.now :: X.pins)).length : Int))) ∧ Below w.heap.size w w' := by
  obtain ⟨Sd, T, a, mb, pv, pins, nv, gv, h1, rfl⟩ := h
  exact Free_calls h1.hs h1.disk h1.now h1.hpins hok hoks (by rw [h1.hpins.len]; exact hpn)
theorem sto_generation {P : Nat → Prop} {w : World} {s d : Nat} {X : Sto} {O : List Nat} (h : StoA P w s d X O) :
    Calls Tryz.prog 38 #[.pointer (some ⟨s, 0, none⟩)] w fun e w' => e = .returned (.int .i64 (if isDead X.life X.disk then 0 else (X.now.gen : Int))) ∧ Below w.heap.size w w' := by
  obtain ⟨Sd, T, a, mb, pv, pins, nv, gv, h1, rfl⟩ := h
  refine (generation_calls h1.hs h1.disk h1.now).mono ?_
  rintro e w' ⟨rfl, n, rfl⟩
  exact ⟨rfl, (Below.refl _ w).drewN_ n⟩

end Go.Proofs.YtbgiklkpinflaaaGreat

namespace Go.Proofs.YtbgiklkpinflaaaGreat
open Go.RowKit Go.Shelf Go.Maps

def Sto.commitRes (X : Sto) : Int × Dsk × Option St → Int × Sto
  | (c, D, none) => (c, { X with disk := D })
  | (c, D, some st) => (c, { X with disk := D, now := st, opened := false, notes := [], gone := [] })
/-- Commit, where a transaction is open. -/
def Sto.commit (X : Sto) : Int × Sto := X.commitRes (X.disk.commit X.now X.notes X.gone X.pins)
theorem sto_commit {P : Nat → Prop} {w : World} {s d : Nat} {X : Sto} {O : List Nat} (h : StoA P w s d X O) (hdd : isDead X.life X.disk = false) (hop : X.opened = true)
    (hok : StOk X.disk.blocks.length X.now) (hoks : ∀ x ∈ X.pins, StOk X.disk.blocks.length x) (hpn : X.pins.length ≤ 1000) (hsn : Srt X.notes) (hsg : Srt X.gone) (hkn : ∀ x ∈ X.notes, x.1.length ≤ 64 ∧ x.2.length ≤ 65536) (hln : X.notes.length ≤ 512)
    (hok' : ∀ st', X.now.next X.notes X.gone (freeOf X.disk.blocks.length (X.now :: X.pins)) = some st' → StOk X.disk.blocks.length st') (hsm : Small X.disk 3000) :
    Calls Tryz.prog 21 #[.pointer (some ⟨s, 0, none⟩)] w fun e w' => e = .returned (.int .i64 X.commit.1) ∧ StoPost P w s d X.commit.2 O w' := by
  obtain ⟨Sd, T, a, mb, pv, pins, nv, gv, h1, rfl⟩ := h
  have hs := h1.hs
  rcases h1.trans with ⟨h2, _⟩ | ⟨h2, nb, gb, rfl, rfl, rfl, hng, hN, hG⟩
  · rw [h2] at hop
    cases hop
  rw [h2] at hs
  refine (commit_calls hs h1.disk h1.now h1.hpins hN.w hG hok hoks (by rw [h1.hpins.len]; exact hpn) hsn hsg hkn hln hok' hdd hsm).mono ?_
  intro e w' hC
  unfold Sto.commit
  obtain ⟨C, hCe⟩ : ∃ C, C = X.disk.commit X.now X.notes X.gone X.pins := ⟨_, rfl⟩
  rw [← hCe] at hC ⊢
  clear hCe
  obtain ⟨c, D', R⟩ := C
  obtain ⟨rfl, ⟨S', hD', hS'⟩, k, hR⟩ := hC
  have hF : ∀ g, (g = s ∨ g ∈ Sd) → g ∈ s :: (Sd ++ [nb, gb]) := fun g e => by rcases e with rfl | e <;> simp [*]
  obtain ⟨r1, r2⟩ := h1.rest k hF
  have hk' : Keeps (· ∈ s :: (Sd ++ ([nb, gb] ++ pv.ownBlock.toList))) w w' := k.weaken fun g _ e => by rcases e with rfl | e <;> simp [*]
  rcases hR with ⟨hR, hS⟩ | ⟨st', a', mb', hR, hS, hst, ha', hmb'⟩
  · have hR : R = none := hR
    subst hR
    have hnf : ∀ g M, MapAt w g M → ¬ (g = s ∨ g ∈ Sd) := fun g M hM e => by
      rcases e with rfl | e
      · exact hM.not_blk hs
      · obtain ⟨t, cs, hb, _⟩ := h1.disk.lt _ e
        exact hM.not_blk hb
    have hN' : NotesP P w' nb X.notes := hN.keeps k (fun g cs e _ hb => by
      rcases e with rfl | e
      · exact absurd (hb.det hs).2 (by decide)
      · exact h1.disk.no (by decide) (by decide) (by decide) e hb) (by obtain ⟨L, hM, _⟩ := hN; exact hnf _ _ hM)
    refine ⟨rfl, _, StoParts.a_ (X := { X with disk := D' }) (T := [nb, gb]) (Sd := S') ⟨by rw [show ({ X with disk := D' } : Sto).opened = true from h2]; exact hS, hD', r1, r2, .inr ⟨h2, nb, gb, rfl, rfl, rfl, hng, hN', MapAt.keeps hG k (hnf _ _ hG)⟩, h1.mbT, h1.pinT⟩, ?_, hk'⟩
    intro i hi
    simp only [List.mem_cons, List.mem_append] at hi ⊢
    rcases hi with h | h | h | h
    · exact .inl (.inl h)
    · rcases hS' i h with h | h
      · exact .inl (.inr (.inl h))
      · exact .inr h
    · exact .inl (.inr (.inr (.inl h)))
    · exact .inl (.inr (.inr (.inr h)))
  · have hR : R = some st' := hR
    subst hR
    refine ⟨rfl, _, StoParts.a_ (X := { X with disk := D', now := st', opened := false, notes := [], gone := [] }) (T := []) (Sd := S') ⟨hS, hD', hst, r2, .inl ⟨rfl, rfl, rfl, rfl⟩, by simp, by simp⟩, ?_, hk'⟩
    intro i hi
    simp only [List.mem_cons, List.mem_append, List.not_mem_nil, false_or] at hi ⊢
    rcases hi with h | h | h
    · exact .inl (.inl h)
    · rcases hS' i h with h | h
      · exact .inl (.inr (.inl h))
      · exact .inr h
    · exact .inl (.inr (.inr (.inr h)))

/-- The store that Format makes. -/
def Dsk.sto (D : Dsk) : Sto := ⟨D.fmt.2, (writes wipes D).2.sync.2.life, .zero, [], false, [], []⟩
theorem sto_format {P : Nat → Prop} {d : Nat} {D : Dsk} {S : List Nat} (w : World) (hD : DiskAt P w d D S) (hsm : Small D 8) (h0 : D.fmt.1 = 0) :
    Calls Tryz.prog 43 #[.pointer (some ⟨d, 0, none⟩)] w fun e w' => ∃ s O, e = .returned (.tuple #[.pointer (some ⟨s, 0, none⟩), .int .i64 0]) ∧ StoA P w' s d D.sto O ∧ (∀ k ∈ O, k ∈ S ∨ w.heap.size ≤ k) ∧ Keeps (· ∈ S) w w' := by
  refine (format_calls w hD hsm).mono ?_
  rintro e w' ⟨⟨S', hD', hS', k⟩, h | ⟨_, s, a, mb, sv, rfl, h1, h2, h3, hs, hst, _⟩⟩
  · exact absurd h0 h.1
  · refine ⟨s, _, rfl, StoParts.a_ (X := D.sto) (T := []) (Sd := S') (pv := .slice none 0 0) (pins := []) ⟨hs, hD', hst, ⟨⟨rfl, .inl ⟨rfl, rfl⟩⟩, rfl, by simp⟩, .inl ⟨rfl, rfl, rfl, rfl⟩, by simp, by simp⟩, ?_, k⟩
    intro i hi
    simp only [List.mem_cons, List.mem_append, List.not_mem_nil, false_or, Option.mem_toList] at hi
    rcases hi with rfl | h | h
    · exact .inr h1
    · exact hS' i h
    · simp [Value.ownBlock] at h

end Go.Proofs.YtbgiklkpinflaaaGreat
