/- Plain: what a commit on a disk that is up leaves. Plain: a new store, and its first commit of one note. The store beside other memory: what a law's walk needs. -/
import Derived.Test.YtbgiklkpinflaaaGreatBox

namespace Go.Proofs.YtbgiklkpinflaaaGreat
open Go.RowKit Go.Shelf Go.Maps

theorem mem_freeOf {n : Nat} {sts : List St} {b : Nat} : b ∈ freeOf n sts ↔ b < n ∧ 2 ≤ b ∧ takenBy sts b = false := by
  unfold freeOf
  rw [List.mem_filter, List.mem_range]
  simp
theorem freeOf_nodup (n : Nat) (sts : List St) : (freeOf n sts).Nodup := List.Pairwise.filter _ List.nodup_range
/-- The notes take their blocks from the front of the free ones. -/
theorem takeAll_blocks {ns : List (List UInt8 × List UInt8)} {acc : Acc} {ps' : List (List UInt8 × Place)} {fr' : List Nat} (h : takeAll ns acc = some (ps', fr')) (hs : Srt ns) : acc.2 = ns.flatMap (fun x => blocksOf ps' x.1) ++ fr' := by
  induction ns generalizing acc with
  | nil =>
    have : acc = (ps', fr') := by simpa [takeAll] using h
    rw [this]
    rfl
  | cons y r ih =>
    rw [takeAll_cons] at h
    unfold Srt at hs
    rw [List.pairwise_cons] at hs
    cases hst : takeStep acc y with
    | none => rw [hst] at h; cases h
    | some a =>
      rw [hst] at h
      have h : takeAll r a = some (ps', fr') := h
      have hne : ∀ z ∈ r, z.1 ≠ y.1 := fun z hz e => by
        have := hs.1 z hz
        rw [e] at this
        exact List.lt_irrefl _ this
      have h1 := takeAll_other h hne
      have h2 := ih h hs.2
      unfold takeStep at hst
      split at hst
      · injection hst with hst
        subst hst
        have e : blocksOf ps' y.1 = acc.2.take (need y.2.length) := by
          unfold blocksOf
          rw [h1, mget_mput_self]
          rfl
        rw [List.flatMap_cons, List.append_assoc, e, ← h2, List.take_append_drop]
      · cases hst
theorem valueList_blocks (ps : List (List UInt8 × Place)) (ns : List (List UInt8 × List UInt8)) : (valueList ps ns).map (·.1) = ns.flatMap fun x => blocksOf ps x.1 := by
  unfold valueList
  rw [List.map_flatMap]
  congr 1
  funext x
  exact blockList_blocks _ _
theorem valueList_len {ps : List (List UInt8 × Place)} {ns : List (List UInt8 × List UInt8)} : ∀ p ∈ valueList ps ns, p.2.length = 256 := by
  intro p hp
  obtain ⟨x, _, hx⟩ := List.mem_flatMap.1 hp
  exact blockList_len p hx
theorem saveList_blocks (st : St) : (saveList st).map (·.1) = st.index ++ [st.gen % 2] := by
  unfold saveList
  rw [List.map_append, spreadList_blocks]
  rfl
/-- All that a commit writes. -/
def commitList (st' : St) (ns : List (List UInt8 × List UInt8)) : List (Nat × List UInt8) := valueList st'.places ns ++ saveList st'
theorem next_front {st st' : St} {ns : List (List UInt8 × List UInt8)} {gs : List (List UInt8 × Unit)} {fr : List Nat} (h : st.next ns gs fr = some st') (hs : Srt ns) :
    ∃ rest, fr = (ns.flatMap fun x => blocksOf st'.places x.1) ++ (st'.index ++ rest) := by
  obtain ⟨⟨ps', fr'⟩, h1, h2, _⟩ := next_parts h
  have h3 := takeAll_blocks h1 hs
  unfold St.next at h
  rw [h1] at h
  have h : (if max 1 (need (writtenOf ps').length) ≤ fr'.length then some (⟨st.gen + 1, ps', fr'.take (max 1 (need (writtenOf ps').length))⟩ : St) else none) = some st' := h
  split at h
  · injection h with h
    subst h
    exact ⟨fr'.drop (max 1 (need (writtenOf ps').length)), by rw [List.take_append_drop]; exact h3⟩
  · cases h
theorem next_gen {st st' : St} {ns : List (List UInt8 × List UInt8)} {gs : List (List UInt8 × Unit)} {fr : List Nat} (h : st.next ns gs fr = some st') : st'.gen = st.gen + 1 := by
  obtain ⟨⟨ps', fr'⟩, h1, h2, _⟩ := next_parts h
  unfold St.next at h
  rw [h1] at h
  have h : (if max 1 (need (writtenOf ps').length) ≤ fr'.length then some (⟨st.gen + 1, ps', fr'.take (max 1 (need (writtenOf ps').length))⟩ : St) else none) = some st' := h
  split at h
  · injection h with h
    subst h
    rfl
  · cases h
/-- A commit writes each block but once. -/
theorem commit_nodup {st st' : St} {ns : List (List UInt8 × List UInt8)} {gs : List (List UInt8 × Unit)} {n : Nat} {sts : List St} (h : st.next ns gs (freeOf n sts) = some st') (hs : Srt ns) :
    ((commitList st' ns).map (·.1)).Nodup ∧ (∀ b ∈ (commitList st' ns).map (·.1), b ∈ freeOf n sts ∨ b = st'.gen % 2) ∧ (∀ b ∈ st'.index, b ∈ freeOf n sts) := by
  obtain ⟨rest, hr⟩ := next_front h hs
  have hn := freeOf_nodup n sts
  have h2 : ∀ b ∈ freeOf n sts, 2 ≤ b := fun b hb => (mem_freeOf.1 hb).2.1
  rw [hr] at hn h2
  have e : (commitList st' ns).map (·.1) = ((ns.flatMap fun x => blocksOf st'.places x.1) ++ st'.index) ++ [st'.gen % 2] := by
    unfold commitList
    rw [List.map_append, valueList_blocks, saveList_blocks, List.append_assoc]
  rw [← List.append_assoc] at hn hr h2
  refine ⟨?_, ?_, ?_⟩
  · rw [e, List.nodup_append]
    refine ⟨(List.nodup_append.1 hn).1, by simp, fun a ha b hb => ?_⟩
    simp only [List.mem_singleton] at hb
    have := h2 a (List.mem_append.2 (.inl ha))
    omega
  · intro b hb
    rw [e] at hb
    rcases List.mem_append.1 hb with hb | hb
    · rw [hr]
      exact .inl (List.mem_append.2 (.inl hb))
    · exact .inr (by simpa using hb)
  · intro b hb
    rw [hr]
    simp [hb]
/-- The commit goes through. -/
theorem commit_up {D : Dsk} (h : Up D) {st st' : St} {ns : List (List UInt8 × List UInt8)} {gs : List (List UInt8 × Unit)} {sts : List St} (hs : Srt ns) (h2 : 2 ≤ D.blocks.length) (hn : st.next ns gs (freeOf D.blocks.length (st :: sts)) = some st') :
    ∃ D', D.commit st ns gs sts = (0, D', some st') ∧ Wrote D D' (commitList st' ns) := by
  obtain ⟨_, hb, hi⟩ := commit_nodup hn hs
  have hw : ∀ p ∈ valueList st'.places ns, p.1 < D.blocks.length ∧ p.2.length = 256 := fun p hp => by
    refine ⟨?_, valueList_len p hp⟩
    rcases hb p.1 (by unfold commitList; rw [List.map_append]; exact List.mem_append.2 (.inl (List.mem_map.2 ⟨p, hp, rfl⟩))) with h | h
    · exact (mem_freeOf.1 h).1
    · omega
  have e1 := writes_up (valueList st'.places ns) h hw
  obtain ⟨z, w1⟩ := save_up (D := { D with pending := D.pending ++ valueList st'.places ns }) ⟨h.armed, h.down⟩ (st := st') (fun b hb => (mem_freeOf.1 (hi b hb)).1) h2
  refine ⟨(({ D with pending := D.pending ++ valueList st'.places ns } : Dsk).save st').2, ?_, ?_⟩
  · unfold Dsk.commit commitRes
    rw [hn]
    simp only [e1, if_true, z]
  · refine ⟨w1.up, w1.life, w1.len, w1.pend, fun b hb => ?_⟩
    rw [w1.see b hb]
    unfold commitList
    rw [seeIn_append, Dsk.see_eq, Dsk.see_eq]
    show (seeIn (saveList st') b).getD ((seeIn (D.pending ++ valueList st'.places ns) b).getD _) = _
    rw [seeIn_append]
    cases seeIn (saveList st') b <;> cases seeIn (valueList st'.places ns) b <;> rfl
theorem commit_none {D : Dsk} {st : St} {ns : List (List UInt8 × List UInt8)} {gs : List (List UInt8 × Unit)} {sts : List St} (hn : st.next ns gs (freeOf D.blocks.length (st :: sts)) = none) : D.commit st ns gs sts = (52, D, none) := by
  unfold Dsk.commit
  rw [hn]
  rfl

/-- The place holds the bytes l. -/
structure Holds (D : Dsk) (p : Place) (l : List UInt8) : Prop where
  size : p.size = l.length
  sum : p.sum = crc l
  len : p.blocks.length = need l.length
  see : ∀ i (h : i < p.blocks.length), D.see p.blocks[i] = blockOf (part l i) 0
theorem readAll_parts (D : Dsk) : ∀ (bs : List Nat) (l : List UInt8), bs.length = need l.length → (∀ i (h : i < bs.length), D.see bs[i] = blockOf (part l i) 0) → (readAll D bs).take l.length = l
  | [], l, h, _ => by
    have : l.length = 0 := by unfold need at h; simp at h; omega
    rw [List.eq_nil_of_length_eq_zero this]
    rfl
  | b :: r, l, h, hs => by
    have e : readAll D (b :: r) = (D.see b).take 240 ++ readAll D r := rfl
    have h0 := hs 0 (by simp)
    have h0 : D.see b = blockOf (part l 0) 0 := h0
    have hp : part l 0 = l.take 240 := by simp [part]
    rw [e, h0, blockOf_take _ _ (part_length l 0), hp]
    rw [List.length_cons] at h
    by_cases hl : l.length ≤ 240
    · have e2 : l.take 240 = l := List.take_of_length_le hl
      rw [e2, List.append_assoc, List.take_left']
      rfl
    · have e3 : (l.take 240).length = 240 := by rw [List.length_take]; omega
      have ih := readAll_parts D r (l.drop 240) (by unfold need at h ⊢; rw [List.length_drop]; omega) (fun i hi => by
        have h1 := hs (i + 1) (by simp; omega)
        have h1 : D.see r[i] = blockOf (part l (i + 1)) 0 := h1
        rw [h1]
        unfold part
        rw [List.drop_drop]
        congr 4
        omega)
      rw [e3, Nat.sub_self, List.replicate_zero, List.append_nil, List.take_append, e3, List.take_of_length_le (by rw [e3]; omega)]
      rw [List.length_drop] at ih
      rw [ih, List.take_append_drop]
theorem Holds.fetch_ {D : Dsk} {p : Place} {l : List UInt8} (h : Holds D p l) : fetchOf D p = l := by
  unfold fetchOf
  rw [h.size]
  exact readAll_parts D p.blocks l h.len h.see
theorem Holds.fetch {D : Dsk} {ps : List (List UInt8 × Place)} {k : List UInt8} {p : Place} {l : List UInt8} (h : Holds D p l) (hk : mget ps k = some p) : D.fetch ps k = (0, l) := by
  unfold Dsk.fetch
  rw [hk]
  simp only [h.fetch_, h.sum, if_true]
/-- A place that the writes do not hit holds what it held. -/
theorem Holds.wrote {D D' : Dsk} {L : List (Nat × List UInt8)} (w : Wrote D D' L) {p : Place} {l : List UInt8} (h : Holds D p l) (hb : ∀ b ∈ p.blocks, b < D.blocks.length ∧ b ∉ L.map (·.1)) : Holds D' p l :=
  ⟨h.size, h.sum, h.len, fun i hi => by
    obtain ⟨h1, h2⟩ := hb _ (List.getElem_mem hi)
    rw [w.see _ h1, seeIn_none h2, Option.getD_none, h.see i hi]⟩
/-- What is noted is held behind the commit. -/
theorem commit_holds {D D' : Dsk} {st st' : St} {ns : List (List UInt8 × List UInt8)} {gs : List (List UInt8 × Unit)} {sts : List St} (hs : Srt ns) (h2 : 2 ≤ D.blocks.length) (hn : st.next ns gs (freeOf D.blocks.length sts) = some st') (w : Wrote D D' (commitList st' ns)) :
    ∀ x ∈ ns, ∃ p, mget st'.places x.1 = some p ∧ Holds D' p x.2 := by
  intro x hx
  obtain ⟨hnd, hb, _⟩ := commit_nodup hn hs
  obtain ⟨⟨ps', fr'⟩, h1, h3, _⟩ := next_parts hn
  obtain ⟨bs, h4, h5⟩ := takeAll_has h1 hs x hx
  have h3 : st'.places = ps' := h3
  rw [← h3] at h4
  have hbs : blocksOf st'.places x.1 = bs := by unfold blocksOf; rw [h4]; rfl
  refine ⟨_, h4, rfl, rfl, h5, fun i hi => ?_⟩
  have hi : i < bs.length := hi
  show D'.see bs[i] = _
  have hm : (bs[i], blockOf (part x.2 i) 0) ∈ commitList st' ns := by
    unfold commitList valueList
    refine List.mem_append.2 (.inl (List.mem_flatMap.2 ⟨x, hx, ?_⟩))
    rw [hbs]
    exact List.mem_map.2 ⟨i, List.mem_range.2 hi, by rw [List.getElem?_eq_getElem hi]; rfl⟩
  have hlt : bs[i] < D.blocks.length := by
    rcases hb bs[i] (List.mem_map.2 ⟨_, hm, rfl⟩) with h | h
    · exact (mem_freeOf.1 h).1
    · omega
  rw [w.see _ hlt, seeIn_mem hnd hm]
  rfl

theorem filter_split (t c : Nat → Bool) (ht : ∀ i, t i = c i) : ∀ l : List Nat, (l.filter fun i => decide (2 ≤ i) && !t i).length + (l.filter fun i => decide (2 ≤ i) && c i).length = (l.filter fun i => decide (2 ≤ i)).length
  | [] => rfl
  | x :: r => by
    have ih := filter_split t c ht r
    simp only [List.filter_cons]
    rw [ht x]
    by_cases hx : 2 ≤ x
    · cases c x
      · simp [hx]
        omega
      · simp [hx]
        omega
    · simp [hx]
      omega
/-- The free blocks, counted. -/
theorem freeOf_count {n : Nat} {sts : List St} {B : List Nat} (hB : B.Nodup) (hb : ∀ b ∈ B, 2 ≤ b ∧ b < n) (ht : ∀ i, takenBy sts i = B.contains i) (h2 : 2 ≤ n) : (freeOf n sts).length + B.length = n - 2 := by
  have hp : B.Perm ((List.range n).filter fun i => decide (2 ≤ i) && B.contains i) := by
    refine (List.perm_ext_iff_of_nodup hB (List.Pairwise.filter _ List.nodup_range)).2 fun i => ?_
    rw [List.mem_filter, List.mem_range]
    simp only [Bool.and_eq_true, decide_eq_true_eq, List.contains_iff_mem]
    exact ⟨fun h => ⟨(hb i h).2, (hb i h).1, h⟩, fun h => h.2.2⟩
  have hall : ((List.range n).filter fun i => decide (2 ≤ i)).length = n - 2 := by
    have h3 : ∀ m, ((List.range (m + 2)).filter fun i => decide (2 ≤ i)).length = m := by
      intro m
      induction m with
      | zero => rfl
      | succ m ih =>
        rw [show m + 1 + 2 = (m + 2) + 1 from rfl, List.range_succ, List.filter_append, List.length_append, ih]
        simp
    have := h3 (n - 2)
    rw [show n - 2 + 2 = n by omega] at this
    exact this
  rw [hp.length_eq, ← hall]
  unfold freeOf
  exact filter_split (takenBy sts) B.contains ht _

end Go.Proofs.YtbgiklkpinflaaaGreat

namespace Go.Proofs.YtbgiklkpinflaaaGreat
open Go.RowKit Go.Shelf Go.Maps

theorem Up.new (n : Nat) : Up (Dsk.new n) := ⟨rfl, rfl⟩
theorem fmt_up {D : Dsk} (h : Up D) (h3 : 3 ≤ D.blocks.length) : D.fmt.1 = 0 ∧ Wrote D D.fmt.2 (wipes ++ saveList .zero) ∧ (writes wipes D).2.sync.2.life = D.life := by
  have e1 := writes_up wipes h (fun p hp => by
    simp only [wipes, List.mem_cons, List.not_mem_nil, or_false] at hp
    rcases hp with rfl | rfl
    · exact ⟨by show 0 < _; omega, zeros_length⟩
    · exact ⟨by show 1 < _; omega, zeros_length⟩)
  have w1 := synced h wipes
  have s1 := Dsk.sync_up (D := { D with pending := D.pending ++ wipes }) ⟨h.armed, h.down⟩
  obtain ⟨E, hE⟩ : ∃ E, E = ({ D with pending := D.pending ++ wipes } : Dsk).sync.2 := ⟨_, rfl⟩
  have s2 : ({ D with pending := D.pending ++ wipes } : Dsk).sync = (0, E) := by rw [hE, s1]
  rw [← hE] at w1
  obtain ⟨z, w2⟩ := save_up w1.up (st := .zero) (fun b hb => by
    simp [St.zero] at hb
    rw [w1.len]
    omega) (by rw [w1.len]; omega)
  have e2 : D.fmt = E.save .zero := by
    unfold Dsk.fmt
    rw [h.down, e1]
    simp only [Bool.false_eq_true, if_false, if_true]
    rw [s2]
    simp only [if_true]
  refine ⟨by rw [e2]; exact z, by rw [e2]; exact w1.trans w2, ?_⟩
  rw [e1]
  show ({ D with pending := D.pending ++ wipes } : Dsk).sync.2.life = _
  rw [s2]
  exact w1.life

/-- The store with one note. -/
structure OneNote (X : Sto) (n : Nat) (k l : List UInt8) : Prop where
  up : Up X.disk
  len : X.disk.blocks.length = n
  now : X.now = .zero
  pins : X.pins = []
  notes : X.notes = [(k, l)]
  gone : X.gone = []
def oneState (n : Nat) (k l : List UInt8) : St :=
  ⟨1, [(k, ⟨l.length, crc l, (freeOf n [.zero]).take (need l.length)⟩)], ((freeOf n [.zero]).drop (need l.length)).take (need (8 + k.length + 2 * need l.length))⟩
theorem free_zero {n : Nat} (h : 4 ≤ n) : (freeOf n [.zero]).length = n - 3 := by
  have h1 := freeOf_count (n := n) (sts := [.zero]) (B := [2]) (by simp) (fun b hb => by simp at hb; omega) (fun i => by simp [takenBy, stHas, St.zero]) (by omega)
  simp at h1
  omega
theorem one_next {n : Nat} {k l : List UInt8} (h4 : 4 ≤ n) (hr : need l.length + need (8 + k.length + 2 * need l.length) ≤ n - 3) : St.zero.next [(k, l)] [] (freeOf n [.zero]) = some (oneState n k l) := by
  have hf := free_zero h4
  have hst : takeAll [(k, l)] (lessGone St.zero.places ([] : List (List UInt8 × Unit)), freeOf n [.zero]) = some ([(k, ⟨l.length, crc l, (freeOf n [.zero]).take (need l.length)⟩)], (freeOf n [.zero]).drop (need l.length)) := by
    rw [takeAll_cons]
    have : takeStep (lessGone St.zero.places ([] : List (List UInt8 × Unit)), freeOf n [.zero]) (k, l) = some ([(k, ⟨l.length, crc l, (freeOf n [.zero]).take (need l.length)⟩)], (freeOf n [.zero]).drop (need l.length)) := by
      unfold takeStep
      rw [if_pos (by show need l.length ≤ (freeOf n [.zero]).length; omega)]
      rfl
    rw [this]
    rfl
  have hw : (writtenOf [(k, (⟨l.length, crc l, (freeOf n [.zero]).take (need l.length)⟩ : Place))]).length = 8 + k.length + 2 * need l.length := by
    have e : writtenOf [(k, (⟨l.length, crc l, (freeOf n [.zero]).take (need l.length)⟩ : Place))] = placeBytes (k, (⟨l.length, crc l, (freeOf n [.zero]).take (need l.length)⟩ : Place)) ++ [] := rfl
    rw [e, List.append_nil, placeBytes_length]
    show 8 + k.length + 2 * ((freeOf n [.zero]).take (need l.length)).length = _
    rw [List.length_take, hf]
    omega
  have hm : max 1 (need (8 + k.length + 2 * need l.length)) = need (8 + k.length + 2 * need l.length) := by
    unfold need
    omega
  unfold St.next
  rw [hst]
  show (if max 1 (need (writtenOf [(k, (⟨l.length, crc l, (freeOf n [.zero]).take (need l.length)⟩ : Place))]).length) ≤ ((freeOf n [.zero]).drop (need l.length)).length then _ else _) = _
  rw [hw, hm, if_pos (by rw [List.length_drop, hf]; omega)]
  rfl
theorem one_ok {n : Nat} {k l : List UInt8} (h4 : 4 ≤ n) (h5 : n ≤ 1024) (hk0 : 0 < k.length) (hk : k.length ≤ 64) (hl : l.length ≤ 65536) (hr : need l.length + need (8 + k.length + 2 * need l.length) ≤ n - 3) : StOk n (oneState n k l) := by
  have hf := free_zero h4
  have hm : 0 < need (8 + k.length + 2 * need l.length) := by unfold need; omega
  refine ⟨?_, ?_, ?_, by simp [oneState], ?_, ?_, ?_, by simp [oneState], h5⟩
  · exact List.pairwise_singleton _ _
  · intro x hx
    simp only [oneState, List.mem_singleton] at hx
    subst hx
    exact ⟨hk0, hk⟩
  · intro x hx
    simp only [oneState, List.mem_singleton] at hx
    subst hx
    refine ⟨hl, (crc_le l).1, (crc_le l).2, ?_, fun b hb => ?_⟩
    · show ((freeOf n [.zero]).take (need l.length)).length = need l.length
      rw [List.length_take, hf]
      omega
    · have := mem_freeOf.1 (List.mem_of_mem_take hb)
      omega
  · show 0 < (((freeOf n [.zero]).drop (need l.length)).take (need (8 + k.length + 2 * need l.length))).length
    rw [List.length_take, List.length_drop, hf]
    omega
  · show (((freeOf n [.zero]).drop (need l.length)).take (need (8 + k.length + 2 * need l.length))).length ≤ 1024
    rw [List.length_take, List.length_drop, hf]
    omega
  · intro b hb
    have := mem_freeOf.1 (List.mem_of_mem_drop (List.mem_of_mem_take hb))
    omega
theorem one_free {n : Nat} {k l : List UInt8} (h4 : 4 ≤ n) (hr : need l.length + need (8 + k.length + 2 * need l.length) ≤ n - 3) : (freeOf n [oneState n k l]).length + need l.length + need (8 + k.length + 2 * need l.length) = n - 2 := by
  have hf := free_zero h4
  have hnd := freeOf_nodup n [.zero]
  have hsplit : (freeOf n [.zero]).take (need l.length) ++ ((freeOf n [.zero]).drop (need l.length)).take (need (8 + k.length + 2 * need l.length)) = (freeOf n [.zero]).take (need l.length + need (8 + k.length + 2 * need l.length)) := by
    rw [List.take_add]
  have h1 := freeOf_count (n := n) (sts := [oneState n k l]) (B := (freeOf n [.zero]).take (need l.length + need (8 + k.length + 2 * need l.length))) (List.Sublist.nodup (List.take_sublist _ _) hnd) (fun b hb => by
    have := mem_freeOf.1 (List.mem_of_mem_take hb)
    omega) (fun i => by
    rw [← hsplit]
    simp only [takenBy, stHas, oneState, List.any_cons, List.any_nil, Bool.or_false, List.contains_append]
    rw [Bool.or_comm]) (by omega)
  rw [List.length_take, hf] at h1
  omega

/-- Behind the commit. -/
structure OneDone (X X' : Sto) (n : Nat) (k l : List UInt8) : Prop where
  up : Up X'.disk
  life : X'.life = X.life
  dlife : X'.disk.life = X.disk.life
  len : X'.disk.blocks.length = n
  pend : X'.disk.pending = []
  now : X'.now = oneState n k l
  pins : X'.pins = []
  opened : X'.opened = false
  get : X'.disk.fetch X'.now.places k = (0, l)
theorem one_commit {X : Sto} {n : Nat} {k l : List UInt8} (h : OneNote X n k l) (h4 : 4 ≤ n) (hr : need l.length + need (8 + k.length + 2 * need l.length) ≤ n - 3) : ∃ X', X.commit = (0, X') ∧ OneDone X X' n k l := by
  have hn := one_next h4 hr
  have hs : Srt [(k, l)] := List.pairwise_singleton _ _
  obtain ⟨D', hc, w⟩ := commit_up h.up (st := .zero) (ns := [(k, l)]) (gs := []) (sts := []) hs (by rw [h.len]; omega) (by rw [h.len]; exact hn)
  obtain ⟨p, hp, hh⟩ := commit_holds (gs := []) (st := .zero) (sts := [.zero]) hs (by rw [h.len]; omega) (by rw [h.len]; exact hn) w (k, l) (by simp)
  refine ⟨{ X with disk := D', now := oneState n k l, opened := false, notes := [], gone := [] }, ?_, w.up, rfl, w.life, by rw [← h.len]; exact w.len, w.pend, rfl, h.pins, rfl, hh.fetch hp⟩
  have e : X.commit = X.commitRes (0, D', some (oneState n k l)) := by
    unfold Sto.commit
    rw [h.now, h.notes, h.gone, h.pins, hc]
  exact e

end Go.Proofs.YtbgiklkpinflaaaGreat

namespace Go.Proofs.YtbgiklkpinflaaaGreat
open Go.RowKit Go.Shelf Go.Maps

/-- Blocks of other types stay as they are. -/
def Others (w w' : World) : Prop := w.heap.size ≤ w'.heap.size ∧ ∀ g t cs, Blk w g t cs → t ≠ 100 → t ≠ 94 → t ≠ 89 → t ≠ 138 → t ≠ 31 → Blk w' g t cs
theorem Others.bytes {w w' : World} (h : Others w w') {P : Nat → Prop} {v : Value} {l : List UInt8} (hB : BytesAt P w v l) : BytesAt P w' v l := by
  obtain ⟨g, cap, cur, hv, hp, hb, r⟩ := hB
  exact ⟨g, cap, cur, hv, hp, h.2 _ _ _ hb (by decide) (by decide) (by decide) (by decide) (by decide), r⟩
theorem Others.of_below {w w' : World} (h : Below w.heap.size w w') : Others w w' := ⟨h.size, fun _ _ _ hb _ _ _ _ _ => hb.below h hb.lt⟩
theorem Others.trans {w w1 w2 : World} (h : Others w w1) (k : Others w1 w2) : Others w w2 := ⟨Nat.le_trans h.1 k.1, fun g t cs hb h1 h2 h3 h4 h5 => k.2 g t cs (h.2 g t cs hb h1 h2 h3 h4 h5) h1 h2 h3 h4 h5⟩
theorem below_keeps {B : Nat} {w w1 w2 : World} {F : Nat → Prop} (h : Below B w w1) (k : Keeps F w1 w2) (hB : B ≤ w1.heap.size) (hF : ∀ g, F g → B ≤ g) : Below B w w2 :=
  ⟨k.os.trans h.os, k.tape.trans h.tape, k.output.trans h.output, Nat.le_trans h.size k.size, fun i hi => (k.block i (Nat.lt_of_lt_of_le hi hB) (fun hf => by have := hF i hf; omega)).trans (h.block i hi)⟩

/-- The store X lies in memory that was made since w0. -/
def Box (P : Nat → Prop) (w0 w : World) (s d : Nat) (X : Sto) : Prop :=
  w0.heap.size ≤ w.heap.size ∧ Below w0.heap.size w0 w ∧ ∃ O, StoA P w s d X O ∧ ∀ k ∈ O, w0.heap.size ≤ k
section
variable {P : Nat → Prop} {w0 w w' : World} {s d : Nat} {X Y : Sto}
theorem Box.kept (h : Box P w0 w s d X) : Below w0.heap.size w0 w := h.2.1
theorem Box.below (h : Box P w0 w s d X) (hb : Below w.heap.size w w') : Box P w0 w' s d X := by
  obtain ⟨h1, h2, O, h3, h4⟩ := h
  exact ⟨Nat.le_trans h1 hb.size, h2.trans (hb.mono h1), O, h3.below hb, h4⟩
theorem Box.start {O : List Nat} (h : StoA P w s d X O) (hO : ∀ k ∈ O, w0.heap.size ≤ k) (hb : Below w0.heap.size w0 w) (h1 : w0.heap.size ≤ w.heap.size) : Box P w0 w s d X := ⟨h1, hb, O, h, hO⟩
theorem Box.step {O : List Nat} (h1 : w0.heap.size ≤ w.heap.size) (h2 : Below w0.heap.size w0 w) (h3 : StoA P w s d X O) (h4 : ∀ k ∈ O, w0.heap.size ≤ k) (h : StoPost P w s d Y O w') : Box P w0 w' s d Y ∧ Others w w' := by
  obtain ⟨O', a, b, c⟩ := h
  refine ⟨⟨Nat.le_trans h1 c.size, below_keeps h2 c h1 h4, O', a, fun k hk => ?_⟩, c.size, fun g t cs hb e1 e2 e3 e4 e5 => hb.keeps c fun hg => ?_⟩
  · rcases b k hk with h | h
    · exact h4 k h
    · exact Nat.le_trans h1 h
  · rcases h3.own g hg t cs hb with h | h | h | h | h
    · exact e1 h
    · exact e2 h
    · exact e3 h
    · exact e4 h
    · exact e5 h
theorem Box.begin_ (h : Box P w0 w s d X) (hdd : isDead X.life X.disk = false) (hop : X.opened = false) :
    Calls Tryz.prog 32 #[.pointer (some ⟨s, 0, none⟩)] w fun e w' => e = .returned (.int .i64 0) ∧ Box P w0 w' s d X.begun ∧ Others w w' := by
  obtain ⟨h1, h2, O, h3, h4⟩ := h
  exact (sto_begin h3 hdd hop).mono fun e w' ⟨a, b⟩ => ⟨a, Box.step h1 h2 h3 h4 b⟩
theorem Box.begin_no (h : Box P w0 w s d X) (hno : isDead X.life X.disk = true ∨ X.opened = true) :
    Calls Tryz.prog 32 #[.pointer (some ⟨s, 0, none⟩)] w fun e w' => e = .returned (.int .i64 (beginCode X.life X.disk X.opened)) ∧ Below w.heap.size w w' := by
  obtain ⟨h1, h2, O, h3, h4⟩ := h
  exact sto_begin_no h3 hno
theorem Box.put_closed (h : Box P w0 w s d X) (hno : readyCode X.life X.disk X.opened ≠ 0) (key : ByteArray) (v : Value) :
    Calls Tryz.prog 49 #[.pointer (some ⟨s, 0, none⟩), .string key, v] w fun e w' => e = .returned (.int .i64 (readyCode X.life X.disk X.opened)) ∧ Below w.heap.size w w' := by
  obtain ⟨h1, h2, O, h3, h4⟩ := h
  exact sto_put_closed h3 hno key v
theorem Box.put_badkey (h : Box P w0 w s d X) (hdd : isDead X.life X.disk = false) (hop : X.opened = true) (key : ByteArray) (v : Value) (hk : key.size = 0 ∨ 64 < key.size) :
    Calls Tryz.prog 49 #[.pointer (some ⟨s, 0, none⟩), .string key, v] w fun e w' => e = .returned (.int .i64 55) ∧ Below w.heap.size w w' := by
  obtain ⟨h1, h2, O, h3, h4⟩ := h
  exact sto_put_badkey h3 hdd hop key v hk
theorem Box.put_big (h : Box P w0 w s d X) (hdd : isDead X.life X.disk = false) (hop : X.opened = true) (key : ByteArray) (hk0 : 0 < key.size) (hk1 : key.size ≤ 64) (A : Option Addr) (n c : Nat) (hn : 65536 < n) (hn2 : n ≤ 1000000000) :
    Calls Tryz.prog 49 #[.pointer (some ⟨s, 0, none⟩), .string key, .slice A n c] w fun e w' => e = .returned (.int .i64 4) ∧ Below w.heap.size w w' := by
  obtain ⟨h1, h2, O, h3, h4⟩ := h
  exact sto_put_big h3 hdd hop key hk0 hk1 A n c hn hn2
theorem Box.put {Q : Nat → Prop} {n : Nat} (h : Box P w0 w s d X) (hdd : isDead X.life X.disk = false) (hop : X.opened = true) (hok : StOk n X.now) (hsn : Srt X.notes) (hln : X.notes.length ≤ 1000) (hlg : X.gone.length ≤ 1000)
    (key : ByteArray) (hk0 : 0 < key.size) (hk1 : key.size ≤ 64) (v : Value) (l : List UInt8) (hv : BytesAt Q w v l) (hl : l.length ≤ 65536)
    (hroom : X.hasKey key.data.toList = true ∨ (X.now.places.length : Int) - X.gone.length + newNotes X.now.places X.notes < 512) :
    Calls Tryz.prog 49 #[.pointer (some ⟨s, 0, none⟩), .string key, v] w fun e w' => e = .returned (.int .i64 0) ∧ Box P w0 w' s d (X.noted key.data.toList l) ∧ Others w w' := by
  obtain ⟨h1, h2, O, h3, h4⟩ := h
  exact (sto_put h3 hdd hop hok hsn hln hlg key hk0 hk1 v l hv hl hroom).mono fun e w' ⟨a, b⟩ => ⟨a, Box.step h1 h2 h3 h4 b⟩
theorem Box.commit (h : Box P w0 w s d X) (hdd : isDead X.life X.disk = false) (hop : X.opened = true)
    (hok : StOk X.disk.blocks.length X.now) (hoks : ∀ x ∈ X.pins, StOk X.disk.blocks.length x) (hpn : X.pins.length ≤ 1000) (hsn : Srt X.notes) (hsg : Srt X.gone) (hkn : ∀ x ∈ X.notes, x.1.length ≤ 64 ∧ x.2.length ≤ 65536) (hln : X.notes.length ≤ 512)
    (hok' : ∀ st', X.now.next X.notes X.gone (freeOf X.disk.blocks.length (X.now :: X.pins)) = some st' → StOk X.disk.blocks.length st') (hsm : Small X.disk 3000) :
    Calls Tryz.prog 21 #[.pointer (some ⟨s, 0, none⟩)] w fun e w' => e = .returned (.int .i64 X.commit.1) ∧ Box P w0 w' s d X.commit.2 ∧ Others w w' := by
  obtain ⟨h1, h2, O, h3, h4⟩ := h
  exact (sto_commit h3 hdd hop hok hoks hpn hsn hsg hkn hln hok' hsm).mono fun e w' ⟨a, b⟩ => ⟨a, Box.step h1 h2 h3 h4 b⟩
theorem Box.get (h : Box P w0 w s d X) (hok : StOk X.disk.blocks.length X.now) (hpen : X.disk.pending.length ≤ 1000000000) (key : ByteArray) (hk : key.size ≤ maxLen) :
    Calls Tryz.prog 50 #[.pointer (some ⟨s, 0, none⟩), .string key] w (FetchPost w (getOf X.life X.disk X.now.places key.data.toList)) := by
  obtain ⟨h1, h2, O, h3, h4⟩ := h
  exact sto_get h3 hok hpen key hk
theorem Box.free (h : Box P w0 w s d X) (hok : StOk X.disk.blocks.length X.now) (hoks : ∀ x ∈ X.pins, StOk X.disk.blocks.length x) (hpn : X.pins.length ≤ 1000) :
    Calls Tryz.prog 19 #[.pointer (some ⟨s, 0, none⟩)] w fun e w' => e = .returned (.int .i64 (if isDead X.life X.disk then 0 else ((freeOf X.disk.blocks.length (X.now :: X.pins)).length : Int))) ∧ Below w.heap.size w w' := by
  obtain ⟨h1, h2, O, h3, h4⟩ := h
  exact sto_free h3 hok hoks hpn
theorem Box.generation (h : Box P w0 w s d X) :
    Calls Tryz.prog 38 #[.pointer (some ⟨s, 0, none⟩)] w fun e w' => e = .returned (.int .i64 (if isDead X.life X.disk then 0 else (X.now.gen : Int))) ∧ Below w.heap.size w w' := by
  obtain ⟨h1, h2, O, h3, h4⟩ := h
  exact sto_generation h3
end

/-! ### a new store -/

theorem new_made {P : Nat → Prop} {n : Nat} (w : World) (h1 : 4 ≤ n) (h2 : n ≤ 1024) (hP : ∀ k, w.heap.size ≤ k → P k) :
    Calls Tryz.prog 48 #[.int .i64 (n : Int)] w fun e w' => e = .returned (.tuple #[.pointer (some ⟨w.heap.size, 0, none⟩), .int .i64 0]) ∧
      Below w.heap.size w w' ∧ Calls Tryz.prog 43 #[.pointer (some ⟨w.heap.size, 0, none⟩)] w' fun e w2 => ∃ s, e = .returned (.tuple #[.pointer (some ⟨s, 0, none⟩), .int .i64 0]) ∧ Box P w w2 s w.heap.size (Dsk.new n).sto := by
  refine (newDisk_good P n w h1 h2 hP).mono ?_
  rintro e w1 ⟨rfl, ⟨S, hD, hS⟩, hb⟩
  have hl : (Dsk.new n).blocks.length = n := by simp [Dsk.new]
  obtain ⟨z, _⟩ := fmt_up (Up.new n) (by omega)
  refine ⟨rfl, hb, (sto_format w1 hD ⟨by simp [Dsk.new], by simp [Dsk.new]⟩ z).mono ?_⟩
  rintro e w2 ⟨s, O, rfl, hA, hO, k⟩
  refine ⟨s, rfl, Nat.le_trans hb.size k.size, below_keeps hb k hb.size hS, O, hA, fun i hi => ?_⟩
  rcases hO i hi with h | h
  · exact hS i h
  · exact Nat.le_trans hb.size h
/-- What the new store is. -/
structure NewSto (X : Sto) (n : Nat) : Prop where
  up : Up X.disk
  len : X.disk.blocks.length = n
  life : X.life = 0
  dlife : X.disk.life = 0
  pend : X.disk.pending = []
  now : X.now = .zero
  pins : X.pins = []
  opened : X.opened = false
  notes : X.notes = []
  gone : X.gone = []
theorem NewSto.made {n : Nat} (h : 4 ≤ n) : NewSto (Dsk.new n).sto n := by
  have hl : (Dsk.new n).blocks.length = n := by simp [Dsk.new]
  obtain ⟨_, w, e⟩ := fmt_up (Up.new n) (by omega)
  exact ⟨w.up, w.len.trans hl, e, w.life, w.pend, rfl, rfl, rfl, rfl, rfl⟩
theorem NewSto.dead {X : Sto} {n : Nat} (h : NewSto X n) : isDead X.life X.disk = false := by unfold isDead; rw [h.life, h.dlife, h.up.down]; rfl
/-- The store with one key noted. -/
theorem NewSto.one {X : Sto} {n : Nat} (h : NewSto X n) (k l : List UInt8) : OneNote (X.begun.noted k l) n k l := by
  refine ⟨h.up, h.len, h.now, h.pins, ?_, ?_⟩
  · rfl
  · rfl
theorem OneDone.dead {X X' : Sto} {n : Nat} {k l : List UInt8} (h : OneDone X X' n k l) (hd : isDead X.life X.disk = false) : isDead X'.life X'.disk = false := by
  unfold isDead at hd ⊢
  rw [Bool.or_eq_false_iff] at hd
  rw [h.life, h.dlife, hd.1, h.up.down]
  rfl

theorem got_slice {B : Nat} {w : World} {v : Value} {l : List UInt8} (h : Got B w v l) : ∃ A c, v = .slice A l.length c := by
  rcases h with ⟨rfl, rfl⟩ | ⟨g, cap, cur, hv, _⟩
  · exact ⟨none, 0, rfl⟩
  · exact ⟨_, _, hv⟩
/-- make([]byte, n). -/
theorem Tryz.makeU8 (n : Nat) (hn : n ≤ 1000000) (w : World) : (Instr.makeSlice 89 (.int .i64 (n : Int)) (.int .i64 (n : Int))).run Tryz.prog w = .ok (.slice (some ⟨w.heap.size, 0, none⟩) n n) (w.alloc (.cells ((List.replicate n (0 : UInt8)).map bv).toArray 5)) := by
  obtain ⟨i0, hi, hz0, hz1, hz2⟩ := info_parts Tryz.infoU8
  have h := run_makeSlice (w := w) 89 5 i0 (.int .u8 0) Tryz.underlying89 hi hz0 .i64 .i64 (n : Int) (n : Int) (by omega) (by omega) (by rw [hz1]; omega) (by rw [hz2]; omega) (by omega)
  rw [h, hz1]
  have e : madeCells (Value.int IntKind.u8 0).cells ((n : Int).toNat * 1) = ((List.replicate n (0 : UInt8)).map bv).toArray := by
    show madeCells #[Value.int IntKind.u8 0] _ = _
    rw [madeCells_one, List.map_replicate]
    simp only [Int.toNat_natCast, Nat.mul_one]
    rfl
  rw [e]
  rfl
theorem made_bytes (n : Nat) (hn : n ≤ 1000000) (w : World) : BytesAt (w.heap.size ≤ ·) (w.alloc (.cells ((List.replicate n (0 : UInt8)).map bv).toArray 5)) (.slice (some ⟨w.heap.size, 0, none⟩) n n) (List.replicate n 0) :=
  ⟨w.heap.size, n, _, by rw [List.length_replicate], Nat.le_refl _, Blk.new w _ _, by rw [List.length_replicate]; exact Nat.le_refl _, by unfold maxLen; omega, by simp, by simp⟩

end Go.Proofs.YtbgiklkpinflaaaGreat

namespace Go.Proofs.YtbgiklkpinflaaaGreat
open Go.RowKit Go.Shelf Go.Maps

/-- The disk holds the state st with its root and its index; the other root is an elder one, or none. -/
structure Rooted (D : Dsk) (st : St) : Prop where
  root : D.see (st.gen % 2) = rootOf st.gen (st.index[0]?.getD 0) (writtenOf st.places)
  idx : ∀ i (h : i < st.index.length), D.see st.index[i] = blockOf (part (writtenOf st.places) i) (st.index[i + 1]?.getD 0)
  len : st.index.length = max 1 (need (writtenOf st.places).length)
  nod : st.index.Nodup
  blk : ∀ b ∈ st.index, 2 ≤ b ∧ b < D.blocks.length
  other : D.see ((st.gen + 1) % 2) = zeros ∨ ∃ g x b, g < st.gen ∧ D.see ((st.gen + 1) % 2) = rootOf g x b
theorem Rooted.two {D : Dsk} {st : St} (h : Rooted D st) : 2 < D.blocks.length := by
  have h1 := h.len
  have h2 : 0 < st.index.length := by omega
  have h3 := h.blk _ (List.getElem_mem h2)
  omega
/-- A commit roots its state. -/
theorem commit_rooted' {D D' : Dsk} {st st' : St} {ns : List (List UInt8 × List UInt8)} {gs : List (List UInt8 × Unit)} {n : Nat} {sts : List St} (h : Rooted D st) (hs : Srt ns) (hl : D.blocks.length = n) (hn : st.next ns gs (freeOf n sts) = some st')
    (hlen : D'.blocks.length = D.blocks.length) (hsee : ∀ b, b < D.blocks.length → D'.see b = (seeIn (commitList st' ns) b).getD (D.see b)) : Rooted D' st' := by
  obtain ⟨hnd, hb, hi⟩ := commit_nodup hn hs
  have hg := next_gen hn
  have h2 := h.two
  have hib : ∀ b ∈ st'.index, 2 ≤ b ∧ b < D.blocks.length := fun b hb => by
    have := mem_freeOf.1 (hi b hb)
    omega
  refine ⟨?_, fun i hi => ?_, ?_, ?_, fun b hb => by rw [hlen]; exact hib b hb, ?_⟩
  · have hm : (st'.gen % 2, rootOf st'.gen (st'.index[0]?.getD 0) (writtenOf st'.places)) ∈ commitList st' ns := by
      unfold commitList saveList
      simp
    rw [hsee _ (by omega), seeIn_mem hnd hm]
    rfl
  · have hm : (st'.index[i], blockOf (part (writtenOf st'.places) i) (st'.index[i + 1]?.getD 0)) ∈ commitList st' ns := by
      unfold commitList saveList
      refine List.mem_append.2 (.inr (List.mem_append.2 (.inl ?_)))
      unfold spreadList
      exact List.mem_map.2 ⟨i, List.mem_range.2 hi, by rw [List.getElem?_eq_getElem hi]; rfl⟩
    rw [hsee _ (hib _ (List.getElem_mem hi)).2, seeIn_mem hnd hm]
    rfl
  · obtain ⟨acc, _, _, h3⟩ := next_parts hn
    exact h3
  · have e : (commitList st' ns).map (·.1) = (ns.flatMap fun x => blocksOf st'.places x.1) ++ (st'.index ++ [st'.gen % 2]) := by
      unfold commitList
      rw [List.map_append, valueList_blocks, saveList_blocks]
    rw [e] at hnd
    exact (List.nodup_append.1 (List.nodup_append.1 hnd).2.1).1
  · have e1 : (st'.gen + 1) % 2 = st.gen % 2 := by omega
    have e2 : st.gen % 2 ∉ (commitList st' ns).map (·.1) := fun hm => by
      rcases hb _ hm with h3 | h3
      · have := (mem_freeOf.1 h3).2.1
        omega
      · omega
    refine .inr ⟨st.gen, st.index[0]?.getD 0, writtenOf st.places, by omega, ?_⟩
    rw [e1, hsee _ (by omega), seeIn_none e2, Option.getD_none, h.root]
theorem commit_rooted {D D' : Dsk} {st st' : St} {ns : List (List UInt8 × List UInt8)} {gs : List (List UInt8 × Unit)} {n : Nat} {sts : List St} (h : Rooted D st) (hs : Srt ns) (hl : D.blocks.length = n) (hn : st.next ns gs (freeOf n sts) = some st') (w : Wrote D D' (commitList st' ns)) : Rooted D' st' :=
  commit_rooted' h hs hl hn w.len w.see
/-- A new store is rooted. -/
theorem fmt_rooted {D : Dsk} (h : Up D) (h3 : 3 ≤ D.blocks.length) : Rooted D.fmt.2 .zero := by
  obtain ⟨_, w, _⟩ := fmt_up h h3
  have hL : wipes ++ saveList .zero = [(0, zeros), (1, zeros), (2, blockOf (part [] 0) 0), (0, rootOf 0 2 [])] := rfl
  have s0 : seeIn (wipes ++ saveList .zero) 0 = some (rootOf 0 2 []) := by rw [hL]; simp [seeIn_cons, seeIn_nil]
  have s1 : seeIn (wipes ++ saveList .zero) 1 = some zeros := by rw [hL]; simp [seeIn_cons, seeIn_nil]
  have s2 : seeIn (wipes ++ saveList .zero) 2 = some (blockOf (part [] 0) 0) := by rw [hL]; simp [seeIn_cons, seeIn_nil]
  refine ⟨?_, fun i hi => ?_, rfl, by simp [St.zero], fun b hb => ?_, .inl ?_⟩
  · show D.fmt.2.see 0 = _
    rw [w.see 0 (by omega), s0]
    rfl
  · have hi0 : i = 0 := by
      have : i < 1 := hi
      omega
    subst hi0
    show D.fmt.2.see 2 = _
    rw [w.see 2 (by omega), s2]
    rfl
  · have hb : b = 2 := by simpa [St.zero] using hb
    rw [w.len]
    omega
  · show D.fmt.2.see 1 = zeros
    rw [w.see 1 (by omega), s1]
    rfl
theorem new_rooted {n : Nat} (h : 4 ≤ n) : Rooted (Dsk.new n).sto.disk (Dsk.new n).sto.now := by
  have hl : (Dsk.new n).blocks.length = n := by simp [Dsk.new]
  exact fmt_rooted (Up.new n) (by omega)
/-- Which calls are armed, and that the state is rooted. -/
def Quiet (Ar : Nat → Prop) (D : Dsk) (st : St) : Prop := Ar D.armed ∧ Rooted D st
abbrev Unarmed : Nat → Prop := fun a => a = 0

end Go.Proofs.YtbgiklkpinflaaaGreat
