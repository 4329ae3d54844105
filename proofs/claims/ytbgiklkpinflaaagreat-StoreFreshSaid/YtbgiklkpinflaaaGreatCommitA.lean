/- Commit: plain facts. Commit. -/
import Derived.Test.YtbgiklkpinflaaaGreatNextA

namespace Go.Proofs.YtbgiklkpinflaaaGreat
open Go.RowKit Go.Shelf Go.Maps

/-- The writes of a value. -/
def blockList (bs : List Nat) (l : List UInt8) : List (Nat × List UInt8) := (List.range bs.length).map fun i => (bs[i]?.getD 0, blockOf (part l i) 0)
def blocksOf (ps : List (List UInt8 × Place)) (k : List UInt8) : List Nat := ((mget ps k).map fun p => p.blocks).getD []
def valueList (ps : List (List UInt8 × Place)) (ns : List (List UInt8 × List UInt8)) : List (Nat × List UInt8) := ns.flatMap fun x => blockList (blocksOf ps x.1) x.2
theorem blockList_length (bs : List Nat) (l : List UInt8) : (blockList bs l).length = bs.length := by simp [blockList]
theorem blockList_drop (bs : List Nat) (l : List UInt8) {i : Nat} (h : i < bs.length) : (blockList bs l).drop i = (bs[i], blockOf (part l i) 0) :: (blockList bs l).drop (i + 1) := by
  have hl : i < (blockList bs l).length := by rw [blockList_length]; exact h
  rw [List.drop_eq_getElem_cons hl]
  simp [blockList, h]
theorem valueList_drop (ps : List (List UInt8 × Place)) (ns : List (List UInt8 × List UInt8)) {k : Nat} (h : k < ns.length) : valueList ps (ns.drop k) = blockList (blocksOf ps ns[k].1) ns[k].2 ++ valueList ps (ns.drop (k + 1)) := by
  unfold valueList
  rw [List.drop_eq_getElem_cons h, List.flatMap_cons]

/-- What Commit does to the disk, and the state that it makes. -/
def commitRes (D : Dsk) (ns : List (List UInt8 × List UInt8)) : Option St → Int × Dsk × Option St
  | none => (52, D, none)
  | some st' =>
    if (writes (valueList st'.places ns) D).1 = 0 then
      (((writes (valueList st'.places ns) D).2.save st').1, ((writes (valueList st'.places ns) D).2.save st').2, if ((writes (valueList st'.places ns) D).2.save st').1 = 0 then some st' else none)
    else ((writes (valueList st'.places ns) D).1, (writes (valueList st'.places ns) D).2, none)
def Dsk.commit (D : Dsk) (st : St) (ns : List (List UInt8 × List UInt8)) (gs : List (List UInt8 × Unit)) (sts : List St) : Int × Dsk × Option St :=
  commitRes D ns (st.next ns gs (freeOf D.blocks.length (st :: sts)))

theorem find_none {α : Type} {p : α → Bool} {l : List α} (h : ∀ x ∈ l, p x = false) : l.find? p = none := List.find?_eq_none.2 fun x hx => by rw [h x hx]; simp
theorem mget_minsert_self {α : Type} (k : List UInt8) (a : α) : ∀ {m : List (List UInt8 × α)}, (∀ y ∈ m, y.1 ≠ k) → mget (minsert (k, a) m) k = some a
  | [], _ => by simp [mget, Go.Proofs.YtbgiklkpinflaaaGreat.minsert]
  | y :: r, h => by
    unfold Go.Proofs.YtbgiklkpinflaaaGreat.minsert
    split
    · simp [mget]
    · have hy : ¬ y.1 = k := h y (by simp)
      have ih := mget_minsert_self k a (m := r) (fun z hz => h z (by simp [hz]))
      unfold mget at ih ⊢
      rw [List.find?_cons_of_neg (by simpa using hy)]
      exact ih
theorem mget_mput_self {α : Type} (m : List (List UInt8 × α)) (k : List UInt8) (a : α) : mget (mput m k a) k = some a := mget_minsert_self k a fun _ hy => (mdel_mem hy).2
theorem mget_minsert_ne {α : Type} {k j : List UInt8} (a : α) (hne : k ≠ j) : ∀ m : List (List UInt8 × α), mget (minsert (k, a) m) j = mget m j
  | [] => by simp [mget, Go.Proofs.YtbgiklkpinflaaaGreat.minsert, hne]
  | y :: r => by
    unfold Go.Proofs.YtbgiklkpinflaaaGreat.minsert
    split
    · unfold mget
      rw [List.find?_cons_of_neg (by simpa using hne)]
    · have ih := mget_minsert_ne a hne r
      unfold mget at ih ⊢
      by_cases hy : y.1 = j
      · rw [List.find?_cons_of_pos (by simpa using hy), List.find?_cons_of_pos (by simpa using hy)]
      · rw [List.find?_cons_of_neg (by simpa using hy), List.find?_cons_of_neg (by simpa using hy)]
        exact ih
theorem mget_mdel_ne {α : Type} {k j : List UInt8} (hne : k ≠ j) (m : List (List UInt8 × α)) : mget (mdel m k) j = mget m j := by
  unfold mget mdel
  rw [List.find?_filter]
  congr 2
  funext p
  by_cases h : p.1 = j
  · simp [h]
    exact fun e => hne e.symm
  · simp [h]
theorem mget_mput_ne {α : Type} {k j : List UInt8} (a : α) (hne : k ≠ j) (m : List (List UInt8 × α)) : mget (mput m k a) j = mget m j := by
  unfold mput
  rw [mget_minsert_ne a hne, mget_mdel_ne hne]

theorem takeAll_cons (x : List UInt8 × List UInt8) (r : List (List UInt8 × List UInt8)) (acc : Acc) : takeAll (x :: r) acc = (takeStep acc x).bind fun a => takeAll r a := by simp [takeAll, List.foldlM]
/-- What is put by none of the notes stays. -/
theorem takeAll_other {ns : List (List UInt8 × List UInt8)} {acc : Acc} {ps' : List (List UInt8 × Place)} {fr' : List Nat} {k : List UInt8} (h : takeAll ns acc = some (ps', fr')) (hk : ∀ x ∈ ns, x.1 ≠ k) : mget ps' k = mget acc.1 k := by
  induction ns generalizing acc with
  | nil =>
    have : acc = (ps', fr') := by simpa [takeAll] using h
    rw [this]
  | cons x r ih =>
    rw [takeAll_cons] at h
    cases hst : takeStep acc x with
    | none => rw [hst] at h; cases h
    | some a =>
      rw [hst] at h
      rw [ih (acc := a) h (fun y hy => hk y (by simp [hy]))]
      unfold takeStep at hst
      split at hst
      · injection hst with hst
        rw [← hst]
        exact mget_mput_ne _ (hk x (by simp)) _
      · cases hst
/-- Each note has its place. -/
theorem takeAll_has {ns : List (List UInt8 × List UInt8)} {acc : Acc} {ps' : List (List UInt8 × Place)} {fr' : List Nat} (h : takeAll ns acc = some (ps', fr')) (hs : Srt ns) : ∀ x ∈ ns, ∃ bs, mget ps' x.1 = some ⟨x.2.length, crc x.2, bs⟩ ∧ bs.length = need x.2.length := by
  induction ns generalizing acc with
  | nil => intro x hx; simp at hx
  | cons y r ih =>
    intro x hx
    rw [takeAll_cons] at h
    unfold Srt at hs
    rw [List.pairwise_cons] at hs
    cases hst : takeStep acc y with
    | none => rw [hst] at h; cases h
    | some a =>
      rw [hst] at h
      rcases List.mem_cons.1 hx with rfl | hx
      · have hne : ∀ z ∈ r, z.1 ≠ x.1 := fun z hz e => by
          have := hs.1 z hz
          rw [e] at this
          exact List.lt_irrefl _ this
        rw [takeAll_other (acc := a) h hne]
        unfold takeStep at hst
        split at hst
        · rename_i hnd
          injection hst with hst
          rw [← hst]
          exact ⟨_, mget_mput_self _ _ _, by rw [List.length_take]; omega⟩
        · cases hst
      · exact ih (acc := a) h hs.2 x hx

section
variable {P : Nat → Prop} {w w1 : World} {d : Nat} {D D0 : Dsk} {S : List Nat}
theorem After.keeps_ (h : After P w w1 d D S) : Keeps (· ∈ S) w w1 := let ⟨_, _, _, k⟩ := h; k
theorem After.map (h : After P w w1 d D S) (hD : DiskAt P w d D0 S) {b : Nat} {M : List (List UInt8 × Value)} (hM : MapAt w b M) : MapAt w1 b M :=
  hM.keeps h.keeps_ fun hm => by
    obtain ⟨t, cs, hk, _⟩ := hD.lt _ hm
    exact hM.not_blk hk
theorem After.nums (h : After P w w1 d D S) (hD : DiskAt P w d D0 S) {v : Value} {l : List Nat} (hN : NumsAt w v l) : NumsAt w1 v l :=
  hN.keeps h.keeps_ fun g cs hg hb => hD.no (by decide) (by decide) (by decide) hg hb
end

end Go.Proofs.YtbgiklkpinflaaaGreat

namespace Go.Proofs.YtbgiklkpinflaaaGreat
open Go.RowKit Go.Shelf Go.Maps
attribute [local go_sem ↓] Go.wp_at_zero Go.wp_at_succ

set_option maxRecDepth 100000 in
set_option maxHeartbeats 2000000 in
theorem commit_closed {P : Nat → Prop} {w : World} {s d life a : Nat} {pv nv gv : Value} {op : Bool} {D : Dsk} {S : List Nat} (hs : StoBlk w s d life a pv op nv gv) (hD : DiskAt P w d D S) (hno : readyCode life D op ≠ 0) :
    Calls Tryz.prog 21 #[.pointer (some ⟨s, 0, none⟩)] w fun e w' => e = .returned (.int .i64 (readyCode life D op)) ∧ ∃ n, w' = w.drewN n := by
  have HR := Lib.hid (ready_calls hs hD)
  obtain ⟨c, hc⟩ : ∃ c, c = readyCode life D op := ⟨_, rfl⟩
  rw [← hc] at HR hno ⊢
  have tz : (c != 0) = true := by simpa using hno
  clear hs hc hno
  go_enter Tryz.func21, Tryz.ntmps21
  go_wp2_with (go_at_call 70; refine HR.out.mono ?_; rintro e w1 ⟨rfl, nq, rfl⟩)
  go_ret
  exact ⟨rfl, _, rfl⟩

def CommitPost (P : Nat → Prop) (w : World) (s d life a nb gb : Nat) (pv : Value) (S : List Nat) (C : Int × Dsk × Option St) (e : Ending) (w' : World) : Prop :=
  e = .returned (.int .i64 C.1) ∧
  (∃ S', DiskAt P w' d C.2.1 S' ∧ (∀ k ∈ S', k ∈ S ∨ w.heap.size ≤ k)) ∧ Keeps (fun i => i = s ∨ i ∈ S) w w' ∧
  ((C.2.2 = none ∧ StoBlk w' s d life a pv true (.map (some nb)) (.map (some gb))) ∨
   (∃ st' a' mb', C.2.2 = some st' ∧ StoBlk w' s d life a' pv false (.map none) (.map none) ∧ StateAt w' a' mb' st' ∧ w.heap.size ≤ a' ∧ w.heap.size ≤ mb'))

/-- k of the values are written. -/
def Committing (P : Nat → Prop) (w7 : World) (d : Nat) (S : List Nat) (D : Dsk) (vl rest : List (Nat × List UInt8)) (c0 : Nat) (wr : World) : Prop :=
  ∃ Di, writes rest Di = writes vl D ∧ After P w7 wr d Di S ∧ Small Di (rest.length + c0)

theorem next_parts {st st' : St} {ns : List (List UInt8 × List UInt8)} {gs : List (List UInt8 × Unit)} {fr : List Nat} (h : st.next ns gs fr = some st') : ∃ acc : Acc, takeAll ns (lessGone st.places gs, fr) = some acc ∧ st'.places = acc.1 ∧ st'.index.length = max 1 (need (writtenOf st'.places).length) := by
  unfold St.next at h
  cases ht : takeAll ns (lessGone st.places gs, fr) with
  | none => rw [ht] at h; cases h
  | some acc =>
    rw [ht] at h
    have h : (if max 1 (need (writtenOf acc.1).length) ≤ acc.2.length then some (⟨st.gen + 1, acc.1, acc.2.take (max 1 (need (writtenOf acc.1).length))⟩ : St) else none) = some st' := h
    split at h
    · rename_i hle
      injection h with h
      subst h
      exact ⟨acc, rfl, rfl, by simp only [List.length_take]; omega⟩
    · cases h
theorem takeAll_sum {ns : List (List UInt8 × List UInt8)} {acc acc' : Acc} (h : takeAll ns acc = some acc') : (ns.map fun x => need x.2.length).sum + acc'.2.length = acc.2.length := by
  induction ns generalizing acc with
  | nil =>
    have : acc = acc' := by simpa [takeAll] using h
    rw [this]
    simp
  | cons x r ih =>
    rw [takeAll_cons] at h
    cases hst : takeStep acc x with
    | none => rw [hst] at h; cases h
    | some a =>
      rw [hst] at h
      have h1 := ih (acc := a) h
      rw [List.map_cons, List.sum_cons]
      unfold takeStep at hst
      split at hst
      · injection hst with hst
        rw [← hst, List.length_drop] at h1
        omega
      · cases hst
theorem valueList_length {ps : List (List UInt8 × Place)} : ∀ {ns : List (List UInt8 × List UInt8)}, (∀ x ∈ ns, ∃ bs, mget ps x.1 = some ⟨x.2.length, crc x.2, bs⟩ ∧ bs.length = need x.2.length) → (valueList ps ns).length = (ns.map fun x => need x.2.length).sum
  | [], _ => rfl
  | x :: r, h => by
    obtain ⟨bs, h1, h2⟩ := h x (by simp)
    have e : valueList ps (x :: r) = blockList (blocksOf ps x.1) x.2 ++ valueList ps r := rfl
    have e2 : blocksOf ps x.1 = bs := by unfold blocksOf; rw [h1]; rfl
    rw [e, List.length_append, blockList_length, e2, h2, valueList_length (fun y hy => h y (by simp [hy])), List.map_cons, List.sum_cons]
/-- The keys of the notes. -/
theorem notes_keys {w : World} {nb : Nat} {ns : List (List UInt8 × List UInt8)} (h : NotesW w nb ns) (hs : Srt ns) (hl : ns.length ≤ 1000) :
    Calls Tryz.prog 72 #[.func (.func 116) #[] #[.pointer (some ⟨w.heap.size, 0, none⟩)]] (w.alloc (.cells #[.map (some nb)] 97)) fun e w' => ∃ v, e = .returned v ∧ StrsAt w' w.heap.size v (ns.map (·.1)) ∧ Below w.heap.size w w' := by
  obtain ⟨ln, hM, rfl, _⟩ := h
  have hsrt : Srt (mmap (fun x : Value × List UInt8 => x.1) ln) := by
    unfold Srt mmap at hs ⊢
    rw [List.pairwise_map] at hs ⊢
    exact hs
  refine (keys_notes w nb _ hM hsrt (by rw [mmap_length] at hl ⊢; omega)).mono ?_
  rintro e w' ⟨v, rfl, h1, h2⟩
  refine ⟨v, rfl, ?_, h2⟩
  have e1 : (mmap (fun x : Value × List UInt8 => x.1) ln).map (·.1) = (mmap (fun x : Value × List UInt8 => x.2) ln).map (·.1) := by simp [mmap]
  rw [← e1]
  exact h1

theorem commit_step {P : Nat → Prop} {w7 wr w8 w9 : World} {d : Nat} {S Sj : List Nat} {D Dj : Dsk} {vl rest : List (Nat × List UInt8)} {bs : List Nat} {lv : List UInt8} {j b c0 : Nat} {rj : Int × Dsk} (hj : j < bs.length) (hb : b = bs[j]) (hr : rj = Dj.write (b : Int) (blockOf (part lv j) 0)) (hw : writes ((blockList bs lv).drop j ++ rest) Dj = writes vl D)
    (hsm : Small Dj (((blockList bs lv).drop j ++ rest).length + c0)) (hnx : ∀ w2 D2, After P wr w2 d D2 Sj → After P w7 w2 d D2 S) (hbel : Below wr.drew.heap.size wr.drew w8) (hAf : After P w8 w9 d rj.2 Sj) :
    (rj.1 = 0 → Committing P w7 d S D vl ((blockList bs lv).drop (j + 1) ++ rest) c0 w9) ∧ (rj.1 ≠ 0 → writes vl D = rj ∧ After P w7 w9 d rj.2 S) := by
  have hA := hnx _ _ (After.trans (fun _ h => .inl h) (Keeps.of_below (F := (· ∈ Sj)) (below_drew hbel)) hAf)
  rw [blockList_drop bs lv hj, List.cons_append] at hw hsm
  rw [← hb] at hw hsm
  have e : writes ((b, blockOf (part lv j) 0) :: ((blockList bs lv).drop (j + 1) ++ rest)) Dj = if rj.1 = 0 then writes ((blockList bs lv).drop (j + 1) ++ rest) rj.2 else rj := by rw [hr]; rfl
  rw [e] at hw
  constructor
  · intro hz
    rw [if_pos hz] at hw
    refine ⟨rj.2, hw, hA, ?_⟩
    rw [hr]
    exact Dsk.write_small (hsm.mono (by rw [List.length_cons]; omega))
  · intro hz
    rw [if_neg hz] at hw
    exact ⟨hw.symm, hA⟩
theorem commit_no {P : Nat → Prop} {w w7 w9 : World} {s d life a nb gb : Nat} {pv : Value} {S : List Nat} {D D' : Dsk} {c : Int} (hB : Below w.heap.size w w7) (hD : DiskAt P w7 d D S) (hs : StoBlk w7 s d life a pv true (.map (some nb)) (.map (some gb))) (hA : After P w7 w9 d D' S) :
    CommitPost P w s d life a nb gb pv S (c, D', none) (.returned (.int .i64 c)) w9 := by
  have hS := hA.blk hD hs (by decide) (by decide) (by decide)
  have hk := hA.keeps_
  obtain ⟨S', h1, h2, _⟩ := hA
  refine ⟨rfl, ⟨S', h1, fun k hk => (h2 k hk).imp id fun h => Nat.le_trans hB.size h⟩, ?_, .inl ⟨rfl, hS⟩⟩
  exact ((Keeps.of_below (F := fun _ => False) hB).weaken (F := fun i => i = s ∨ i ∈ S) (fun _ _ h => h.elim)).trans hk (fun _ _ h => .inr h)

theorem commit_yes {P : Nat → Prop} {w w7 w8 : World} {s d life a nb gb a' mb' : Nat} {pv : Value} {S : List Nat} {st' : St} {rs : Int × Dsk} (hB : Below w.heap.size w w7) (hA : After P w7 w8 d rs.2 S) (hS : StoBlk w8 s d life a pv true (.map (some nb)) (.map (some gb))) (hsa : StateAt w8 a' mb' st') (h1 : w.heap.size ≤ a') (h2 : w.heap.size ≤ mb') (hz : rs.1 = 0) :
    CommitPost P w s d life a nb gb pv S (rs.1, rs.2, some st') (.returned (.int .i64 0)) ((((w8.setCell ⟨s, 2, none⟩ (.pointer (some ⟨a', 0, none⟩))).setCell ⟨s, 4, none⟩ (.bool false)).setCell ⟨s, 5, none⟩ (.map none)).setCell ⟨s, 6, none⟩ (.map none)) := by
  have hk := hA.keeps_
  obtain ⟨S', hD', hS', _⟩ := hA
  have k : Keeps (· = s) w8 ((((w8.setCell ⟨s, 2, none⟩ (.pointer (some ⟨a', 0, none⟩))).setCell ⟨s, 4, none⟩ (.bool false)).setCell ⟨s, 5, none⟩ (.map none)).setCell ⟨s, 6, none⟩ (.map none)) :=
    (((Keeps.set1 w8 s 2 _).trans (Keeps.set1 _ s 4 _) (fun _ _ h => h)).trans (Keeps.set1 _ s 5 _) (fun _ _ h => h)).trans (Keeps.set1 _ s 6 _) (fun _ _ h => h)
  refine ⟨by rw [hz], ⟨S', hD'.keeps k (fun g hg e => ?_) (fun g cs e _ hb => ?_), fun k hk => (hS' k hk).imp id fun h => Nat.le_trans hB.size h⟩, ?_, .inr ⟨st', a', mb', rfl, ?_, ?_, h1, h2⟩⟩
  · subst e
    exact hD'.no (by decide) (by decide) (by decide) hg hS
  · subst e
    exact hb.ne_ hS (by decide) rfl
  · exact (((Keeps.of_below (F := fun _ => False) hB).weaken (F := fun i => i = s ∨ i ∈ S) (fun _ _ h => h.elim)).trans hk (fun _ _ h => .inr h)).trans k (fun _ _ h => .inl h)
  · exact (((Blk.set_ hS 2 _).set_ 4 _).set_ 5 _).set_ 6 _
  · refine hsa.keeps k (fun g t cs e hb => ?_) (fun e => ?_)
    · subst e
      have := (hb.det hS).2
      subst this
      exact ⟨by decide, by decide⟩
    · obtain ⟨_, _, _, _, hM, _⟩ := hsa
      exact hM.not_blk (e ▸ hS)

set_option maxRecDepth 100000 in
set_option maxHeartbeats 16000000 in
theorem commit_calls {P : Nat → Prop} {w : World} {s d life a mb nb gb : Nat} {pv : Value} {D : Dsk} {S : List Nat} {st : St} {pins : List PinPlace} {sts : List St} {ns : List (List UInt8 × List UInt8)} {gs : List (List UInt8 × Unit)}
    (hs : StoBlk w s d life a pv true (.map (some nb)) (.map (some gb))) (hD : DiskAt P w d D S) (hst : StateAt w a mb st) (hp : PinsAt w s pv pins sts) (hN : NotesW w nb ns) (hG : GoneAt w gb gs)
    (hok : StOk D.blocks.length st) (hoks : ∀ x ∈ sts, StOk D.blocks.length x) (hpn : pins.length ≤ 1000) (hsn : Srt ns) (hsg : Srt gs) (hkn : ∀ x ∈ ns, x.1.length ≤ 64 ∧ x.2.length ≤ 65536) (hln : ns.length ≤ 512)
    (hok' : ∀ st', st.next ns gs (freeOf D.blocks.length (st :: sts)) = some st' → StOk D.blocks.length st') (hdd : isDead life D = false) (hsm : Small D 3000) :
    Calls Tryz.prog 21 #[.pointer (some ⟨s, 0, none⟩)] w (CommitPost P w s d life a nb gb pv S (D.commit st ns gs sts)) := by
  have hrc : readyCode life D true = 0 := by unfold readyCode; rw [hdd]; rfl
  have HR := Lib.hid (ready_calls hs hD)
  rw [hrc] at HR
  obtain ⟨C, hC⟩ : ∃ C, C = D.commit st ns gs sts := ⟨_, rfl⟩
  rw [← hC]
  obtain ⟨fr, hfr⟩ : ∃ fr, fr = freeOf D.blocks.length (st :: sts) := ⟨_, rfl⟩
  rw [← hfr] at hok'
  have hfrl : fr.length ≤ 1024 := by
    rw [hfr]
    have h1 := List.length_filter_le (fun i => decide (2 ≤ i) && !takenBy (st :: sts) i) (List.range D.blocks.length)
    rw [List.length_range] at h1
    exact Nat.le_trans h1 hD.1.few
  have hfree : ∀ w1, Below w.heap.size w w1 → Calls Tryz.prog 66 #[.pointer (some ⟨s, 0, none⟩)] w1 fun e w' => ∃ v, e = .returned v ∧ w'.ownsRow w1.heap.size 3 1 v fr.length (fr.map Go.Proofs.YtbgiklkpinflaaaGreat.nv) ∧ Below w1.heap.size w1 w' := by
    intro w1 hb
    rw [hfr]
    exact free_calls (Blk.below hs hb (Blk.lt hs)) (hD.below hb) (hst.below hb) (hp.keeps (F := fun _ => False) (Keeps.of_below hb) (fun _ _ h => h) (fun _ _ _ h => h.elim) (fun _ _ h => h)) hok hoks hpn
  obtain ⟨R, hRR⟩ : ∃ R, R = st.next ns gs fr := ⟨_, rfl⟩
  rw [← hRR] at hok'
  have hnext : ∀ w1 fv, Below w.heap.size w w1 → FreeAt w1 fv fr → Calls Tryz.prog 71 #[.pointer (some ⟨s, 0, none⟩), fv] w1 (NextPost w1 R) := by
    intro w1 fv hb hf
    rw [hRR]
    exact next_calls (Blk.below hs hb (Blk.lt hs)) (hst.below hb) hok (hN.below hb) (MapAt.below hG hb) hf hsn hsg hkn hln hfrl
  have hCe : C = commitRes D ns R := by
    rw [hC, hRR, hfr]
    rfl
  have HFR := Lib.hid hfree
  have HNX := Lib.hid hnext
  have HCE := Lib.hid hCe
  have HRR := Lib.hid hRR
  have HS := Lib.hid hs
  have HD := Lib.hid hD
  have HST := Lib.hid hst
  have HP := Lib.hid hp
  have HN := Lib.hid hN
  have HG := Lib.hid hG
  have HOK := Lib.hid hok
  have HOK' := Lib.hid hok'
  have HSN := Lib.hid hsn
  have HKN := Lib.hid hkn
  clear hrc hfree hnext hCe hC hfr hs hD hst hp hN hG hok hoks hok' hsn hsg hkn hdd
  cases R with
  | none =>
    clear hRR
    go_enter Tryz.func21, Tryz.ntmps21
    go_wp2_with (first
      | (go_at_call 70; refine HR.out.mono ?_; rintro e w1 ⟨rfl, nq, hw1⟩; have HB1 : Hid (Below w.heap.size w w1) := (by show Below w.heap.size w w1; rw [hw1]; exact (Below.refl _ w).drewN_ nq); clear hw1)
      | (go_at_call 66; refine (HFR.out _ HB1.out).mono ?_; rintro e w2 ⟨v, rfl, hown, hb2⟩; have HB2 : Hid (Below w.heap.size w w2) := HB1.out.trans (hb2.mono HB1.out.size); have HFA := Lib.hid (FreeAt.of_own hown); clear hown hb2)
      | (go_at_call 71; refine (HNX.out _ _ HB2.out HFA.out).mono ?_; rintro e w3 ⟨hb3, hX⟩; obtain ⟨v3, rfl⟩ : ∃ v3, e = .returned (.tuple #[v3, .bool false]) := (by rcases hX with ⟨_, h⟩ | ⟨_, _, _, h, _⟩; exact h; cases h); have HB3 : Hid (Below w.heap.size w w3) := HB2.out.trans (hb3.mono HB2.out.size); clear hX hb3))
    go_ret
    rw [HCE.out]
    exact ⟨rfl, ⟨S, HD.out.below HB3.out, fun _ h => .inl h⟩, Keeps.of_below HB3.out, .inl ⟨rfl, Blk.below HS.out HB3.out (Blk.lt HS.out)⟩⟩
  | some st' =>
    have hSK := HOK'.out st' rfl
    obtain ⟨acc, hacc, hst2⟩ := next_parts HRR.out.symm
    have hhas := takeAll_has hacc HSN.out
    rw [← hst2.1] at hhas
    have hvl1 : (valueList st'.places ns).length ≤ 1024 := by
      have h1 := valueList_length hhas
      have h2 := takeAll_sum hacc
      simp only at h2
      omega
    have HVL1 := Lib.hid hvl1
    have HHAS := Lib.hid hhas
    have HSK := Lib.hid hSK
    have HIDX := Lib.hid hst2.2
    have hidl : st'.index.length ≤ 1024 := hSK.index1
    obtain ⟨N, hNe⟩ : ∃ N, N = ns.length := ⟨_, rfl⟩
    rw [← hNe] at hln
    have HNL := Lib.hid hNe
    clear hacc hst2 hhas hRR hSK hNe hvl1
    go_enter Tryz.func21, Tryz.ntmps21
    go_wp2_with (first
      | (go_at_call 70; refine HR.out.mono ?_; rintro e w1 ⟨rfl, nq, hw1⟩; have HB1 : Hid (Below w.heap.size w w1) := (by show Below w.heap.size w w1; rw [hw1]; exact (Below.refl _ w).drewN_ nq); clear hw1)
      | (go_at_call 66; refine (HFR.out _ HB1.out).mono ?_; rintro e w2 ⟨v, rfl, hown, hb2⟩; have HB2 : Hid (Below w.heap.size w w2) := HB1.out.trans (hb2.mono HB1.out.size); have HFA := Lib.hid (FreeAt.of_own hown); clear hown hb2)
      | (go_at_call 71; refine (HNX.out _ _ HB2.out HFA.out).mono ?_; rintro e w3 ⟨hb3, hX⟩; obtain ⟨a', mb', rfl, hsa, ha1, ha2⟩ : ∃ a' mb', e = .returned (.tuple #[.pointer (some ⟨a', 0, none⟩), .bool true]) ∧ StateAt w3 a' mb' st' ∧ w2.heap.size ≤ a' ∧ w2.heap.size ≤ mb' := (by rcases hX with ⟨h, _⟩ | ⟨st1, a', mb', h1, h2, h3, h4, h5⟩; cases h; cases h1; exact ⟨a', mb', h2, h3, h4, h5⟩); have HB3 : Hid (Below w.heap.size w w3) := HB2.out.trans (hb3.mono HB2.out.size); have HSA := Lib.hid hsa; have HA := Lib.hid (And.intro ha1 ha2); have c35 : w3.cell? ⟨s, 5, none⟩ = some (.map (some nb)) := (Blk.below HS.out HB3.out (Blk.lt HS.out)).cell 5; clear hX hb3 hsa ha1 ha2)
      | (go_at_call 73; refine (callsIn_wide.1 (Tryz.maps_Keys_73 _ _)).mono ?_; rintro e w' ⟨rfl, rfl⟩)
      | (go_at_call 72; refine (notes_keys (HN.out.below HB3.out) HSN.out (by rw [← HNL.out]; omega)).mono ?_; rintro e w7 ⟨vk, rfl, hstr, hbel⟩; obtain ⟨Ak, ck, hvk, hck⟩ := own_slice hstr; rw [List.length_map, ← HNL.out] at hvk; subst hvk; have HCK := Lib.hid hck; have HSTR := Lib.hid hstr; have HBEL := Lib.hid hbel; clear hck hstr hbel))
    have HB7 : Hid (Below w.heap.size w w7) := HB3.out.trans (HBEL.out.mono HB3.out.size)
    have HD7 := Lib.hid (HD.out.below HB7.out)
    have HS7 : Hid (StoBlk w7 s d life a pv true (.map (some nb)) (.map (some gb))) := Blk.below HS.out HB7.out (Blk.lt HS.out)
    have HSA7 := Lib.hid (HSA.out.below HBEL.out)
    obtain ⟨ln, hMn, hns, hnv⟩ := HN.out.below HB7.out
    have hsrt : Srt (mmap (fun x : Value × List UInt8 => x.1) ln) := by
      have h1 := HSN.out
      rw [hns] at h1
      unfold Srt mmap at h1 ⊢
      rw [List.pairwise_map] at h1 ⊢
      exact h1
    have HMN := Lib.hid hMn
    have HNS := Lib.hid hns
    have HNV := Lib.hid hnv
    have HSRT := Lib.hid hsrt
    clear hMn hns hnv hsrt c35
    obtain ⟨vl, hvl⟩ : ∃ vl, vl = valueList st'.places ns := ⟨_, rfl⟩
    have HVL := Lib.hid hvl
    obtain ⟨c0, hc0⟩ : ∃ c0, c0 = st'.index.length + 3 := ⟨_, rfl⟩
    have hvll : Small D (vl.length + c0) := by
      have h1 : vl.length ≤ 1024 := by rw [hvl]; exact HVL1.out
      exact hsm.mono (by omega)
    have HC0 := Lib.hid hc0
    clear hvl hc0
    go_loopw [35] (fun i wr => ∃ k : Nat, k ≤ N ∧ i = .int .i64 k ∧ Committing P w7 d S D vl (valueList st'.places (ns.drop k)) c0 wr) (fun i _ => N - (intOf i).toNat)
    case atStart => exact ⟨0, Nat.zero_le _, rfl, D, by rw [HVL.out]; rfl, After.refl HD7.out, by rw [List.drop_zero, ← HVL.out]; exact hvll⟩
    case round =>
      obtain ⟨k, hk, rfl, hX⟩ := hrel
      by_cases hlt : k < N
      · obtain ⟨Di, hwr, hA, hsmi⟩ := hX
        have hlt2 : k < ns.length := by rw [← HNL.out]; exact hlt
        have hlt3 : k < ln.length := by have := HNS.out; rw [this, mmap_length] at hlt2; exact hlt2
        obtain ⟨x, hx⟩ : ∃ x, x = ln[k] := ⟨_, rfl⟩
        have hnk : ns[k] = (x.1, x.2.2) := by
          have h1 : (mmap (fun x : Value × List UInt8 => x.2) ln)[k]? = some (x.1, x.2.2) := by simp [mmap, hx, hlt3]
          have h2 := HNS.out
          rw [← h2, List.getElem?_eq_getElem hlt2] at h1
          injection h1
        obtain ⟨kl, hkl⟩ : ∃ kl, kl = x.1 := ⟨_, rfl⟩
        obtain ⟨lv, hlv⟩ : ∃ lv, lv = x.2.2 := ⟨_, rfl⟩
        rw [← hkl, ← hlv] at hnk
        have hmx : x ∈ ln := by rw [hx]; exact List.getElem_mem _
        have hgx : mget (mmap (fun x : Value × List UInt8 => x.1) ln) kl = some x.2.1 := by
          rw [hkl]
          exact mget_at HSRT.out (k := k) (x := (x.1, x.2.1)) (by simp [mmap, hx, hlt3])
        have hbb := HNV.out x hmx
        rw [← hlv] at hbb
        have hkk := HKN.out ns[k] (List.getElem_mem _)
        rw [hnk] at hkk
        obtain ⟨gk, rfl, _, curk, hbk, hck⟩ := HCK.out (by rw [List.length_map]; omega)
        have q1 : wr.cell? ⟨gk, k, none⟩ = some (.string ⟨kl.toArray⟩) := by
          have h1 := hck k (encStr kl) (by rw [List.getElem?_map, List.getElem?_map, List.getElem?_eq_getElem hlt2, hnk]; rfl)
          have h2 := hA.blk HD7.out hbk (by decide) (by decide) (by decide)
          rw [h2.cell, ← hbk.cell]
          exact h1
        have q5 : wr.cell? ⟨s, 5, none⟩ = some (.map (some nb)) := (hA.blk HD7.out HS7.out (by decide) (by decide) (by decide)).cell 5
        have q0 : wr.cell? ⟨s, 0, none⟩ = some (.pointer (some ⟨d, 0, none⟩)) := (hA.blk HD7.out HS7.out (by decide) (by decide) (by decide)).cell 0
        have hmn := hA.map HD7.out HMN.out
        have hbw := hA.bytes HD7.out hbb
        obtain ⟨xv, hxv⟩ : ∃ xv, xv = x.2.1 := ⟨_, rfl⟩
        rw [← hxv] at hgx hbw
        obtain ⟨bs, hgp, hbsl⟩ := HHAS.out _ (List.getElem_mem hlt2)
        rw [hnk] at hgp hbsl
        simp only at hgp hbsl
        obtain ⟨svx, hblx, hxx, l', hM7, hps', hpl'⟩ := HSA7.out
        clear hxx
        have hM' := hA.map HD7.out hM7
        have q8 : wr.cell? ⟨a', 1, none⟩ = some (.map (some mb')) := (hA.blk HD7.out hblx (by decide) (by decide) (by decide)).cell 1
        obtain ⟨pvv, hpv1, hpv2⟩ : ∃ pvv, mget (mmap (fun x : Value × Place => x.1) l') kl = some pvv ∧ PlaceAt w7 pvv ⟨lv.length, crc lv, bs⟩ := by
          rw [hps', mget_mmap] at hgp
          cases hq : mget l' kl with
          | none => rw [hq] at hgp; cases hgp
          | some q =>
            rw [hq] at hgp
            have e : q.2 = ⟨lv.length, crc lv, bs⟩ := by simpa using hgp
            refine ⟨q.1, by rw [mget_mmap, hq]; rfl, ?_⟩
            rw [← e]
            exact hpl' _ (mget_mem hq)
        obtain ⟨sv2, rfl, hnum⟩ := hpv2
        have hnum' := hnum
        obtain ⟨Ab, cb, hA2, hxx⟩ := hnum'
        clear hxx
        subst hA2
        have hblo : blocksOf st'.places ns[k].1 = bs := by
          rw [hnk]
          unfold blocksOf
          rw [hgp]
          rfl
        have hvd : valueList st'.places (ns.drop k) = blockList bs lv ++ valueList st'.places (ns.drop (k + 1)) := by
          rw [valueList_drop _ _ hlt2, hblo, hnk]
        rw [hvd] at hwr hsmi
        obtain ⟨rest, hrest⟩ : ∃ rest, rest = valueList st'.places (ns.drop (k + 1)) := ⟨_, rfl⟩
        rw [← hrest] at hwr hsmi
        have hbsn : ∀ b ∈ bs, b ≤ 65535 := by
          intro b hb
          have h1 := (HSK.out.places _ (mget_mem hgp)).blk b hb
          have h2 := HSK.out.most
          omega
        have hlv2 : lv.length ≤ 65536 := hkk.2
        have hk64 : (⟨kl.toArray⟩ : ByteArray).size ≤ maxLen := by
          have h1 : (⟨kl.toArray⟩ : ByteArray).size = kl.length := by simp [ByteArray.size]
          rw [h1]
          unfold maxLen
          have := hkk.1
          simp only at this
          omega
        obtain ⟨nbs, hnbs⟩ : ∃ nbs, bs.length = nbs := ⟨_, rfl⟩
        rw [hnbs] at hnum hpv1 hbsl
        have hnbl : nbs ≤ 274 := by rw [hbsl]; unfold need; omega
        obtain ⟨gv, capv, curv, rfl, hlev, _, hbv, hcv⟩ := hbw.cells
        have HGX := Lib.hid hgx
        have HMW := Lib.hid hmn
        have HPV := Lib.hid hpv1
        have HMP := Lib.hid hM'
        have HNUM := Lib.hid hnum
        have HBSN := Lib.hid hbsn
        have HNBS := Lib.hid hnbs
        have HBSL := Lib.hid hbsl
        have HWR := Lib.hid hwr
        have HA0 := Lib.hid hA
        have HREST := Lib.hid hrest
        have HBB := Lib.hid hbb
        have HXV := Lib.hid hxv
        have hfd : ∀ (x y : Int) (A : Option Addr) (n c : Nat) (w : World), (Instr.field 130 (.agg #[.int .i64 x, .int .u32 y, .slice A n c]) 2).run Tryz.prog w = .ok (.slice A n c) w := fun _ _ _ _ _ _ => by kernel_rfl
        clear hgx hmn hpv1 hM7 hM' hnum hbsn hnbs hbsl hwr hA hrest hbb hxv hgp hblo hvd hnk hx hkl hlv hmx hkk hps' hpl' hbw hcv hbv hck hbk hblx
        go_wp2_with (first
          | (at_lookup; refine wpList_get_some _ rfl _ _ _ rfl 89 Tryz.underlying97 (Tryz.zeroValue89 _) nb _ rfl HMW.out ⟨kl.toArray⟩ rfl hk64 _ HGX.out ?_)
          | (at_lookup; refine wpList_get_some _ rfl _ _ _ rfl 130 Tryz.underlying131 (Tryz.zeroValue130 _) mb' _ rfl HMP.out ⟨kl.toArray⟩ rfl hk64 _ HPV.out ?_))
        go_loopw [53] (fun i wi => ∃ j : Nat, j ≤ nbs ∧ i = .int .i64 j ∧ Committing P w7 d S D vl ((blockList bs lv).drop j ++ rest) c0 wi) (fun i _ => nbs - (intOf i).toNat)
        case atStart => exact ⟨0, Nat.zero_le _, rfl, Di, by rw [List.drop_zero]; exact HWR.out, HA0.out, by rw [List.drop_zero]; exact hsmi⟩
        case round =>
          obtain ⟨j, hj, rfl, hY⟩ := hrel
          by_cases hlj : j < nbs
          · obtain ⟨Dj, hwj, hAj, hsmj⟩ := hY
            obtain ⟨Sj, hDj, hnxj⟩ := hAj.next
            have hlj2 : j < bs.length := by rw [HNBS.out]; exact hlj
            obtain ⟨b, hb⟩ : ∃ b, b = bs[j] := ⟨_, rfl⟩
            obtain ⟨gi, rfl, hci⟩ := NumsAt.cell (l := bs) (by have := hAj.nums HD7.out HNUM.out; rw [← HNBS.out] at this; exact this) (by omega)
            have q3 := hci j hlj2
            rw [← hb] at q3
            have hj240 : j * 240 < lv.length := by
              have h1 := HBSL.out
              unfold need at h1
              omega
            obtain ⟨lo, hlo⟩ : ∃ lo, lo = min lv.length (j * 240) := ⟨_, rfl⟩
            obtain ⟨hi, hhi⟩ : ∃ hi, hi = min lv.length ((j + 1) * 240) := ⟨_, rfl⟩
            have elo : (j : Int) * 240 = (lo : Int) := by omega
            have ehi : min ((lv.length : Nat) : Int) (((j : Int) + 1) * 240) = (hi : Int) := by omega
            have hbw := hAj.bytes HD7.out HBB.out
            rw [← HXV.out] at hbw
            obtain ⟨hcv, hpc⟩ := part_at (.inr hbw) j lo hlo (fun _ => hj240)
            have hpl : hi - lo = (part lv j).length := by rw [part_len]; omega
            have b1 : lo ≤ hi := by omega
            have b2 : hi ≤ capv := by omega
            have hne : ¬ capv = lo := by omega
            have HPL := Lib.hid hpl
            have HPC : Hid (0 < (part lv j).length → ∃ g o, some (⟨gv, lo, none⟩ : Addr) = some ⟨g, o, none⟩ ∧ Cells wr g o ((part lv j).map bv)) := fun h => by
              obtain ⟨g, o, e, c⟩ := hpc h
              exact ⟨g, o, by rw [← e]; simp [Addr.add_lit], c⟩
            have HSW : Hid (StoBlk wr s d life a pv true (.map (some nb)) (.map (some gb))) := hAj.blk HD7.out HS7.out (by decide) (by decide) (by decide)
            have HDj := Lib.hid hDj
            have hs1 : wr.cell? ⟨s, 0, none⟩ = some (.pointer (some ⟨d, 0, none⟩)) := HSW.out.cell 0
            have HWJ := Lib.hid hwj
            have HNXJ := Lib.hid hnxj
            have HBJ := Lib.hid hb
            have hlife := hsmj.life
            have hpen := hsmj.pen
            have hb9 : b ≤ 65535 := by rw [hb]; exact HBSN.out _ (List.getElem_mem hlj2)
            clear hpl hpc hlo hhi hDj hwj hnxj hbw hci hAj hb
            obtain ⟨rj, hrj⟩ : ∃ rj, rj = Dj.write (b : Int) (blockOf (part lv j) 0) := ⟨_, rfl⟩
            have HRJ := Lib.hid hrj
            clear hrj
            by_cases hz : rj.1 = 0
            all_goals
              first
                | have tz : (rj.1 != 0) = false := by simpa using hz
                | have tz : (rj.1 != 0) = true := by simpa using hz
              have HZ := Lib.hid hz
              clear hz
              go_wp2
            all_goals
              go_region_law
                (first
                  | (go_simp; go_at_call 75; refine (block_calls0 _ _ _ (part lv j) _ HPL.out (part_length lv j) ?_).mono ?_; exact HPC.out; rintro e w8 ⟨rfl, hB8, hbel8⟩; have hs8 : w8.cell? ⟨s, 0, none⟩ = some (.pointer (some ⟨d, 0, none⟩)) := ((Blk.belowH HSW.out hbel8 rfl (Blk.lt HSW.out)).cell 0))
                  | (go_simp; go_at_call 74; refine (write_any w8 (HDj.out.below (below_drew hbel8)) hlife hpen _ _ _ (handed_new HDj.out hB8)).mono ?_; rw [← HRJ.out]; rintro e w9 ⟨rfl, hAf⟩))
            all_goals
              go_wp2
              have hst3 := commit_step hlj2 HBJ.out HRJ.out HWJ.out hsmj HNXJ.out hbel8 hAf
              first
                | exact ⟨⟨j + 1, by omega, by go_num, hst3.1 HZ.out⟩, by simp [intOf]; omega⟩
                | (go_ret
                   obtain ⟨e1, hA9⟩ := hst3.2 HZ.out
                   have e2 : C = (rj.1, rj.2, none) := by
                     rw [HCE.out]
                     show (if _ then _ else _) = _
                     rw [← HVL.out, e1, if_neg HZ.out]
                   rw [e2]
                   exact commit_no HB7.out HD7.out HS7.out hA9)
          · obtain ⟨Dj, hwj, hAj, hsmj⟩ := hY
            have e1 : (blockList bs lv).drop j = [] := List.drop_of_length_le (by rw [blockList_length, HNBS.out]; omega)
            rw [e1, List.nil_append, HREST.out] at hwj hsmj
            have HWJ := Lib.hid hwj
            have HAJ := Lib.hid hAj
            have HSJ := Lib.hid hsmj
            clear hwj hAj hsmj e1
            go_wp2
            exact ⟨⟨k + 1, by omega, by go_num, Dj, HWJ.out, HAJ.out, HSJ.out⟩, by simp [intOf]; omega⟩
      · have hke : k = N := by omega
        obtain ⟨Di, hwr, hA, hsmi⟩ := hX
        have e1 : valueList st'.places (ns.drop k) = [] := by rw [List.drop_of_length_le (by rw [← HNL.out]; omega)]; rfl
        rw [e1] at hwr hsmi
        have hw0 : writes vl D = (0, Di) := hwr.symm
        have hsmi2 : Small Di (st'.index.length + 3) := hsmi.mono (by rw [HC0.out]; simp)
        have HW0 := Lib.hid hw0
        have HAA := Lib.hid hA
        have HSI := Lib.hid hsmi2
        clear e1 hwr hsmi hw0 hA hke hsmi2
        obtain ⟨Si, hDi, hnxi⟩ := HAA.out.next
        have hSw : StoBlk wr s d life a pv true (.map (some nb)) (.map (some gb)) := HAA.out.blk HD7.out HS7.out (by decide) (by decide) (by decide)
        have hsaw := HAA.out.state HD7.out HSA7.out
        obtain ⟨rs, hrs⟩ : ∃ rs, rs = Di.save st' := ⟨_, rfl⟩
        have HSC := Lib.hid (save_calls wr hDi _ hSw rfl hsaw HSK.out (by rw [HIDX.out]; exact Nat.le_refl _) HSI.out)
        rw [← hrs] at HSC
        have HDI := Lib.hid hDi
        have HNXI := Lib.hid hnxi
        have HSW := Lib.hid hSw
        have HSAW := Lib.hid hsaw
        have HRS := Lib.hid hrs
        clear hDi hnxi hSw hsaw hrs
        have HCR : Hid (C = (rs.1, rs.2, if rs.1 = 0 then some st' else none)) := by
          show C = _
          rw [HCE.out]
          show (if _ then _ else _) = _
          rw [← HVL.out, HW0.out, if_pos rfl, ← HRS.out]
        by_cases hz : rs.1 = 0
        · have tz : (rs.1 != 0) = false := by simpa using hz
          have HZ := Lib.hid hz
          clear hz
          go_wp2_with (go_at_call 76; refine HSC.out.mono ?_; rintro e w8 ⟨rfl, hAf⟩; have hS8 : StoBlk w8 s d life a pv true (.map (some nb)) (.map (some gb)) := hAf.blk HDI.out HSW.out (by decide) (by decide) (by decide); have HS8 := Lib.hid hS8; have u2 : w8.cell? ⟨s, 2, none⟩ = some (.pointer (some ⟨a, 0, none⟩)) := hS8.cell 2; have u4 : w8.cell? ⟨s, 4, none⟩ = some (.bool true) := hS8.cell 4; have u5 : w8.cell? ⟨s, 5, none⟩ = some (.map (some nb)) := hS8.cell 5; have u6 : w8.cell? ⟨s, 6, none⟩ = some (.map (some gb)) := hS8.cell 6; have f2 : w8.frozen? ⟨s, 2, none⟩ = false := hS8.frozen 2; have f4 : w8.frozen? ⟨s, 4, none⟩ = false := hS8.frozen 4; have f5 : w8.frozen? ⟨s, 5, none⟩ = false := hS8.frozen 5; have f6 : w8.frozen? ⟨s, 6, none⟩ = false := hS8.frozen 6; have HAF := Lib.hid hAf; clear hAf hS8)
          go_ret
          rw [HCR.out, if_pos HZ.out]
          exact commit_yes HB7.out (HNXI.out _ _ HAF.out) HS8.out (HAF.out.state HDI.out HSAW.out) (by have := HA.out.1; have := HB2.out.size; omega) (by have := HA.out.2; have := HB2.out.size; omega) HZ.out
        · have tz : (rs.1 != 0) = true := by simpa using hz
          have HZ := Lib.hid hz
          clear hz
          go_wp2_with (go_at_call 76; refine HSC.out.mono ?_; rintro e w8 ⟨rfl, hAf⟩; have HAF := Lib.hid hAf; clear hAf)
          go_ret
          rw [HCR.out, if_neg HZ.out]
          exact commit_no HB7.out HD7.out HS7.out (HNXI.out _ _ HAF.out)

end Go.Proofs.YtbgiklkpinflaaaGreat
