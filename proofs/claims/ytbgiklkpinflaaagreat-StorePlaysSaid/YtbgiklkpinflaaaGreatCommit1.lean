/- Commit: plain facts. -/
import Derived.Test.YtbgiklkpinflaaaGreatNext2
namespace Go.Proofs.YtbgiklkpinflaaaGreat
open Go.RowKit Go.Shelf Go.Maps

/-- The writes of a value. -/
def blockList (bs : List Nat) (l : List UInt8) : List (Nat × List UInt8) := (List.range bs.length).map fun i => (bs[i]?.getD 0, blockOf (part l i) 0)
def blocksOf (ps : List (List UInt8 × Place)) (k : List UInt8) : List Nat := ((mget ps k).map fun p => p.blocks).getD []
def valueList (ps : List (List UInt8 × Place)) (ns : List (List UInt8 × List UInt8)) : List (Nat × List UInt8) := ns.flatMap fun x => blockList (blocksOf ps x.1) x.2
theorem blockList_length (bs : List Nat) (l : List UInt8) : (blockList bs l).length = bs.length := by simp [blockList]
theorem blockList_drop (bs : List Nat) (l : List UInt8) {i : Nat} (h : i < bs.length) : (blockList bs l).drop i = (bs[i], blockOf (part l i) 0) :: (blockList bs l).drop (i + 1) := by
  have hl : i < (blockList bs l).length := by rw [blockList_length]; exact h
  rw [List.drop_eq_getElem_cons hl]
  simp [blockList, h]
theorem valueList_drop (ps : List (List UInt8 × Place)) (ns : List (List UInt8 × List UInt8)) {k : Nat} (h : k < ns.length) : valueList ps (ns.drop k) = blockList (blocksOf ps ns[k].1) ns[k].2 ++ valueList ps (ns.drop (k + 1)) := by
  unfold valueList
  rw [List.drop_eq_getElem_cons h, List.flatMap_cons]

/-- What Commit does to the disk, and the state that it makes. -/
def commitRes (D : Dsk) (ns : List (List UInt8 × List UInt8)) : Option St → Int × Dsk × Option St
  | none => (52, D, none)
  | some st' =>
    if (writes (valueList st'.places ns) D).1 = 0 then
      (((writes (valueList st'.places ns) D).2.save st').1, ((writes (valueList st'.places ns) D).2.save st').2, if ((writes (valueList st'.places ns) D).2.save st').1 = 0 then some st' else none)
    else ((writes (valueList st'.places ns) D).1, (writes (valueList st'.places ns) D).2, none)
def Dsk.commit (D : Dsk) (st : St) (ns : List (List UInt8 × List UInt8)) (gs : List (List UInt8 × Unit)) (sts : List St) : Int × Dsk × Option St :=
  commitRes D ns (st.next ns gs (freeOf D.blocks.length (st :: sts)))

theorem find_none {α : Type} {p : α → Bool} {l : List α} (h : ∀ x ∈ l, p x = false) : l.find? p = none := List.find?_eq_none.2 fun x hx => by rw [h x hx]; simp
theorem mget_minsert_self {α : Type} (k : List UInt8) (a : α) : ∀ {m : List (List UInt8 × α)}, (∀ y ∈ m, y.1 ≠ k) → mget (minsert (k, a) m) k = some a
  | [], _ => by simp [mget, Go.Proofs.YtbgiklkpinflaaaGreat.minsert]
  | y :: r, h => by
    unfold Go.Proofs.YtbgiklkpinflaaaGreat.minsert
    split
    · simp [mget]
    · have hy : ¬ y.1 = k := h y (by simp)
      have ih := mget_minsert_self k a (m := r) (fun z hz => h z (by simp [hz]))
      unfold mget at ih ⊢
      rw [List.find?_cons_of_neg (by simpa using hy)]
      exact ih
theorem mget_mput_self {α : Type} (m : List (List UInt8 × α)) (k : List UInt8) (a : α) : mget (mput m k a) k = some a := mget_minsert_self k a fun _ hy => (mdel_mem hy).2
theorem mget_minsert_ne {α : Type} {k j : List UInt8} (a : α) (hne : k ≠ j) : ∀ m : List (List UInt8 × α), mget (minsert (k, a) m) j = mget m j
  | [] => by simp [mget, Go.Proofs.YtbgiklkpinflaaaGreat.minsert, hne]
  | y :: r => by
    unfold Go.Proofs.YtbgiklkpinflaaaGreat.minsert
    split
    · unfold mget
      rw [List.find?_cons_of_neg (by simpa using hne)]
    · have ih := mget_minsert_ne a hne r
      unfold mget at ih ⊢
      by_cases hy : y.1 = j
      · rw [List.find?_cons_of_pos (by simpa using hy), List.find?_cons_of_pos (by simpa using hy)]
      · rw [List.find?_cons_of_neg (by simpa using hy), List.find?_cons_of_neg (by simpa using hy)]
        exact ih
theorem mget_mdel_ne {α : Type} {k j : List UInt8} (hne : k ≠ j) (m : List (List UInt8 × α)) : mget (mdel m k) j = mget m j := by
  unfold mget mdel
  rw [List.find?_filter]
  congr 2
  funext p
  by_cases h : p.1 = j
  · simp [h]
    exact fun e => hne e.symm
  · simp [h]
theorem mget_mput_ne {α : Type} {k j : List UInt8} (a : α) (hne : k ≠ j) (m : List (List UInt8 × α)) : mget (mput m k a) j = mget m j := by
  unfold mput
  rw [mget_minsert_ne a hne, mget_mdel_ne hne]

theorem takeAll_cons (x : List UInt8 × List UInt8) (r : List (List UInt8 × List UInt8)) (acc : Acc) : takeAll (x :: r) acc = (takeStep acc x).bind fun a => takeAll r a := by simp [takeAll, List.foldlM]
/-- What is put by none of the notes stays. -/
theorem takeAll_other {ns : List (List UInt8 × List UInt8)} {acc : Acc} {ps' : List (List UInt8 × Place)} {fr' : List Nat} {k : List UInt8} (h : takeAll ns acc = some (ps', fr')) (hk : ∀ x ∈ ns, x.1 ≠ k) : mget ps' k = mget acc.1 k := by
  induction ns generalizing acc with
  | nil =>
    have : acc = (ps', fr') := by simpa [takeAll] using h
    rw [this]
  | cons x r ih =>
    rw [takeAll_cons] at h
    cases hst : takeStep acc x with
    | none => rw [hst] at h; cases h
    | some a =>
      rw [hst] at h
      rw [ih (acc := a) h (fun y hy => hk y (by simp [hy]))]
      unfold takeStep at hst
      split at hst
      · injection hst with hst
        rw [← hst]
        exact mget_mput_ne _ (hk x (by simp)) _
      · cases hst
/-- Each note has its place. -/
theorem takeAll_has {ns : List (List UInt8 × List UInt8)} {acc : Acc} {ps' : List (List UInt8 × Place)} {fr' : List Nat} (h : takeAll ns acc = some (ps', fr')) (hs : Srt ns) : ∀ x ∈ ns, ∃ bs, mget ps' x.1 = some ⟨x.2.length, crc x.2, bs⟩ ∧ bs.length = need x.2.length := by
  induction ns generalizing acc with
  | nil => intro x hx; simp at hx
  | cons y r ih =>
    intro x hx
    rw [takeAll_cons] at h
    unfold Srt at hs
    rw [List.pairwise_cons] at hs
    cases hst : takeStep acc y with
    | none => rw [hst] at h; cases h
    | some a =>
      rw [hst] at h
      rcases List.mem_cons.1 hx with rfl | hx
      · have hne : ∀ z ∈ r, z.1 ≠ x.1 := fun z hz e => by
          have := hs.1 z hz
          rw [e] at this
          exact List.lt_irrefl _ this
        rw [takeAll_other (acc := a) h hne]
        unfold takeStep at hst
        split at hst
        · rename_i hnd
          injection hst with hst
          rw [← hst]
          exact ⟨_, mget_mput_self _ _ _, by rw [List.length_take]; omega⟩
        · cases hst
      · exact ih (acc := a) h hs.2 x hx

section
variable {P : Nat → Prop} {w w1 : World} {d : Nat} {D D0 : Dsk} {S : List Nat}
theorem After.keeps_ (h : After P w w1 d D S) : Keeps (· ∈ S) w w1 := let ⟨_, _, _, k⟩ := h; k
theorem After.map (h : After P w w1 d D S) (hD : DiskAt P w d D0 S) {b : Nat} {M : List (List UInt8 × Value)} (hM : MapAt w b M) : MapAt w1 b M :=
  hM.keeps h.keeps_ fun hm => by
    obtain ⟨t, cs, hk, _⟩ := hD.lt _ hm
    exact hM.not_blk hk
theorem After.nums (h : After P w w1 d D S) (hD : DiskAt P w d D0 S) {v : Value} {l : List Nat} (hN : NumsAt w v l) : NumsAt w1 v l :=
  hN.keeps h.keeps_ fun g cs hg hb => hD.no (by decide) (by decide) (by decide) hg hb
end

end Go.Proofs.YtbgiklkpinflaaaGreat
