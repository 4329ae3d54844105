/- A commit on a disk on which a call is armed: what it leaves, and what a loss of power makes of it. The store beside its specification: a commit on a disk on which a call is armed. StoreWhole: Commit of the bench on a disk on which a call is armed; the reference's Copy. The reference's Copy of a store. A bench that is opened again in one of two states. StoreWhole: step. StoreWhole: what its loop calls. StoreWhole: the faults of a list; small laws for its walk. StoreWhole: the walk. -/
import Derived.Test.YtbgiklkpinflaaaGreatReF
import Derived.Test.YtbgiklkpinflaaaGreatReG
import Derived.Laws.AppendOwn
import Derived.Deep.Slices
import Derived.Deep.Fields
import Derived.Deep.Grids
import Derived.ChangeSame

namespace Go.Proofs.YtbgiklkpinflaaaGreat
open Go.RowKit Go.Shelf Go.Maps

theorem settleIf_see (f : Nat → Bool) (B : List (List UInt8)) (ps : List (Nat × List UInt8)) {b : Nat} (h : b ∉ ps.map (·.1)) : ∀ k, k ≤ ps.length → (settleIf f B ps k)[b]? = B[b]?
  | 0, _ => rfl
  | k + 1, hk => by
    have ih := settleIf_see f B ps h k (by omega)
    unfold settleIf
    split
    · rw [List.getElem?_eq_getElem (by omega : k < ps.length), Option.getD_some, List.getElem?_set_ne, ih]
      intro e
      exact h (List.mem_map.2 ⟨_, List.getElem_mem (by omega), e⟩)
    · exact ih
theorem settle_append (B : List (List UInt8)) (L M : List (Nat × List UInt8)) : settle B (L ++ M) = settle (settle B L) M := by
  unfold settle
  rw [List.foldl_append]
theorem write_armed {D : Dsk} (hd : D.down = false) {i : Nat} {l : List UInt8} (hi : i < D.blocks.length) (hl : l.length = 256) :
    (D.armed ≠ 1 → D.write (i : Int) l = (0, { D with pending := D.pending ++ [(i, l)], armed := D.armed - 1 })) ∧ (D.armed = 1 → D.write (i : Int) l = (50, { D with armed := 0, down := true, life := D.life + 1 })) := by
  obtain ⟨B, ps, a, dn, lf⟩ := D
  simp only at hd hi
  subst hd
  constructor
  · intro h1
    simp only at h1
    unfold Dsk.write Dsk.fails
    by_cases h0 : a = 0
    · subst h0
      rw [if_neg (by simp), if_neg (by simp only; omega)]
      simp
    · rw [if_neg (by simp), if_neg (by simp only; omega)]
      simp [h0, h1]
  · intro h1
    simp only at h1
    subst h1
    unfold Dsk.write Dsk.fails
    rw [if_neg (by simp), if_neg (by simp only; omega)]
    simp
theorem sync_armed {D : Dsk} (hd : D.down = false) :
    (D.armed ≠ 1 → D.sync = (0, { D with blocks := settle D.blocks D.pending, pending := [], armed := D.armed - 1 })) ∧ (D.armed = 1 → D.sync = (50, { D with armed := 0, down := true, life := D.life + 1 })) := by
  obtain ⟨B, ps, a, dn, lf⟩ := D
  simp only at hd
  subst hd
  constructor
  · intro h1
    simp only at h1
    unfold Dsk.sync Dsk.fails
    by_cases h0 : a = 0
    · subst h0
      simp
    · simp [h0, h1]
  · intro h1
    simp only at h1
    subst h1
    unfold Dsk.sync Dsk.fails
    simp
theorem writes_armed : ∀ (L : List (Nat × List UInt8)) {D : Dsk}, D.down = false → (∀ p ∈ L, p.1 < D.blocks.length ∧ p.2.length = 256) → (D.armed = 0 ∨ L.length < D.armed) → writes L D = (0, { D with pending := D.pending ++ L, armed := D.armed - L.length })
  | [], D, _, _, _ => by simp [writes]
  | p :: r, D, hd, hp, ha => by
    have h1 := (write_armed hd (hp p (by simp)).1 (hp p (by simp)).2).1 (by rw [List.length_cons] at ha; omega)
    show (if (D.write (p.1 : Int) p.2).1 = 0 then writes r (D.write (p.1 : Int) p.2).2 else D.write (p.1 : Int) p.2) = _
    rw [h1, if_pos rfl]
    have ih := writes_armed r (D := { D with pending := D.pending ++ [(p.1, p.2)], armed := D.armed - 1 }) hd (fun q hq => hp q (by simp [hq])) (by rw [List.length_cons] at ha; show D.armed - 1 = 0 ∨ r.length < D.armed - 1; omega)
    rw [ih]
    simp [Nat.sub_sub, Nat.add_comm]
theorem writes_fails : ∀ (L : List (Nat × List UInt8)) {D : Dsk}, D.down = false → (∀ p ∈ L, p.1 < D.blocks.length ∧ p.2.length = 256) → 0 < D.armed → D.armed ≤ L.length → writes L D = (50, { D with pending := D.pending ++ L.take (D.armed - 1), armed := 0, down := true, life := D.life + 1 })
  | [], D, _, _, h0, ha => by simp at ha; omega
  | p :: r, D, hd, hp, h0, ha => by
    have h1 := write_armed hd (hp p (by simp)).1 (hp p (by simp)).2
    show (if (D.write (p.1 : Int) p.2).1 = 0 then writes r (D.write (p.1 : Int) p.2).2 else D.write (p.1 : Int) p.2) = _
    by_cases h : D.armed = 1
    · rw [h1.2 h, if_neg (by simp), h]
      simp
    · rw [h1.1 h, if_pos rfl]
      have ih := writes_fails r (D := { D with pending := D.pending ++ [(p.1, p.2)], armed := D.armed - 1 }) hd (fun q hq => hp q (by simp [hq])) (by show 0 < D.armed - 1; omega) (by rw [List.length_cons] at ha; show D.armed - 1 ≤ r.length; omega)
      rw [ih]
      obtain ⟨k, hk⟩ : ∃ k, D.armed = k + 2 := ⟨D.armed - 2, by omega⟩
      simp [hk]

/-- What a loss of power makes of a commit that failed. -/
def Torn (D D' : Dsk) (L1 : List (Nat × List UInt8)) (p : Nat × List UInt8) : Prop :=
  D'.down = true ∧ D'.life = D.life + 1 ∧ D'.blocks.length = D.blocks.length ∧ D'.pending.length ≤ L1.length + 1 ∧ ∀ f, (∀ b, b < D.blocks.length → b ∉ L1.map (·.1) → (D'.crash f).see b = D.see b) ∨ (∀ b, b < D.blocks.length → (D'.crash f).see b = (seeIn (L1 ++ [p]) b).getD (D.see b))
theorem crash_see (D : Dsk) (f : Nat → Bool) (b : Nat) : (D.crash f).see b = (settleIf f D.blocks D.pending D.pending.length)[b]?.getD [] := rfl
theorem see_none {D : Dsk} (h : D.pending = []) (b : Nat) : D.see b = D.blocks[b]?.getD [] := by
  rw [Dsk.see_eq, h]
  rfl
theorem torn_pending {D D' : Dsk} {L1 : List (Nat × List UInt8)} {p : Nat × List UInt8} (h0 : D.pending = []) (hd : D'.down = true) (hl : D'.life = D.life + 1) (hb : D'.blocks = D.blocks) (hp : ∃ k, D'.pending = L1.take k) : Torn D D' L1 p := by
  obtain ⟨k, hk⟩ := hp
  refine ⟨hd, hl, by rw [hb], by rw [hk, List.length_take]; omega, fun f => .inl fun b _ hb2 => ?_⟩
  rw [crash_see, settleIf_see _ _ _ (fun hm => hb2 ?_) _ (Nat.le_refl _), hb, see_none h0]
  rw [hk, List.map_take] at hm
  exact List.mem_of_mem_take hm
theorem torn_root {D D' : Dsk} {L1 : List (Nat × List UInt8)} {p : Nat × List UInt8} (h0 : D.pending = []) (hd : D'.down = true) (hl : D'.life = D.life + 1) (hb : D'.blocks = settle D.blocks L1) (hp : D'.pending = [] ∨ D'.pending = [p]) : Torn D D' L1 p := by
  have hold : ∀ b, b < D.blocks.length → b ∉ L1.map (·.1) → (settle D.blocks L1)[b]?.getD [] = D.see b := fun b hbl hn => by
    rw [settle_see _ _ hbl, seeIn_none hn, see_none h0]
    rfl
  refine ⟨hd, hl, by rw [hb, settle_length], by rcases hp with e | e <;> simp [e], fun f => ?_⟩
  rcases hp with e | e
  · refine .inl fun b hbl hn => ?_
    rw [crash_see, hb, e]
    exact hold b hbl hn
  · cases hf : f 0 with
    | false =>
      refine .inl fun b hbl hn => ?_
      rw [crash_see, hb, e]
      have : settleIf f (settle D.blocks L1) [p] [p].length = settle D.blocks L1 := by simp [settleIf, hf]
      rw [this]
      exact hold b hbl hn
    | true =>
      refine .inr fun b hbl => ?_
      rw [crash_see, hb, e]
      have : settleIf f (settle D.blocks L1) [p] [p].length = settle D.blocks (L1 ++ [p]) := by
        rw [settle_snoc]
        simp [settleIf, hf]
      rw [this, settle_see _ _ hbl, see_none h0]
/-- The commit of a disk that is up. -/
theorem commit_armed {D : Dsk} (hd : D.down = false) (h0 : D.pending = []) {st st' : St} {ns : List (List UInt8 × List UInt8)} {gs : List (List UInt8 × Unit)} {sts : List St} (hs : Srt ns) (h2 : 2 ≤ D.blocks.length) (hn : st.next ns gs (freeOf D.blocks.length (st :: sts)) = some st') :
    (∃ D', D.commit st ns gs sts = (0, D', some st') ∧ D'.down = false ∧ D'.life = D.life ∧ D'.blocks.length = D.blocks.length ∧ D'.pending = [] ∧ D'.armed ≤ D.armed ∧ ∀ b, b < D.blocks.length → D'.see b = (seeIn (commitList st' ns) b).getD (D.see b)) ∨
    ∃ D', D.commit st ns gs sts = (50, D', none) ∧ Torn D D' (valueList st'.places ns ++ spreadList (writtenOf st'.places) st'.index) (st'.gen % 2, rootOf st'.gen (st'.index[0]?.getD 0) (writtenOf st'.places)) := by
  obtain ⟨_, hb, hi⟩ := commit_nodup hn hs
  obtain ⟨V, hV⟩ : ∃ V, V = valueList st'.places ns := ⟨_, rfl⟩
  obtain ⟨L, hL⟩ : ∃ L, L = spreadList (writtenOf st'.places) st'.index := ⟨_, rfl⟩
  obtain ⟨p, hp⟩ : ∃ p, p = (st'.gen % 2, rootOf st'.gen (st'.index[0]?.getD 0) (writtenOf st'.places)) := ⟨_, rfl⟩
  have hcl : commitList st' ns = (V ++ L) ++ [p] := by
    unfold commitList saveList
    rw [hV, hL, hp, List.append_assoc]
  have hwV : ∀ q ∈ V, q.1 < D.blocks.length ∧ q.2.length = 256 := fun q hq => by
    rw [hV] at hq
    refine ⟨?_, valueList_len q hq⟩
    rcases hb q.1 (by unfold commitList; rw [List.map_append]; exact List.mem_append.2 (.inl (List.mem_map.2 ⟨q, hq, rfl⟩))) with h | h
    · exact (mem_freeOf.1 h).1
    · omega
  have hwL : ∀ q ∈ L, q.1 < D.blocks.length ∧ q.2.length = 256 := fun q hq => by
    rw [hL] at hq
    refine ⟨?_, spreadList_len q hq⟩
    refine (mem_freeOf.1 (hi q.1 ?_)).1
    rw [← spreadList_blocks (writtenOf st'.places) st'.index]
    exact List.mem_map.2 ⟨q, hq, rfl⟩
  have hpi : st'.gen % 2 < D.blocks.length := by omega
  have hpl : (rootOf st'.gen (st'.index[0]?.getD 0) (writtenOf st'.places)).length = 256 := rootOf_length _ _ _
  rw [hcl, ← hV, ← hL, ← hp]
  unfold Dsk.commit commitRes
  rw [hn]
  dsimp only
  rw [← hV]
  by_cases a1 : D.armed = 0 ∨ V.length < D.armed
  · have e1 := writes_armed V hd hwV a1
    simp only [e1, if_true]
    unfold Dsk.save
    rw [← hL]
    obtain ⟨D1, hD1⟩ : ∃ D1, D1 = ({ D with pending := D.pending ++ V, armed := D.armed - V.length } : Dsk) := ⟨_, rfl⟩
    rw [← hD1]
    have d1 : D1.down = false ∧ D1.blocks = D.blocks ∧ D1.pending = V ∧ D1.armed = D.armed - V.length ∧ D1.life = D.life := by rw [hD1]; exact ⟨hd, rfl, by simp [h0], rfl, rfl⟩
    by_cases a2 : D1.armed = 0 ∨ L.length < D1.armed
    · have e2 := writes_armed L d1.1 (by rw [d1.2.1]; exact hwL) a2
      simp only [e2, if_true]
      obtain ⟨D2, hD2⟩ : ∃ D2, D2 = ({ D1 with pending := D1.pending ++ L, armed := D1.armed - L.length } : Dsk) := ⟨_, rfl⟩
      rw [← hD2]
      have d2 : D2.down = false ∧ D2.blocks = D.blocks ∧ D2.pending = V ++ L ∧ D2.armed = D1.armed - L.length ∧ D2.life = D.life := by rw [hD2]; exact ⟨d1.1, d1.2.1, by rw [← d1.2.2.1], rfl, d1.2.2.2.2⟩
      by_cases a3 : D2.armed = 1
      · have e3 := (sync_armed d2.1).2 a3
        simp only [e3]
        refine .inr ⟨{ D2 with armed := 0, down := true, life := D2.life + 1 }, by simp, torn_pending h0 rfl (by show D2.life + 1 = _; rw [d2.2.2.2.2]) d2.2.1 ⟨(V ++ L).length, by rw [List.take_length]; exact d2.2.2.1⟩⟩
      · have e3 := (sync_armed d2.1).1 a3
        simp only [e3, if_true]
        obtain ⟨D3, hD3⟩ : ∃ D3, D3 = ({ D2 with blocks := settle D2.blocks D2.pending, pending := [], armed := D2.armed - 1 } : Dsk) := ⟨_, rfl⟩
        rw [← hD3]
        have d3 : D3.down = false ∧ D3.blocks = settle D.blocks (V ++ L) ∧ D3.pending = [] ∧ D3.armed = D2.armed - 1 ∧ D3.life = D.life := by rw [hD3]; exact ⟨d2.1, by rw [← d2.2.1, ← d2.2.2.1], rfl, rfl, d2.2.2.2.2⟩
        have hpi3 : st'.gen % 2 < D3.blocks.length := by rw [d3.2.1, settle_length]; exact hpi
        by_cases a4 : D3.armed = 1
        · have e4 := (write_armed d3.1 hpi3 hpl).2 a4
          simp only [e4]
          refine .inr ⟨{ D3 with armed := 0, down := true, life := D3.life + 1 }, by simp, torn_root h0 rfl (by show D3.life + 1 = _; rw [d3.2.2.2.2]) d3.2.1 (.inl d3.2.2.1)⟩
        · have e4 := (write_armed d3.1 hpi3 hpl).1 a4
          simp only [e4, if_true]
          obtain ⟨D4, hD4⟩ : ∃ D4, D4 = ({ D3 with pending := D3.pending ++ [(st'.gen % 2, rootOf st'.gen (st'.index[0]?.getD 0) (writtenOf st'.places))], armed := D3.armed - 1 } : Dsk) := ⟨_, rfl⟩
          rw [← hD4]
          have d4 : D4.down = false ∧ D4.blocks = settle D.blocks (V ++ L) ∧ D4.pending = [p] ∧ D4.armed = D3.armed - 1 ∧ D4.life = D.life := by rw [hD4, hp]; exact ⟨d3.1, d3.2.1, by rw [d3.2.2.1]; rfl, rfl, d3.2.2.2.2⟩
          by_cases a5 : D4.armed = 1
          · have e5 := (sync_armed d4.1).2 a5
            simp only [e5]
            refine .inr ⟨{ D4 with armed := 0, down := true, life := D4.life + 1 }, by simp, torn_root h0 rfl (by show D4.life + 1 = _; rw [d4.2.2.2.2]) d4.2.1 (.inr d4.2.2.1)⟩
          · have e5 := (sync_armed d4.1).1 a5
            simp only [e5, if_true]
            refine .inl ⟨_, rfl, d4.1, d4.2.2.2.2, by show (settle D4.blocks D4.pending).length = _; rw [settle_length, d4.2.1, settle_length], rfl, by show D4.armed - 1 ≤ _; omega, fun b hbl => ?_⟩
            rw [see_none rfl]
            show (settle D4.blocks D4.pending)[b]?.getD [] = _
            rw [d4.2.1, d4.2.2.1, ← settle_append, settle_see _ _ hbl, see_none h0]
    · have e2 := writes_fails L d1.1 (by rw [d1.2.1]; exact hwL) (by omega) (by omega)
      simp only [e2]
      refine .inr ⟨{ D1 with pending := D1.pending ++ L.take (D1.armed - 1), armed := 0, down := true, life := D1.life + 1 }, by simp, torn_pending h0 rfl (by show D1.life + 1 = _; rw [d1.2.2.2.2]) d1.2.1 ⟨V.length + (D1.armed - 1), ?_⟩⟩
      show D1.pending ++ L.take (D1.armed - 1) = _
      rw [d1.2.2.1, List.take_length_add_append]
  · have e1 := writes_fails V hd hwV (by omega) (by omega)
    simp only [e1]
    refine .inr ⟨{ D with pending := D.pending ++ V.take (D.armed - 1), armed := 0, down := true, life := D.life + 1 }, by simp, torn_pending h0 rfl rfl rfl ⟨D.armed - 1, ?_⟩⟩
    show D.pending ++ V.take (D.armed - 1) = _
    rw [h0, List.nil_append, List.take_append_of_le_length (by omega)]

end Go.Proofs.YtbgiklkpinflaaaGreat

namespace Go.Proofs.YtbgiklkpinflaaaGreat
open Go.RowKit Go.Shelf Go.Maps

/-- What may be found behind a loss of power: the state before, or the one that the commit made. -/
def Found (m : Nat) (Y : Joint) (D : Dsk) (R : RSto) (t : RSt) : Prop :=
  ∃ Z : Joint, Z.disk = D ∧ Z.sto = openedSto D Z.now.st ∧ Z.ref = R.again t ∧ Z.n = Y.n ∧ Z.pins = [] ∧ Z.now.gen = t.gen ∧ Ok m Z ∧ D.armed = 0 ∧ Rooted D Z.now.st
theorem found_old {m k : Nat} {Y : Joint} (h : Ok m Y) (hk : m ≤ k) (hk2 : k ≤ 100) {D : Dsk} (hl : D.blocks.length = Y.n) (hd : D.down = false) (hp : D.pending = []) (ha : D.armed = 0) (hlf : D.life ≤ k) (hs : ∀ b, (b < 2 ∨ b ∈ Y.now.index ∨ ∃ x ∈ Y.now.ents, b ∈ x.2.blocks) → D.see b = Y.disk.see b) (hR : Rooted Y.disk Y.now.st) : Found k Y D Y.ref Y.ref.now :=
  ⟨Y.again D, rfl, rfl, rfl, rfl, rfl, rfl, h.again hk hk2 hl hd hp hlf fun x hx b hb => hs b (.inr (.inr ⟨x, hx, hb⟩)), ha, hR.same (by rw [hl, h.len]) fun b hb => by
    rcases hb with hb | hb
    · exact hs b (.inl hb)
    · exact hs b (.inr (.inl hb))⟩
def RSto.made (R : RSto) : RSt := ⟨R.now.gen + 1, R.next.ents⟩
section
variable {m : Nat} {Y : Joint} {nx : Nx}
theorem Ok.commit_armed (h : Ok m Y) (ht : Y.trans = some nx) (hroom : (Y.ref.need : Int) ≤ Y.ref.free) (hR : Rooted Y.disk Y.now.st) (hm : m + 2 ≤ 100) :
    (∃ Y', Y.sto.commit = (0, Y'.sto) ∧ Y'.ref = Y.ref.comm ∧ Ok (m + 1) Y' ∧ Y'.pins = Y.pins ∧ Y'.n = Y.n ∧ Rooted Y'.disk Y'.now.st) ∨
    ∃ D', Y.sto.commit = (50, { Y.sto with disk := D' }) ∧ D'.down = true ∧ D'.life = Y.disk.life + 1 ∧ D'.blocks.length = Y.n ∧ D'.pending.length ≤ 1000000 ∧ ∀ f, Found (m + 2) Y (D'.crash f) Y.ref Y.ref.now ∨ Found (m + 2) Y (D'.crash f) Y.ref Y.ref.made := by
  have t := h.trans nx ht
  obtain ⟨own, hw⟩ := h.own
  have hf := h.free
  have e0 : Y.sto.now :: Y.sto.pins = Y.live.map JSt.st := rfl
  have e1 : Y.sto.disk.blocks.length = Y.n := h.len
  rw [e0, e1] at hf
  obtain ⟨st', hn⟩ := (h.next ht (freeOf Y.n (Y.live.map JSt.st))).1 (by rw [h.need ht] at hroom; omega)
  have h4 := h.n4
  have hlen := h.len
  have hsrt := t.ok.srt.noted_
  have hn' : Y.now.st.next (noted nx) (goneOf Y.now nx) (freeOf Y.disk.blocks.length (Y.now.st :: Y.sto.pins)) = some st' := by rw [hlen]; exact hn
  obtain ⟨hnd, hb, hi⟩ := commit_nodup hn hsrt
  have hcm : Y.sto.commit = Y.sto.commitRes (Y.disk.commit Y.now.st (noted nx) (goneOf Y.now nx) Y.sto.pins) := by
    unfold Sto.commit
    rw [h.notes ht, h.goneEq ht]
    rfl
  -- the blocks of what is alive are not written
  have hfar : ∀ J ∈ Y.live, ∀ b, (b ∈ J.index ∨ ∃ x ∈ J.ents, b ∈ x.2.blocks) → b < Y.n ∧ 2 ≤ b ∧ b ∉ freeOf Y.n (Y.live.map JSt.st) := fun J hJ b hbj => by
    have hj := hw.ok J hJ
    have h2n : b < Y.n ∧ 2 ≤ b := by
      rcases hbj with hbj | ⟨x, hx, hbx⟩
      · exact ⟨(hj.iblk b hbj).2.1, (hj.iblk b hbj).1⟩
      · exact ⟨(hj.blk x hx b hbx).2.1, (hj.blk x hx b hbx).1⟩
    refine ⟨h2n.1, h2n.2, fun hm => ?_⟩
    have h3 := (mem_freeOf.1 hm).2.2
    unfold takenBy at h3
    rw [List.any_eq_false] at h3
    refine h3 J.st (List.mem_map.2 ⟨J, hJ, rfl⟩) ?_
    simp only [stHas, Bool.or_eq_true, List.any_eq_true]
    rcases hbj with hbj | ⟨x, hx, hbx⟩
    · exact .inl (List.contains_iff_mem.2 hbj)
    · exact .inr ⟨(kb x.1.key, x.2), List.mem_map.2 ⟨x, hx, rfl⟩, by simpa using hbx⟩
  have hnot : ∀ J ∈ Y.live, ∀ x ∈ J.ents, ∀ b ∈ x.2.blocks, b < Y.disk.blocks.length ∧ b ∉ (commitList st' (noted nx)).map (·.1) := fun J hJ x hx b hbx => by
    have h3 := hfar J hJ b (.inr ⟨x, hx, hbx⟩)
    refine ⟨by rw [hlen]; exact h3.1, fun hm => ?_⟩
    rcases hb b hm with h5 | h5
    · exact h3.2.2 h5
    · omega
  have hwrote : ∀ D'' : Dsk, Up D'' → D''.life = Y.disk.life → D''.blocks.length = Y.disk.blocks.length → D''.pending = [] → (∀ b, b < Y.disk.blocks.length → D''.see b = (seeIn (commitList st' (noted nx)) b).getD (Y.disk.see b)) → Wrote Y.disk D'' (commitList st' (noted nx)) := fun D'' a b c d e => ⟨a, b, c, d, e⟩
  have hcommok : ∀ (k : Nat), m + 1 ≤ k → ∀ D'' : Dsk, D''.blocks.length = Y.n → D''.down = false → D''.pending = [] → D''.life = Y.disk.life → (∀ b, b < Y.disk.blocks.length → D''.see b = (seeIn (commitList st' (noted nx)) b).getD (Y.disk.see b)) → Ok (m + 1) (Y.comm nx D'' st') ∧ (Y.comm nx D'' st').sto = { Y.sto with disk := D'', now := st', opened := false, notes := [], gone := [] } := fun k _ D'' a1 a2 a3 a4 a5 => by
    have hW := hwrote { D'' with armed := 0 } ⟨rfl, a2⟩ a4 (by rw [hlen]; exact a1) a3 a5
    have hnew := commit_holds (D := Y.disk) (gs := goneOf Y.now nx) (st := Y.now.st) (sts := Y.live.map JSt.st) hsrt (by omega) (by rw [hlen]; exact hn) hW
    refine h.comm ht hn (D' := D'') ⟨a1, a2, a3, a4⟩ (fun J hJ x hx => ?_) (fun x hx => ?_) (by omega)
    · exact (((hw.ok J hJ).holds x hx).wrote hW (hnot J hJ x hx)).same fun b _ => rfl
    · obtain ⟨p, hp1, hp2⟩ := hnew x hx
      exact ⟨p, hp1, hp2.same fun b _ => rfl⟩
  rcases Go.Proofs.YtbgiklkpinflaaaGreat.commit_armed h.down h.pend hsrt (by omega) hn' with ⟨D', hc, hd, hlf, hl, hp, _, hsee⟩ | ⟨D', hc, hd, hlf, hl, hpl, htorn⟩
  · left
    obtain ⟨hok, hsto⟩ := hcommok (m + 1) (Nat.le_refl _) D' (by rw [hl]; exact hlen) hd hp hlf hsee
    have e3 : (Y.comm nx D' st').now.st = st' := congrArg Sto.now hsto
    refine ⟨Y.comm nx D' st', ?_, comm_ref ht D' st', hok, rfl, rfl, ?_⟩
    · rw [hsto, hcm, hc]
      rfl
    · rw [e3]
      exact commit_rooted' hR hsrt hlen hn hl hsee
  · right
    refine ⟨D', ?_, hd, hlf, by rw [hl]; exact hlen, ?_, fun f => ?_⟩
    · rw [hcm, hc]
      rfl
    · have h5 := h.n5
      have hnd1 : ((valueList st'.places (noted nx) ++ spreadList (writtenOf st'.places) st'.index).map (·.1)).length ≤ Y.n := by
        obtain ⟨rest, hr⟩ := next_front hn hsrt
        have hfl : (freeOf Y.n (Y.live.map JSt.st)).length ≤ Y.n := by
          unfold freeOf
          exact Nat.le_trans (List.length_filter_le _ _) (by rw [List.length_range]; exact Nat.le_refl _)
        rw [hr] at hfl
        rw [List.map_append, valueList_blocks, spreadList_blocks]
        simp only [List.length_append] at hfl ⊢
        omega
      rw [List.length_map] at hnd1
      omega
    · have hcl : commitList st' (noted nx) = (valueList st'.places (noted nx) ++ spreadList (writtenOf st'.places) st'.index) ++ [(st'.gen % 2, rootOf st'.gen (st'.index[0]?.getD 0) (writtenOf st'.places))] := by
        unfold commitList saveList
        rw [List.append_assoc]
      have hlen' : (D'.crash f).blocks.length = Y.n := by
        show (settleIf f D'.blocks D'.pending D'.pending.length).length = _
        rw [settleIf_length, hl]
        exact hlen
      have hlife : (D'.crash f).life ≤ m + 2 := by
        show D'.life + 1 ≤ m + 2
        have := h.dlife
        omega
      rcases htorn f with ho | hnew
      · left
        refine found_old h (by omega) hm hlen' rfl rfl rfl hlife (fun b hbb => ?_) hR
        have hfree : ∀ b, b ∈ (valueList st'.places (noted nx) ++ spreadList (writtenOf st'.places) st'.index).map (·.1) → b ∈ freeOf Y.n (Y.live.map JSt.st) := fun b hbm => by
          rw [List.map_append] at hbm
          rcases List.mem_append.1 hbm with hbm | hbm
          · have : b ∈ (commitList st' (noted nx)).map (·.1) := by
              unfold commitList
              rw [List.map_append]
              exact List.mem_append_left _ hbm
            rcases hb b this with h6 | h6
            · exact h6
            · exfalso
              rw [hcl, List.map_append, List.nodup_append] at hnd
              exact hnd.2.2 b (by rw [List.map_append]; exact List.mem_append_left _ hbm) (st'.gen % 2) (by simp) h6
          · rw [spreadList_blocks] at hbm
            exact hi b hbm
        have hmem : Y.now ∈ Y.live := by simp [Joint.live]
        rcases hbb with hb2 | hb2
        · refine ho b (by omega) fun hm2 => ?_
          have := (mem_freeOf.1 (hfree b hm2)).2.1
          omega
        · have h3 := hfar Y.now hmem b hb2
          exact ho b (by omega) fun hm2 => h3.2.2 (hfree b hm2)
      · right
        rw [← hcl] at hnew
        obtain ⟨hok, hsto⟩ := hcommok (m + 1) (Nat.le_refl _) { D'.crash f with life := Y.disk.life } hlen' rfl rfl rfl hnew
        have e3 : (Y.comm nx { D'.crash f with life := Y.disk.life } st').now.st = st' := congrArg Sto.now hsto
        refine ⟨(Y.comm nx { D'.crash f with life := Y.disk.life } st').again (D'.crash f), rfl, rfl, ?_, rfl, rfl, rfl, hok.again (Nat.le_succ _) hm hlen' rfl rfl hlife (fun x _ b _ => rfl), rfl, ?_⟩
        · have := comm_ref ht { D'.crash f with life := Y.disk.life } st'
          rw [again_ref, this]
          rfl
        · show Rooted (D'.crash f) (Y.comm nx { D'.crash f with life := Y.disk.life } st').now.st
          rw [e3]
          exact commit_rooted' hR hsrt hlen hn (by rw [hlen']; exact hlen.symm) hnew
end

end Go.Proofs.YtbgiklkpinflaaaGreat

namespace Go.Proofs.YtbgiklkpinflaaaGreat
open Go.RowKit Go.Shelf Go.Maps
attribute [local go_sem ↓] Go.wp_at_zero Go.wp_at_succ

abbrev AnyA : Nat → Prop := fun _ => True
section
variable {m : Nat} {Y : Joint} {w0 : World} {g d s r : Nat} {Q : List PinPlace} {bp : List Nat} {bv : Value}
/-- The disk has gone down in a commit. -/
def TornAt (m : Nat) (Y : Joint) (D' : Dsk) : Prop :=
  Y.ref.opened = true ∧ (Y.ref.need : Int) ≤ Y.ref.free ∧ D'.down = true ∧ D'.life = Y.disk.life + 1 ∧ D'.blocks.length = Y.n ∧ D'.pending.length ≤ 1000000 ∧ ∀ f, Found (m + 2) Y (D'.crash f) Y.ref Y.ref.now ∨ Found (m + 2) Y (D'.crash f) Y.ref Y.ref.made
theorem commit_any (h : Ok m Y) (h0 : Rooted Y.disk Y.now.st) (hm : m + 2 ≤ 100) :
    (∃ Y' code, Both2 AnyA m Y Y' ∧ SCall w0 g d s r Y.sto Q bp bv 21 #[] code Y'.sto ∧ RCall w0 g d s r Y.ref Q bp bv 22 #[] code Y'.ref) ∨
    ∃ D', TornAt m Y D' ∧ SCall w0 g d s r Y.sto Q bp bv 21 #[] 50 { Y.sto with disk := D' } ∧ RCall w0 g d s r Y.ref Q bp bv 22 #[] 0 Y.ref.comm := by
  have hm1 : m + 1 ≤ 100 := by omega
  have hq : Quiet AnyA Y.disk Y.now.st := ⟨trivial, h0⟩
  cases ht : Y.trans with
  | none =>
    refine .inl ⟨Y, 54, Both2.same h hq hm1, fun w R O S hB => ?_, fun w X O S hB => ?_⟩
    · refine (ston_commit_closed hB.sto (by rw [h.ready_no ht]; decide)).mono fun e w' ⟨a, b⟩ => SRet.no hB (a.trans ?_) b
      rw [h.ready_no ht]
    · exact (ref_commit_no hB.ref (opened_no ht).2).mono fun e w' ⟨a, b⟩ => RRet.no hB a b
  | some nx =>
    have t := h.trans nx ht
    have hc : ∀ w R O S, Bn w0 w g d s r Y.sto Q R bp O S bv → Calls Tryz.prog 21 #[.pointer (some ⟨s, 0, none⟩)] w fun e w' => e = .returned (.int .i64 Y.sto.commit.1) ∧ StoNPost (w0.heap.size ≤ ·) w s d Y.sto.commit.2 Q O w' := fun w R O S hB => by
      refine ston_commit hB.sto h.alive (opened_yes ht).1 h.stNow h.stPins h.few_pins ?_ ?_ ?_ ?_ ?_ ?_
      · rw [h.notes ht]
        exact t.ok.srt.noted_
      · rw [h.goneEq ht]
        exact h.srt.gone nx
      · rw [h.notes ht]
        intro x hx
        obtain ⟨y, hy, _, rfl⟩ := mem_noted.1 hx
        refine ⟨?_, t.ok.vals y hy⟩
        show (kb y.1.key).length ≤ 64
        rw [kb_length]
        exact (t.ok.keys y hy).2
      · rw [h.notes ht]
        have := noted_few nx
        have := t.few
        have := h.m100
        omega
      · intro st' hst
        rw [h.notes ht, h.goneEq ht] at hst
        have e : Y.sto.disk.blocks.length = Y.n := h.len
        rw [e] at hst ⊢
        exact h.next_ok ht hst
      · have h1 := h.dlife
        have h2 := h.pend
        have h3 := h.m100
        refine ⟨?_, ?_⟩
        · show Y.disk.life + 3000 ≤ _
          omega
        · show Y.disk.pending.length + 3000 ≤ _
          rw [h2]
          simp
    by_cases hf : (Y.ref.need : Int) ≤ Y.ref.free
    · have hrc : RCall w0 g d s r Y.ref Q bp bv 22 #[] 0 Y.ref.comm := fun w X O S hB => (ref_commit hB.ref h.refOk (opened_yes ht).2 hf).mono fun e w' ⟨a, b⟩ => RRet.of hB a b
      rcases h.commit_armed ht hf h0 hm with ⟨Y', e1, e2, e3, e5, e6, e7⟩ | ⟨D', e1, e2, e3, e4, e5, e6⟩
      · rw [e1] at hc
        refine .inl ⟨Y', 0, ⟨e3, ⟨trivial, e7⟩, e6, e5⟩, fun w R O S hB => ?_, ?_⟩
        · exact (hc w R O S hB).mono fun e w' ⟨a, b⟩ => SRet.of hB a b
        · rw [e2]
          exact hrc
      · rw [e1] at hc
        exact .inr ⟨D', ⟨(opened_yes ht).2, hf, e2, e3, e4, e5, e6⟩, fun w R O S hB => (hc w R O S hB).mono fun e w' ⟨a, b⟩ => SRet.of hB a b, hrc⟩
    · rw [h.commit_no ht (by omega)] at hc
      refine .inl ⟨Y, 52, Both2.same h hq hm1, fun w R O S hB => ?_, fun w X O S hB => ?_⟩
      · exact (hc w R O S hB).mono fun e w' ⟨a, b⟩ => SRet.of hB a b
      · exact (ref_commit_full hB.ref h.refOk (opened_yes ht).2 (by omega)).mono fun e w' ⟨a, b⟩ => RRet.no hB a b
end
section
variable {w0 w : World} {g d s r : Nat} {X X' : Sto} {R R' : RSto} {Q : List PinPlace} {bp O S : List Nat} {bv : Value} {c1 c2 : Int}
set_option maxRecDepth 100000 in
set_option maxHeartbeats 4000000 in
/-- Commit of both, whatever they answer. -/
theorem do_commit_raw (h : Bn w0 w g d s r X Q R bp O S bv) (hs : SCall w0 g d s r X Q bp bv 21 #[] c1 X') (hr : RCall w0 g d s r R Q bp bv 22 #[] c2 R') (kd : Nat) (key : ByteArray) (n y : Nat) (hkd : (kd : Int) % 9 = 3) :
    Calls Tryz.prog 13 #[.pointer (some ⟨g, 0, none⟩), .agg (opCells kd key n y)] w fun e w' => e = .returned (.bool (c1 == c2)) ∧ ∃ O' S', Bn w0 w' g d s r X' Q R' bp O' S' bv ∧ Keeps (foot g O S bv) w w' := by
  have HS := Lib.hid hs
  have HR := Lib.hid hr
  have hA : Below w.heap.size w ((w.alloc (.cells (opCells kd key n y) 29)).drewN 1) := ((Below.refl _ w).alloc (Nat.le_refl _) _).drewN_ 1
  have hbx : Blk ((w.alloc (.cells (opCells kd key n y) 29)).drewN 1) w.heap.size 29 (opCells kd key n y) := (Blk.new w _ _).drewN 1
  have HBX := Lib.hid hbx
  have HA := Lib.hid hA
  have HB1 := Lib.hid (h.below hA)
  have a1 : ∀ o, (w.alloc o).cell? ⟨g, 1, none⟩ = some (.pointer (some ⟨s, 0, none⟩)) := fun o => (Blk.alloc h.bench o).cell 1
  have a2 : ∀ o, (w.alloc o).cell? ⟨g, 2, none⟩ = some (.pointer (some ⟨r, 0, none⟩)) := fun o => (Blk.alloc h.bench o).cell 2
  clear h hs hr hA hbx
  go_enter Tryz.func13, Tryz.ntmps13
  go_wp2
  go_region_held3 (fun w' => w'.cell? ⟨g, 1, none⟩ = some (.pointer (some ⟨s, 0, none⟩)) ∧ w'.cell? ⟨g, 2, none⟩ = some (.pointer (some ⟨r, 0, none⟩))) (go_keep)
    ((first
      | (go_at_call 22; refine (HR.out _ _ _ _ HB2.out).mono ?_; rintro e w3 ⟨rfl, S', hB3, hS', hk3⟩; have HB3 := Lib.hid hB3; have HK3 := Lib.hid hk3; have i1 := (Blk.cell hB3.bench 1 : w3.cell? ⟨g, 1, none⟩ = some (.pointer (some ⟨s, 0, none⟩))); have i2 := (Blk.cell hB3.bench 2 : w3.cell? ⟨g, 2, none⟩ = some (.pointer (some ⟨r, 0, none⟩))); clear hB3 hS' hk3)
      | (go_at_call 21; have hB1 := HB1.out; refine (HS.out _ _ _ _ hB1).mono ?_; rintro e w2 ⟨rfl, O', hB2, hO', hk2⟩; have HB2 := Lib.hid hB2; have HK2 := Lib.hid hk2; have e1 := (Blk.cell hB2.bench 1 : w2.cell? ⟨g, 1, none⟩ = some (.pointer (some ⟨s, 0, none⟩))); have e2 := (Blk.cell hB2.bench 2 : w2.cell? ⟨g, 2, none⟩ = some (.pointer (some ⟨r, 0, none⟩))); clear hB2 hO' hk2 hB1)))
  all_goals
    go_wp2
    go_ret
    have k1 : Keeps (foot g O S bv) w _ := Keeps.of_below HA.out
    have k12 := k1.trans (G := foot g O S bv) (HK2.out.weaken fun q _ e => .inr (.inr (.inl e))) fun _ _ h => h
    exact ⟨rfl, O', S', HB3.out, k12.trans (G := foot g O S bv) (HK3.out.weaken fun q _ e => .inr (.inr (.inr e))) fun _ _ h => h⟩
theorem foot_lt (h : Bn w0 w g d s r X Q R bp O S bv) : ∀ k, foot g O S bv k → k < w.heap.size := by
  intro k hk
  rcases hk with rfl | hk | hk | hk
  · exact Blk.lt h.bench
  · obtain ⟨cs, hb⟩ := own_is_blk h.row hk
    exact hb.lt
  · obtain ⟨Sd, T, a, mb, pv, nv, gv, h1, rfl⟩ := h.sto
    simp only [List.mem_cons, List.mem_append, Option.mem_toList] at hk
    rcases hk with rfl | hk | hk | hk
    · exact Blk.lt h1.hs
    · obtain ⟨t, cs, hb, _⟩ := h1.disk.lt k hk
      exact hb.lt
    · obtain ⟨M, hM⟩ := h1.trans.maps hk
      exact hM.lt
    · obtain ⟨cs, hb⟩ := own_is_blk h1.hpins.own hk
      exact hb.lt
  · obtain ⟨t, cs, hb, _⟩ := h.ref.own k hk
    exact hb.lt
end

end Go.Proofs.YtbgiklkpinflaaaGreat

namespace Go.Proofs.YtbgiklkpinflaaaGreat
open Go.RowKit Go.Shelf Go.Maps
attribute [local go_sem ↓] Go.wp_at_zero Go.wp_at_succ

/-- append(nil, xs...) at a step of a region that draws: xs nil or not, empty or not. -/
theorem step_append_all {P : Program} {w : World} {ops : Array Oper} {o : Oper} {a : Go.Act} {K : Go.Act → World → Prop} {E : Prop} {Q : Exit → Go.Act → World → Prop} (hgd : o.guard = none) (s x : Operand) (t : TypeId)
    (ho : o.op = .call { callee := .builtin .append, args := #[s, x], argTypes := #[t, t] })
    (base : Nat) (e : TypeId) (i : TypeInfo) (z : Value) (size bytes : Nat) (ht : P.underlying t = some (.slice e)) (hi : P.info? e = some i) (hz : i.zero = some z)
    (hsize : i.size = size) (hby : i.bytes = bytes) (hzs : z.cells.size = size) (hsz : 0 < size)
    (hs : a.eval s = .slice none 0 0) (xv : Value) (hx : a.eval x = xv) (m : Nat) (news : List Value) (hl : news.length = m * size)
    (hxv : (xv = .slice none 0 0 ∧ m = 0) ∨ ∃ ad c, xv = .slice (some ad) m c ∧ ∀ j u, news[j]? = some u → w.cell? (ad.add j) = some u) (h1 : ∀ u ∈ news, u.oneCell' = true)
    (h63 : m ≤ maxLen) (hbytes : m * bytes ≤ 140737488355328) (hbase : base ≤ w.heap.size)
    (h : ∀ A n c w', w'.ownsRow base e size (.slice A n c) m news → w.grownBy w' none → K (a.put o.dst (.slice A n c)) w') :
    if Region.wanted o (yielded ops a.tmps) = true then Oper.wp P o a w K Q else E := by
  have hw : Region.wanted o (yielded ops a.tmps) = true := by simp [Region.wanted, hgd]
  rw [if_pos hw]
  have hown : w.ownsRow base e size (.slice none 0 0) 0 [] := ⟨by simp, .inl ⟨rfl, rfl⟩⟩
  have key : ∃ A n c w', (Builtin.append_ #[t, t] o.type #[.slice none 0 0, xv]).run P w = .ok (.slice A n c) w' ∧ w'.ownsRow base e size (.slice A n c) m news ∧ w.grownBy w' none := by
    rcases hxv with ⟨rfl, rfl⟩ | ⟨ad, c, rfl, hn⟩
    · have hr := run_append_owned_none (P := P) (w := w) base t o.type e i size ht hi _ _ _ hown
      have hnil : news = [] := List.length_eq_zero_iff.1 (by omega)
      subst hnil
      exact ⟨none, 0, 0, w, hr, hown, rfl, rfl, rfl, Nat.le_refl _, fun _ _ _ => rfl⟩
    · obtain ⟨v', w', hr, h2, h3, _, h5⟩ := run_append_own_at (P := P) w base t o.type e i z size bytes ht hi hz hsize hby hzs hsz _ _ _ hown ad m c news hl hn h1 (by omega) (by simpa using hbytes) hbase
      simp only [Nat.zero_add, List.nil_append] at h2
      rcases h2.2 with ⟨e, _⟩ | ⟨g, cap, _, e, _⟩
      · subst e
        exact ⟨_, _, _, w', hr, h2, h3⟩
      · subst e
        exact ⟨_, _, _, w', hr, h2, h3⟩
  obtain ⟨A, n, c, w', hr, h2, h3⟩ := key
  unfold Oper.wp execOp
  simp only [ho, resolve, invoke, builtin, Sem.run_bind, Sem.run_pure, Result.andThen_ok, List.map_toArray, List.map_cons, List.map_nil, hs, hx, hr]
  exact h A n c w' h2 h3


section
variable {w w' : World} {r : Nat} {R : RSto} {S : List Nat}
theorem oneCell_pins (qs : List ((RSt × Bool) × Value)) (h : ∀ q ∈ qs, q.2.oneCell' = true) : ∀ u ∈ pinCells qs, u.oneCell' = true := by
  intro u hu
  obtain ⟨q, hq, hu⟩ := List.mem_flatMap.1 hu
  simp only [List.mem_cons, List.not_mem_nil, or_false] at hu
  rcases hu with rfl | rfl | rfl
  · simp [Value.oneCell']
  · exact h q hq
  · simp [Value.oneCell']
theorem own_zero {w : World} {b n s : Nat} {e : TypeId} {v : Value} {xs : List Value} (h : w.ownsRow b e s v n xs) : w.ownsRow 0 e s v n xs :=
  ⟨h.1, h.2.imp id fun ⟨g, cap, cur, e, _, rest⟩ => ⟨g, cap, cur, e, Nat.zero_le _, rest⟩⟩
set_option maxRecDepth 100000 in
set_option maxHeartbeats 4000000 in
theorem refcopy_calls (h : RefAt w r R S) (hpn : R.pins.length ≤ 1000) :
    Calls Tryz.prog 83 #[.pointer (some ⟨r, 0, none⟩)] w fun e w' => ∃ r' S', e = .returned (.pointer (some ⟨r', 0, none⟩)) ∧ RefAt w' r' R S' ∧ (∀ k ∈ S', w.heap.size ≤ k) ∧ Below w.heap.size w w' := by
  obtain ⟨nv, xv, pv, qs, h1, rfl⟩ := h
  obtain ⟨An, cn, rfl⟩ := h1.now.slice
  obtain ⟨Ax, cx, rfl⟩ := h1.next.slice
  have hql : qs.length = R.pins.length := by rw [← h1.pl, List.length_map]
  have hq1000 : qs.length ≤ 1000 := by omega
  obtain ⟨Ap, cp, hpv, hpc⟩ := row_cells h1.pins
  subst hpv
  have hone : ∀ u ∈ pinCells qs, u.oneCell' = true := oneCell_pins qs fun q hq => by
    obtain ⟨A, c, e⟩ := (h1.pe q hq).slice
    rw [e]
    rfl
  have hsrc : (Value.slice Ap qs.length cp = .slice none 0 0 ∧ qs.length = 0) ∨ ∃ ad c, Value.slice Ap qs.length cp = .slice (some ad) qs.length c ∧ ∀ j u, (pinCells qs)[j]? = some u → w.cell? (ad.add j) = some u := by
    rcases Nat.eq_zero_or_pos qs.length with h0 | h0
    · rcases h1.pins.2 with ⟨e, _⟩ | ⟨g, cap, cur, e, _⟩
      · exact .inl ⟨e, h0⟩
      · refine .inr ⟨⟨g, 0, none⟩, cap, e, fun j u hj => ?_⟩
        rw [List.eq_nil_of_length_eq_zero h0] at hj
        simp [pinCells] at hj
    · have hj0 : (pinCells qs)[0]? = some ((pinCells qs)[0]'(by rw [pinCells_length]; omega)) := List.getElem?_eq_getElem _
      obtain ⟨g, rfl, _, _⟩ := hpc 0 _ hj0
      refine .inr ⟨⟨g, 0, none⟩, cp, rfl, fun j u hj => ?_⟩
      obtain ⟨g', e, _, hc⟩ := hpc j u hj
      cases e
      rw [Addr.add_lit, Nat.zero_add]
      exact hc
  have HB := Lib.hid h1.blk
  have HH := Lib.hid h1
  have HSRC := Lib.hid hsrc
  have HONE := Lib.hid hone
  have b0 := h1.blk.cell 0
  have b1 := h1.blk.cell 1
  have b2 := h1.blk.cell 2
  have b3 := h1.blk.cell 3
  have b4 := h1.blk.cell 4
  have b5 := h1.blk.cell 5
  have b6 := h1.blk.cell 6
  have b7 := h1.blk.cell 7
  obtain ⟨ip, hip, pz0, pz1, pz2⟩ := info_parts Tryz.infoPin
  clear h1 hpc hone hsrc hql hpn
  go_enter Tryz.func83, Tryz.ntmps83
  go_wp2
  go_cut [3] from 4 to 25 (fun s3 wx => s3 = .pointer (some ⟨w.heap.size, 0, none⟩) ∧ Below w.heap.size w wx ∧ wx.heap.size = w.heap.size + 1 ∧ Blk wx w.heap.size 51 #[.int .i64 (R.blocks : Int), .int .i64 (R.now.gen : Int), .slice An R.now.ents.length cn, .int .i64 (R.next.gen : Int), .slice Ax R.next.ents.length cx, .bool R.opened, .slice none 0 0, .int .i64 (R.last : Int)])
  case first =>
    go_region
    all_goals
      go_wp2_with fail
      go_meet
      exact ⟨rfl, ((Below.refl _ w).alloc (Nat.le_refl _) _).drew_, by simp, (Blk.new w _ _).drew⟩
  case rest =>
    obtain ⟨rfl, hb, hs, hbk⟩ := hcut
    have n6 := hbk.cell 6
    have m6 : wc.cell? ⟨r, 6, none⟩ = some (.slice Ap qs.length cp) := (HB.out.below hb HB.out.lt).cell 6
    have HSR : Hid ((Value.slice Ap qs.length cp = .slice none 0 0 ∧ qs.length = 0) ∨ ∃ ad c, Value.slice Ap qs.length cp = .slice (some ad) qs.length c ∧ ∀ j u, (pinCells qs)[j]? = some u → wc.drew.cell? (ad.add j) = some u) :=
      HSRC.out.imp id fun ⟨ad, c, e, h⟩ => ⟨ad, c, e, fun j u hj => (hb.cell (World.block_lt_of_cell? w _ (h j u hj))).trans (h j u hj)⟩
    have HBK := Lib.hid hbk
    have HBE := Lib.hid hb
    have HS1 : Hid (w.heap.size + 1 ≤ wc.drew.heap.size) := by show w.heap.size + 1 ≤ wc.heap.size; omega
    clear hb hs hbk
    go_wp2
    go_region_law
      (refine step_append_all (by rfl) _ _ _ (by rfl) (w.heap.size + 1) 48 ip _ 3 40 Tryz.underlying49 hip pz0 pz1 pz2 rfl (by omega) (by rfl) (.slice Ap qs.length cp) (by rfl) qs.length (pinCells qs) (pinCells_length qs) HSR.out HONE.out
        (by unfold maxLen; omega) (by omega) HS1.out ?_; intro A3 n3 cap3 w3 hown hgrow; have B3 := Blk.grown HBK.out.drew hgrow (by simp); have y6 := B3.cell 6; have f6 := B3.frozen 6; have HOW := Lib.hid hown; have HG := Lib.hid hgrow; clear hown hgrow)
    all_goals
      go_wp2
      go_ret
      have k3 : Below w.heap.size w w3 := HBE.out.grown ⟨HG.out.os, HG.out.tape, HG.out.output, HG.out.size, HG.out.block⟩ (by have := HS1.out; have h9 : wc.drew.heap.size = wc.heap.size := rfl; omega) (fun g e => by cases e)
      have k4 : Below w.heap.size w (w3.setCell ⟨w.heap.size, 6, none⟩ (.slice A3 n3 cap3)) := k3.setCell (p := ⟨w.heap.size, 6, none⟩) (Nat.le_refl _) _
      have hne := own_blk_ne HOW.out B3 (by decide)
      have hown := ownsRow_keeps HOW.out (Keeps.set1 w3 w.heap.size 6 (.slice A3 n3 cap3)) (fun g hg e => hne (by rw [hg, e]))
      have hn3 : n3 = qs.length := by
        rcases HOW.out.2 with ⟨e, h0⟩ | ⟨g, cap, cur, e, _⟩
        · cases e
          exact h0.symm
        · cases e
          rfl
      subst hn3
      refine ⟨w.heap.size, w.heap.size :: (Value.slice A3 qs.length cap3).ownBlock.toList, rfl, ⟨.slice An R.now.ents.length cn, .slice Ax R.next.ents.length cx, .slice A3 qs.length cap3, qs, ⟨B3.set_ 6 _, HH.out.now.below k4, HH.out.next.below k4, own_zero hown, HH.out.pl, fun q hq => (HH.out.pe q hq).below k4⟩, rfl⟩, fun k hk => ?_, k4⟩
      rcases List.mem_cons.1 hk with rfl | hk
      · exact Nat.le_refl _
      · have := own_ge hown k (Option.mem_toList.1 hk)
        omega
end

end Go.Proofs.YtbgiklkpinflaaaGreat

namespace Go.Proofs.YtbgiklkpinflaaaGreat
open Go.RowKit Go.Shelf Go.Maps
attribute [local go_sem ↓] Go.wp_at_zero Go.wp_at_succ

set_option maxRecDepth 100000 in
set_option maxHeartbeats 4000000 in
theorem reopen_either {m : Nat} {w0 w : World} {g d s r : Nat} {X : Sto} {Q : List PinPlace} {R : RSto} {bp O S : List Nat} {bv vn vm : Value} {now made : RSt} {Y' : Joint} (h : Bn w0 w g d s r X Q R bp O S bv) (hdn : X.disk.down = false) (hpen : X.disk.pending.length ≤ 1000000000) (h2 : 2 ≤ X.disk.blocks.length) (h5 : X.disk.blocks.length ≤ 1024)
    (hvn : EntsAt Any w vn now.ents) (hvm : EntsAt Any w vm made.ents) (hY : Ok m Y') (hop : openOf X.disk = some Y'.now.st) (hg8 : ∀ i, i < 2 → numAt (X.disk.see i) 4 8 < 9223372036854775808) (hsto : Y'.sto = openedSto X.disk Y'.now.st) (href : Y'.ref = R.again (if Y'.now.gen = made.gen then made else now)) :
    Calls Tryz.prog 26 #[.pointer (some ⟨g, 0, none⟩), .agg #[.int .i64 (now.gen : Int), vn], .agg #[.int .i64 (made.gen : Int), vm], .bool true] w fun e w' => ∃ g2 s2 r2 O2, e = .returned (.tuple #[.pointer (some ⟨g2, 0, none⟩), .bool true]) ∧ Bn w0 w' g2 d s2 r2 Y'.sto [] Y'.ref [] O2 [r2] (.slice none 0 0) ∧ Below w.heap.size w w' := by
  obtain ⟨Sd, hD, _⟩ := h.sto.disk_at
  have HO : Hid (∀ wx, Below w.heap.size w wx → Calls Tryz.prog 36 #[.pointer (some ⟨d, 0, none⟩)] wx fun e w' => ∃ s a mb, e = .returned (.tuple #[.pointer (some ⟨s, 0, none⟩), .int .i64 0]) ∧ Blk w' s 100 #[.pointer (some ⟨d, 0, none⟩), .int .i64 (X.disk.life : Int), .pointer (some ⟨a, 0, none⟩), .slice none 0 0, .bool false, .map none, .map none] ∧ StateAt w' a mb Y'.now.st ∧ wx.heap.size ≤ s ∧ Below wx.heap.size wx w') := fun wx hb => open_walk wx (hD.below hb) hdn hpen h2 h5 hop hg8
  have HA : Hid (∀ wx, Below w.heap.size w wx → Calls Tryz.prog 80 #[.pointer (some ⟨r, 0, none⟩), .agg #[.int .i64 (now.gen : Int), vn]] wx fun e w' => ∃ r', e = .returned (.pointer (some ⟨r', 0, none⟩)) ∧ RefAt w' r' (R.again now) [r'] ∧ wx.heap.size ≤ r' ∧ Below wx.heap.size wx w') := fun wx hb => again_calls (h.ref.below hb) (hvn.below hb)
  obtain ⟨An, cn, rfl⟩ := hvn.slice
  have HAM : Hid (∀ wx, Below w.heap.size w wx → Calls Tryz.prog 80 #[.pointer (some ⟨r, 0, none⟩), .agg #[.int .i64 (made.gen : Int), vm]] wx fun e w' => ∃ r', e = .returned (.pointer (some ⟨r', 0, none⟩)) ∧ RefAt w' r' (R.again made) [r'] ∧ wx.heap.size ≤ r' ∧ Below wx.heap.size wx w') := fun wx hb => again_calls (h.ref.below hb) (hvm.below hb)
  obtain ⟨Am, cm, rfl⟩ := hvm.slice
  obtain ⟨on, hon⟩ : ∃ on : Obj, on = .cells #[.int .i64 (now.gen : Int), .slice An now.ents.length cn] 46 := ⟨_, rfl⟩
  obtain ⟨om, hom⟩ : ∃ om : Obj, om = .cells #[.int .i64 (made.gen : Int), .slice Am made.ents.length cm] 46 := ⟨_, rfl⟩
  have hbn : Blk (w.alloc on) w.heap.size 46 #[.int .i64 (now.gen : Int), .slice An now.ents.length cn] := by rw [hon]; exact Blk.new w _ _
  have hb1 : Below w.heap.size w ((w.alloc on).alloc om) := ((Below.refl _ w).alloc (Nat.le_refl _) _).alloc (by simp) _
  have HC : Hid (∀ wx, Below (w.heap.size + 1) (w.alloc on) wx → wx.cell? ⟨g, 0, none⟩ = some (.pointer (some ⟨d, 0, none⟩)) ∧ wx.cell? ⟨g, 2, none⟩ = some (.pointer (some ⟨r, 0, none⟩)) ∧ wx.cell? ⟨w.heap.size, 0, none⟩ = some (.int .i64 (now.gen : Int)) ∧ wx.cell? ⟨w.heap.size, 1, none⟩ = some (.slice An now.ents.length cn)) := fun wx hb => by
    have hx := (Blk.alloc h.bench on).below hb (by have := Blk.lt h.bench; omega)
    have hy := hbn.below hb (by omega)
    exact ⟨hx.cell 0, hx.cell 2, hy.cell 0, hy.cell 1⟩
  have hB1 : Below (w.heap.size + 1) (w.alloc on) ((w.alloc on).alloc om) := (Below.refl _ (w.alloc on)).alloc (by simp) om
  obtain ⟨d0, d2, d3, d4⟩ := HC.out _ hB1
  have hbm : Blk ((w.alloc on).alloc om) (w.heap.size + 1) 46 #[.int .i64 (made.gen : Int), .slice Am made.ents.length cm] := by
    rw [hom]
    have := Blk.new (w.alloc on) 46 #[.int .i64 (made.gen : Int), .slice Am made.ents.length cm]
    simpa using this
  have HCM : Hid (∀ wx, Below (w.heap.size + 2) ((w.alloc on).alloc om) wx → wx.cell? ⟨w.heap.size + 1, 0, none⟩ = some (.int .i64 (made.gen : Int)) ∧ wx.cell? ⟨w.heap.size + 1, 1, none⟩ = some (.slice Am made.ents.length cm)) := fun wx hb => by
    have hy := hbm.below hb (by omega)
    exact ⟨hy.cell 0, hy.cell 1⟩
  have HDN := Lib.hid hdn
  have HB1 := Lib.hid hb1
  have HBB := Lib.hid hB1
  have HH := Lib.hid h
  have HY := Lib.hid hY
  have HST := Lib.hid hsto
  have HRF := Lib.hid href
  clear h hvn hD hop hg8 hsto href hY hdn hpen h2 h5 hbn hb1 hB1 hbm hvm
  subst hon hom
  go_enter Tryz.func26, Tryz.ntmps26
  go_wp2_with (go_at_call 36; go_loud (refine (HO.out _ HB1.out).mono ?_; rintro e w2 ⟨s2, a, mb, rfl, hs, hst, hle, hb2⟩; have HS := Lib.hid hs; have HSS := Lib.hid hst; have HLE : Hid (w.heap.size ≤ s2) := (Nat.le_trans HB1.out.size hle); have HM2 : Hid (Below (w.heap.size + 2) ((w.alloc (.cells #[.int .i64 (now.gen : Int), .slice An now.ents.length cn] 46)).alloc (.cells #[.int .i64 (made.gen : Int), .slice Am made.ents.length cm] 46)) w2) := hb2.mono (by simp); have HB2 : Hid (Below w.heap.size w w2) := HB1.out.trans (hb2.mono HB1.out.size); have HBB2 : Hid (Below (w.heap.size + 1) (w.alloc (.cells #[.int .i64 (now.gen : Int), .slice An now.ents.length cn] 46)) w2) := HBB.out.trans (hb2.mono (by simp)); obtain ⟨e0, e2, e3, e4⟩ := HC.out _ HBB2.out; clear hs hst hle hb2))
  have f0 : w2.drew.cell? ⟨g, 0, none⟩ = some (.pointer (some ⟨d, 0, none⟩)) := e0
  have f2 : w2.drew.cell? ⟨g, 2, none⟩ = some (.pointer (some ⟨r, 0, none⟩)) := e2
  have f3 : w2.drew.cell? ⟨w.heap.size, 0, none⟩ = some (.int .i64 (now.gen : Int)) := e3
  have f4 : w2.drew.cell? ⟨w.heap.size, 1, none⟩ = some (.slice An now.ents.length cn) := e4
  go_region_held3 (fun w' => w'.cell? ⟨g, 0, none⟩ = some (.pointer (some ⟨d, 0, none⟩)) ∧ w'.cell? ⟨g, 2, none⟩ = some (.pointer (some ⟨r, 0, none⟩)) ∧ w'.cell? ⟨w.heap.size, 0, none⟩ = some (.int .i64 (now.gen : Int)) ∧ w'.cell? ⟨w.heap.size, 1, none⟩ = some (.slice An now.ents.length cn)) ((first | exact HY3.out _ | go_keep))
    ((first
      | (go_at_call 80; refine (HA.out _ (HB2.out.drew_)).mono ?_; rintro e w3 ⟨r2, rfl, hr, hle3, hb3⟩; have HR := Lib.hid hr; have HLE3 : Hid (w.heap.size ≤ r2) := (Nat.le_trans HB2.out.size hle3); have HB23 : Hid (Below w2.heap.size w2 w3) := ((Below.refl _ w2).drew_).trans (hb3.mono (Nat.le_refl _)); have HBB3 : Hid (Below (w.heap.size + 1) (w.alloc (.cells #[.int .i64 (now.gen : Int), .slice An now.ents.length cn] 46)) w3) := HBB2.out.trans (HB23.out.mono (by have := HBB2.out.size; rw [World.size_alloc] at this; omega)); obtain ⟨i0, i2, i3, i4⟩ := HC.out _ HBB3.out; have HY3 : Hid (∀ o, (w3.alloc o).cell? ⟨g, 0, none⟩ = some (.pointer (some ⟨d, 0, none⟩)) ∧ (w3.alloc o).cell? ⟨g, 2, none⟩ = some (.pointer (some ⟨r, 0, none⟩)) ∧ (w3.alloc o).cell? ⟨w.heap.size, 0, none⟩ = some (.int .i64 (now.gen : Int)) ∧ (w3.alloc o).cell? ⟨w.heap.size, 1, none⟩ = some (.slice An now.ents.length cn)) := fun o => HC.out _ (HBB3.out.alloc (by have := HBB3.out.size; rw [World.size_alloc] at this; omega) o); clear hr hle3 hb3)))
  all_goals
    go_wp2
    obtain ⟨W4, hW4⟩ : ∃ W4, W4 = w3.alloc (.cells #[.pointer (some ⟨d, 0, none⟩), .pointer (some ⟨s2, 0, none⟩), .pointer (some ⟨r2, 0, none⟩), .slice none 0 0] 39) := ⟨_, rfl⟩
    rw [← hW4]
    have hb34 : Below w3.heap.size w3 W4 := by rw [hW4]; exact (Below.refl _ w3).alloc (Nat.le_refl _) _
    have hb24 : Below w2.heap.size w2 W4 := HB23.out.trans (hb34.mono HB23.out.size)
    have hbn2 : BenchAt W4 w3.heap.size d s2 r2 (.slice none 0 0) := by rw [hW4]; exact Blk.new w3 _ _
    obtain ⟨O2, hBn⟩ := bn_opened HH.out HS.out HSS.out HLE.out HB2.out hb24 (HR.out.below hb34) HLE3.out hbn2 (Nat.le_trans HB2.out.size HB23.out.size)
    have HBn := Lib.hid hBn
    have HB4 : Hid (Below w.heap.size w W4) := HB2.out.trans (hb24.mono HB2.out.size)
    have hsz4 : w.heap.size ≤ W4.heap.size := HB4.out.size
    have hsz2 : w.heap.size + 2 ≤ w2.heap.size := by
      have := HM2.out.size
      simp at this
      omega
    have HM4 := Lib.hid (HM2.out.trans (hb24.mono hsz2))
    have HB24 := Lib.hid hb24
    have HBN2 := Lib.hid hbn2
    have hsz42 : w.heap.size + 2 ≤ W4.heap.size := Nat.le_trans hsz2 hb24.size
    have hg2 : w.heap.size + 2 ≤ w3.heap.size := Nat.le_trans hsz2 HB23.out.size
    have HL2 : Hid (w2.heap.size ≤ w3.heap.size) := HB23.out.size
    obtain ⟨g2, hg2e⟩ : ∃ g2, g2 = w3.heap.size := ⟨_, rfl⟩
    rw [← hg2e] at HBn HBN2 hg2 HL2 ⊢
    have HW4 : Hid (Below (w.heap.size + 1) (w.alloc (.cells #[.int .i64 (now.gen : Int), .slice An now.ents.length cn] 46)) W4) := HBB2.out.trans (hb24.mono (by omega))
    obtain ⟨gg, hgg⟩ : ∃ gg, gg = Y'.now.gen := ⟨_, rfl⟩
    have HGEN : Hid (∀ wx, Below W4.heap.size W4 wx → Calls Tryz.prog 38 #[.pointer (some ⟨s2, 0, none⟩)] wx fun e w' => e = .returned (.int .i64 (gg : Int)) ∧ Below wx.heap.size wx w') := fun wx hb => by
      have := sto_generation (HBn.out.sto.a_.below hb)
      rw [show isDead (openedSto X.disk Y'.now.st).life (openedSto X.disk Y'.now.st).disk = false by show (X.disk.life != X.disk.life || X.disk.down) = false; rw [HDN.out]; simp] at this
      rw [hgg]
      exact this
    have HGG := Lib.hid hgg
    obtain ⟨c0, c1⟩ := HCM.out _ HM4.out
    have k0 : W4.drew.cell? ⟨w.heap.size + 1, 0, none⟩ = some (.int .i64 (made.gen : Int)) := c0
    clear hW4 hb34 hb24 hbn2 hBn i0 i2 i3 i4 e0 e2 e3 e4 f0 f2 f3 f4 hg2e hgg
    by_cases hgen : gg = made.gen
    · have tg : ((gg : Int) == (made.gen : Int)) = true := by rw [hgen]; simp
      go_region_held3 (fun w' => w'.cell? ⟨w.heap.size + 1, 0, none⟩ = some (.int .i64 (made.gen : Int))) (go_keep)
        ((first
          | (go_at_call 38; refine (HGEN.out _ ((Below.refl _ W4).drew_)).mono ?_; rintro e w5 ⟨rfl, hb5⟩; have HB5 : Hid (Below W4.heap.size W4 w5) := ((Below.refl _ W4).drew_).trans (hb5.mono (Nat.le_refl _)); obtain ⟨l0, l1⟩ := HCM.out _ (HM4.out.trans (HB5.out.mono (by omega))); obtain ⟨_, l2, _, _⟩ := HC.out _ (HW4.out.trans (HB5.out.mono (by omega))); clear hb5)))
      all_goals
        have hbb := Blk.below HBN2.out HB5.out (Blk.lt HBN2.out)
        have v2 : w5.drew.cell? ⟨g2, 2, none⟩ = some (.pointer (some ⟨r2, 0, none⟩)) := hbb.cell 2
        have HBB5 := Lib.hid hbb
        have HW5 : Hid (Below w.heap.size w w5) := HB4.out.trans (HB5.out.mono hsz4)
        have p0 : w5.drew.cell? ⟨w.heap.size + 1, 0, none⟩ = some (.int .i64 (made.gen : Int)) := l0
        have p1 : w5.drew.cell? ⟨w.heap.size + 1, 1, none⟩ = some (.slice Am made.ents.length cm) := l1
        have p2 : w5.drew.cell? ⟨g, 2, none⟩ = some (.pointer (some ⟨r, 0, none⟩)) := l2
        have hgg2 : g ≠ g2 := fun e => by
          have := Blk.lt HH.out.bench
          omega
        clear hbb
        go_wp2
        go_region_held3 (fun w' => w'.cell? ⟨g, 2, none⟩ = some (.pointer (some ⟨r, 0, none⟩)) ∧ w'.cell? ⟨w.heap.size + 1, 0, none⟩ = some (.int .i64 (made.gen : Int)) ∧ w'.cell? ⟨w.heap.size + 1, 1, none⟩ = some (.slice Am made.ents.length cm)) ((first | exact HY6.out _ | go_keep))
          ((first
            | (go_at_call 80; refine (HAM.out _ (HW5.out.drew_)).mono ?_; rintro e w6 ⟨r3, rfl, hr3, hle6, hb6⟩; have HR3 := Lib.hid hr3; have HLE6 : Hid (w.heap.size ≤ r3) := (Nat.le_trans HW5.out.size hle6); have HB6 : Hid (Below w5.heap.size w5 w6) := ((Below.refl _ w5).drew_).trans (hb6.mono (Nat.le_refl _)); have hb66 := Blk.below HBB5.out HB6.out (Blk.lt HBB5.out); have HBB6 := Lib.hid hb66; have t2 : w6.cell? ⟨g2, 2, none⟩ = some (.pointer (some ⟨r2, 0, none⟩)) := hb66.cell 2; have g2f : w6.frozen? ⟨g2, 2, none⟩ = false := hb66.frozen 2; obtain ⟨q0, q1⟩ := HCM.out _ (HM4.out.trans ((HB5.out.trans (HB6.out.mono HB5.out.size)).mono (by omega))); obtain ⟨_, q2, _, _⟩ := HC.out _ (HW4.out.trans ((HB5.out.trans (HB6.out.mono HB5.out.size)).mono (by omega))); have HY6 : Hid (∀ v, (w6.setCell ⟨g2, 2, none⟩ v).cell? ⟨g, 2, none⟩ = some (.pointer (some ⟨r, 0, none⟩)) ∧ (w6.setCell ⟨g2, 2, none⟩ v).cell? ⟨w.heap.size + 1, 0, none⟩ = some (.int .i64 (made.gen : Int)) ∧ (w6.setCell ⟨g2, 2, none⟩ v).cell? ⟨w.heap.size + 1, 1, none⟩ = some (.slice Am made.ents.length cm)) := fun v => ⟨((Keeps.set1 w6 g2 2 v).cell q2 hgg2), ((Keeps.set1 w6 g2 2 v).cell q0 (by show ¬ w.heap.size + 1 = g2; omega)), ((Keeps.set1 w6 g2 2 v).cell q1 (by show ¬ w.heap.size + 1 = g2; omega))⟩; clear hr3 hle6 hb6 hb66)))
        all_goals
          go_wp2_with fail
          obtain ⟨W7, hW7⟩ : ∃ W7, W7 = w6.setCell ⟨g2, 2, none⟩ (.pointer (some ⟨r3, 0, none⟩)) := ⟨_, rfl⟩
          rw [← hW7]
          have hb26 : Below w2.heap.size w2 w6 := HB24.out.trans ((HB5.out.trans (HB6.out.mono HB5.out.size)).mono HB24.out.size)
          have hb27 : Below w2.heap.size w2 W7 := by rw [hW7]; exact hb26.setCell (p := ⟨g2, 2, none⟩) HL2.out _
          have hbn7 : BenchAt W7 g2 d s2 r3 (.slice none 0 0) := by rw [hW7]; exact HBB6.out.set_ 2 _
          have hr7 : RefAt W7 r3 (R.again made) [r3] := by
            rw [hW7]
            refine HR3.out.keeps (F := (· = g2)) (Keeps.set1 w6 g2 2 _) (fun q e hm => ?_) (fun q t cs e hb => ?_)
            · have e : q = g2 := e
              subst e
              obtain ⟨t, cs, hb, ht⟩ := HR3.out.own q hm
              rw [(hb.det HBB6.out).2] at ht
              rcases ht with e2 | e2
              all_goals exact absurd e2 (by decide)
            · have e : q = g2 := e
              subst e
              rw [(hb.det HBB6.out).2]
              exact ⟨by decide, by decide⟩
          obtain ⟨O7, hB7⟩ := bn_opened HH.out HS.out HSS.out HLE.out HB2.out hb27 hr7 HLE6.out hbn7 (by omega)
          rw [← HST.out, show R.again made = Y'.ref by rw [HRF.out, if_pos (by rw [← HGG.out]; exact hgen)]] at hB7
          have HB7 := Lib.hid hB7
          have HB27 : Hid (Below w.heap.size w W7) := HB2.out.trans (hb27.mono HB2.out.size)
          clear hW7 hb26 hb27 hbn7 hr7 hB7
          refine (fits_calls HB7.out HY.out).mono ?_
          rintro e w8 ⟨rfl, hb8⟩
          have HB8 := Lib.hid hb8
          clear hb8
          go_wp2
          go_ret2
          exact ⟨_, s2, r3, O7, rfl, HB7.out.below HB8.out, HB27.out.trans (HB8.out.mono HB27.out.size)⟩
    · have tg : ((gg : Int) == (made.gen : Int)) = false := by rw [beq_eq_false_iff_ne]; omega
      go_region_held3 (fun w' => w'.cell? ⟨w.heap.size + 1, 0, none⟩ = some (.int .i64 (made.gen : Int))) (go_keep)
        ((first
          | (go_at_call 38; refine (HGEN.out _ ((Below.refl _ W4).drew_)).mono ?_; rintro e w5 ⟨rfl, hb5⟩; have HB5 : Hid (Below W4.heap.size W4 w5) := ((Below.refl _ W4).drew_).trans (hb5.mono (Nat.le_refl _)); obtain ⟨l0, l1⟩ := HCM.out _ (HM4.out.trans (HB5.out.mono (by omega))); clear hb5)))
      all_goals
        have hbq := HBn.out
        rw [← HST.out, show R.again now = Y'.ref by rw [HRF.out, if_neg (by rw [← HGG.out]; exact hgen)]] at hbq
        have HBQ := Lib.hid (hbq.below HB5.out)
        clear hbq
        go_wp2_with (go_at_call 24; refine (fits_calls HBQ.out HY.out).mono ?_; rintro e w6 ⟨rfl, hb6⟩; have HB6 := Lib.hid hb6; clear hb6)
        go_ret2
        exact ⟨_, s2, r2, O2, rfl, HBQ.out.below HB6.out, HB4.out.trans ((HB5.out.trans (HB6.out.mono HB5.out.size)).mono hsz4)⟩

end Go.Proofs.YtbgiklkpinflaaaGreat

namespace Go.Proofs.YtbgiklkpinflaaaGreat
open Go.RowKit Go.Shelf Go.Maps
attribute [local go_sem ↓] Go.wp_at_zero Go.wp_at_succ

section
variable {m : Nat} {w0 w w' : World} {g d s r n rc : Nat} {X : Sto} {R R2 : RSto} {Y : Joint} {Q : List PinPlace} {bp O S S2 : List Nat} {bv : Value}
/-- The bench gets another reference. -/
theorem bn_reref (h : Bn w0 w g d s r X Q R bp O S bv) (hr : RefAt w rc R2 S2) (hS2 : ∀ k ∈ S2, w0.heap.size ≤ k) : Bn w0 (w.setCell ⟨g, 2, none⟩ (.pointer (some ⟨rc, 0, none⟩))) g d s rc X Q R2 bp O S2 bv := by
  have k := Keeps.set1 w g 2 (.pointer (some ⟨rc, 0, none⟩))
  have hg : ∀ q, q = g → ∀ t cs, Blk w q t cs → t = 39 := fun q e t cs hb => by
    subst e
    exact (hb.det h.bench).2
  refine ⟨Nat.le_trans h.size k.size, below_keeps h.kept k h.size fun q e => by rw [show q = g from e]; exact h.newg, h.sto.keeps k fun q e => ?_, h.nod, fun q hq => ⟨(h.qs q hq).1, Nat.lt_of_lt_of_le (h.qs q hq).2 k.size⟩, hr.keeps k (fun q e hm => ?_) (fun q t cs e hb => ?_), Blk.set_ h.bench 2 _, ownsRow_keeps h.row k fun q hq e => ?_, h.apart, h.newO, hS2, h.newg⟩
  · have e : q = g := e
    subst e
    refine ⟨fun hm => ?_, _, _, h.bench, by decide, by decide, by decide, fun e => absurd e (by decide)⟩
    rcases h.ltO q hm _ _ h.bench with e | e | e | e | e
    all_goals exact absurd e (by decide)
  · obtain ⟨t, cs, hb, ht⟩ := hr.own q hm
    rw [hg q e t cs hb] at ht
    rcases ht with e2 | e2
    all_goals exact absurd e2 (by decide)
  · rw [hg q e t cs hb]
    exact ⟨by decide, by decide⟩
  · obtain ⟨cs, hb⟩ := own_is_blk h.row hq
    exact absurd (hg q e _ _ hb) (by decide)
theorem bn_down (h : Bn w0 w g d s r X Q R bp O S bv) : Calls Tryz.prog 82 #[.pointer (some ⟨d, 0, none⟩)] w fun e w' => e = .returned (.bool X.disk.down) ∧ w = w' := by
  obtain ⟨Sd, hD, _⟩ := h.sto.disk_at
  exact down_at hD
set_option maxRecDepth 100000 in
set_option maxHeartbeats 4000000 in
/-- A step that does not take the disk down. -/
theorem step_up (h : PlayA AnyA m w0 g d s r n w) (kd : Nat) (key : ByteArray) (qn y : Nat)
    (hdo : ∀ wx, Below w.heap.size w wx → Calls Tryz.prog 13 #[.pointer (some ⟨g, 0, none⟩), .agg (opCells kd key qn y)] wx fun e w' => e = .returned (.bool true) ∧ PlayA AnyA (m + 1) w0 g d s r n w') :
    Calls Tryz.prog 31 #[.pointer (some ⟨g, 0, none⟩), .agg (opCells kd key qn y)] w fun e w' => e = .returned (.tuple #[.bool false, .bool true]) ∧ PlayA AnyA (m + 1) w0 g d s r n w' := by
  have h' := h
  obtain ⟨Y, Q, bp, O, S, bv, h1, h2, h3, h4, h5, h6⟩ := h
  have HDW : Hid (∀ wx, Below w.heap.size w wx → Calls Tryz.prog 82 #[.pointer (some ⟨d, 0, none⟩)] wx fun e w' => e = .returned (.bool false) ∧ wx = w') := fun wx hb => by
    have := bn_down (h1.below hb)
    rw [show Y.sto.disk.down = false from h2.down] at this
    exact this
  have HDP : Hid (∀ wx, PlayA AnyA (m + 1) w0 g d s r n wx → wx.cell? ⟨g, 0, none⟩ = some (.pointer (some ⟨d, 0, none⟩)) ∧ Calls Tryz.prog 82 #[.pointer (some ⟨d, 0, none⟩)] wx fun e w' => e = .returned (.bool false) ∧ wx = w') := fun wx hp => by
    obtain ⟨Y, Q, bp, O, S, bv, h1, h2, _⟩ := hp
    have := bn_down h1
    rw [show Y.sto.disk.down = false from h2.down] at this
    exact ⟨Blk.cell h1.bench 0, this⟩
  have HCP : Hid (∀ wx, Below w.heap.size w wx → Calls Tryz.prog 83 #[.pointer (some ⟨r, 0, none⟩)] wx fun e w' => (∃ r', e = .returned (.pointer (some ⟨r', 0, none⟩))) ∧ Below wx.heap.size wx w') := fun wx hb => by
    refine (refcopy_calls (h1.ref.below hb) h2.refOk.pins).mono ?_
    rintro e w' ⟨r', S', rfl, _, _, hb'⟩
    exact ⟨⟨r', rfl⟩, hb'⟩
  have HDO := Lib.hid hdo
  obtain ⟨o, ho⟩ : ∃ o : Obj, o = .cells (opCells kd key qn y) 29 := ⟨_, rfl⟩
  have hwa : Below w.heap.size w (w.alloc o) := (Below.refl _ w).alloc (Nat.le_refl _) o
  have hbx : Blk (w.alloc o) w.heap.size 29 (opCells kd key qn y) := by rw [ho]; exact Blk.new w _ _
  have a0 : (w.alloc o).cell? ⟨g, 0, none⟩ = some (.pointer (some ⟨d, 0, none⟩)) := (Blk.alloc h1.bench o).cell 0
  have a2 : (w.alloc o).cell? ⟨g, 2, none⟩ = some (.pointer (some ⟨r, 0, none⟩)) := (Blk.alloc h1.bench o).cell 2
  have HWA := Lib.hid hwa
  have HBX := Lib.hid hbx
  clear h1 h2 h3 h4 h5 h6 h' hdo hwa hbx
  subst ho
  go_enter Tryz.func31, Tryz.ntmps31
  go_wp2_with (first
    | (have _h := HP2; go_at_call 82; refine (HDP.out _ HP2.out).2.mono ?_; rintro e w3 ⟨rfl, rfl⟩)
    | (go_at_call 82; refine (HDW.out _ HWA.out).mono ?_; rintro e w3 ⟨rfl, rfl⟩)
    | (go_at_call 83; refine (HCP.out _ HWA.out).mono ?_; rintro e w1 ⟨⟨r', rfl⟩, hb1⟩; have HB1 : Hid (Below w.heap.size w w1) := HWA.out.trans (hb1.mono HWA.out.size); have hbb := HBX.out.below hb1 HBX.out.lt; have e0 : w1.cell? ⟨w.heap.size, 0, none⟩ = some (.int .u8 (kd : Int)) := hbb.cell 0; have e1 : w1.cell? ⟨w.heap.size, 1, none⟩ = some (.string key) := hbb.cell 1; have e2 : w1.cell? ⟨w.heap.size, 2, none⟩ = some (.int .u16 (qn : Int)) := hbb.cell 2; have e3 : w1.cell? ⟨w.heap.size, 3, none⟩ = some (.int .u8 (y : Int)) := hbb.cell 3; clear hb1 hbb)
    | (go_at_call 13; refine (HDO.out _ HB1.out).mono ?_; rintro e w2 ⟨rfl, hp2⟩; have z0 := (HDP.out _ hp2).1; have HP2 := Lib.hid hp2; clear hp2))
  go_ret2
  exact ⟨rfl, HP2.out⟩
set_option maxRecDepth 100000 in
set_option maxHeartbeats 4000000 in
/-- A step in which the disk goes down. -/
theorem step_torn {D' : Dsk} (h : Bn w0 w g d s r Y.sto Q Y.ref bp O S bv) (hY : Ok m Y) (ht : TornAt m Y D') (kd : Nat) (key : ByteArray) (qn y : Nat) (hkd : (kd : Int) % 9 = 3)
    (hs : SCall w0 g d s r Y.sto Q bp bv 21 #[] 50 { Y.sto with disk := D' }) (hr : RCall w0 g d s r Y.ref Q bp bv 22 #[] 0 Y.ref.comm) :
    Calls Tryz.prog 31 #[.pointer (some ⟨g, 0, none⟩), .agg (opCells kd key qn y)] w fun e w' => e = .returned (.tuple #[.bool true, .bool true]) ∧ ∃ rc O' S', Bn w0 w' g d s rc { Y.sto with disk := D' } Q Y.ref bp O' S' bv ∧ Keeps (foot g O S bv) w w' := by
  have HDW : Hid (∀ wx, Below w.heap.size w wx → Calls Tryz.prog 82 #[.pointer (some ⟨d, 0, none⟩)] wx fun e w' => e = .returned (.bool false) ∧ wx = w') := fun wx hb => by
    have := bn_down (h.below hb)
    rw [show Y.sto.disk.down = false from hY.down] at this
    exact this
  have HDD : Hid (∀ {wx : World} {rr : Nat} {RR : RSto} {OO SS : List Nat}, Bn w0 wx g d s rr { Y.sto with disk := D' } Q RR bp OO SS bv → Calls Tryz.prog 82 #[.pointer (some ⟨d, 0, none⟩)] wx fun e w' => e = .returned (.bool true) ∧ wx = w') := fun {wx rr RR OO SS} hb => by
    have := bn_down hb
    rw [show ({ Y.sto with disk := D' } : Sto).disk.down = true from ht.2.2.1] at this
    exact this
  have hdead : isDead ({ Y.sto with disk := D' } : Sto).life ({ Y.sto with disk := D' } : Sto).disk = true := by
    show (Y.life != D'.life || D'.down) = true
    rw [ht.2.2.1]
    simp
  have HBG : Hid (∀ {wx : World} {rr : Nat} {RR : RSto} {OO SS : List Nat}, Bn w0 wx g d s rr { Y.sto with disk := D' } Q RR bp OO SS bv → Calls Tryz.prog 32 #[.pointer (some ⟨s, 0, none⟩)] wx fun e w' => e = .returned (.int .i64 50) ∧ Below wx.heap.size wx w') := fun {wx rr RR OO SS} hb => by
    have := sto_begin_no hb.sto.a_ (.inl hdead)
    rw [show beginCode ({ Y.sto with disk := D' } : Sto).life ({ Y.sto with disk := D' } : Sto).disk ({ Y.sto with disk := D' } : Sto).opened = 50 by unfold beginCode; rw [hdead]; rfl] at this
    exact this
  have HCM : Hid (∀ {wx : World} {rr : Nat} {RR : RSto} {OO SS : List Nat}, Bn w0 wx g d s rr { Y.sto with disk := D' } Q RR bp OO SS bv → Calls Tryz.prog 21 #[.pointer (some ⟨s, 0, none⟩)] wx fun e w' => e = .returned (.int .i64 50) ∧ Below wx.heap.size wx w') := fun {wx rr RR OO SS} hb => by
    have hrc : readyCode ({ Y.sto with disk := D' } : Sto).life ({ Y.sto with disk := D' } : Sto).disk ({ Y.sto with disk := D' } : Sto).opened = 50 := by unfold readyCode; rw [hdead]; rfl
    have := ston_commit_closed hb.sto (by rw [hrc]; decide)
    rw [hrc] at this
    exact this
  have HCP : Hid (∀ wx, Below w.heap.size w wx → Calls Tryz.prog 83 #[.pointer (some ⟨r, 0, none⟩)] wx fun e w' => ∃ r' S', e = .returned (.pointer (some ⟨r', 0, none⟩)) ∧ RefAt w' r' Y.ref S' ∧ (∀ k ∈ S', wx.heap.size ≤ k) ∧ Below wx.heap.size wx w') := fun wx hb => refcopy_calls (h.ref.below hb) hY.refOk.pins
  have HDO : Hid (∀ wx, Below w.heap.size w wx → Calls Tryz.prog 13 #[.pointer (some ⟨g, 0, none⟩), .agg (opCells kd key qn y)] wx fun e w' => e = .returned (.bool false) ∧ ∃ O' S', Bn w0 w' g d s r { Y.sto with disk := D' } Q Y.ref.comm bp O' S' bv ∧ Keeps (foot g O S bv) wx w') := fun wx hb => do_commit_raw (h.below hb) hs hr kd key qn y hkd
  have HFT := Lib.hid (foot_lt h)
  have HFN := Lib.hid h.foot_no
  have HH := Lib.hid h
  obtain ⟨o, ho⟩ : ∃ o : Obj, o = .cells (opCells kd key qn y) 29 := ⟨_, rfl⟩
  have hwa : Below w.heap.size w (w.alloc o) := (Below.refl _ w).alloc (Nat.le_refl _) o
  have hbx : Blk (w.alloc o) w.heap.size 29 (opCells kd key qn y) := by rw [ho]; exact Blk.new w _ _
  have a0 : (w.alloc o).cell? ⟨g, 0, none⟩ = some (.pointer (some ⟨d, 0, none⟩)) := (Blk.alloc h.bench o).cell 0
  have a2 : (w.alloc o).cell? ⟨g, 2, none⟩ = some (.pointer (some ⟨r, 0, none⟩)) := (Blk.alloc h.bench o).cell 2
  have HWA := Lib.hid hwa
  have HBX := Lib.hid hbx
  clear h hs hr hY ht hdead hwa hbx
  subst ho
  go_enter Tryz.func31, Tryz.ntmps31
  go_wp2_with (first
    | (have _h := HB2; go_at_call 82; refine (HDD.out HB2.out).mono ?_; rintro e w3 ⟨rfl, rfl⟩)
    | (go_at_call 82; refine (HDW.out _ HWA.out).mono ?_; rintro e w3 ⟨rfl, rfl⟩)
    | (go_at_call 83; refine (HCP.out _ HWA.out).mono ?_; rintro e w1 ⟨rc, Sc, rfl, hrc, hSc, hb1⟩; have HRC := Lib.hid hrc; have HSC : Hid (∀ k ∈ Sc, w.heap.size ≤ k) := (fun k hk => Nat.le_trans HWA.out.size (hSc k hk)); have HB1 : Hid (Below w.heap.size w w1) := HWA.out.trans (hb1.mono HWA.out.size); have hbb := HBX.out.below hb1 HBX.out.lt; have e0 : w1.cell? ⟨w.heap.size, 0, none⟩ = some (.int .u8 (kd : Int)) := hbb.cell 0; have e1 : w1.cell? ⟨w.heap.size, 1, none⟩ = some (.string key) := hbb.cell 1; have e2 : w1.cell? ⟨w.heap.size, 2, none⟩ = some (.int .u16 (qn : Int)) := hbb.cell 2; have e3 : w1.cell? ⟨w.heap.size, 3, none⟩ = some (.int .u8 (y : Int)) := hbb.cell 3; clear hb1 hbb hrc hSc)
    | (go_at_call 13; refine (HDO.out _ HB1.out).mono ?_; rintro e w2 ⟨rfl, O2, S2, hB2, hk2⟩; have z0 : w2.cell? ⟨g, 0, none⟩ = some (.pointer (some ⟨d, 0, none⟩)) := Blk.cell hB2.bench 0; have z2 : w2.cell? ⟨g, 2, none⟩ = some (.pointer (some ⟨r, 0, none⟩)) := Blk.cell hB2.bench 2; have zf : w2.frozen? ⟨g, 2, none⟩ = false := Blk.frozen hB2.bench 2; have HB2 := Lib.hid hB2; have HK2 := Lib.hid hk2; have hB3 := bn_reref hB2 (HRC.out.keeps hk2 (fun q hq hm => by have := HFT.out q hq; have := HSC.out q hm; omega) (fun q t cs hq hb => by have := (HH.out.below HB1.out).foot_no q hq t cs hb; exact ⟨this.2.2.2.2, this.2.2.1⟩)) (fun k hk => Nat.le_trans HH.out.size (HSC.out k hk)); have y1 : (w2.setCell ⟨g, 2, none⟩ (.pointer (some ⟨rc, 0, none⟩))).cell? ⟨g, 1, none⟩ = some (.pointer (some ⟨s, 0, none⟩)) := Blk.cell hB3.bench 1; have HB3 := Lib.hid hB3; clear hB2 hk2 hB3)
    | (go_at_call 32; refine (HBG.out HB3.out).mono ?_; rintro e w4 ⟨rfl, hb4⟩; have hB4 := HB3.out.below hb4; have y4 : w4.cell? ⟨g, 1, none⟩ = some (.pointer (some ⟨s, 0, none⟩)) := Blk.cell hB4.bench 1; have HB4 := Lib.hid hB4; have HL4 := Lib.hid hb4; clear hb4 hB4)
    | (go_at_call 21; refine (HCM.out HB4.out).mono ?_; rintro e w5 ⟨rfl, hb5⟩; have HB5 := Lib.hid (HB4.out.below hb5); have HL5 := Lib.hid hb5; clear hb5))
  go_ret2
  refine ⟨rfl, rc, O2, Sc, HB5.out, ?_⟩
  have k1 : Keeps (foot g O S bv) w w2 := (Keeps.of_below (F := foot g O S bv) HB1.out).trans (G := foot g O S bv) HK2.out fun _ _ h => h
  have k2 : Keeps (foot g O S bv) w (w2.setCell ⟨g, 2, none⟩ (.pointer (some ⟨rc, 0, none⟩))) := Keeps.setCell k1 (p := ⟨g, 2, none⟩) (fun _ => .inl rfl) _
  exact (k2.trans (G := fun _ => False) (Keeps.of_below HL4.out) fun _ _ h => h.elim).trans (G := fun _ => False) (Keeps.of_below HL5.out) fun _ _ h => h.elim
end

end Go.Proofs.YtbgiklkpinflaaaGreat

namespace Go.Proofs.YtbgiklkpinflaaaGreat
open Go.RowKit Go.Shelf Go.Maps
attribute [local go_sem ↓] Go.wp_at_zero Go.wp_at_succ

section
variable {m : Nat} {w0 w w' : World} {g d s r n : Nat} {X : Sto} {R : RSto} {Y : Joint} {Q : List PinPlace} {bp O S : List Nat} {bv : Value}
theorem PlayA.bench0 {Ar : Nat → Prop} (h : PlayA Ar m w0 g d s r n w) : w.cell? ⟨g, 0, none⟩ = some (.pointer (some ⟨d, 0, none⟩)) := by
  obtain ⟨Y, Q, bp, O, S, bv, h1, _⟩ := h
  exact Blk.cell h1.bench 0
theorem Play.any (h : Play m w0 g d s r n w) : PlayA AnyA m w0 g d s r n w := by
  obtain ⟨Y, Q, bp, O, S, bv, h1, h2, h3, h4, h5, h6⟩ := h
  exact ⟨Y, Q, bp, O, S, bv, h1, h2, ⟨trivial, h3.2⟩, h4, h5, h6⟩
theorem Ok.arm (h : Ok m Y) (c : Int) : Ok m { Y with disk := Y.disk.arm c } := by
  obtain ⟨own, hw⟩ := h.own
  refine ⟨h.m100, h.n4, h.n5, h.len, h.down, h.pend, h.life, h.dlife, ⟨own, ⟨fun J hJ => ?_, hw.same, hw.ids⟩⟩, h.few, h.gen, h.top, h.old, h.base, h.last, h.pins, fun nx hn => ?_⟩
  · have hj := hw.ok J hJ
    exact ⟨hj.gen, hj.srt, hj.few, hj.keys, hj.vals, fun x hx => (hj.holds x hx).same fun b _ => rfl, hj.blk, hj.nod, hj.ilen, hj.iblk, hj.inod⟩
  · have t := h.trans nx hn
    exact ⟨t.ok, t.new, t.apart, t.few⟩
/-- No block of a Fault is the bench's. -/
theorem foot_fault (h : Bn w0 w g d s r X Q R bp O S bv) : ∀ q, foot g O S bv q → ∀ t cs, Blk w q t cs → t ≠ 65 := by
  intro q hq t cs hb
  rcases hq with rfl | hq | hq | hq
  · rw [(hb.det h.bench).2]
    decide
  · obtain ⟨cs', hb'⟩ := own_is_blk h.row hq
    rw [(hb.det hb').2]
    decide
  · rcases h.ltO q hq t cs hb with e | e | e | e | e
    all_goals
      subst e
      decide
  · obtain ⟨t', cs', hb', ht⟩ := h.ref.own q hq
    rw [(hb.det hb').2]
    rcases ht with e | e
    all_goals
      subst e
      decide
theorem play_arm (h : PlayA AnyA m w0 g d s r n w) (c : Nat) (hc : c ≤ 255) :
    Calls Tryz.prog 28 #[.pointer (some ⟨d, 0, none⟩), .int .i64 (c : Int)] w fun e w' => e = .returned (.tuple #[]) ∧ PlayA AnyA m w0 g d s r n w' ∧ (∀ b cs, Blk w b 65 cs → Blk w' b 65 cs) := by
  obtain ⟨Y, Q, bp, O, S, bv, h1, h2, h3, h4, h5, h6⟩ := h
  refine (ston_arm h1.sto (c : Int) (by omega)).mono ?_
  rintro e w' ⟨rfl, hs⟩
  have hsz : w.heap.size ≤ w'.heap.size := by
    obtain ⟨_, _, _, k⟩ := hs
    exact k.size
  obtain ⟨O', b1, b2, k⟩ := h1.sto_step hs h1.nod fun q hq => ⟨(h1.qs q hq).1, Nat.lt_of_lt_of_le (h1.qs q hq).2 hsz⟩
  refine ⟨rfl, ⟨{ Y with disk := Y.disk.arm (c : Int) }, Q, bp, O', S, bv, b1, h2.arm _, ⟨trivial, h3.2.same rfl fun b _ => rfl⟩, h4, h5.keeps k fun q hq t cs hb => (h1.foot_no q (.inr (.inr (.inl hq))) t cs hb).1, h6⟩, fun b cs hb => hb.keeps k fun hm => foot_fault h1 b (.inr (.inr (.inl hm))) _ _ hb rfl⟩
/-- The power comes back. -/
theorem down_crash {D' : Dsk} {rc : Nat} (h : Bn w0 w g d s rc { Y.sto with disk := D' } Q Y.ref bp O S bv) (hY : Ok m Y) (ht : TornAt m Y D') {v : Value} {ks : List Bool} (hk : ∀ S : List Nat, (∀ q ∈ S, w0.heap.size ≤ q) → KeepAt w S v ks) :
    Calls Tryz.prog 25 #[.pointer (some ⟨d, 0, none⟩), v] w fun e w' => e = .returned (.tuple #[]) ∧ ∃ O', Bn w0 w' g d s rc { Y.sto with disk := D'.crash (keepOf ks) } Q Y.ref bp O' S bv ∧ Keeps (· ∈ O) w w' := by
  have hl := hY.dlife
  have h100 := hY.m100
  obtain ⟨t1, t2, t3, t4, t5, t6, t7⟩ := ht
  refine (ston_crash h.sto (by show D'.life ≤ _; omega) (by show D'.pending.length ≤ _; omega) v ks (hk O h.newO)).mono ?_
  rintro e w' ⟨rfl, hs⟩
  have hsz : w.heap.size ≤ w'.heap.size := by
    obtain ⟨_, _, _, k⟩ := hs
    exact k.size
  obtain ⟨O', b1, b2, k⟩ := h.sto_step hs h.nod fun q hq => ⟨(h.qs q hq).1, Nat.lt_of_lt_of_le (h.qs q hq).2 hsz⟩
  exact ⟨rfl, O', b1, k⟩
/-- Opened again in one of the two states. -/
theorem found_opened {D : Dsk} {rc k : Nat} {vn vm : Value} (h : Bn w0 w g d s rc { Y.sto with disk := D } Q Y.ref bp O S bv) (hdn : D.down = false) (hpn : D.pending = []) (hf : Found k Y D Y.ref Y.ref.now ∨ Found k Y D Y.ref Y.ref.made) (hn : Y.n = n) (hvn : EntsAt Any w vn Y.ref.now.ents) (hvm : EntsAt Any w vm Y.ref.made.ents) :
    Calls Tryz.prog 26 #[.pointer (some ⟨g, 0, none⟩), .agg #[.int .i64 (Y.ref.now.gen : Int), vn], .agg #[.int .i64 (Y.ref.made.gen : Int), vm], .bool true] w fun e w' => ∃ g2 s2 r2, e = .returned (.tuple #[.pointer (some ⟨g2, 0, none⟩), .bool true]) ∧ PlayA AnyA k w0 g2 d s2 r2 n w' := by
  have hmg : Y.ref.made.gen = Y.ref.now.gen + 1 := rfl
  have key : ∃ Z : Joint, Z.disk = D ∧ Z.sto = openedSto D Z.now.st ∧ Z.ref = Y.ref.again (if Z.now.gen = Y.ref.made.gen then Y.ref.made else Y.ref.now) ∧ Z.n = Y.n ∧ Z.pins = [] ∧ Ok k Z ∧ Rooted D Z.now.st := by
    rcases hf with ⟨Z, a1, a2, a3, a4, a5, a6, a7, a8, a9⟩ | ⟨Z, a1, a2, a3, a4, a5, a6, a7, a8, a9⟩
    · refine ⟨Z, a1, a2, ?_, a4, a5, a7, a9⟩
      rw [if_neg (by omega)]
      exact a3
    · refine ⟨Z, a1, a2, ?_, a4, a5, a7, a9⟩
      rw [if_pos a6]
      exact a3
  obtain ⟨Z, a1, a2, a3, a4, a5, a7, a9⟩ := key
  have hlen : D.blocks.length = Z.n := by rw [← a1]; exact a7.len
  have h4n := a7.n4
  have h5n := a7.n5
  have hst : StOk D.blocks.length Z.now.st := by
    have := a7.stNow
    rw [show Z.sto.disk = D from a1] at this
    exact this
  refine (reopen_either (Y' := Z) (now := Y.ref.now) (made := Y.ref.made) h hdn (by show D.pending.length ≤ _; rw [hpn]; exact Nat.zero_le _) (by show 2 ≤ D.blocks.length; omega) (by show D.blocks.length ≤ 1024; omega) hvn hvm a7 (open_good a9 hst) (rooted_gens a9 hst.gen) a2 a3).mono ?_
  rintro e w' ⟨g2, s2, r2, O2, rfl, hB, hb'⟩
  refine ⟨g2, s2, r2, rfl, Z, [], [], O2, [r2], _, hB, a7, ⟨trivial, by rw [a1]; exact a9⟩, by rw [a4, hn], by rw [a5]; exact PinsRel.nil _, fun q hq => by rw [a5] at hq; simp at hq⟩
/-- A step of kind 3, or of another. -/
theorem step_any (h : PlayA AnyA m w0 g d s r n w) (hm : m + 2 ≤ 100) (kd : Nat) (key : ByteArray) (qn y : Nat) (hks : key.size ≤ maxLen) (hq : qn ≤ 65535) (hy : y ≤ 255) (hkd : (kd : Int) % 9 ≠ 3) :
    Calls Tryz.prog 31 #[.pointer (some ⟨g, 0, none⟩), .agg (opCells kd key qn y)] w fun e w' => e = .returned (.tuple #[.bool false, .bool true]) ∧ PlayA AnyA (m + 1) w0 g d s r n w' :=
  step_up h kd key qn y fun wx hb => PlayA.do_ (h.below hb) (by omega) kd key qn y hks hq hy fun e => absurd e hkd
theorem step_three (h1 : Bn w0 w g d s r Y.sto Q Y.ref bp O S bv) (h2 : Ok m Y) (h3 : Rooted Y.disk Y.now.st) (h4 : Y.n = n) (h5 : PinsRel w Y.pins Q bp) (h6 : ∀ q ∈ Y.pins, q.1.ents.length ≤ 1000) (hm : m + 2 ≤ 100) (kd : Nat) (key : ByteArray) (qn y : Nat) (hkd : (kd : Int) % 9 = 3) :
    Calls Tryz.prog 31 #[.pointer (some ⟨g, 0, none⟩), .agg (opCells kd key qn y)] w fun e w' => (e = .returned (.tuple #[.bool false, .bool true]) ∧ PlayA AnyA (m + 1) w0 g d s r n w') ∨
      (e = .returned (.tuple #[.bool true, .bool true]) ∧ ∃ D' rc O' S', TornAt m Y D' ∧ Bn w0 w' g d s rc { Y.sto with disk := D' } Q Y.ref bp O' S' bv ∧ Keeps (foot g O S bv) w w') := by
  rcases commit_any (w0 := w0) (g := g) (d := d) (s := s) (r := r) (Q := Q) (bp := bp) (bv := bv) h2 h3 hm with ⟨Y', code, hb2, hs, hr⟩ | ⟨D', ht, hs, hr⟩
  · have hP : PlayA AnyA m w0 g d s r n w := ⟨Y, Q, bp, O, S, bv, h1, h2, ⟨trivial, h3⟩, h4, h5, h6⟩
    refine (step_up hP kd key qn y fun wx hb => ?_).mono fun e w' h => .inl h
    refine (do_commit_raw (h1.below hb) hs hr kd key qn y hkd).mono ?_
    rintro e w' ⟨rfl, O', S', hB, hk⟩
    refine ⟨by simp, Y', Q, bp, O', S', bv, hB, hb2.ok, hb2.armed, by rw [hb2.n, h4], ?_, fun q hq => by rw [hb2.pins] at hq; exact h6 q hq⟩
    rw [hb2.pins]
    exact (h5.keeps (F := fun _ => False) (Keeps.of_below hb) fun _ h => h.elim).keeps hk fun q hq t cs hbq => ((h1.below hb).foot_no q hq t cs hbq).1
  · refine (step_torn h1 h2 ht kd key qn y hkd hs hr).mono ?_
    rintro e w' ⟨rfl, rc, O', S', hB, hk⟩
    exact .inr ⟨rfl, D', rc, O', S', ht, hB, hk⟩
end

end Go.Proofs.YtbgiklkpinflaaaGreat

namespace Go.Proofs.YtbgiklkpinflaaaGreat
open Go.RowKit Go.Shelf Go.Maps

/-- The k-th fault of a list that came in. -/
def FaultRow (w : World) (gb go k : Nat) : Prop :=
  ∃ (kd : Nat) (key : ByteArray) (n y arm : Nat) (kv : Value) (ks : List Bool), w.cell? ⟨gb, go + k * 6, none⟩ = some (.int .u8 (kd : Int)) ∧ w.cell? ⟨gb, go + k * 6 + 1, none⟩ = some (.string key) ∧ w.cell? ⟨gb, go + k * 6 + 2, none⟩ = some (.int .u16 (n : Int)) ∧ w.cell? ⟨gb, go + k * 6 + 3, none⟩ = some (.int .u8 (y : Int)) ∧
    w.cell? ⟨gb, go + k * 6 + 4, none⟩ = some (.int .u8 (arm : Int)) ∧ w.cell? ⟨gb, go + k * 6 + 5, none⟩ = some kv ∧ key.size ≤ maxLen ∧ n ≤ 65535 ∧ y ≤ 255 ∧ arm ≤ 255 ∧ KeepAt w [] kv ks
def FaultArg (w : World) (A : Option Addr) (n : Nat) : Prop := n ≤ maxLen ∧ ∀ k, k < n → ∃ gb go, A = some ⟨gb, go, none⟩ ∧ FaultRow w gb go k
theorem FaultRow.below {w w1 : World} {gb go k : Nat} (h : FaultRow w gb go k) (hb : Below w.heap.size w w1) :
    ∃ (kd : Nat) (key : ByteArray) (n y arm : Nat) (Ak : Option Addr) (nk ck : Nat) (ks : List Bool), w1.cell? ⟨gb, go + k * 6, none⟩ = some (.int .u8 (kd : Int)) ∧ w1.cell? ⟨gb, go + k * 6 + 1, none⟩ = some (.string key) ∧ w1.cell? ⟨gb, go + k * 6 + 2, none⟩ = some (.int .u16 (n : Int)) ∧ w1.cell? ⟨gb, go + k * 6 + 3, none⟩ = some (.int .u8 (y : Int)) ∧
    w1.cell? ⟨gb, go + k * 6 + 4, none⟩ = some (.int .u8 (arm : Int)) ∧ w1.cell? ⟨gb, go + k * 6 + 5, none⟩ = some (.slice Ak nk ck) ∧ key.size ≤ maxLen ∧ n ≤ 65535 ∧ y ≤ 255 ∧ arm ≤ 255 ∧ KeepAt w [] (.slice Ak nk ck) ks := by
  obtain ⟨kd, key, n, y, arm, kv, ks, h0, h1, h2, h3, h4, h5, h6, h7, h8, h9, hk⟩ := h
  have g : ∀ {p : Addr} {v : Value}, w.cell? p = some v → w1.cell? p = some v := fun h => (hb.cell (World.block_lt_of_cell? w _ h)).trans h
  obtain ⟨A, c, rfl, _⟩ := id hk
  exact ⟨kd, key, n, y, arm, A, _, c, ks, g h0, g h1, g h2, g h3, g h4, g h5, h6, h7, h8, h9, hk⟩
theorem ents_set {w : World} {v : Value} {E : List Ent} (h : EntsAt Any w v E) {g i : Nat} {cs : Array Value} (hb : Blk w g 46 cs) (u : Value) : EntsAt Any (w.setCell ⟨g, i, none⟩ u) v E :=
  h.keepsT (Keeps.set1 w g i u) fun _ t ds hg hB => by
    subst hg
    obtain ⟨_, e⟩ := hb.det hB
    subst e
    decide
theorem ents_alloc {w : World} {v : Value} {E : List Ent} (h : EntsAt Any w v E) (o : Obj) : EntsAt Any (w.alloc o) v E := h.below ((Below.refl _ w).alloc (Nat.le_refl _) o)
theorem two_new (w : World) (t : TypeId) (cs ds : Array Value) : Blk ((w.alloc (.cells cs t)).alloc (.cells ds t)) w.heap.size t cs ∧ Blk ((w.alloc (.cells cs t)).alloc (.cells ds t)) (w.heap.size + 1) t ds := by
  refine ⟨(Blk.new w t cs).alloc _, ?_⟩
  have h := Blk.new (w.alloc (.cells cs t)) t ds
  simpa only [World.size_alloc] using h
theorem set_two {w : World} {b : Nat} {t : TypeId} {a0 a1 : Value} (h : Blk w b t #[a0, a1]) (x y : Value) : Blk ((w.setCell ⟨b, 0, none⟩ x).setCell ⟨b, 1, none⟩ y) b t #[x, y] := by
  have := (h.set_ 0 x).set_ 1 y
  simpa using this
theorem one_old {w : World} {b : Nat} {t : TypeId} {a0 a1 : Value} (h : Blk w b t #[a0, a1]) (x y : Value) (ds : Array Value) : Blk (((w.setCell ⟨b, 0, none⟩ x).setCell ⟨b, 1, none⟩ y).alloc (.cells ds t)) b t #[x, y] ∧ Blk (((w.setCell ⟨b, 0, none⟩ x).setCell ⟨b, 1, none⟩ y).alloc (.cells ds t)) w.heap.size t ds := by
  refine ⟨(set_two h x y).alloc _, ?_⟩
  have h := Blk.new ((w.setCell ⟨b, 0, none⟩ x).setCell ⟨b, 1, none⟩ y) t ds
  simpa using h
theorem two_old {w : World} {b b' : Nat} {t : TypeId} {a0 a1 c0 c1 : Value} (h : Blk w b t #[a0, a1]) (h' : Blk w b' t #[c0, c1]) (hne : b ≠ b') (x y x' y' : Value) :
    Blk ((((w.setCell ⟨b, 0, none⟩ x).setCell ⟨b, 1, none⟩ y).setCell ⟨b', 0, none⟩ x').setCell ⟨b', 1, none⟩ y') b t #[x, y] ∧ Blk ((((w.setCell ⟨b, 0, none⟩ x).setCell ⟨b, 1, none⟩ y).setCell ⟨b', 0, none⟩ x').setCell ⟨b', 1, none⟩ y') b' t #[x', y'] :=
  ⟨((set_two h x y).far (p := ⟨b', 0, none⟩) hne _).far (p := ⟨b', 1, none⟩) hne _, set_two ((h'.far (p := ⟨b, 0, none⟩) hne.symm _).far (p := ⟨b, 1, none⟩) hne.symm _) x' y'⟩
theorem ents_two {w : World} {v : Value} {E : List Ent} (h : EntsAt Any w v E) {b b' : Nat} {cs ds : Array Value} (hb : Blk w b 46 cs) (hb' : Blk w b' 46 ds) (hne : b ≠ b') (x y x' y' : Value) :
    EntsAt Any ((((w.setCell ⟨b, 0, none⟩ x).setCell ⟨b, 1, none⟩ y).setCell ⟨b', 0, none⟩ x').setCell ⟨b', 1, none⟩ y') v E := by
  have k := ((hb'.far (p := ⟨b, 0, none⟩) hne.symm x).far (p := ⟨b, 1, none⟩) hne.symm y)
  exact ents_set (ents_set (ents_set (ents_set h hb x) (hb.set_ 0 x) y) k x') (k.set_ 0 x') y'
theorem below_new {B : Nat} {a w : World} (h : Below B a w) (hB : B ≤ w.heap.size) (o o' : Obj) : Below B a ((w.alloc o).alloc o') := (h.alloc hB o).alloc (by simp; omega) o'
theorem below_one {B b : Nat} {a w : World} (h : Below B a w) (hw : B ≤ w.heap.size) (hb : B ≤ b) (x y : Value) (o : Obj) : Below B a (((w.setCell ⟨b, 0, none⟩ x).setCell ⟨b, 1, none⟩ y).alloc o) := ((h.setCell (p := ⟨b, 0, none⟩) hb x).setCell (p := ⟨b, 1, none⟩) hb y).alloc (by simpa using hw) o
theorem below_two {B b b' : Nat} {a w : World} (h : Below B a w) (hb : B ≤ b) (hb' : B ≤ b') (x y x' y' : Value) : Below B a ((((w.setCell ⟨b, 0, none⟩ x).setCell ⟨b, 1, none⟩ y).setCell ⟨b', 0, none⟩ x').setCell ⟨b', 1, none⟩ y') :=
  (((h.setCell (p := ⟨b, 0, none⟩) hb x).setCell (p := ⟨b, 1, none⟩) hb y).setCell (p := ⟨b', 0, none⟩) hb' x').setCell (p := ⟨b', 1, none⟩) hb' y'

section
variable {m : Nat} {w0 w w' : World} {g d s r n : Nat} {X : Sto} {R : RSto} {Y : Joint} {Q : List PinPlace} {bp O S : List Nat} {bv : Value} {F : Nat → Prop}
/-- A step of whatever kind. -/
theorem step_all (h1 : Bn w0 w g d s r Y.sto Q Y.ref bp O S bv) (h2 : Ok m Y) (h3 : Rooted Y.disk Y.now.st) (h4 : Y.n = n) (h5 : PinsRel w Y.pins Q bp) (h6 : ∀ q ∈ Y.pins, q.1.ents.length ≤ 1000) (hm : m + 2 ≤ 100) (kd : Nat) (key : ByteArray) (qn y : Nat) (hks : key.size ≤ maxLen) (hq : qn ≤ 65535) (hy : y ≤ 255) :
    Calls Tryz.prog 31 #[.pointer (some ⟨g, 0, none⟩), .agg (opCells kd key qn y)] w fun e w' => ∃ down, e = .returned (.tuple #[.bool down, .bool true]) ∧ (down = false → PlayA AnyA (m + 1) w0 g d s r n w') ∧
      (down = true → kd % 9 = 3 ∧ ∃ D' rc O' S', TornAt m Y D' ∧ Bn w0 w' g d s rc { Y.sto with disk := D' } Q Y.ref bp O' S' bv ∧ Keeps (foot g O S bv) w w') := by
  by_cases hk : (kd : Int) % 9 = 3
  · refine (step_three h1 h2 h3 h4 h5 h6 hm kd key qn y hk).mono ?_
    rintro e w' (⟨rfl, hp⟩ | ⟨rfl, D', rc, O', S', ht, hB, hk8⟩)
    · exact ⟨false, rfl, fun _ => hp, fun h => (by cases h)⟩
    · exact ⟨true, rfl, fun h => (by cases h), fun _ => ⟨by omega, D', rc, O', S', ht, hB, hk8⟩⟩
  · refine (step_any ⟨Y, Q, bp, O, S, bv, h1, h2, ⟨trivial, h3⟩, h4, h5, h6⟩ hm kd key qn y hks hq hy hk).mono ?_
    rintro e w' ⟨rfl, hp⟩
    exact ⟨false, rfl, fun _ => hp, fun h => (by cases h)⟩
/-- What the loop's round holds in memory beside the bench: the fault, and the two states. -/
structure Boxes (w : World) (b6 b7 b8 : Nat) (c6 c7 c8 : Array Value) (vn vm : Value) (En Em : List Ent) : Prop where
  fault : Blk w b6 65 c6
  now : Blk w b7 46 c7
  made : Blk w b8 46 c8
  en : EntsAt Any w vn En
  em : EntsAt Any w vm Em
variable {b6 b7 b8 : Nat} {c6 c7 c8 : Array Value} {vn vm : Value} {En Em : List Ent}
theorem Boxes.keeps (h : Boxes w b6 b7 b8 c6 c7 c8 vn vm En Em) (k : Keeps F w w') (hF : ∀ q, F q → ∀ t cs, Blk w q t cs → t ≠ 65 ∧ t ≠ 46 ∧ t ≠ 114 ∧ t ≠ 5) : Boxes w' b6 b7 b8 c6 c7 c8 vn vm En Em :=
  ⟨h.fault.keeps k fun e => (hF _ e _ _ h.fault).1 rfl, h.now.keeps k fun e => (hF _ e _ _ h.now).2.1 rfl, h.made.keeps k fun e => (hF _ e _ _ h.made).2.1 rfl, h.en.keepsT k fun q t cs hq hb => ⟨(hF q hq t cs hb).2.2.1, (hF q hq t cs hb).2.2.2⟩, h.em.keepsT k fun q t cs hq hb => ⟨(hF q hq t cs hb).2.2.1, (hF q hq t cs hb).2.2.2⟩⟩
theorem Boxes.below (h : Boxes w b6 b7 b8 c6 c7 c8 vn vm En Em) (hb : Below w.heap.size w w') : Boxes w' b6 b7 b8 c6 c7 c8 vn vm En Em := h.keeps (F := fun _ => False) (Keeps.of_below hb) fun _ h => h.elim
theorem Boxes.foot (h : Boxes w b6 b7 b8 c6 c7 c8 vn vm En Em) (hB : Bn w0 w g d s r X Q R bp O S bv) (k : Keeps (foot g O S bv) w w') : Boxes w' b6 b7 b8 c6 c7 c8 vn vm En Em :=
  h.keeps k fun q hq t cs hb => ⟨foot_fault hB q hq t cs hb, (hB.foot_no q hq t cs hb).2.2.2.1, (hB.foot_no q hq t cs hb).2.2.2.2, (hB.foot_no q hq t cs hb).2.2.1⟩
/-- Behind a torn commit: the power comes back, and the store is opened again. -/
theorem torn_next {D' : Dsk} {rc : Nat} (h : Bn w0 w g d s rc { Y.sto with disk := D' } Q Y.ref bp O S bv) (hY : Ok m Y) (ht : TornAt m Y D') (hn : Y.n = n) {v : Value} {ks : List Bool} (hk : ∀ S : List Nat, (∀ q ∈ S, w0.heap.size ≤ q) → KeepAt w S v ks)
    {gen : Nat} (hg : gen = Y.ref.now.gen) (hEn : En = Y.ref.now.ents) (hEm : Em = Y.ref.next.ents) (hb : Boxes w b6 b7 b8 c6 c7 c8 vn vm En Em) :
    Calls Tryz.prog 25 #[.pointer (some ⟨d, 0, none⟩), v] w fun e w' => e = .returned (.tuple #[]) ∧ w'.cell? ⟨g, 0, none⟩ = some (.pointer (some ⟨d, 0, none⟩)) ∧ Boxes w' b6 b7 b8 c6 c7 c8 vn vm En Em ∧
      ∀ wx, Below w'.heap.size w' wx → Calls Tryz.prog 26 #[.pointer (some ⟨g, 0, none⟩), .agg #[.int .i64 (gen : Int), vn], .agg #[.int .i64 ((gen : Int) + 1), vm], .bool true] wx fun e w2 => ∃ g2 s2 r2, e = .returned (.tuple #[.pointer (some ⟨g2, 0, none⟩), .bool true]) ∧ PlayA AnyA (m + 2) w0 g2 d s2 r2 n w2 := by
  refine (down_crash h hY ht hk).mono ?_
  rintro e w' ⟨rfl, O2, hB, k⟩
  have hb' : Boxes w' b6 b7 b8 c6 c7 c8 vn vm En Em := hb.keeps k fun q hq t cs hq2 => by
    rcases h.ltO q hq t cs hq2 with e | e | e | e | e
    all_goals
      subst e
      exact ⟨by decide, by decide, by decide, by decide⟩
  refine ⟨rfl, Blk.cell hB.bench 0, hb', fun wx hbx => ?_⟩
  have hbb := hb'.below hbx
  have e1 : (Y.ref.made.gen : Int) = (Y.ref.now.gen : Int) + 1 := by
    show ((Y.ref.now.gen + 1 : Nat) : Int) = _
    simp
  subst hg hEn hEm
  rw [← e1]
  exact found_opened (k := m + 2) (hB.below hbx) rfl rfl (ht.2.2.2.2.2.2 (keepOf ks)) hn hbb.en hbb.em
end

end Go.Proofs.YtbgiklkpinflaaaGreat

namespace Go.Proofs.YtbgiklkpinflaaaGreat
open Go.RowKit Go.Shelf Go.ChangeShapes Go.WideShapes Go.Deep

set_option maxRecDepth 100000 in
theorem faultArg_of {H : Type} {enc : TypeId × Value → H} {w : World} {held : Bool} {A : Option Addr} {n c : Nat} {d : DataW H} {p : List MemPlace} (h : DataW.Trod enc Tryz.prog w 0 (fun _ => true) held 63 (.slice A n c) d p) : FaultArg w A n := by
  obtain ⟨fuel, hf⟩ := h
  have hC : Tryz.prog.cellsOf 65 = 6 := by kernel_rfl
  rcases open_slice Tryz.underlying63 hf with ⟨hcs, _⟩ | ⟨a, len, cap, m, n1, D, Pl, hcs, _, hl, hm, hmm, _, hi⟩
  · simp [Value.cells] at hcs
    obtain ⟨rfl, rfl, rfl⟩ := hcs
    exact ⟨Nat.zero_le _, fun k hk => absurd hk (Nat.not_lt_zero _)⟩
  · simp [Value.cells] at hcs
    obtain ⟨rfl, rfl, rfl⟩ := hcs
    simp only [if_true] at hmm
    subst hmm
    rw [hC] at hi
    refine ⟨Nat.le_trans hl hm, fun k hk => ?_⟩
    obtain ⟨gb, go, sp⟩ := a
    have hsp : sp = none := by
      obtain ⟨cs, hc, _⟩ := hi 0 (by omega)
      obtain ⟨_, hcl, hat⟩ := World.cells?_some hc
      have a0 := hat 0 (by omega)
      rw [Nat.zero_mul, List.getElem?_eq_getElem (by omega)] at a0
      simpa [Addr.add] using World.cell?_spot a0
    subst hsp
    have hadd : ∀ m, (⟨gb, go, none⟩ : Addr).add m = ⟨gb, go + m, none⟩ := fun m => by unfold Addr.add; split <;> simp_all
    refine ⟨gb, go, rfl, ?_⟩
    obtain ⟨cs, hc, ht⟩ := hi k (by omega)
    obtain ⟨_, hcl, hat⟩ := World.cells?_some hc
    obtain ⟨ys, n2, _, _, _, hyl, hj⟩ := DataW.trod_struct Tryz.underlying65 ht
    obtain ⟨v0, v1, v2, v3, v4, v5, rfl⟩ : ∃ v0 v1 v2 v3 v4 v5, cs = [v0, v1, v2, v3, v4, v5] := by
      match cs, hcl with
      | [v0, v1, v2, v3, v4, v5], _ => exact ⟨v0, v1, v2, v3, v4, v5, rfl⟩
    have a0 := hat 0 (by omega)
    have a1 := hat 1 (by omega)
    have a2 := hat 2 (by omega)
    have a3 := hat 3 (by omega)
    have a4 := hat 4 (by omega)
    have a5 := hat 5 (by omega)
    rw [Go.Deep.add_add, hadd] at a0 a1 a2 a3 a4 a5
    have c8 : Tryz.prog.cellsOf 5 = 1 := by kernel_rfl
    have c16 : Tryz.prog.cellsOf 27 = 1 := by kernel_rfl
    have cst : Tryz.prog.cellsOf 9 = 1 := by kernel_rfl
    have cbs : Tryz.prog.cellsOf 59 = 1 := by kernel_rfl
    have cop : Tryz.prog.cellsOf 29 = 4 := by kernel_rfl
    have j0 : DataW.trod enc Tryz.prog w 0 (fun _ => true) held n2 29 (List.take (Tryz.prog.cellsOf 29) (List.drop 0 [v0, v1, v2, v3, v4, v5])) = ys[0]? := hj 0 _ rfl
    have j1 : DataW.trod enc Tryz.prog w 0 (fun _ => true) held n2 5 (List.take (Tryz.prog.cellsOf 5) (List.drop 4 [v0, v1, v2, v3, v4, v5])) = ys[1]? := hj 1 _ rfl
    have j2 : DataW.trod enc Tryz.prog w 0 (fun _ => true) held n2 59 (List.take (Tryz.prog.cellsOf 59) (List.drop 5 [v0, v1, v2, v3, v4, v5])) = ys[2]? := hj 2 _ rfl
    have hyl3 : ys.length = 3 := hyl
    rw [cop, List.getElem?_eq_getElem (by omega)] at j0
    rw [c8, List.getElem?_eq_getElem (by omega)] at j1
    rw [cbs, List.getElem?_eq_getElem (by omega)] at j2
    simp only [List.drop_zero, List.drop_succ_cons, List.take_succ_cons, List.take_zero] at j0 j1 j2
    obtain ⟨zs, n3, _, _, _, hzl, hz⟩ := DataW.trod_struct Tryz.underlying29 j0
    have hzl4 : zs.length = 4 := hzl
    have z0 : DataW.trod enc Tryz.prog w 0 (fun _ => true) held n3 5 (List.take (Tryz.prog.cellsOf 5) (List.drop 0 [v0, v1, v2, v3])) = zs[0]? := hz 0 _ rfl
    have z1 : DataW.trod enc Tryz.prog w 0 (fun _ => true) held n3 9 (List.take (Tryz.prog.cellsOf 9) (List.drop 1 [v0, v1, v2, v3])) = zs[1]? := hz 1 _ rfl
    have z2 : DataW.trod enc Tryz.prog w 0 (fun _ => true) held n3 27 (List.take (Tryz.prog.cellsOf 27) (List.drop 2 [v0, v1, v2, v3])) = zs[2]? := hz 2 _ rfl
    have z3 : DataW.trod enc Tryz.prog w 0 (fun _ => true) held n3 5 (List.take (Tryz.prog.cellsOf 5) (List.drop 3 [v0, v1, v2, v3])) = zs[3]? := hz 3 _ rfl
    rw [c8, List.getElem?_eq_getElem (by omega)] at z0 z3
    rw [cst, List.getElem?_eq_getElem (by omega)] at z1
    rw [c16, List.getElem?_eq_getElem (by omega)] at z2
    simp only [List.drop_zero, List.drop_succ_cons, List.take_succ_cons, List.take_zero] at z0 z1 z2 z3
    obtain ⟨x0, e0, _, w0⟩ := DataW.trod_int Tryz.underlying5 z0
    obtain ⟨x1, e1, _, w1⟩ := DataW.trod_string Tryz.underlying9 z1
    obtain ⟨x2, e2, _, w2⟩ := DataW.trod_int Tryz.underlying27 z2
    obtain ⟨x3, e3, _, w3⟩ := DataW.trod_int Tryz.underlying5 z3
    obtain ⟨x4, e4, _, w4⟩ := DataW.trod_int Tryz.underlying5 j1
    obtain ⟨ks, hks⟩ := keepAt_of j2
    simp only [List.cons.injEq, and_true] at e0 e1 e2 e3 e4
    subst e0 e1 e2 e3 e4
    have m0 : IntKind.u8.min = 0 := rfl
    have m1 : IntKind.u8.max = 255 := rfl
    have m2 : IntKind.u16.min = 0 := rfl
    have m3 : IntKind.u16.max = 65535 := rfl
    simp only [Lit.wf, Bool.and_eq_true, decide_eq_true_eq] at w0 w2 w3 w4
    obtain ⟨kd, rfl⟩ := Int.eq_ofNat_of_zero_le (show 0 ≤ x0 by omega)
    obtain ⟨qn, rfl⟩ := Int.eq_ofNat_of_zero_le (show 0 ≤ x2 by omega)
    obtain ⟨y, rfl⟩ := Int.eq_ofNat_of_zero_le (show 0 ≤ x3 by omega)
    obtain ⟨arm, rfl⟩ := Int.eq_ofNat_of_zero_le (show 0 ≤ x4 by omega)
    exact ⟨kd, x1, qn, y, arm, v5, ks, a0, a1, a2, a3, a4, a5, w1, by omega, by omega, by omega, hks⟩

end Go.Proofs.YtbgiklkpinflaaaGreat

namespace Go.Proofs.YtbgiklkpinflaaaGreat
open Go.RowKit Go.Shelf Go.Maps
attribute [local go_sem ↓] Go.wp_at_zero Go.wp_at_succ

set_option maxRecDepth 100000 in
set_option maxHeartbeats 8000000 in
theorem whole_calls (w : World) (A : Option Addr) (n c : Nat) (hA : FaultArg w A n) :
    Calls Tryz.prog 7 #[.slice A n c] w fun e w' => e = .returned (.bool true) ∧ Below w.heap.size w w' := by
  have HL := Lib.hid (laid_bench (n := 40) (w0 := w) w (by omega) (by omega) (Nat.le_refl _) (Below.refl _ _))
  have HA := Lib.hid hA
  have hmax := hA.1
  unfold maxLen at hmax
  clear hA
  by_cases hbig : 24 < n
  · have t2 : decide ((24 : Int) < n) = true := by simp; omega
    clear hbig
    go_enter Tryz.func7, Tryz.ntmps7
    go_wp2_with (first
      | (go_at_call 11; refine HL.out.mono ?_; rintro e w1 ⟨g, d, s, r, rfl, hl1, hg1, hb1⟩; have HB1 := Lib.hid hb1; clear hl1 hb1)
      | (go_at_call 12; refine (awake_calls _).mono ?_; rintro e w4 ⟨rfl, hb4⟩; have HB4 := Lib.hid hb4; clear hb4))
    go_ret
    exact ⟨rfl, HB1.out.trans (HB4.out.mono HB1.out.size)⟩
  · have t2 : decide ((24 : Int) < n) = false := by simp; omega
    have hn24 : n ≤ 24 := by omega
    clear hbig
    go_enter Tryz.func7, Tryz.ntmps7
    go_wp2_with (go_at_call 11; refine HL.out.mono ?_; rintro e w1 ⟨g, d, s, r, rfl, hl1, hg1, hb1⟩; have HP1 := Lib.hid hl1.play.any; clear hl1 hb1)
    go_loopw [3, 30] (fun v x wr => ∃ (k g s r : Nat), k ≤ n ∧ v = .pointer (some ⟨g, 0, none⟩) ∧ x = .int .i64 k ∧ PlayA AnyA (3 * k) w g d s r 40 wr) (fun _ x _ => n - (intOf x).toNat)
    case atStart => exact ⟨0, g, s, r, Nat.zero_le _, rfl, rfl, HP1.out⟩
    case round =>
      obtain ⟨k, g, s, r, hk, rfl, rfl, hM⟩ := hrel
      by_cases hlt : k < n
      · have tk : decide ((k : Int) < (n : Int)) = true := by simp; omega
        obtain ⟨gb, go, rfl, hrow⟩ := HA.out.2 k hlt
        obtain ⟨kd, key, qn, y, arm, Ak, nk, ck, ks, q0, q1, q2, q3, q4, q5, hks, hqn, hy, harm, hkp⟩ := hrow.below hM.kept
        have HKP := Lib.hid hkp
        have HM := Lib.hid hM
        clear hM hrow hkp
        have HMA : Hid (∀ o, PlayA AnyA (3 * k) w g d s r 40 (wr.alloc o)) := fun o => HM.out.below ((Below.refl _ wr).alloc (Nat.le_refl _) o)
        obtain ⟨c16, hc16⟩ : ∃ c16, c16 = arm % 16 := ⟨_, rfl⟩
        have hm16 : (arm : Int) % 16 = (c16 : Int) := by omega
        have htm16 : (arm : Int).tmod 16 = (c16 : Int) := by rw [Int.tmod_eq_emod_of_nonneg (by omega)]; omega
        have hw8 : IntKind.u8.wrap (c16 : Int) = (c16 : Int) := by rw [IntKind.wrap_u8]; omega
        have hw64 : IntKind.i64.wrap (c16 : Int) = (c16 : Int) := IntWalk.i64_in _ (by omega)
        have hc255 : c16 ≤ 255 := by omega
        clear hc16
        go_upto_if 36 with fail
        go_cut [] from 31 to 114 (fun wx => PlayA AnyA (3 * k) w g d s r 40 wx ∧ Blk wx wr.heap.size 65 #[.int .u8 (kd : Int), .string key, .int .u16 (qn : Int), .int .u8 (y : Int), .int .u8 (arm : Int), .slice Ak nk ck])
        case first =>
          by_cases ha0 : arm = 0
          · have ta : decide ((0 : Int) < (arm : Int)) = false := by simp; omega
            go_wp2
            go_meet
            exact ⟨HMA.out _, Blk.new wr _ _⟩
          · have ta : decide ((0 : Int) < (arm : Int)) = true := by simp; omega
            have HBX : Hid (Blk (wr.alloc (.cells #[.int .u8 (kd : Int), .string key, .int .u16 (qn : Int), .int .u8 (y : Int), .int .u8 (arm : Int), .slice Ak nk ck] 65)).drew wr.heap.size 65 #[.int .u8 (kd : Int), .string key, .int .u16 (qn : Int), .int .u8 (y : Int), .int .u8 (arm : Int), .slice Ak nk ck]) := (Blk.new wr _ _).drew
            have HPD : Hid (PlayA AnyA (3 * k) w g d s r 40 (wr.alloc (.cells #[.int .u8 (kd : Int), .string key, .int .u16 (qn : Int), .int .u8 (y : Int), .int .u8 (arm : Int), .slice Ak nk ck] 65)).drew) := (HMA.out _).below ((Below.refl _ _).drew_)
            have x4 : (wr.alloc (.cells #[.int .u8 (kd : Int), .string key, .int .u16 (qn : Int), .int .u8 (y : Int), .int .u8 (arm : Int), .slice Ak nk ck] 65)).drew.cell? ⟨wr.heap.size, 4, none⟩ = some (.int .u8 (arm : Int)) := HBX.out.cell 4
            have x0 : (wr.alloc (.cells #[.int .u8 (kd : Int), .string key, .int .u16 (qn : Int), .int .u8 (y : Int), .int .u8 (arm : Int), .slice Ak nk ck] 65)).drew.cell? ⟨g, 0, none⟩ = some (.pointer (some ⟨d, 0, none⟩)) := HPD.out.bench0
            go_wp2
            go_region_held3 (fun w' => w'.cell? ⟨g, 0, none⟩ = some (.pointer (some ⟨d, 0, none⟩)) ∧ w'.cell? ⟨wr.heap.size, 4, none⟩ = some (.int .u8 (arm : Int))) ((first | exact ⟨x0, x4⟩ | exact ⟨y0, y4⟩ | go_keep))
              ((first
                | (go_at_call 28; refine (play_arm HPD.out c16 hc255).mono ?_; rintro e w2 ⟨rfl, hp2, hf2⟩; have y0 := hp2.bench0; have hb2 := hf2 _ _ HBX.out; have y4 : w2.cell? ⟨wr.heap.size, 4, none⟩ = some (.int .u8 (arm : Int)) := hb2.cell 4; have HP2 := Lib.hid hp2; have HB2 := Lib.hid hb2; clear hp2 hf2 hb2)))
            all_goals
              go_wp2_with fail
              go_meet
              exact ⟨HP2.out, HB2.out⟩
        case rest =>
          obtain ⟨hP, hbx⟩ := hcut
          have HPZ := Lib.hid hP
          obtain ⟨Y, Q, bp, O, S, bv, h1, h2, h3, h4, h5, h6⟩ := hP
          obtain ⟨nv, xv, pv, qs, hrp, _⟩ := id h1.ref
          obtain ⟨An, cn, hnv⟩ := hrp.now.slice
          obtain ⟨E, hE⟩ : ∃ E, E = Y.ref.now.ents := ⟨_, rfl⟩
          obtain ⟨gen, hgen⟩ : ∃ gen, gen = Y.ref.now.gen := ⟨_, rfl⟩
          have HC : Hid (∀ wx, Below wc.heap.size wc wx → wx.cell? ⟨g, 2, none⟩ = some (.pointer (some ⟨r, 0, none⟩)) ∧ wx.cell? ⟨r, 1, none⟩ = some (.int .i64 (gen : Int)) ∧ wx.cell? ⟨r, 2, none⟩ = some (.slice An E.length cn)) := fun wx hb => by
            have hb1 := Blk.below h1.bench hb (Blk.lt h1.bench)
            have hb2 := hrp.blk.below hb hrp.blk.lt
            rw [hnv] at hb2
            rw [hE, hgen]
            exact ⟨hb1.cell 2, hb2.cell 1, hb2.cell 2⟩
          have HEN : Hid (∀ wx, Below wc.heap.size wc wx → EntsAt Any wx (.slice An E.length cn) E) := fun wx hb => by
            have := hrp.now.below hb
            rw [hnv] at this
            rw [hE]
            exact this
          have HMD : Hid (∀ wx, Below wc.heap.size wc wx → Calls Tryz.prog 29 #[.pointer (some ⟨r, 0, none⟩)] wx (StPost Any wx ((gen + 1 : Nat) : Int) Y.ref.next.ents)) := fun wx hb => by
            rw [hgen]
            exact ref_made (h1.ref.below hb) h2.refOk.gen
          have HBX := Lib.hid hbx
          have H1 := Lib.hid h1
          have H2 := Lib.hid h2
          have H3 := Lib.hid h3
          have H4 := Lib.hid h4
          have H5 := Lib.hid h5
          have H6 := Lib.hid h6
          have HGEN := Lib.hid hgen
          have HEE := Lib.hid hE
          obtain ⟨wz, hwz⟩ : ∃ wz : World, wz = wc := ⟨_, rfl⟩
          subst hwz
          clear h1 h2 h3 h4 h5 h6 hrp hnv hE hgen hbx
          obtain ⟨a2, b1, b2⟩ := HC.out wz.drew ((Below.refl _ wz).drew_)
          go_wp2
          go_cut [7, 8] from 31 to 114 (fun s7 s8 wx => ∃ b7 b8 Am cm, s7 = .pointer (some ⟨b7, 0, none⟩) ∧ s8 = .pointer (some ⟨b8, 0, none⟩) ∧ Below wz.heap.size wz wx ∧ Blk wx b7 46 #[.int .i64 (gen : Int), .slice An E.length cn] ∧ Blk wx b8 46 #[.int .i64 ((gen : Int) + 1), .slice Am Y.ref.next.ents.length cm] ∧ EntsAt Any wx (.slice Am Y.ref.next.ents.length cm) Y.ref.next.ents)
          case first =>
            go_region_held3 (fun w' => w'.cell? ⟨g, 2, none⟩ = some (.pointer (some ⟨r, 0, none⟩)) ∧ w'.cell? ⟨r, 1, none⟩ = some (.int .i64 (gen : Int)) ∧ w'.cell? ⟨r, 2, none⟩ = some (.slice An E.length cn)) ((first | exact ⟨a2, b1, b2⟩ | (refine HC.out _ ?_; (repeat (first | exact HB7.out | exact Below.refl _ _ | refine Below.drew_ ?_ | refine Below.drewN_ ?_ _ | refine Below.alloc ?_ ?_ _ | refine Below.setCell ?_ ?_ _ | (focus (have := HB7.out.size; simp; omega)) | (focus (simp; done)))))))
              ((first
                | (go_at_call 29; refine (HMD.out _ (by repeat (first | exact Below.refl _ _ | refine Below.drew_ ?_ | refine Below.drewN_ ?_ _ | refine Below.alloc ?_ ?_ _ | (focus (simp; done))))).mono ?_; rintro e w7 ⟨Am, cm, rfl, hem, hb7⟩; have HEM := Lib.hid hem; have HB7 : Hid (Below wz.heap.size wz w7) := Below.trans (by repeat (first | exact Below.refl _ _ | refine Below.drew_ ?_ | refine Below.drewN_ ?_ _ | refine Below.alloc ?_ ?_ _ | (focus (simp; done)))) (hb7.mono (by first | (simp; done) | (simp; omega))); (first | (have B7 := Blk.below (w := ((wz.alloc (.cells #[.int .i64 0, .slice none 0 0] 46)).alloc (.cells #[.int .i64 0, .slice none 0 0] 46)).drew) (Blk.drew ((Blk.new wz 46 #[.int .i64 0, .slice none 0 0]).alloc _)) hb7 (by first | (simp; done) | (simp; omega)); have B8 := Blk.below (w := ((wz.alloc (.cells #[.int .i64 0, .slice none 0 0] 46)).alloc (.cells #[.int .i64 0, .slice none 0 0] 46)).drew) (Blk.drew (Blk.new (wz.alloc (.cells #[.int .i64 0, .slice none 0 0] 46)) 46 #[.int .i64 0, .slice none 0 0])) hb7 (by first | (simp; done) | (simp; omega)); simp only [World.size_alloc] at B8; have u0 : w7.cell? ⟨wz.heap.size, 0, none⟩ = some (.int .i64 0) := B7.cell 0; have u1 : w7.cell? ⟨wz.heap.size, 1, none⟩ = some (.slice none 0 0) := B7.cell 1; have u2 : w7.frozen? ⟨wz.heap.size, 0, none⟩ = false := B7.frozen 0; have u3 : w7.frozen? ⟨wz.heap.size, 1, none⟩ = false := B7.frozen 1; have v0 : w7.cell? ⟨wz.heap.size + 1, 0, none⟩ = some (.int .i64 0) := B8.cell 0; have v1 : w7.cell? ⟨wz.heap.size + 1, 1, none⟩ = some (.slice none 0 0) := B8.cell 1; have v2 : w7.frozen? ⟨wz.heap.size + 1, 0, none⟩ = false := B8.frozen 0; have v3 : w7.frozen? ⟨wz.heap.size + 1, 1, none⟩ = false := B8.frozen 1; have u4 : wz.heap.size < w7.heap.size := B7.lt; have v4 : wz.heap.size + 1 < w7.heap.size := B8.lt) | (have B7 := Blk.below (w := (wz.alloc (.cells #[.int .i64 0, .slice none 0 0] 46)).drew) (Blk.drew (Blk.new wz 46 #[.int .i64 0, .slice none 0 0])) hb7 (by first | (simp; done) | (simp; omega)); have u0 : w7.cell? ⟨wz.heap.size, 0, none⟩ = some (.int .i64 0) := B7.cell 0; have u1 : w7.cell? ⟨wz.heap.size, 1, none⟩ = some (.slice none 0 0) := B7.cell 1; have u2 : w7.frozen? ⟨wz.heap.size, 0, none⟩ = false := B7.frozen 0; have u3 : w7.frozen? ⟨wz.heap.size, 1, none⟩ = false := B7.frozen 1; have u4 : wz.heap.size < w7.heap.size := B7.lt) | (have zz : wz.heap.size ≤ w7.heap.size := hb7.size; skip)); clear hem hb7)))
            · go_wp2_with fail
              go_meet
              exact ⟨_, _, Am, cm, rfl, rfl, below_new HB7.out HB7.out.size _ _, (two_new _ _ _ _).1, (two_new _ _ _ _).2, ents_alloc (ents_alloc HEM.out _) _⟩
            · go_wp2_with fail
              go_meet
              exact ⟨_, _, Am, cm, rfl, rfl, below_new HB7.out HB7.out.size _ _, (two_new _ _ _ _).2, (two_new _ _ _ _).1, ents_alloc (ents_alloc HEM.out _) _⟩
            · go_wp2_with fail
              go_meet
              exact ⟨_, _, Am, cm, rfl, rfl, below_one HB7.out HB7.out.size (Nat.le_refl _) _ _ _, (one_old B7 _ _ _).1, (one_old B7 _ _ _).2, ents_alloc (ents_set (ents_set HEM.out B7 _) (B7.set_ _ _) _) _⟩
            · go_wp2_with fail
              go_meet
              exact ⟨_, _, Am, cm, rfl, rfl, below_two HB7.out (Nat.le_refl _) (Nat.le_succ _) _ _ _ _, (two_old B7 B8 (by omega) _ _ _ _).1, (two_old B7 B8 (by omega) _ _ _ _).2, ents_two HEM.out B7 B8 (by omega) _ _ _ _⟩
            · go_wp2_with fail
              go_meet
              exact ⟨_, _, Am, cm, rfl, rfl, below_one HB7.out HB7.out.size (Nat.le_refl _) _ _ _, (one_old B7 _ _ _).2, (one_old B7 _ _ _).1, ents_alloc (ents_set (ents_set HEM.out B7 _) (B7.set_ _ _) _) _⟩
            · go_wp2_with fail
              go_meet
              exact ⟨_, _, Am, cm, rfl, rfl, below_two HB7.out (Nat.le_succ _) (Nat.le_refl _) _ _ _ _, (two_old B8 B7 (by omega) _ _ _ _).1, (two_old B8 B7 (by omega) _ _ _ _).2, ents_two HEM.out B8 B7 (by omega) _ _ _ _⟩
          case rest =>
            obtain ⟨b7, b8, Am, cm, rfl, rfl, hb9, hk7, hk8, hem⟩ := hcut
            obtain ⟨wb, hwb⟩ : ∃ wb : World, wb = wc := ⟨_, rfl⟩
            subst hwb
            have hxb := HBX.out.below hb9 HBX.out.lt
            have hbx : Boxes wb wr.heap.size b7 b8 _ _ _ (.slice An E.length cn) (.slice Am Y.ref.next.ents.length cm) E Y.ref.next.ents := ⟨hxb, hk7, hk8, HEN.out wb hb9, hem⟩
            have hB := H1.out.below hb9
            have HH := Lib.hid hB
            have HBXS := Lib.hid hbx
            have h5b : PinsRel wb Y.pins Q bp := H5.out.keeps (F := fun _ => False) (Keeps.of_below hb9) fun _ h => h.elim
            have HST : Hid (∀ wx, Below wb.heap.size wb wx → Calls Tryz.prog 31 #[.pointer (some ⟨g, 0, none⟩), .agg #[.int .u8 (kd : Int), .string key, .int .u16 (qn : Int), .int .u8 (y : Int)]] wx fun e w' => ∃ down, e = .returned (.tuple #[.bool down, .bool true]) ∧ (down = false → PlayA AnyA (3 * k + 1) w g d s r 40 w') ∧
                (down = true → kd % 9 = 3 ∧ ∃ D' rc O' S', TornAt (3 * k) Y D' ∧ Bn w w' g d s rc { Y.sto with disk := D' } Q Y.ref bp O' S' bv ∧ Keeps (foot g O S bv) wb w')) := fun wx hb => (step_all (hB.below hb) H2.out H3.out.2 H4.out (h5b.keeps (F := fun _ => False) (Keeps.of_below hb) fun _ h => h.elim) H6.out (by omega) kd key qn y hks hqn hy).mono fun e w' ⟨dn, p1, p2, p3⟩ => ⟨dn, p1, p2, fun hd => by
              obtain ⟨p4, D', rc, O', S', p5, p6, p7⟩ := p3 hd
              exact ⟨p4, D', rc, O', S', p5, p6, (Keeps.of_below (F := foot g O S bv) hb).trans (G := foot g O S bv) p7 fun _ _ h => h⟩⟩
            obtain ⟨fr, hfr⟩ : ∃ fr, fr = Y.ref.free := ⟨_, rfl⟩
            obtain ⟨nd, hnd⟩ : ∃ nd, nd = Y.ref.need := ⟨_, rfl⟩
            obtain ⟨op, hop⟩ : ∃ op, op = Y.ref.opened := ⟨_, rfl⟩
            have HFRE := Lib.hid hfr
            have HNDE := Lib.hid hnd
            have HOPE := Lib.hid hop
            have HFR : Hid (∀ wx, Below wb.heap.size wb wx → Calls Tryz.prog 20 #[.pointer (some ⟨r, 0, none⟩)] wx fun e w' => e = .returned (.int .i64 (fr : Int)) ∧ Below wx.heap.size wx w') := fun wx hb => by
              rw [hfr]
              exact ref_free (hB.ref.below hb) H2.out.refOk.pins H2.out.refOk.sts H2.out.refOk.blocks
            have HND : Hid (∀ wx, Below wb.heap.size wb wx → Calls Tryz.prog 30 #[.pointer (some ⟨r, 0, none⟩)] wx fun e w' => e = .returned (.int .i64 (nd : Int)) ∧ Below wx.heap.size wx w') := fun wx hb => by
              rw [hnd]
              exact ref_need (hB.ref.below hb) H2.out.refOk.next H2.out.refOk.now
            have HRC : Hid (∀ wx, Below wb.heap.size wb wx → wx.cell? ⟨g, 2, none⟩ = some (.pointer (some ⟨r, 0, none⟩)) ∧ wx.cell? ⟨r, 5, none⟩ = some (.bool op) ∧ wx.cell? ⟨wr.heap.size, 0, none⟩ = some (.int .u8 (kd : Int))) := fun wx hb => by
              obtain ⟨nv2, xv2, pv2, qs2, hrp2, _⟩ := (hB.below hb).ref
              rw [hop]
              exact ⟨Blk.cell (hB.below hb).bench 2, hrp2.blk.cell 5, (hbx.below hb).fault.cell 0⟩
            have HYN := Lib.hid H4.out
            obtain ⟨x2, x5, x0⟩ := HRC.out wb (Below.refl _ _)
            clear hfr hnd hop hb9 hem hk7 hk8 hxb hbx hB h5b HEN HMD HC H1 H5 HP1 HL HPZ HBX
            go_wp2
            go_cut [9] from 31 to 114 (fun s9 wx => ∃ ei : Bool, s9 = .bool ei ∧ (kd % 9 = 3 → op = true → (nd : Int) ≤ (fr : Int) → ei = true) ∧ Below wb.heap.size wb wx)
            case first =>
              by_cases hk3 : kd % 9 = 3
              · have hk8' : (kd : Int).tmod 9 = 3 := by rw [Int.tmod_eq_emod_of_nonneg (by omega)]; omega
                have hkm : (kd : Int) % 9 = 3 := by omega
                cases op with
                | false =>
                  go_quiet (fail)
                  go_wp2_with fail
                  go_meet
                  exact ⟨false, rfl, fun _ h => (by cases h), (Below.refl _ _).drewN_ _⟩
                | true =>
                  go_region_held3 (fun w' => w'.cell? ⟨g, 2, none⟩ = some (.pointer (some ⟨r, 0, none⟩)) ∧ w'.cell? ⟨r, 5, none⟩ = some (.bool true) ∧ w'.cell? ⟨wr.heap.size, 0, none⟩ = some (.int .u8 (kd : Int))) ((first | exact ⟨x2, x5, x0⟩ | (refine HRC.out _ ?_; (repeat (first | exact HB5.out | exact HB6.out | exact Below.refl _ _ | refine Below.drew_ ?_ | refine Below.drewN_ ?_ _ | (focus (simp; done)))))))
                    ((first
                      | (go_at_call 20; refine (HFR.out _ (by (repeat (first | exact HB5.out | exact HB6.out | exact Below.refl _ _ | refine Below.drew_ ?_ | refine Below.drewN_ ?_ _ | (focus (simp; done)))))).mono ?_; rintro e w5 ⟨rfl, hb5⟩; have HB5 : Hid (Below wb.heap.size wb w5) := Below.trans (by (repeat (first | exact HB5.out | exact HB6.out | exact Below.refl _ _ | refine Below.drew_ ?_ | refine Below.drewN_ ?_ _ | (focus (simp; done))))) (hb5.mono (by first | omega | (simp; done) | (simp; omega))); clear hb5)
                      | (go_at_call 30; refine (HND.out _ (by (repeat (first | exact HB5.out | exact HB6.out | exact Below.refl _ _ | refine Below.drew_ ?_ | refine Below.drewN_ ?_ _ | (focus (simp; done)))))).mono ?_; rintro e w6 ⟨rfl, hb6⟩; have hb5s := HB5.out.size; have HB6 : Hid (Below wb.heap.size wb w6) := Below.trans (by (repeat (first | exact HB5.out | exact HB6.out | exact Below.refl _ _ | refine Below.drew_ ?_ | refine Below.drewN_ ?_ _ | (focus (simp; done))))) (hb6.mono (by first | omega | (simp; done) | (simp; omega))); clear hb6 hb5s)))
                  all_goals
                    go_wp2_with fail
                    go_meet
                    exact ⟨_, rfl, fun _ _ h => by simpa using h, HB6.out⟩
              · obtain ⟨q9, hq9⟩ : ∃ q9, q9 = kd % 9 := ⟨_, rfl⟩
                have hk8' : (kd : Int).tmod 9 = (q9 : Int) := by rw [Int.tmod_eq_emod_of_nonneg (by omega)]; omega
                have hkm : (kd : Int) % 9 = (q9 : Int) := by omega
                have hk9 : IntKind.u8.wrap (q9 : Int) = (q9 : Int) := by rw [IntKind.wrap_u8]; omega
                have hq3 : ((q9 : Int) == 3) = false := by simp; omega
                have hq4 : q9 ≠ 3 := by omega
                clear hq9
                go_quiet (fail)
                go_wp2_with fail
                go_meet
                exact ⟨false, rfl, fun h => absurd h hk3, (Below.refl _ _).drewN_ _⟩
            case rest =>
              obtain ⟨ei, rfl, hei, hb10⟩ := hcut
              have HEI := Lib.hid hei
              have HB10 := Lib.hid hb10
              obtain ⟨wd, hwd⟩ : ∃ wd : World, wd = wc := ⟨_, rfl⟩
              subst hwd
              have hbs := HBXS.out.below hb10
              have z0 : wd.cell? ⟨wr.heap.size, 0, none⟩ = some (.int .u8 (kd : Int)) := hbs.fault.cell 0
              have z1 : wd.cell? ⟨wr.heap.size, 1, none⟩ = some (.string key) := hbs.fault.cell 1
              have z2 : wd.cell? ⟨wr.heap.size, 2, none⟩ = some (.int .u16 (qn : Int)) := hbs.fault.cell 2
              have z3 : wd.cell? ⟨wr.heap.size, 3, none⟩ = some (.int .u8 (y : Int)) := hbs.fault.cell 3
              clear hei hb10 hbs x2 x5 x0
              go_upto_if 95 with (go_at_call 31; refine (HST.out _ (by repeat (first | exact HB10.out | refine Below.drew_ ?_ | refine Below.drewN_ ?_ _ | (focus (simp; done))))).mono ?_; rintro e w8 ⟨down, rfl, hp8, ht8⟩; have HP8 := Lib.hid hp8; have HT8 := Lib.hid ht8; clear hp8 ht8)
              cases down with
              | false =>
                have HP9 := Lib.hid (HP8.out rfl)
                clear HP8 HT8
                go_wp2
                go_roundw
                case rel => exact ⟨k + 1, g, s, r, by omega, rfl, by go_num, HP9.out.more (by omega) (by omega)⟩
                case measure => simp [intOf]; omega
              | true =>
                obtain ⟨hk3, D', rc, O', S', ht, hB8, hk8⟩ := HT8.out rfl
                obtain rfl : ei = true := HEI.out hk3 (by rw [HOPE.out]; exact ht.1) (by rw [HNDE.out, HFRE.out]; exact ht.2.1)
                have hbs8 := HBXS.out.foot HH.out hk8
                have y0 : w8.drew.cell? ⟨g, 0, none⟩ = some (.pointer (some ⟨d, 0, none⟩)) := Blk.cell hB8.bench 0
                have y5 : w8.drew.cell? ⟨wr.heap.size, 5, none⟩ = some (.slice Ak nk ck) := hbs8.fault.cell 5
                have HTN := Lib.hid (fun wx (hb : Below w8.heap.size w8 wx) => torn_next (hB8.below hb) H2.out ht H4.out (v := .slice Ak nk ck) (ks := ks) (fun S hS => keepAt_fresh HKP.out (hB8.below hb).kept hS) HGEN.out HEE.out rfl (hbs8.below hb))
                clear hB8 hk8 hbs8 ht HT8 HP8 HEI
                go_wp2
                go_region_held3 (fun w' => w'.cell? ⟨g, 0, none⟩ = some (.pointer (some ⟨d, 0, none⟩)) ∧ w'.cell? ⟨wr.heap.size, 5, none⟩ = some (.slice Ak nk ck)) ((first | exact ⟨y0, y5⟩ | exact ⟨c0, c5⟩ | go_keep))
                  ((first
                    | (go_at_call 25; refine (HTN.out _ (by repeat (first | exact Below.refl _ _ | refine Below.drew_ ?_ | refine Below.drewN_ ?_ _ | (focus (simp; done))))).mono ?_; rintro e w9 ⟨rfl, c0, hbs9, hop9⟩; have c5 : w9.cell? ⟨wr.heap.size, 5, none⟩ = some (.slice Ak nk ck) := hbs9.fault.cell 5; have HOP9 := Lib.hid hop9; have v0 := hbs9.now.cell 0; have v1 := hbs9.now.cell 1; have m0 := hbs9.made.cell 0; have m1 := hbs9.made.cell 1; clear hbs9 hop9)))
                all_goals
                  go_wp2_with (go_at_call 26; refine (HOP9.out _ (by repeat (first | exact Below.refl _ _ | refine Below.drew_ ?_ | refine Below.drewN_ ?_ _ | (focus (simp; done))))).mono ?_; rintro e w10 ⟨g2, s2, r2, rfl, hp10⟩; have HP10 := Lib.hid hp10; clear hp10)
                  go_roundw
                  case rel => exact ⟨k + 1, g2, s2, r2, by omega, rfl, by go_num, HP10.out.more (by omega) (by omega)⟩
                  case measure => simp [intOf]; omega
      · obtain rfl : k = n := by omega
        have tk : decide ((k : Int) < (k : Int)) = false := by simp
        have HM := Lib.hid hM
        clear hM
        go_wp2_with (go_at_call 12; refine (awake_calls _).mono ?_; rintro e w7 ⟨rfl, hb7⟩; have HB7 := Lib.hid hb7; clear hb7)
        go_ret
        exact ⟨rfl, (HM.out.below HB7.out).kept⟩

end Go.Proofs.YtbgiklkpinflaaaGreat
