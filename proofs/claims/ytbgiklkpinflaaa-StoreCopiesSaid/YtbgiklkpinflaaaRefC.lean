/- The reference's disk: Spoil, plain facts. Spoil: what the walk leaves. -/
import Derived.Test.YtbgiklkpinflaaaSpoilB

namespace Go.Proofs.Ytbgiklkpinflaaa.Ref
open Go.RowKit Go.Shelf
open Go.Proofs.Ytbgiklkpinflaaa hiding DiskRep DiskAt After PenSlice Settling Crashing

/-- k of the writes have been looked at; those to other blocks are in the slice v. -/
def Spoiling (P : Nat → Prop) (w : World) (b : Nat) (D : Dsk) (i g1 : Nat) (cur1 : Array Value) (pv : Value) (ps : List (Nat × Value)) (k : Nat) (v : Value) (wr : World) : Prop :=
  Crashing P w b D (hits D i) g1 cur1 pv ps k wr ∧ wr.ownsRow w.heap.size 132 2 v (keptTo ps i k).length (penCells (keptTo ps i k))

section
variable {P : Nat → Prop} {w : World} {b : Nat} {D : Dsk} {i g1 : Nat} {cur1 : Array Value} {pv : Value} {ps : List (Nat × Value)} {k : Nat} {v : Value} {wr : World}
theorem Spoiling.start (h : DiskRep P w b D g1 cur1 pv ps) : Spoiling P w b D i g1 cur1 pv ps 0 (.slice none 0 0) w :=
  ⟨⟨cur1, rfl, h, Keeps.refl _ _⟩, rfl, .inl ⟨rfl, rfl⟩⟩
theorem Spoiling.hit (h : Spoiling P w b D i g1 cur1 pv ps k v wr) (hf : hits D i k = true) (hk : k < ps.length) (he : (pen ps k).1 = i) (hE : DskOk D) (o : Obj) : Spoiling P w b D i g1 cur1 pv ps (k + 1) v ((wr.alloc o).setCell ⟨g1, i, none⟩ (pen ps k).2).drew := by
  have hst := h.1.step hf hk hE o
  rw [he] at hst
  refine ⟨hst, ?_⟩
  have he' := he
  rw [pen_eq (List.getElem?_eq_getElem hk)] at he'
  rw [keptTo_skip hk he']
  obtain ⟨cur, _, hr, _⟩ := h.1
  exact (ownsRow_keeps h.2 (((Keeps.refl (fun _ => False) wr).alloc o).weaken (F := (· = g1)) (fun _ _ h => h.elim) |>.setCell (p := ⟨g1, i, none⟩) (fun _ => rfl) _) (fun g hg e => own_blk_ne h.2 hr.hg (by decide) (by rw [hg, e]))).drew
theorem Crashing.keeps {f : Nat → Bool} {w2 : World} (h : Crashing P w b D f g1 cur1 pv ps k wr) (hw : ∀ q, q ∈ b :: g1 :: pv.ownBlock.toList → q < w.heap.size) {F : Nat → Prop} (k2 : Keeps F wr w2) (hF : ∀ q, F q → w.heap.size ≤ q) (hU : ∀ g cs, F g → Blk wr g 5 cs → False) : Crashing P w b D f g1 cur1 pv ps k w2 := by
  obtain ⟨cur, hs, hr, hk⟩ := h
  refine ⟨cur, hs, hr.keeps k2 (fun q hq hq2 => by have := hw q hq; have := hF q hq2; omega) (fun g cs h _ hb => hU g cs h hb), hk.trans k2 (fun q hq h => by have := hF q h; omega)⟩
theorem Crashing.pass {f : Nat → Bool} (h : Crashing P w b D f g1 cur1 pv ps k wr) (hf : f k = false) : Crashing P w b D f g1 cur1 pv ps (k + 1) wr := by
  obtain ⟨cur, hcs, hr, hkk⟩ := h
  refine ⟨cur, hcs, ?_, hkk⟩
  have e : settleIf f D.blocks D.pending (k + 1) = settleIf f D.blocks D.pending k := by
    show (if f k then _ else _) = _
    rw [hf, if_neg (by simp)]
  rw [e]
  exact hr
theorem DiskRep.blks (h : DiskRep P w b D g1 cur1 pv ps) : ∀ q, q ∈ b :: g1 :: pv.ownBlock.toList → q < w.heap.size := by
  intro q hq
  simp only [List.mem_cons, Option.mem_toList] at hq
  rcases hq with rfl | rfl | hq
  · exact h.hb.lt
  · exact h.hg.lt
  · rcases h.own.2 with ⟨hv, _⟩ | ⟨gq, _, _, hv, _, hg, _⟩
    · rw [hv] at hq; simp [Value.ownBlock] at hq
    · rw [hv] at hq; simp [Value.ownBlock] at hq
      subst hq
      exact Blk.lt (t := 132) hg
theorem Spoiling.other {w3 : World} {gg cap2 : Nat} {o1 o2 : Obj} (h : Spoiling P w b D i g1 cur1 pv ps k v wr) (hw : ∀ q, q ∈ b :: g1 :: pv.ownBlock.toList → q < w.heap.size) (hf : hits D i k = false) (hk : k < ps.length) (he : (pen ps k).1 ≠ i)
    (hown : w3.ownsRow w.heap.size 132 2 (.slice (some ⟨gg, 0, none⟩) ((keptTo ps i k).length + 1) cap2) ((keptTo ps i k).length + 1) (penCells (keptTo ps i k) ++ [.int .i64 ((pen ps k).1 : Int), (pen ps k).2])) (hgrow : ((wr.alloc o1).alloc o2).grownBy w3 v.ownBlock) :
    Spoiling P w b D i g1 cur1 pv ps (k + 1) (.slice (some ⟨gg, 0, none⟩) ((keptTo ps i k).length + 1) cap2) w3 := by
  have k3 : Keeps (fun q => v.ownBlock = some q) wr w3 := (((Keeps.refl _ wr).alloc o1).alloc o2).grown hgrow (fun g h _ => h)
  have hvb : ∀ q, v.ownBlock = some q → w.heap.size ≤ q := by
    intro q hq
    rcases h.2.2 with ⟨hv, _⟩ | ⟨g, _, _, hv, hb, _⟩
    · rw [hv] at hq; simp [Value.ownBlock] at hq
    · rw [hv] at hq; simp [Value.ownBlock] at hq
      omega
  refine ⟨(h.1.keeps hw k3 hvb (fun g cs e hb => own_blk_ne h.2 hb (by decide) e)).pass hf, ?_⟩
  have he' := he
  rw [pen_eq (List.getElem?_eq_getElem hk)] at he'
  rw [pen_eq (List.getElem?_eq_getElem hk)] at hown
  rw [keptTo_keep hk he', penCells_append, List.length_append]
  simpa [penCells] using hown
/-- The list of what is left has been stored. -/
theorem Spoiling.stored (h : Spoiling P w b D i g1 cur1 pv ps ps.length v wr) (hi : i < D.blocks.length) :
    ∃ cur, DiskRep P (wr.setCell ⟨b, 1, none⟩ v) b { D with blocks := D.blocks.set i (D.see i), pending := D.pending.filter fun p => !(p.1 == i) } g1 cur v (keptTo ps i ps.length) ∧ Keeps (fun q => q = b ∨ q = g1) w (wr.setCell ⟨b, 1, none⟩ v) := by
  obtain ⟨⟨cur, hs, hr, hk⟩, hown⟩ := h
  have hpl : ps.length = D.pending.length := hr.pslen
  rw [hpl, settleIf_spoil D hi] at hr
  have k4 : Keeps (· = b) wr (wr.setCell ⟨b, 1, none⟩ v) := Keeps.set1 _ b 1 _
  have hU : ∀ g cs, g = b → P g → Blk wr g 5 cs → False := fun g cs hg _ hb => hr.noBytes g cs (by simp [hg]) hb
  obtain ⟨hm, hq⟩ := kept_pl (fun v l => BytesAt P wr v l) i hr.pb (fun j p hp => hr.pl j p hp)
  have hflt : keptTo ps i ps.length = ps.filter fun p => !(p.1 == i) := keptTo_end ps i
  have hlen : (keptTo ps i ps.length).length = (D.pending.filter fun p => !(p.1 == i)).length := by
    have := congrArg List.length hm
    rw [hflt]
    simpa using this
  refine ⟨cur, ⟨?_, hr.hg.keeps k4 (Ne.symm hr.ne1), hr.le, fun j l hj => ?_, ?_, ?_, fun j p hj => ?_, fun j hj => hr.fresh j (Nat.le_trans k4.size hj)⟩, (hk.weaken (F := fun q => q = b ∨ q = g1) (fun _ _ h => .inr h)).trans k4 (fun _ _ h => .inl h)⟩
  · exact hr.hb.set_ 1 v
  · obtain ⟨v', hv, hB⟩ := hr.bl j l hj
    exact ⟨v', hv, hB.keeps k4 hU⟩
  · show World.ownsRow _ _ _ _ _ (D.pending.filter fun p => !(p.1 == i)).length _
    rw [← hlen]
    have h4 := ownsRow_keeps hown k4 fun g hg e => own_blk_ne hown hr.hb (by decide) (by rw [hg, e])
    refine ⟨h4.1, h4.2.imp id ?_⟩
    rintro ⟨g, cap, c, e, _, r⟩
    exact ⟨g, cap, c, e, Nat.zero_le _, r⟩
  · show List.map (fun q : Nat × Value => q.1) _ = List.map (fun q : Nat × List UInt8 => q.1) (D.pending.filter fun p => !(p.1 == i))
    rw [hflt]
    exact hm
  · obtain ⟨v', hv, hB⟩ := hq j p hj
    rw [hflt]
    exact ⟨v', hv, hB.keeps k4 hU⟩
end
theorem filter_ok {D : Dsk} {i : Nat} (ho : DskOk D) (l : List UInt8) (hl : l.length = 256) : DskOk { D with blocks := D.blocks.set i l, pending := D.pending.filter fun p => !(p.1 == i) } :=
  ⟨fun x hx => by
    rcases List.mem_or_eq_of_mem_set hx with h | h
    · exact ho.blk x h
    · rw [h]; exact hl, fun p hp => by
    have := ho.pen p (List.mem_filter.1 hp).1
    simpa using this, by simpa using ho.some_, by simpa using ho.few, ho.armedLe⟩
theorem see_length {D : Dsk} (ho : DskOk D) {i : Nat} (hi : i < D.blocks.length) : (D.see i).length = 256 := by
  unfold Dsk.see
  cases hf : D.pending.reverse.find? (fun p => p.1 == i) with
  | none =>
    rw [List.getElem?_eq_getElem hi]
    exact ho.blk _ (List.getElem_mem hi)
  | some p =>
    exact (ho.pen p (by simpa using List.mem_of_find?_eq_some hf)).2
theorem spoilB_length (l : List UInt8) (k : Nat) (y : Int) : (spoilB l k y).length = l.length := by unfold spoilB; exact List.length_set
/-- A new block with the bytes of block i, one of them changed, takes its place. -/
theorem DiskRep.placed {P : Nat → Prop} {w w2 : World} {b : Nat} {E : Dsk} {g1 : Nat} {cur : Array Value} {pv : Value} {ps : List (Nat × Value)} (h : DiskRep P w b E g1 cur pv ps) (k2 : Keeps (fun _ => False) w w2) {g cap : Nat} {l : List UInt8}
    (hB : BytesAt (w.heap.size ≤ ·) w2 (.slice (some ⟨g, 0, none⟩) l.length cap) l) {i : Nat} (hi : i < E.blocks.length) (k : Nat) (x : UInt8) :
    DiskRep P ((w2.setCell ⟨g, k, none⟩ (bv x)).setCell ⟨g1, i, none⟩ (.slice (some ⟨g, 0, none⟩) l.length cap)) b { E with blocks := E.blocks.set i (l.set k x) } g1 (cur.setIfInBounds i (.slice (some ⟨g, 0, none⟩) l.length cap)) pv ps := by
  have hgs : w.heap.size ≤ g := by
    obtain ⟨g', cap', cur', hv, hq, _⟩ := hB
    injection hv with ha _ _
    injection ha with ha
    injection ha with ha _ _
    rw [ha]; exact hq
  have hlt := h.blks
  have ka : Keeps (· = g) w (w2.setCell ⟨g, k, none⟩ (bv x)) := (k2.weaken (F := (· = g)) (fun _ _ h => h.elim)).setCell (p := ⟨g, k, none⟩) (fun _ => rfl) _
  have ra : DiskRep P (w2.setCell ⟨g, k, none⟩ (bv x)) b E g1 cur pv ps := h.keeps ka (fun q hq e => by have := hlt q hq; omega) (fun q cs e _ hk => by have := hk.lt; omega)
  exact ra.setBlock i (l.set k x) (.slice (some ⟨g, 0, none⟩) l.length cap) ((hB.set_ k x).mono fun q hq => h.fresh q hq) hi

end Go.Proofs.Ytbgiklkpinflaaa.Ref

namespace Go.Proofs.Ytbgiklkpinflaaa
open Go.RowKit Go.Shelf

theorem After.drew_ {P : Nat → Prop} {w w1 : World} {b : Nat} {E : Dsk} {S : List Nat} (h : After P w w1 b E S) : After P w w1.drew b E S := h.below ((Below.refl _ w1).drew_)
theorem spoil_fine {D : Dsk} (hd : D.down = false) {i k : Nat} (y : Int) (hi : i < D.blocks.length) (hk : k < 256) : D.spoil i k y = (0, { D with blocks := D.blocks.set i (spoilB (D.see i) k y), pending := D.pending.filter fun p => !(p.1 == i) }) := by
  unfold Dsk.spoil
  rw [hd, if_neg (by simp), if_neg (by omega), if_neg (by omega)]
  simp
theorem spoil_end {P : Nat → Prop} {w W4 w5 : World} {b g1 g5 cap5 i k : Nat} {D : Dsk} {cur : Array Value} {pv pv3 : Value} {ps3 : List (Nat × Value)} {l : List UInt8} {y : Int} (hr4 : DiskRep P W4 b { D with blocks := D.blocks.set i l, pending := D.pending.filter fun p => !(p.1 == i) } g1 cur pv3 ps3) (hk5 : Keeps (fun _ => False) W4 w5)
    (hb5 : BytesAt (W4.heap.size ≤ ·) w5 (.slice (some ⟨g5, 0, none⟩) l.length cap5) l) (ho : DskOk D) (hi : i < D.blocks.length) (hd : D.down = false) (hk : k < 256) (hl : l = D.see i) (hkw : Keeps (fun q => q = b ∨ q = g1 ∨ pv.ownBlock = some q) w W4) (hpv : pv3.ownBlock = pv.ownBlock) :
    After P w ((w5.setCell ⟨g1, i, none⟩ (.slice (some ⟨g5, 0, none⟩) l.length cap5)).setCell ⟨g5, k, none⟩ (.int .u8 (bits BinOp.xor IntKind.u8 ((l[k]?.getD 0).toNat : Int) y))) b (D.spoil i k y).2 (b :: g1 :: pv.ownBlock.toList) := by
  have hsp := DiskRep.spoiled hr4 hk5 hb5 (i := i) (by simpa using hi) k (UInt8.ofNat (bits BinOp.xor IntKind.u8 ((l[k]?.getD 0).toNat : Int) y).toNat)
  rw [bv_ofNat (bits_lo_u8 _ _ _) (by have := bits_hi_u8 BinOp.xor ((l[k]?.getD 0).toNat : Int) y; omega)] at hsp
  have hg5 : W4.heap.size ≤ g5 := by
    obtain ⟨g', cap', cur', hv, hq, _⟩ := hb5
    injection hv with ha _ _
    injection ha with ha
    injection ha with ha _ _
    rw [ha]; exact hq
  have e : (D.spoil i k y).2 = { D with blocks := (D.blocks.set i l).set i (l.set k (UInt8.ofNat (bits BinOp.xor IntKind.u8 ((l[k]?.getD 0).toNat : Int) y).toNat)), pending := D.pending.filter fun p => !(p.1 == i) } := by
    rw [spoil_fine hd y hi hk, List.set_set, hl]
    rfl
  have hok : DskOk (D.spoil i k y).2 := by
    rw [spoil_fine hd y hi hk]
    exact Ref.filter_ok ho _ (by rw [Ref.spoilB_length, Ref.see_length ho hi])
  rw [e] at hok ⊢
  refine ⟨b :: g1 :: pv3.ownBlock.toList, ⟨hok, g1, _, pv3, ps3, rfl, hsp⟩, fun q hq => .inl (by rw [← hpv]; exact hq), ?_⟩
  · have k1 : Keeps (fun q => q ∈ b :: g1 :: pv.ownBlock.toList) w W4 := hkw.weaken fun q _ h => by
      rcases h with h | h | h <;> simp [h]
    have hs := hkw.size
    exact ((k1.trans hk5 (fun _ _ h => h.elim)).setCell (p := ⟨g1, i, none⟩) (fun _ => by simp) _).setCell (p := ⟨g5, k, none⟩) (fun h => by have h : g5 < w.heap.size := h; omega) _

end Go.Proofs.Ytbgiklkpinflaaa
