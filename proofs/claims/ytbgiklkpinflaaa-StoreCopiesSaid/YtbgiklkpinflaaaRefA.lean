/- The reference's disk in memory (printed by wip/ref.py out of the facts on the program's disk). The reference's disk: NewDisk, fails, Arm. The reference's disk: Arm, Read. -/
import Derived.Test.YtbgiklkpinflaaaCrashA

namespace Go.Proofs.Ytbgiklkpinflaaa.Ref
open Go.RowKit Go.Shelf
open Go.Proofs.Ytbgiklkpinflaaa hiding DiskRep DiskAt After PenSlice Settling Crashing

/-- How a disk lies in memory: its struct in block b, its list of blocks in block g1, its pending writes in the slice pv. -/
structure DiskRep (P : Nat → Prop) (w : World) (b : Nat) (D : Dsk) (g1 : Nat) (cur1 : Array Value) (pv : Value) (ps : List (Nat × Value)) : Prop where
  hb : Blk w b 102 #[.slice (some ⟨g1, 0, none⟩) D.blocks.length cur1.size, pv, .int .i64 (D.armed : Int), .bool D.down, .int .i64 (D.life : Int)]
  hg : Blk w g1 26 cur1
  le : D.blocks.length ≤ cur1.size
  bl : ∀ (i : Nat) (l : List UInt8), D.blocks[i]? = some l → ∃ v : Value, cur1[i]? = some v ∧ BytesAt P w v l
  own : w.ownsRow 0 132 2 pv D.pending.length (penCells ps)
  pb : ps.map (fun q => q.1) = D.pending.map (fun q => q.1)
  pl : ∀ (i : Nat) (p : Nat × List UInt8), D.pending[i]? = some p → ∃ v : Value, ps[i]? = some (p.1, v) ∧ BytesAt P w v p.2
  fresh : ∀ k, w.heap.size ≤ k → P k
/-- The disk D lies in memory at block b; S: the blocks that it may write. -/
def DiskAt (P : Nat → Prop) (w : World) (b : Nat) (D : Dsk) (S : List Nat) : Prop :=
  DskOk D ∧ ∃ g1 cur1 pv ps, S = b :: g1 :: pv.ownBlock.toList ∧ DiskRep P w b D g1 cur1 pv ps
section
variable {P : Nat → Prop} {w w' : World} {b : Nat} {D : Dsk} {g1 : Nat} {cur1 : Array Value} {pv : Value} {ps : List (Nat × Value)}
theorem DiskRep.c0 (h : DiskRep P w b D g1 cur1 pv ps) : w.cell? ⟨b, 0, none⟩ = some (.slice (some ⟨g1, 0, none⟩) D.blocks.length cur1.size) := by rw [h.hb.cell]; rfl
theorem DiskRep.c1 (h : DiskRep P w b D g1 cur1 pv ps) : w.cell? ⟨b, 1, none⟩ = some pv := by rw [h.hb.cell]; rfl
theorem DiskRep.c2 (h : DiskRep P w b D g1 cur1 pv ps) : w.cell? ⟨b, 2, none⟩ = some (.int .i64 (D.armed : Int)) := by rw [h.hb.cell]; rfl
theorem DiskRep.c3 (h : DiskRep P w b D g1 cur1 pv ps) : w.cell? ⟨b, 3, none⟩ = some (.bool D.down) := by rw [h.hb.cell]; rfl
theorem DiskRep.c4 (h : DiskRep P w b D g1 cur1 pv ps) : w.cell? ⟨b, 4, none⟩ = some (.int .i64 (D.life : Int)) := by rw [h.hb.cell]; rfl
theorem DiskRep.pslen (h : DiskRep P w b D g1 cur1 pv ps) : ps.length = D.pending.length := by have := congrArg List.length h.pb; simpa using this
theorem DiskRep.ne1 (h : DiskRep P w b D g1 cur1 pv ps) : b ≠ g1 := h.hb.ne_ h.hg (by decide)
theorem DiskRep.ne2 (h : DiskRep P w b D g1 cur1 pv ps) : pv.ownBlock ≠ some b := own_blk_ne h.own h.hb (by decide)
theorem DiskRep.ne3 (h : DiskRep P w b D g1 cur1 pv ps) : pv.ownBlock ≠ some g1 := own_blk_ne h.own h.hg (by decide)
/-- The disk's own blocks are no blocks of bytes. -/
theorem DiskRep.noBytes (h : DiskRep P w b D g1 cur1 pv ps) : ∀ g cs, g ∈ b :: g1 :: pv.ownBlock.toList → Blk w g 5 cs → False := by
  intro g cs hg hk
  simp only [List.mem_cons, Option.mem_toList] at hg
  rcases hg with rfl | rfl | hg
  · exact hk.ne_ h.hb (by decide) rfl
  · exact hk.ne_ h.hg (by decide) rfl
  · exact own_blk_ne h.own hk (by decide) hg
/-- Nothing of the disk's own is written: the disk is as it was. -/
theorem DiskRep.keeps {F : Nat → Prop} (h : DiskRep P w b D g1 cur1 pv ps) (k : Keeps F w w') (hF : ∀ g, g ∈ b :: g1 :: pv.ownBlock.toList → ¬ F g) (hU : ∀ g cs, F g → P g → Blk w g 5 cs → False) : DiskRep P w' b D g1 cur1 pv ps where
  hb := h.hb.keeps k (hF b (by simp))
  hg := h.hg.keeps k (hF g1 (by simp))
  le := h.le
  bl := fun i l hi => let ⟨v, hv, hB⟩ := h.bl i l hi; ⟨v, hv, hB.keeps k hU⟩
  own := ownsRow_keeps h.own k fun g hg => hF g (by simp [hg])
  pb := h.pb
  pl := fun i p hp => let ⟨v, hv, hB⟩ := h.pl i p hp; ⟨v, hv, hB.keeps k hU⟩
  fresh := fun i hi => h.fresh i (Nat.le_trans k.size hi)
end
/-- Behind a call the disk E lies where D lay; of what was there only the disk's own blocks may have turned. -/
def After (P : Nat → Prop) (w w' : World) (b : Nat) (E : Dsk) (S : List Nat) : Prop :=
  ∃ S', DiskAt P w' b E S' ∧ (∀ k ∈ S', k ∈ S ∨ w.heap.size ≤ k) ∧ Keeps (· ∈ S) w w'
/-- What a write that is noted leaves. -/
theorem write_after {P : Nat → Prop} {w w1 w2 w3 : World} {b : Nat} {E : Dsk} {g1 : Nat} {cur1 : Array Value} {pv : Value} {ps : List (Nat × Value)} {i : Nat} {l : List UInt8} {v : Value} {o : Obj} {gg cap2 : Nat}
    (hr : DiskRep P w1 b E g1 cur1 pv ps) (ho : DskOk E) (hk1 : Keeps (· = b) w w1) (hk2 : Keeps (fun _ => False) w1 w2) (hB : BytesAt P w2 v l) (hl : l.length = 256) (hi : i < E.blocks.length)
    (hown3 : w3.ownsRow 0 132 2 (.slice (some ⟨gg, 0, none⟩) (E.pending.length + 1) cap2) (E.pending.length + 1) (penCells ps ++ [.int .i64 (i : Int), v])) (hgrow : (w2.alloc o).grownBy w3 pv.ownBlock)
    (hat : pv.ownBlock = some gg ∨ gg = w2.heap.size + 1) :
    After P w (w3.setCell ⟨b, 1, none⟩ (.slice (some ⟨gg, 0, none⟩) (E.pending.length + 1) cap2)) b { E with pending := E.pending ++ [(i, l)] } (b :: g1 :: pv.ownBlock.toList) := by
  have hw1 : w.heap.size ≤ w1.heap.size := hk1.size
  have k3 : Keeps (fun k => pv.ownBlock = some k) w1 w3 := (hk2.weaken (F := fun k => pv.ownBlock = some k) (fun _ _ h => h.elim)).alloc o |>.grown hgrow (fun g h _ => h)
  have B3 : Blk w3 b 102 _ := hr.hb.keeps k3 hr.ne2
  have hne : gg ≠ b := fun e => own_blk_ne hown3 B3 (by decide) (by simp [Value.ownBlock, e])
  have k4 : Keeps (fun k => k = b ∨ pv.ownBlock = some k) w1 (w3.setCell ⟨b, 1, none⟩ (.slice (some ⟨gg, 0, none⟩) (E.pending.length + 1) cap2)) :=
    (k3.weaken (fun _ _ h => .inr h)).setCell (p := ⟨b, 1, none⟩) (fun _ => .inl rfl) _
  have k5 : Keeps (fun k => k = b ∨ pv.ownBlock = some k) w2 (w3.setCell ⟨b, 1, none⟩ (.slice (some ⟨gg, 0, none⟩) (E.pending.length + 1) cap2)) :=
    (((Keeps.refl (fun k => pv.ownBlock = some k) w2).alloc o |>.grown hgrow (fun g h _ => h)).weaken (fun _ _ h => .inr h)).setCell (p := ⟨b, 1, none⟩) (fun _ => .inl rfl) _
  have hU : ∀ g cs, (g = b ∨ pv.ownBlock = some g) → P g → Blk w1 g 5 cs → False := fun g cs hg _ hk => hr.noBytes g cs (by rcases hg with rfl | hg <;> simp [*]) hk
  have hU2 : ∀ g cs, (g = b ∨ pv.ownBlock = some g) → P g → Blk w2 g 5 cs → False := fun g cs hg _ hk => by
    have h2 : DiskRep P w2 b E g1 cur1 pv ps := hr.keeps hk2 (fun _ _ => id) (fun _ _ h _ _ => h)
    exact h2.noBytes g cs (by rcases hg with rfl | hg <;> simp [*]) hk
  refine ⟨[b, g1, gg], ⟨⟨ho.blk, ?_, ho.some_, ho.few, ho.armedLe⟩, g1, cur1, .slice (some ⟨gg, 0, none⟩) (E.pending.length + 1) cap2, ps ++ [(i, v)], rfl, ?_⟩, ?_, ?_⟩
  · intro p hp
    rcases List.mem_append.1 hp with h | h
    · exact ho.pen p h
    · simp only [List.mem_singleton] at h
      subst h
      exact ⟨hi, hl⟩
  · refine ⟨B3.set_ 1 _, hr.hg.keeps k4 (by rintro (h | h); exact hr.ne1 h.symm; exact hr.ne3 h), hr.le, ?_, ?_, ?_, ?_, ?_⟩
    · intro k l' hk
      obtain ⟨v', hv', hB'⟩ := hr.bl k l' hk
      exact ⟨v', hv', hB'.keeps k4 hU⟩
    · have h4 := ownsRow_keeps hown3 ((Keeps.refl (· = b) w3).setCell (p := ⟨b, 1, none⟩) (fun _ => rfl) (.slice (some ⟨gg, 0, none⟩) (E.pending.length + 1) cap2)) (by intro g hg e; simp [Value.ownBlock] at hg; omega)
      rw [penCells_append]
      simpa [penCells] using h4
    · simp [hr.pb]
    · intro k p hp
      simp only at hp
      rw [List.getElem?_append] at hp ⊢
      rw [hr.pslen]
      split at hp
      · rename_i hlt
        obtain ⟨v', hv', hB'⟩ := hr.pl k p hp
        rw [if_pos hlt]
        exact ⟨v', hv', hB'.keeps k4 hU⟩
      · rename_i hge
        rw [if_neg hge]
        rcases Nat.eq_zero_or_pos (k - E.pending.length) with h0 | h0
        · rw [h0] at hp ⊢
          simp only [List.getElem?_cons_zero, Option.some.injEq] at hp
          subst hp
          exact ⟨v, rfl, hB.keeps k5 hU2⟩
        · rw [List.getElem?_eq_none (by simp; omega)] at hp
          cases hp
    · exact fun i hi => hr.fresh i (Nat.le_trans k4.size hi)
  · intro k hk
    simp only [List.mem_cons, List.not_mem_nil, or_false] at hk
    rcases hk with rfl | rfl | rfl
    · exact .inl (by simp)
    · exact .inl (by simp)
    · rcases hat with h | h
      · exact .inl (by simp [h])
      · have := hk2.size
        exact .inr (by omega)
  · refine (hk1.weaken (F := (· ∈ b :: g1 :: pv.ownBlock.toList)) (fun k _ h => by simp [h])).trans k4 (fun k _ h => ?_)
    rcases h with rfl | h
    · simp
    · simp [h]
/-- The pending writes ps lie in block g. -/
def PenAt (w : World) (g : Nat) (ps : List (Nat × Value)) : Prop :=
  ∀ j, j < ps.length → w.cell? ⟨g, j * 2, none⟩ = some (.int .i64 ((pen ps j).1 : Int)) ∧ w.cell? ⟨g, j * 2 + 1, none⟩ = some ((pen ps j).2)
theorem PenAt.of_own {w : World} {base n : Nat} {v : Value} {ps : List (Nat × Value)} (h : w.ownsRow base 132 2 v n (penCells ps)) (hn : 0 < n) : ∃ g cap, v = .slice (some ⟨g, 0, none⟩) n cap ∧ n ≤ cap ∧ v.ownBlock = some g ∧ PenAt w g ps ∧ g < w.heap.size := by
  obtain ⟨h1, h2⟩ := h
  rcases h2 with ⟨_, h0, _⟩ | ⟨g, cap, cur, rfl, hb, hg, hnc, hcm, hcs, ht⟩
  · omega
  · have hl := penCells_length ps
    have hps : n = ps.length := by omega
    refine ⟨g, cap, rfl, hnc, by simp [Value.ownBlock], ?_, Blk.lt (t := 132) hg⟩
    have hC : Cells w g 0 (penCells ps) := take_cells hg ht
    intro j hj
    have := penCells_at ps j hj
    have a1 := hC _ _ this.1
    have a2 := hC _ _ this.2
    simp only [Nat.zero_add] at a1 a2
    exact ⟨a1, a2⟩
theorem PenAt.below {w w' : World} {n g : Nat} {ps : List (Nat × Value)} (h : PenAt w g ps) (hb : Below n w w') (hg : g < n) : PenAt w' g ps := fun j hj =>
  ⟨(hb.cell (p := ⟨g, j * 2, none⟩) hg).trans (h j hj).1, (hb.cell (p := ⟨g, j * 2 + 1, none⟩) hg).trans (h j hj).2⟩
/-- The slice value pv holds the pending writes ps, in a block below n₀; or there are none. -/
def PenSlice (n₀ : Nat) (w : World) (pv : Value) (ps : List (Nat × Value)) : Prop :=
  ∃ A cap, pv = .slice A ps.length cap ∧ (0 < ps.length → ∃ g, A = some ⟨g, 0, none⟩ ∧ g < n₀ ∧ PenAt w g ps)
theorem PenSlice.of_own {w : World} {base n : Nat} {v : Value} {ps : List (Nat × Value)} (h : w.ownsRow base 132 2 v n (penCells ps)) (hl : ps.length = n) : PenSlice w.heap.size w v ps := by
  rcases Nat.eq_zero_or_pos n with h0 | h0
  · rcases h.2 with ⟨hv, _⟩ | ⟨g, cap, cur, rfl, hb, hg, hnc, hcm, hcs, ht⟩
    · exact ⟨none, 0, by rw [hv, hl, h0], by omega⟩
    · exact ⟨_, cap, by rw [hl], by omega⟩
  · obtain ⟨g, cap, rfl, _, _, hp, hg⟩ := PenAt.of_own h h0
    exact ⟨_, cap, by rw [hl], fun _ => ⟨g, rfl, hg, hp⟩⟩
theorem PenSlice.below {w w' : World} {n : Nat} {v : Value} {ps : List (Nat × Value)} (h : PenSlice n w v ps) (hb : Below n w w') : PenSlice n w' v ps := by
  obtain ⟨A, cap, hv, hc⟩ := h
  exact ⟨A, cap, hv, fun h0 => let ⟨g, h1, h2, h3⟩ := hc h0; ⟨g, h1, h2, h3.below hb h2⟩⟩
theorem DiskRep.pen_at {P : Nat → Prop} {w : World} {b : Nat} {D : Dsk} {g1 : Nat} {cur1 : Array Value} {pv : Value} {ps : List (Nat × Value)} (h : DiskRep P w b D g1 cur1 pv ps) (j : Nat) (hj : j < ps.length) :
    ∃ l, D.pending[j]? = some ((pen ps j).1, l) ∧ BytesAt P w (pen ps j).2 l := by
  have hj' : j < D.pending.length := by rw [← h.pslen]; exact hj
  obtain ⟨v, hv, hB⟩ := h.pl j D.pending[j] (List.getElem?_eq_getElem hj')
  rw [pen_eq hv]
  exact ⟨_, List.getElem?_eq_getElem hj', hB⟩
theorem PenSlice.mono_ {w : World} {n m : Nat} {v : Value} {ps : List (Nat × Value)} (h : PenSlice n w v ps) (hm : n ≤ m) : PenSlice m w v ps := by
  obtain ⟨A, cap, hv, hc⟩ := h
  exact ⟨A, cap, hv, fun h0 => let ⟨g, h1, h2, h3⟩ := hc h0; ⟨g, h1, Nat.lt_of_lt_of_le h2 hm, h3⟩⟩
theorem After.refl {P : Nat → Prop} {w : World} {b : Nat} {D : Dsk} {S : List Nat} (h : DiskAt P w b D S) : After P w w b D S := ⟨S, h, fun _ hk => .inl hk, Keeps.refl _ _⟩
section
variable {P : Nat → Prop} {w : World} {b : Nat} {E : Dsk} {g1 : Nat} {cur : Array Value} {pv : Value} {ps : List (Nat × Value)}
/-- One block is replaced. -/
theorem DiskRep.setBlock (h : DiskRep P w b E g1 cur pv ps) (i : Nat) (l : List UInt8) (v : Value) (hB : BytesAt P w v l) (hi : i < E.blocks.length) : DiskRep P (w.setCell ⟨g1, i, none⟩ v) b { E with blocks := E.blocks.set i l } g1 (cur.setIfInBounds i v) pv ps := by
  have k1 : Keeps (· = g1) w (w.setCell ⟨g1, i, none⟩ v) := Keeps.set1 w g1 i v
  have hU : ∀ g cs, g = g1 → P g → Blk w g 5 cs → False := fun g cs hg _ hk => h.noBytes g cs (by simp [hg]) hk
  have hle := h.le
  refine ⟨?_, h.hg.set_ i v, by simpa using hle, ?_, ownsRow_keeps h.own k1 (fun g hg e => h.ne3 (by rw [hg, e])), h.pb, ?_, fun k hk => h.fresh k (Nat.le_trans k1.size hk)⟩
  · have := h.hb.keeps k1 h.ne1
    simpa using this
  · intro j l' hj
    simp only at hj
    rw [List.getElem?_set] at hj
    split at hj
    · rename_i e
      subst e
      cases hj
      refine ⟨v, ?_, hB.keeps k1 hU⟩
      rw [Array.getElem?_setIfInBounds_self_of_lt]
      omega
    · rename_i hne
      obtain ⟨v', hv', hB'⟩ := h.bl j l' hj
      exact ⟨v', by rw [Array.getElem?_setIfInBounds_ne hne]; exact hv', hB'.keeps k1 hU⟩
  · intro j p hj
    obtain ⟨v', hv', hB'⟩ := h.pl j p hj
    exact ⟨v', hv', hB'.keeps k1 hU⟩
/-- Nothing waits any more. -/
theorem DiskRep.drop (h : DiskRep P w b E g1 cur pv ps) : DiskRep P (w.setCell ⟨b, 1, none⟩ (.slice none 0 0)) b { E with pending := [] } g1 cur (.slice none 0 0) [] := by
  have k1 : Keeps (· = b) w (w.setCell ⟨b, 1, none⟩ (.slice none 0 0)) := Keeps.set1 w b 1 _
  have hU : ∀ g cs, g = b → P g → Blk w g 5 cs → False := fun g cs hg _ hk => h.noBytes g cs (by simp [hg]) hk
  refine ⟨h.hb.set_ 1 _, h.hg.keeps k1 (Ne.symm h.ne1), h.le, ?_, ⟨rfl, .inl ⟨rfl, rfl⟩⟩, rfl, fun j p hj => by simp at hj, fun k hk => h.fresh k (Nat.le_trans k1.size hk)⟩
  intro j l' hj
  obtain ⟨v', hv', hB'⟩ := h.bl j l' hj
  exact ⟨v', hv', hB'.keeps k1 hU⟩
end
theorem DiskRep.keepsB {P : Nat → Prop} {w w' : World} {b : Nat} {D : Dsk} {g1 : Nat} {cur1 : Array Value} {pv : Value} {ps : List (Nat × Value)} {B : Nat} (h : DiskRep P w b D g1 cur1 pv ps) (hb : Below B w w') (hB : w.heap.size ≤ B) : DiskRep P w' b D g1 cur1 pv ps :=
  h.keeps (F := fun _ => False) (Keeps.of_below (hb.mono hB)) (fun _ _ => id) (fun _ _ h => h.elim)
/-- k of the writes have taken effect. -/
def Settling (P : Nat → Prop) (w1 : World) (b : Nat) (E : Dsk) (g1 : Nat) (cur1 : Array Value) (pv : Value) (ps : List (Nat × Value)) (k : Nat) (wr : World) : Prop :=
  ∃ cur, cur.size = cur1.size ∧ DiskRep P wr b { E with blocks := settle E.blocks (E.pending.take k) } g1 cur pv ps ∧ Keeps (· = g1) w1 wr
theorem Settling.pen_at {P : Nat → Prop} {w1 : World} {b : Nat} {E : Dsk} {g1 : Nat} {cur1 : Array Value} {pv : Value} {ps : List (Nat × Value)} {k : Nat} {wr : World} (h : Settling P w1 b E g1 cur1 pv ps k wr) {j : Nat} (hj : j < ps.length) {gp c1 n : Nat} (hv : pv = .slice (some ⟨gp, 0, none⟩) n c1) :
    wr.cell? ⟨gp, j * 2, none⟩ = some (.int .i64 ((pen ps j).1 : Int)) ∧ wr.cell? ⟨gp, j * 2 + 1, none⟩ = some (pen ps j).2 := by
  obtain ⟨cur, _, hr, _⟩ := h
  obtain ⟨A, c, hA, hp⟩ := PenSlice.of_own hr.own hr.pslen
  obtain ⟨g, rfl, _, hp⟩ := hp (by omega)
  rw [hv] at hA
  cases hA
  exact hp j hj
theorem Settling.has {P : Nat → Prop} {w1 : World} {b : Nat} {E : Dsk} {g1 : Nat} {cur1 : Array Value} {pv : Value} {ps : List (Nat × Value)} {k : Nat} {wr : World} (h : Settling P w1 b E g1 cur1 pv ps k wr) {j : Nat} (hj : j < E.blocks.length) :
    ∃ g n c, wr.cell? ⟨g1, j, none⟩ = some (.slice g n c) := by
  obtain ⟨cur, _, hr, _⟩ := h
  have hjl : j < (settle E.blocks (E.pending.take k)).length := by rw [settle_length]; exact hj
  obtain ⟨v, hv, hB⟩ := hr.bl j _ (List.getElem?_eq_getElem hjl)
  obtain ⟨g, cap, _, rfl, _⟩ := hB
  exact ⟨_, _, _, (hr.hg.cell j).trans hv⟩
theorem Settling.step {P : Nat → Prop} {w1 : World} {b : Nat} {E : Dsk} {g1 : Nat} {cur1 : Array Value} {pv : Value} {ps : List (Nat × Value)} {k : Nat} {wr : World} (h : Settling P w1 b E g1 cur1 pv ps k wr) (hk : k < ps.length) (hE : DskOk E) (o : Obj) :
    Settling P w1 b E g1 cur1 pv ps (k + 1) ((wr.alloc o).setCell ⟨g1, (pen ps k).1, none⟩ (pen ps k).2).drew := by
  obtain ⟨cur, hcs, hr, hkk⟩ := h
  have hr2 : DiskRep P (wr.alloc o).drew b _ g1 cur pv ps := hr.keepsB (B := wr.heap.size) (((Below.refl _ wr).alloc (Nat.le_refl _) o).drew_) (Nat.le_refl _)
  obtain ⟨l, hpk, hB⟩ := hr2.pen_at k hk
  have hpi := hE.pen _ (List.mem_of_getElem? hpk)
  refine ⟨cur.setIfInBounds (pen ps k).1 (pen ps k).2, by simpa using hcs, ?_, ?_⟩
  · have := hr2.setBlock (pen ps k).1 l (pen ps k).2 hB (by simpa [settle_length] using hpi.1)
    rw [settle_take _ _ hpk]
    exact this
  · exact ((hkk.alloc o).drew).trans (Keeps.set1 _ g1 _ _) (fun _ _ h => h)
/-- k blocks are made. -/
def Making (w : World) (k : Nat) (wr : World) : Prop :=
  ∃ sv xs, Blk wr w.heap.size 102 #[sv, .slice none 0 0, .int .i64 0, .bool false, .int .i64 0] ∧ wr.ownsRow (w.heap.size + 1) 26 1 sv k xs ∧ (∀ x ∈ xs, BytesAt (w.heap.size ≤ ·) wr x zeros) ∧ Below w.heap.size w wr
theorem making_step {w wr w3 : World} {k gg cap2 : Nat} {sv : Value} {xs : List Value} (hb : Blk wr w.heap.size 102 #[sv, .slice none 0 0, .int .i64 0, .bool false, .int .i64 0]) (hown : wr.ownsRow (w.heap.size + 1) 26 1 sv k xs) (hxs : ∀ x ∈ xs, BytesAt (w.heap.size ≤ ·) wr x zeros) (hbel : Below w.heap.size w wr) {o : Obj}
    (hown3 : w3.ownsRow (w.heap.size + 1) 26 1 (.slice (some ⟨gg, 0, none⟩) (k + 1) cap2) (k + 1) (xs ++ [.slice (some ⟨wr.heap.size, 0, none⟩) 256 256])) (hgrow : (((wr.alloc (.cells zcells 5)).alloc o).drew).grownBy w3 sv.ownBlock) (_hat : sv.ownBlock = some gg ∨ gg = wr.heap.size + 2) :
    Making w (k + 1) (w3.setCell ⟨w.heap.size, 0, none⟩ (.slice (some ⟨gg, 0, none⟩) (k + 1) cap2)) := by
  have hne : sv.ownBlock ≠ some w.heap.size := own_blk_ne hown hb (by decide)
  have hlt := hb.lt
  have B3 : Blk w3 w.heap.size _ _ := Blk.grown (((hb.alloc (.cells zcells 5)).alloc o).drew) hgrow hne
  have hz : Blk (((wr.alloc (.cells zcells 5)).alloc o).drew) wr.heap.size 5 zcells := ((Blk.new wr _ zcells).alloc o).drew
  have hne2 : gg ≠ w.heap.size := fun e => own_blk_ne hown3 B3 (by decide) (by simp [Value.ownBlock, e])
  have k3 : Keeps (fun k => sv.ownBlock = some k) wr w3 := (((Keeps.refl _ wr).alloc _).alloc _).drew.grown hgrow (fun g h _ => h)
  have kz : Keeps (fun k => sv.ownBlock = some k) (((wr.alloc (.cells zcells 5)).alloc o).drew) w3 := (Keeps.refl _ _).grown hgrow (fun g h _ => h)
  have hu : ∀ {u : World} {g : Nat} {cs : Array Value}, u.ownsRow (w.heap.size + 1) 26 1 sv k xs → sv.ownBlock = some g → Blk u g 5 cs → False := fun h e hk => own_blk_ne h hk (by decide) e
  have k4 := Keeps.set1 w3 w.heap.size 0 (.slice (some ⟨gg, 0, none⟩) (k + 1) cap2)
  refine ⟨_, _, B3.set_ 0 _, ownsRow_keeps hown3 k4 (fun g hg e => by simp [Value.ownBlock] at hg; omega), ?_, ?_⟩
  · intro x hx
    have hy : BytesAt (w.heap.size ≤ ·) w3 x zeros := by
      rcases List.mem_append.1 hx with h | h
      · exact (hxs x h).keeps k3 (fun g cs e _ hk => hu hown e hk)
      · simp only [List.mem_singleton] at h
        subst h
        exact (zcells_blk hz hbel.size).keeps kz (fun g cs e _ hk => hu (((hown.alloc _).alloc _).drew) e hk)
    exact hy.keeps k4 (fun g cs e _ hk => by subst e; exact Blk.ne_ hk B3 (by decide) rfl)
  · exact (((((hbel.alloc hbel.size _).alloc (by simp; omega) o).drew_).grown hgrow (by simp; omega) (fun g e => by
      rcases hown.2 with ⟨hv, _⟩ | ⟨g', cap, cur, hv, hbb, _⟩
      · rw [hv] at e
        simp [Value.ownBlock] at e
      · rw [hv] at e
        simp [Value.ownBlock] at e
        omega))).setCell (p := ⟨w.heap.size, 0, none⟩) (Nat.le_refl _) _
theorem making_end {P : Nat → Prop} {w wr : World} {n : Nat} (hP : ∀ k, w.heap.size ≤ k → P k) (h0 : 0 < n) (h2 : n ≤ 1024) (h : Making w n wr) : ∃ S, DiskAt P wr w.heap.size (Dsk.new n) S ∧ ∀ k ∈ S, w.heap.size ≤ k := by
  obtain ⟨sv, xs, hb, hown, hxs, hbel⟩ := h
  have hl := hown.1
  rcases hown.2 with ⟨_, h0', _⟩ | ⟨g, cap, cur, rfl, hbb, hg, hnc, hcm, hcs, ht⟩
  · omega
  · have hcs' : cur.size = cap := by simpa using hcs
    subst hcs'
    refine ⟨[w.heap.size, g], ⟨⟨?_, fun p hp => by simp [Dsk.new] at hp, by simpa [Dsk.new] using h0, by simpa [Dsk.new] using h2, by simp [Dsk.new]⟩, g, cur, .slice none 0 0, [], rfl, ?_⟩, ?_⟩
    · intro l hl
      simp only [Dsk.new, List.mem_replicate] at hl
      rw [hl.2, zeros_length]
    · refine ⟨by simpa [Dsk.new] using hb, hg, by simpa [Dsk.new] using hnc, ?_, ⟨rfl, .inl ⟨rfl, rfl⟩⟩, rfl, fun j p hj => by simp [Dsk.new] at hj, fun k hk => hP k (Nat.le_trans hbel.size hk)⟩
      intro i l hi
      have hi' : i < n ∧ l = zeros := by
        simp only [Dsk.new, List.getElem?_replicate] at hi
        split at hi
        · rename_i hlt
          exact ⟨hlt, by simpa using hi.symm⟩
        · cases hi
      obtain ⟨hin, rfl⟩ := hi'
      have hxi : i < xs.length := by omega
      have e1 : cur[i]? = some xs[i] := by
        have : (cur.toList.take (n * 1))[i]? = some xs[i] := by rw [ht]; exact List.getElem?_eq_getElem hxi
        rw [List.getElem?_take, if_pos (by omega)] at this
        simpa using this
      exact ⟨_, e1, (hxs _ (List.getElem_mem hxi)).mono hP⟩
    · intro k hk
      simp only [List.mem_cons, List.not_mem_nil, or_false] at hk
      rcases hk with rfl | rfl <;> omega
theorem After.trans {P : Nat → Prop} {w w1 w2 : World} {b : Nat} {E : Dsk} {S S1 : List Nat} (hS : ∀ k ∈ S1, k ∈ S ∨ w.heap.size ≤ k) (k1 : Keeps (· ∈ S) w w1) (h2 : After P w1 w2 b E S1) : After P w w2 b E S := by
  obtain ⟨S2, hD, hS2, k2⟩ := h2
  refine ⟨S2, hD, fun k hk => ?_, k1.trans k2 fun i hi hg => ?_⟩
  · rcases hS2 k hk with h | h
    · exact hS k h
    · exact .inr (Nat.le_trans k1.size h)
  · rcases hS i hg with h | h
    · exact h
    · omega
theorem DiskAt.keeps {P F : Nat → Prop} {w w' : World} {b : Nat} {D : Dsk} {S : List Nat} (h : DiskAt P w b D S) (k : Keeps F w w') (hF : ∀ g, g ∈ S → ¬ F g) (hU : ∀ g cs, F g → P g → Blk w g 5 cs → False) : DiskAt P w' b D S := by
  obtain ⟨ho, g1, cur1, pv, ps, rfl, hr⟩ := h
  exact ⟨ho, g1, cur1, pv, ps, rfl, hr.keeps k hF hU⟩
theorem DiskAt.below {P : Nat → Prop} {w w' : World} {b : Nat} {D : Dsk} {S : List Nat} (h : DiskAt P w b D S) (hb : Below w.heap.size w w') : DiskAt P w' b D S :=
  h.keeps (F := fun _ => False) (Keeps.of_below hb) (fun _ _ => id) (fun _ _ h => h.elim)
theorem DiskAt.lt {P : Nat → Prop} {w : World} {b : Nat} {D : Dsk} {S : List Nat} (h : DiskAt P w b D S) : ∀ k ∈ S, ∃ t cs, Blk w k t cs ∧ (t = 102 ∨ t = 26 ∨ t = 132) := by
  obtain ⟨ho, g1, cur1, pv, ps, rfl, hr⟩ := h
  intro k hk
  simp only [List.mem_cons, Option.mem_toList] at hk
  rcases hk with rfl | rfl | hk
  · exact ⟨_, _, hr.hb, .inl rfl⟩
  · exact ⟨_, _, hr.hg, .inr (.inl rfl)⟩
  · rcases hr.own.2 with ⟨hv, _⟩ | ⟨g, cap, cur, hv, _, hg, _⟩
    · rw [hv] at hk
      simp [Value.ownBlock] at hk
    · rw [hv] at hk
      simp [Value.ownBlock] at hk
      subst hk
      exact ⟨_, _, hg, .inr (.inr rfl)⟩
theorem After.blk {P : Nat → Prop} {w w' : World} {b : Nat} {E D : Dsk} {S : List Nat} (h : After P w w' b E S) (hD : DiskAt P w b D S) {g : Nat} {t : TypeId} {cs : Array Value} (hb : Blk w g t cs) (h1 : t ≠ 102) (h2 : t ≠ 26) (h3 : t ≠ 132) : Blk w' g t cs := by
  obtain ⟨_, _, _, k⟩ := h
  refine hb.keeps k fun hg => ?_
  obtain ⟨t', cs', hk, ht⟩ := hD.lt g hg
  have := (hb.det hk).2
  subst this
  rcases ht with h | h | h
  · exact h1 h
  · exact h2 h
  · exact h3 h
theorem DiskAt.no {P : Nat → Prop} {w : World} {b : Nat} {D : Dsk} {S : List Nat} (h : DiskAt P w b D S) {t : TypeId} (h1 : t ≠ 102) (h2 : t ≠ 26) (h3 : t ≠ 132) {g : Nat} {cs : Array Value} (hg : g ∈ S) (hk : Blk w g t cs) : False := by
  obtain ⟨t', cs', hk', ht⟩ := h.lt g hg
  have := (hk.det hk').2
  subst this
  rcases ht with h | h | h
  · exact h1 h
  · exact h2 h
  · exact h3 h
section
variable {P : Nat → Prop} {w w1 w2 : World} {d : Nat} {D D0 : Dsk} {S : List Nat}
theorem After.next (h : After P w w1 d D S) : ∃ S1, DiskAt P w1 d D S1 ∧ ∀ w2 D2, After P w1 w2 d D2 S1 → After P w w2 d D2 S := by
  obtain ⟨S1, h1, h2, h3⟩ := h
  exact ⟨S1, h1, fun w2 D2 h4 => After.trans h2 h3 h4⟩
theorem After.below (h : After P w w1 d D S) (hb : Below w1.heap.size w1 w2) : After P w w2 d D S := by
  obtain ⟨S1, h1, h2, h3⟩ := h
  exact ⟨S1, h1.below hb, h2, h3.trans (Keeps.of_below (F := fun _ => False) hb) (fun _ _ h => h.elim)⟩
theorem After.of_below (h : DiskAt P w d D S) (hb : Below w.heap.size w w1) : After P w w1 d D S := (After.refl h).below hb
theorem After.at_ (h : After P w w1 d D S) : ∃ S1, DiskAt P w1 d D S1 := let ⟨S1, h1, _⟩ := h; ⟨S1, h1⟩
theorem After.state (h : After P w w1 d D S) (hD : DiskAt P w d D0 S) {a mb : Nat} {st : St} (hs : StateAt w a mb st) : StateAt w1 a mb st := by
  obtain ⟨S1, h1, h2, h3⟩ := h
  refine hs.keeps h3 (fun g t cs hg hb => ?_) (fun hm => ?_)
  · exact ⟨fun e => hD.no (t := 3) (by decide) (by decide) (by decide) hg (e ▸ hb), fun e => hD.no (t := 89) (by decide) (by decide) (by decide) hg (e ▸ hb)⟩
  · obtain ⟨t, cs, hk, _⟩ := hD.lt _ hm
    obtain ⟨_, _, _, _, hM, _⟩ := hs
    exact hM.not_blk hk
theorem After.bytes (h : After P w w1 d D S) (hD : DiskAt P w d D0 S) {Q : Nat → Prop} {v : Value} {l : List UInt8} (hB : BytesAt Q w v l) : BytesAt Q w1 v l := by
  obtain ⟨S1, h1, h2, h3⟩ := h
  exact hB.keeps h3 (fun g cs hg _ hk => hD.no (t := 5) (by decide) (by decide) (by decide) hg hk)
end
theorem handed_new {P : Nat → Prop} {w w' : World} {d : Nat} {D : Dsk} {S : List Nat} {v : Value} {l : List UInt8} (h : DiskAt P w d D S) (hB : BytesAt (w.heap.size ≤ ·) w' v l) : Handed w' S v l := by
  obtain ⟨g, cap, cur, rfl, _, hp, _, hc⟩ := hB.cells
  refine ⟨_, cap, rfl, fun _ => ⟨g, 0, rfl, hc, fun hm => ?_⟩⟩
  obtain ⟨t, cs', hb', _⟩ := h.lt _ hm
  exact Nat.lt_irrefl _ (Nat.lt_of_lt_of_le hb'.lt hp)
section
variable {P : Nat → Prop} {w w1 : World} {d : Nat} {D D0 : Dsk} {S : List Nat}
theorem After.keeps_ (h : After P w w1 d D S) : Keeps (· ∈ S) w w1 := let ⟨_, _, _, k⟩ := h; k
theorem After.map (h : After P w w1 d D S) (hD : DiskAt P w d D0 S) {b : Nat} {M : List (List UInt8 × Value)} (hM : MapAt w b M) : MapAt w1 b M :=
  hM.keeps h.keeps_ fun hm => by
    obtain ⟨t, cs, hk, _⟩ := hD.lt _ hm
    exact hM.not_blk hk
theorem After.nums (h : After P w w1 d D S) (hD : DiskAt P w d D0 S) {v : Value} {l : List Nat} (hN : NumsAt w v l) : NumsAt w1 v l :=
  hN.keeps h.keeps_ fun g cs hg hb => hD.no (by decide) (by decide) (by decide) hg hb
end
theorem DiskAt.life_ {P : Nat → Prop} {w : World} {b : Nat} {D : Dsk} {S : List Nat} (h : DiskAt P w b D S) : w.cell? ⟨b, 4, none⟩ = some (.int .i64 (D.life : Int)) := by
  obtain ⟨ho, g1, cur1, pv, ps, rfl, hr⟩ := h
  exact hr.c4
theorem After.size {P : Nat → Prop} {w w1 : World} {d : Nat} {D : Dsk} {S : List Nat} (h : After P w w1 d D S) : w.heap.size ≤ w1.heap.size := let ⟨_, _, _, k⟩ := h; k.size
/-- k of the two are written. -/
def Wiping (P : Nat → Prop) (w : World) (d : Nat) (S : List Nat) (D : Dsk) (k : Nat) (wr : World) : Prop :=
  ∃ Di, writes (wipes.drop k) Di = writes wipes D ∧ After P w wr d Di S ∧ Small Di (2 - k + 6)
/-- What Format leaves. -/
def FormatPost (P : Nat → Prop) (w : World) (d : Nat) (D : Dsk) (S : List Nat) (e : Ending) (w' : World) : Prop :=
  After P w w' d D.fmt.2 S ∧
  ((D.fmt.1 ≠ 0 ∧ e = .returned (.tuple #[.pointer none, .int .i64 D.fmt.1])) ∨
   (D.fmt.1 = 0 ∧ ∃ s a mb sv, e = .returned (.tuple #[.pointer (some ⟨s, 0, none⟩), .int .i64 0]) ∧ w.heap.size ≤ s ∧ w.heap.size ≤ a ∧ w.heap.size ≤ mb ∧
      Blk w' s 73 #[.pointer (some ⟨d, 0, none⟩), .int .i64 ((writes wipes D).2.sync.2.life : Int), .pointer (some ⟨a, 0, none⟩), .slice none 0 0, .bool false, .map none, .map none] ∧
      StateAt w' a mb St.zero ∧ sv = ()))
theorem wipe_next {P : Nat → Prop} {w wr w1 w2 : World} {d k : Nat} {S Si : List Nat} {D Di : Dsk} {r : Int × Dsk} (hk : k < 2) (hw : writes (wipes.drop k) Di = writes wipes D) (hnx : ∀ w2 D2, After P wr w2 d D2 Si → After P w w2 d D2 S) (hsm : Small Di (2 - k + 6)) (hr : r = Di.write (k : Int) zeros)
    (hb : Below wr.heap.size wr w1) (hAf : After P w1 w2 d r.2 Si) : (r.1 = 0 → Wiping P w d S D (k + 1) w2) ∧ (r.1 ≠ 0 → writes wipes D = r ∧ After P w w2 d r.2 S) := by
  have hA2 : After P w w2 d r.2 S := hnx _ _ (After.trans (fun _ h => .inl h) (Keeps.of_below hb) hAf)
  rw [wipes_drop hk] at hw
  constructor
  · intro hz
    refine ⟨r.2, ?_, hA2, ?_⟩
    · rw [← hw, hr]
      show _ = if _ then _ else _
      rw [← hr, if_pos hz, hr]
    · rw [hr]
      exact Dsk.write_small (hsm.mono (by omega))
  · intro hz
    refine ⟨?_, hA2⟩
    rw [← hw]
    show (if _ then _ else _) = _
    rw [← hr, if_neg hz]
/-- k of the writes have been looked at. -/
def Crashing (P : Nat → Prop) (w1 : World) (b : Nat) (E : Dsk) (f : Nat → Bool) (g1 : Nat) (cur1 : Array Value) (pv : Value) (ps : List (Nat × Value)) (k : Nat) (wr : World) : Prop :=
  ∃ cur, cur.size = cur1.size ∧ DiskRep P wr b { E with blocks := settleIf f E.blocks E.pending k } g1 cur pv ps ∧ Keeps (· = g1) w1 wr
section
variable {P : Nat → Prop} {w1 : World} {b : Nat} {E : Dsk} {f : Nat → Bool} {g1 : Nat} {cur1 : Array Value} {pv : Value} {ps : List (Nat × Value)} {k : Nat} {wr : World}
theorem Crashing.pen_at (h : Crashing P w1 b E f g1 cur1 pv ps k wr) {j : Nat} (hj : j < ps.length) {gp c1 n : Nat} (hv : pv = .slice (some ⟨gp, 0, none⟩) n c1) :
    wr.cell? ⟨gp, j * 2, none⟩ = some (.int .i64 ((pen ps j).1 : Int)) ∧ wr.cell? ⟨gp, j * 2 + 1, none⟩ = some (pen ps j).2 := by
  obtain ⟨cur, _, hr, _⟩ := h
  obtain ⟨A, c, hA, hp⟩ := PenSlice.of_own hr.own hr.pslen
  obtain ⟨g, rfl, _, hp⟩ := hp (by omega)
  rw [hv] at hA
  cases hA
  exact hp j hj
theorem Crashing.has (h : Crashing P w1 b E f g1 cur1 pv ps k wr) {j : Nat} (hj : j < E.blocks.length) : ∃ g n c, wr.cell? ⟨g1, j, none⟩ = some (.slice g n c) := by
  obtain ⟨cur, _, hr, _⟩ := h
  have hjl : j < (settleIf f E.blocks E.pending k).length := by rw [settleIf_length]; exact hj
  obtain ⟨v, hv, hB⟩ := hr.bl j _ (List.getElem?_eq_getElem hjl)
  obtain ⟨g, cap, _, rfl, _⟩ := hB
  exact ⟨_, _, _, (hr.hg.cell j).trans hv⟩
theorem Crashing.skip (h : Crashing P w1 b E f g1 cur1 pv ps k wr) (hf : f k = false) (o : Obj) : Crashing P w1 b E f g1 cur1 pv ps (k + 1) (wr.alloc o) := by
  obtain ⟨cur, hcs, hr, hkk⟩ := h
  refine ⟨cur, hcs, ?_, hkk.alloc o⟩
  have e : settleIf f E.blocks E.pending (k + 1) = settleIf f E.blocks E.pending k := by
    show (if f k then _ else _) = _
    rw [hf, if_neg (by simp)]
  rw [e]
  exact hr.keepsB ((Below.refl _ wr).alloc (Nat.le_refl _) o) (Nat.le_refl _)
theorem Crashing.step (h : Crashing P w1 b E f g1 cur1 pv ps k wr) (hf : f k = true) (hk : k < ps.length) (hE : DskOk E) (o : Obj) :
    Crashing P w1 b E f g1 cur1 pv ps (k + 1) ((wr.alloc o).setCell ⟨g1, (pen ps k).1, none⟩ (pen ps k).2).drew := by
  obtain ⟨cur, hcs, hr, hkk⟩ := h
  have hr2 : DiskRep P (wr.alloc o).drew b _ g1 cur pv ps := hr.keepsB (B := wr.heap.size) (((Below.refl _ wr).alloc (Nat.le_refl _) o).drew_) (Nat.le_refl _)
  obtain ⟨l, hpk, hB⟩ := hr2.pen_at k hk
  have hpk' : E.pending[k]? = some ((pen ps k).1, l) := hpk
  have hpi := hE.pen _ (List.mem_of_getElem? hpk')
  refine ⟨cur.setIfInBounds (pen ps k).1 (pen ps k).2, by simpa using hcs, ?_, ?_⟩
  · have := hr2.setBlock (pen ps k).1 l (pen ps k).2 hB (by simpa [settleIf_length] using hpi.1)
    have e : settleIf f E.blocks E.pending (k + 1) = (settleIf f E.blocks E.pending k).set (pen ps k).1 l := by
      show (if f k then _ else _) = _
      rw [hf, if_pos rfl, hpk']
      rfl
    rw [e]
    exact this
  · exact ((hkk.alloc o).drew).trans (Keeps.set1 _ g1 _ _) (fun _ _ h => h)
theorem Crashing.done (h : Crashing P w1 b E f g1 cur1 pv ps ps.length wr) (hE : DskOk E) : ∃ S', DiskAt P ((((wr.setCell ⟨b, 1, none⟩ (.slice none 0 0)).setCell ⟨b, 2, none⟩ (.int .i64 0)).setCell ⟨b, 3, none⟩ (.bool false)).setCell ⟨b, 4, none⟩ (.int .i64 ((E.life : Int) + 1))) b (E.crash f) S' ∧ S' = [b, g1] ∧
    Keeps (fun i => i = b ∨ i = g1) w1 ((((wr.setCell ⟨b, 1, none⟩ (.slice none 0 0)).setCell ⟨b, 2, none⟩ (.int .i64 0)).setCell ⟨b, 3, none⟩ (.bool false)).setCell ⟨b, 4, none⟩ (.int .i64 ((E.life : Int) + 1))) := by
  obtain ⟨cur, hcs, hr, hkk⟩ := h
  have hpl := hr.pslen
  have hpl : ps.length = E.pending.length := hpl
  have k4 : Keeps (· = b) wr ((((wr.setCell ⟨b, 1, none⟩ (.slice none 0 0)).setCell ⟨b, 2, none⟩ (.int .i64 0)).setCell ⟨b, 3, none⟩ (.bool false)).setCell ⟨b, 4, none⟩ (.int .i64 ((E.life : Int) + 1))) :=
    (((Keeps.set1 _ b 1 _).trans (Keeps.set1 _ b 2 _) (fun _ _ h => h)).trans (Keeps.set1 _ b 3 _) (fun _ _ h => h)).trans (Keeps.set1 _ b 4 _) (fun _ _ h => h)
  have hU : ∀ g cs, g = b → P g → Blk wr g 5 cs → False := fun g cs hg _ hb => hr.noBytes g cs (by simp [hg]) hb
  refine ⟨_, ⟨⟨?_, fun p hp => by simp [Dsk.crash] at hp, by simpa [Dsk.crash, settleIf_length] using hE.some_, by simpa [Dsk.crash, settleIf_length] using hE.few, by simp [Dsk.crash]⟩, g1, cur, .slice none 0 0, [], rfl, ?_⟩, rfl, ?_⟩
  · exact settleIf_all f hE.blk (fun p hp => (hE.pen p hp).2) _ (Nat.le_refl _)
  · refine ⟨?_, hr.hg.keeps k4 (Ne.symm hr.ne1), by simpa [Dsk.crash, settleIf_length] using hr.le, fun i l hi => ?_, ⟨rfl, .inl ⟨rfl, rfl⟩⟩, rfl, fun i p hp => by simp [Dsk.crash] at hp, fun i hi => hr.fresh i (Nat.le_trans k4.size hi)⟩
    · have := (((hr.hb.set_ 1 (.slice none 0 0)).set_ 2 (.int .i64 0)).set_ 3 (.bool false)).set_ 4 (.int .i64 ((E.life : Int) + 1))
      simpa [Dsk.crash, settleIf_length] using this
    · have hi : (settleIf f E.blocks E.pending E.pending.length)[i]? = some l := hi
      rw [← hpl] at hi
      obtain ⟨v, hv, hB⟩ := hr.bl i l hi
      exact ⟨v, hv, hB.keeps k4 hU⟩
  · exact (hkk.weaken (F := fun i => i = b ∨ i = g1) (fun _ _ h => .inr h)).trans k4 (fun _ _ h => .inl h)
end
theorem arm_rep {P : Nat → Prop} {w : World} {b : Nat} {D : Dsk} {S : List Nat} (h : DiskAt P w b D S) {n : Int} (hn : n ≤ 9223372036854775807) {x : Int} (hx : x = (n.toNat : Int)) : After P w (w.setCell ⟨b, 2, none⟩ (.int .i64 x)) b (D.arm n) S := by
  subst hx
  obtain ⟨ho, g1, cur1, pv, ps, rfl, hr⟩ := h
  have k : Keeps (· = b) w (w.setCell ⟨b, 2, none⟩ (.int .i64 (n.toNat : Int))) := Keeps.set1 _ b 2 _
  have hU : ∀ g cs, g = b → P g → Blk w g 5 cs → False := fun g cs hg _ hb => hr.noBytes g cs (by simp [hg]) hb
  refine ⟨_, ⟨⟨ho.blk, ho.pen, ho.some_, ho.few, by simp [Dsk.arm]; omega⟩, g1, cur1, pv, ps, rfl, hr.hb.set_ 2 _, hr.hg.keeps k (Ne.symm hr.ne1), hr.le, fun i l hi => ?_, ownsRow_keeps hr.own k fun g hg e => hr.ne2 (by rw [hg, e]), hr.pb, fun i p hp => ?_, fun i hi => hr.fresh i (Nat.le_trans k.size hi)⟩, fun i hi => .inl hi, k.weaken fun i _ e => by simp [e]⟩
  · obtain ⟨v, hv, hB⟩ := hr.bl i l hi
    exact ⟨v, hv, hB.keeps k hU⟩
  · obtain ⟨v, hv, hB⟩ := hr.pl i p hp
    exact ⟨v, hv, hB.keeps k hU⟩

end Go.Proofs.Ytbgiklkpinflaaa.Ref

namespace Go.Proofs.Ytbgiklkpinflaaa.Ref
open Go.RowKit Go.Shelf
open Go.Proofs.Ytbgiklkpinflaaa hiding DiskRep DiskAt After PenSlice Settling Crashing
attribute [local go_sem ↓] Go.wp_at_zero Go.wp_at_succ

set_option maxRecDepth 100000 in
set_option maxHeartbeats 1000000 in
theorem newDisk_bad (n : Int) (w : World) (h : n < 4 ∨ 1024 < n) :
    Calls Try.prog 20 #[.int .i64 n] w fun e w' => e = .returned (.tuple #[.pointer none, .int .i64 2]) ∧ w = w' := by
  by_cases h1 : n < 4
  all_goals
    first
      | (have h2 : decide (n < 4) = true := by simpa using h1)
      | (have h2 : decide (n < 4) = false := by simpa using h1
         have h3 : decide (1024 < n) = true := by simp; omega)
    go_enter Try.func20, Try.ntmps20
    go_wp2
    go_ret2
    exact ⟨rfl, rfl⟩

theorem grown_drew {a b : World} {row : Option Nat} (h : a.grownBy b row) : a.drew.grownBy b row := ⟨h.os, h.tape, h.output, h.size, h.block⟩

set_option maxRecDepth 100000 in
set_option maxHeartbeats 2000000 in
theorem newDisk_good (P : Nat → Prop) (n : Nat) (w : World) (h1 : 4 ≤ n) (h2 : n ≤ 1024) (hP : ∀ k, w.heap.size ≤ k → P k) :
    Calls Try.prog 20 #[.int .i64 (n : Int)] w fun e w' => e = .returned (.tuple #[.pointer (some ⟨w.heap.size, 0, none⟩), .int .i64 0]) ∧ (∃ S, DiskAt P w' w.heap.size (Dsk.new n) S ∧ ∀ k ∈ S, w.heap.size ≤ k) ∧ Below w.heap.size w w' := by
  have t1 : decide ((n : Int) < 4) = false := by simp; omega
  have t2 : decide ((1024 : Int) < n) = false := by simp; omega
  obtain ⟨iw, hiw, hz0, hz1, hz2⟩ := info_parts Try.infoBytes
  have hmk := Try.make256
  go_enter Try.func20, Try.ntmps20
  go_wp2
  go_loopw [5, 15] (fun _ i wr => ∃ k : Nat, k ≤ n ∧ i = .int .i64 k ∧ Making w k wr) (fun _ i _ => n - (intOf i).toNat)
  case atStart => exact ⟨0, Nat.zero_le _, rfl, .slice none 0 0, [], Blk.new _ _ _, ⟨rfl, .inl ⟨rfl, rfl⟩⟩, by simp, (Below.refl _ _).alloc (Nat.le_refl _) _⟩
  case round =>
    obtain ⟨k, hk, rfl, hM⟩ := hrel
    by_cases hlt : k < n
    · obtain ⟨sv, xs, hb, hown, hxs, hbel⟩ := hM
      obtain ⟨A, c, rfl, _⟩ := own_slice hown
      have c0 := hb.cell 0
      have f0 := hb.frozen 0
      have hsz0 := hb.lt
      have hne : (Value.slice A k c).ownBlock ≠ some w.heap.size := own_blk_ne hown hb (by decide)
      have HBB := Lib.hid hb
      have c0a : ∀ o, (wr.alloc o).cell? ⟨w.heap.size, 0, none⟩ = some (.slice A k c) := fun o => (HBB.out.alloc o).cell 0
      have HXS := Lib.hid hxs
      clear hxs hb
      go_wp2_with (at_builtin; refine wpList_append_lies _ rfl _ _ 96 rfl (w.heap.size + 1) 26 iw (.slice none 0 0) 1 24 Try.underlying96 hiw hz0 hz1 hz2 rfl (by decide) _ _ _ rfl ((hown.alloc _).alloc _) ⟨wr.heap.size + 1, 0, none⟩ 1 1 [.slice (some ⟨wr.heap.size, 0, none⟩) 256 256] rfl rfl ?c1 ?c2 (by decide) ?c3 ?c4 ?c5 (wr.heap.size + 2) ?c8 ?_)
      case c1 =>
        have := cell_one_new (wr.alloc (.cells zcells 5)) (.slice (some ⟨wr.heap.size, 0, none⟩) 256 256) 26
        rw [World.size_alloc] at this
        exact this
      case c2 => simp [Value.oneCell']
      case c3 => unfold maxLen; omega
      case c4 => omega
      case c5 => simp; omega
      case c8 => simp
      intro gg cap2 w3 hown3 hgrow hat hlt3
      have B3 := Blk.grown ((HBB.out.alloc _).alloc _) hgrow hne
      have hc3 : w3.cell? ⟨w.heap.size, 0, none⟩ = some (.slice A k c) := B3.cell 0
      have hf3 := B3.frozen 0
      go_wp2
      go_roundw
      case rel => exact ⟨k + 1, by omega, by go_num, making_step HBB.out hown HXS.out hbel hown3 (grown_drew hgrow) hat⟩
      case measure => simp [intOf]; omega
    · obtain rfl : k = n := by omega
      go_wp2
      go_ret2
      refine ⟨rfl, making_end hP (by omega) h2 hM, ?_⟩
      obtain ⟨_, _, _, _, _, hbel⟩ := hM
      exact hbel

set_option maxRecDepth 100000 in
set_option maxHeartbeats 1000000 in
theorem fails_zero (b : Nat) (w : World) (h2 : w.cell? ⟨b, 2, none⟩ = some (.int .i64 0)) :
    Calls Try.prog 71 #[.pointer (some ⟨b, 0, none⟩)] w fun e w' => e = .returned (.bool false) ∧ w = w' := by
  go_enter Try.func71, Try.ntmps71
  go_wp2
  go_ret
  exact ⟨rfl, rfl⟩

set_option maxRecDepth 100000 in
set_option maxHeartbeats 1000000 in
theorem fails_later (b : Nat) (n : Int) (w : World) (h2 : w.cell? ⟨b, 2, none⟩ = some (.int .i64 n)) (f2 : w.frozen? ⟨b, 2, none⟩ = false) (h3 : w.cell? ⟨b, 3, none⟩ = some (.bool false)) (h : 2 ≤ n) (hb : n ≤ 9223372036854775807) :
    Calls Try.prog 71 #[.pointer (some ⟨b, 0, none⟩)] w fun e w' => e = .returned (.bool false) ∧ w' = w.setCell ⟨b, 2, none⟩ (.int .i64 (n - 1)) := by
  have t0 : (n == 0) = false := by rw [beq_eq_false_iff_ne]; omega
  have t1 : (n - 1 == 0) = false := by rw [beq_eq_false_iff_ne]; omega
  go_enter Try.func71, Try.ntmps71
  go_wp2
  go_ret
  exact ⟨rfl, rfl⟩

set_option maxRecDepth 100000 in
set_option maxHeartbeats 1000000 in
theorem fails_one (b : Nat) (k : Int) (dn : Bool) (w : World) (h2 : w.cell? ⟨b, 2, none⟩ = some (.int .i64 1)) (f2 : w.frozen? ⟨b, 2, none⟩ = false) (h3 : w.cell? ⟨b, 3, none⟩ = some (.bool dn)) (f3 : w.frozen? ⟨b, 3, none⟩ = false) (h4 : w.cell? ⟨b, 4, none⟩ = some (.int .i64 k)) (f4 : w.frozen? ⟨b, 4, none⟩ = false) (hk : 0 ≤ k) (hb : k ≤ 4611686018427387904) :
    Calls Try.prog 71 #[.pointer (some ⟨b, 0, none⟩)] w fun e w' => e = .returned (.bool true) ∧ w' = ((w.setCell ⟨b, 2, none⟩ (.int .i64 0)).setCell ⟨b, 3, none⟩ (.bool true)).setCell ⟨b, 4, none⟩ (.int .i64 (k + 1)) := by
  go_enter Try.func71, Try.ntmps71
  go_wp2
  go_ret
  exact ⟨rfl, rfl⟩

/-- Only the armed, down and life cells turn. -/
theorem fails_calls {P : Nat → Prop} {w : World} {b : Nat} {D : Dsk} {g1 : Nat} {cur1 : Array Value} {pv : Value} {ps : List (Nat × Value)} (h : DiskRep P w b D g1 cur1 pv ps) (ho : DskOk D) (hl : D.life ≤ 4611686018427387904) (hd : D.down = false) :
    Calls Try.prog 71 #[.pointer (some ⟨b, 0, none⟩)] w fun e w' => e = .returned (.bool D.fails.1) ∧ DiskRep P w' b D.fails.2 g1 cur1 pv ps ∧ Keeps (· = b) w w' := by
  have hU : ∀ g cs, g = b → P g → Blk w g 5 cs → False := fun g cs hg _ hk => h.noBytes g cs (by simp [hg]) hk
  have kb1 : ∀ u, Keeps (· = b) w (w.setCell ⟨b, 2, none⟩ u) := fun u => (Keeps.refl (· = b) w).setCell (p := ⟨b, 2, none⟩) (fun _ => rfl) u
  have kb3 : ∀ u v x, Keeps (· = b) w (((w.setCell ⟨b, 2, none⟩ u).setCell ⟨b, 3, none⟩ v).setCell ⟨b, 4, none⟩ x) := fun u v x => ((kb1 u).setCell (p := ⟨b, 3, none⟩) (fun _ => rfl) v).setCell (p := ⟨b, 4, none⟩) (fun _ => rfl) x
  have stay : ∀ w' (E : Dsk) cs, Keeps (· = b) w w' → Blk w' b 102 cs → cs = #[.slice (some ⟨g1, 0, none⟩) D.blocks.length cur1.size, pv, .int .i64 (E.armed : Int), .bool E.down, .int .i64 (E.life : Int)] → E.blocks = D.blocks → E.pending = D.pending → DiskRep P w' b E g1 cur1 pv ps := by
    intro w' E cs k hb hcs e1 e2
    subst hcs
    exact ⟨by rw [e1]; exact hb, h.hg.keeps k (Ne.symm h.ne1), by rw [e1]; exact h.le, fun i l hi => by
      rw [e1] at hi
      obtain ⟨v, hv, hB⟩ := h.bl i l hi
      exact ⟨v, hv, hB.keeps k hU⟩, by
      rw [e2]
      exact ownsRow_keeps h.own k fun g hg e => h.ne2 (by rw [hg, e]), by rw [e2]; exact h.pb, fun i p hp => by
      rw [e2] at hp
      obtain ⟨v, hv, hB⟩ := h.pl i p hp
      exact ⟨v, hv, hB.keeps k hU⟩, fun i hi => h.fresh i (Nat.le_trans k.size hi)⟩
  rcases Nat.lt_trichotomy D.armed 1 with h0 | h1 | h2
  · have h0 : D.armed = 0 := by omega
    have c2 := h.c2
    rw [h0] at c2
    refine (fails_zero b w c2).mono ?_
    rintro e w' ⟨rfl, rfl⟩
    have e1 : D.fails = (false, D) := by simp [Dsk.fails, h0]
    rw [e1]
    exact ⟨rfl, h, Keeps.refl _ _⟩
  · have c2 := h.c2
    rw [h1] at c2
    refine (fails_one b _ _ w c2 (h.hb.frozen 2) h.c3 (h.hb.frozen 3) h.c4 (h.hb.frozen 4) (by omega) (by omega)).mono ?_
    rintro e w' ⟨rfl, rfl⟩
    have e1 : D.fails = (true, { D with armed := 0, down := true, life := D.life + 1 }) := by simp [Dsk.fails, h1]
    rw [e1]
    refine ⟨rfl, stay _ _ _ (kb3 _ _ _) (((h.hb.set_ 2 _).set_ 3 _).set_ 4 _) ?_ rfl rfl, ?_⟩
    · simp
    · exact kb3 _ _ _
  · have c3 := h.c3
    rw [hd] at c3
    refine (fails_later b _ w h.c2 (h.hb.frozen 2) c3 (by omega) (by have := ho.armedLe; omega)).mono ?_
    rintro e w' ⟨rfl, rfl⟩
    have e1 : D.fails = (false, { D with armed := D.armed - 1 }) := by
      unfold Dsk.fails
      rw [if_neg (by omega), if_neg (by omega)]
    rw [e1]
    refine ⟨rfl, stay _ _ _ (kb1 _) (h.hb.set_ 2 _) ?_ rfl rfl, kb1 _⟩
    have : ((D.armed - 1 : Nat) : Int) = (D.armed : Int) - 1 := by omega
    simp [this]

end Go.Proofs.Ytbgiklkpinflaaa.Ref

namespace Go.Proofs.Ytbgiklkpinflaaa.Ref
open Go.RowKit Go.Shelf
open Go.Proofs.Ytbgiklkpinflaaa hiding DiskRep DiskAt After PenSlice Settling Crashing
attribute [local go_sem ↓] Go.wp_at_zero Go.wp_at_succ

set_option maxRecDepth 100000 in
set_option maxHeartbeats 1000000 in
theorem read_down (b : Nat) (i : Int) (w : World) (h3 : w.cell? ⟨b, 3, none⟩ = some (.bool true)) :
    Calls Try.prog 45 #[.pointer (some ⟨b, 0, none⟩), .int .i64 i] w (ReadPost w (50, [])) := by
  go_enter Try.func45, Try.ntmps45
  go_wp2
  go_ret2
  exact ⟨_, rfl, .inl ⟨rfl, rfl⟩, Below.refl _ _⟩
set_option maxRecDepth 100000 in
set_option maxHeartbeats 1000000 in
theorem read_bad (b n c : Nat) (A : Option Addr) (i : Int) (w : World) (h0 : w.cell? ⟨b, 0, none⟩ = some (.slice A n c)) (h3 : w.cell? ⟨b, 3, none⟩ = some (.bool false)) (hbad : i < 0 ∨ (n : Int) ≤ i) :
    Calls Try.prog 45 #[.pointer (some ⟨b, 0, none⟩), .int .i64 i] w (ReadPost w (51, [])) := by
  by_cases hi : i < 0
  all_goals
    first
      | (have h1 : decide (i < 0) = true := by simpa using hi)
      | (have h1 : decide (i < 0) = false := by simpa using hi
         have h2 : decide ((n : Int) ≤ i) = true := by simp; omega)
    clear hbad
    go_enter Try.func45, Try.ntmps45
    go_wp2
    go_ret2
    exact ⟨_, rfl, .inl ⟨rfl, rfl⟩, Below.refl _ _⟩

theorem empty_own (w : World) : (w.alloc (.cells #[] 5)).ownsRow w.heap.size 5 1 (.slice (some ⟨w.heap.size, 0, none⟩) 0 0) 0 [] :=
  own_of_blk (Blk.new w _ _) (Nat.le_refl _) (Nat.le_refl _) (Nat.zero_le _) rfl rfl
theorem own_bytes {w : World} {base n : Nat} {v : Value} {l : List UInt8} (h : w.ownsRow base 5 1 v n (l.map bv)) (hl : 0 < l.length) : BytesAt (base ≤ ·) w v l := by
  refine BytesAt.of_own h fun e => ?_
  obtain ⟨h1, h2⟩ := h
  rw [e] at h2
  have hn : l.length = n := by simpa using h1
  rcases h2 with ⟨_, h0⟩ | ⟨g, cap, cur, h3, _⟩
  · omega
  · cases h3
theorem cells_add {w : World} {g : Nat} {xs : List Value} (h : Cells w g 0 xs) : ∀ (j : Nat) (u : Value), xs[j]? = some u → w.cell? ((⟨g, 0, none⟩ : Addr).add j) = some u := by
  intro j u hj
  have e : (⟨g, 0, none⟩ : Addr).add j = ⟨g, 0 + j, none⟩ := by unfold Addr.add; split <;> simp_all
  rw [e]
  exact h j u hj
/-- What is read, with k of the writes looked at. -/
def seeTo (D : Dsk) (i k : Nat) : List UInt8 := (seeIn (D.pending.take k) i).getD (D.blocks[i]?.getD [])
theorem seeTo_all (D : Dsk) (i : Nat) {k : Nat} (h : D.pending.length ≤ k) : seeTo D i k = D.see i := by
  unfold seeTo
  rw [List.take_of_length_le h]
  rfl
theorem seeTo_next (D : Dsk) (i : Nat) {k : Nat} {p : Nat × List UInt8} (h : D.pending[k]? = some p) : seeTo D i (k + 1) = if p.1 = i then p.2 else seeTo D i k := by
  obtain ⟨hk, rfl⟩ := List.getElem?_eq_some_iff.1 h
  unfold seeTo
  rw [List.take_succ_eq_append_getElem hk, seeIn_append, seeIn_one]
  by_cases e : D.pending[k].1 = i
  · rw [if_pos e, if_pos e]
    rfl
  · rw [if_neg e, if_neg e]
    rfl

set_option maxRecDepth 100000 in
set_option maxHeartbeats 2000000 in
theorem read_good {P : Nat → Prop} {b : Nat} {D : Dsk} {g1 : Nat} {cur1 : Array Value} {pv : Value} {ps : List (Nat × Value)} (w : World) (h : DiskRep P w b D g1 cur1 pv ps) (ho : DskOk D) (hd : D.down = false)
    (i : Nat) (hi : i < D.blocks.length) (hn : D.pending.length ≤ 1000000000) :
    Calls Try.prog 45 #[.pointer (some ⟨b, 0, none⟩), .int .i64 (i : Int)] w (ReadPost w (0, D.see i)) := by
  have h0 := h.c0
  have h1 := h.c1
  have h3 := h.c3
  rw [hd] at h3
  have hs := ho.some_
  have hf := ho.few
  have t1 : decide ((i : Int) < 0) = false := by simp
  have t2 : decide ((D.blocks.length : Int) ≤ (i : Int)) = false := by simpa using hi
  obtain ⟨v0, hv0, hB0⟩ := h.bl i _ (List.getElem?_eq_getElem hi)
  have q0 : w.cell? ⟨g1, i, none⟩ = some v0 := (h.hg.cell i).trans hv0
  obtain ⟨A1, c1, rfl, hp1⟩ := PenSlice.of_own h.own h.pslen
  have hpl := h.pslen
  have hps : ps.length ≤ 1000000000 := by omega
  have HR := Lib.hid h
  have HO := Lib.hid ho
  have HP := Lib.hid hp1
  have HB0 : Hid (BytesAt P w v0 (seeTo D i 0)) := by
    show BytesAt P w v0 _
    have e : seeTo D i 0 = D.blocks[i] := by
      unfold seeTo
      rw [List.take_zero, List.getElem?_eq_getElem hi]
      rfl
    rw [e]
    exact hB0
  clear hp1 hB0 hv0 h ho
  go_enter Try.func45, Try.ntmps45
  go_wp2
  go_loopw [6, 8, 36] (fun v _ x wr => ∃ k : Nat, k ≤ ps.length ∧ x = .int .i64 k ∧ BytesAt P wr v (seeTo D i k) ∧ Below w.heap.size w wr) (fun _ _ x _ => ps.length - (intOf x).toNat)
  case atStart => exact ⟨0, Nat.zero_le _, rfl, HB0.out, Below.refl _ _⟩
  case round =>
    obtain ⟨k, hk, rfl, hBk, hbel⟩ := hrel
    by_cases hlt : k < ps.length
    · have hr := HR.out.keepsB hbel (Nat.le_refl _)
      obtain ⟨l, hpk, hB⟩ := hr.pen_at k hlt
      obtain ⟨A2, c2, hA2, hp2⟩ := PenSlice.of_own hr.own hr.pslen
      obtain ⟨gp, rfl, _, hp3⟩ := hp2 (by omega)
      cases hA2
      obtain ⟨q1, q2⟩ := hp3 k hlt
      obtain ⟨gx, cx, _, hvx, _⟩ := id hB
      have HX := Lib.hid hvx
      rw [hvx] at q2
      have tk : decide ((k : Int) < (ps.length : Int)) = true := by simp; omega
      have hnx := seeTo_next D i hpk
      have HBl := Lib.hid hbel
      have hbv := fun o => hBk.below_ ((Below.refl _ wr).alloc (Nat.le_refl _) o)
      rw [hvx] at hB
      have hBl := fun o => hB.below_ ((Below.refl _ wr).alloc (Nat.le_refl _) o)
      have HBV := Lib.hid hbv
      have HBL := Lib.hid hBl
      clear hbv hBl hB hBk hbel hr hp3 hvx hp2
      by_cases he : (pen ps k).1 = i
      · rw [if_pos he] at hnx
        have te : (((pen ps k).1 : Int) == (i : Int)) = true := by simp [he]
        have HNX := Lib.hid hnx
        have HPK := Lib.hid hpk
        clear hnx hpk
        go_wp2
        go_roundw
        case rel => exact ⟨k + 1, by omega, by go_num, by rw [HNX.out]; exact HBL.out _, HBl.out.alloc HBl.out.size _⟩
        case measure => simp [intOf]; omega
      · rw [if_neg he] at hnx
        have te : (((pen ps k).1 : Int) == (i : Int)) = false := by rw [beq_eq_false_iff_ne]; omega
        have HNX := Lib.hid hnx
        have HPK := Lib.hid hpk
        clear hnx hpk
        go_wp2
        go_roundw
        case rel => exact ⟨k + 1, by omega, by go_num, by rw [HNX.out]; exact HBV.out _, HBl.out.alloc HBl.out.size _⟩
        case measure => simp [intOf]; omega
    · obtain rfl : k = ps.length := by omega
      have tk : decide ((ps.length : Int) < ps.length) = false := by simp
      rw [seeTo_all D i (by omega)] at hBk
      have hl := D.see_length HO.out hi
      obtain ⟨gv, cv, cur, rfl, hcv, _, hbv, hcl⟩ := hBk.cells
      have hc3 : Cells (wr.alloc (.cells #[] 5)) gv 0 ((D.see i).map bv) := Cells.keeps hcl (F := fun _ => False) ((Keeps.refl _ wr).alloc _) id
      obtain ⟨l, hle⟩ : ∃ l, l = D.see i := ⟨_, rfl⟩
      rw [← hle] at hl hc3 hcv ⊢
      have HC3 : Hid (∀ (j : Nat) (u : Value), (l.map bv)[j]? = some u → (wr.alloc (.cells #[] 5)).cell? ((⟨gv, 0, none⟩ : Addr).add j) = some u) := cells_add hc3
      have HBl := Lib.hid hbel
      have hlm : (l.map bv).length = l.length * 1 := by simp
      have HLM := Lib.hid hlm
      have HLE := Lib.hid hle
      clear hc3 hbel hBk hcl hbv hle hlm
      have hown := empty_own wr
      obtain ⟨iu, hiu, hz0, hz1, hz2⟩ := info_parts Try.infoU8
      go_wp2_with (at_builtin; refine wpList_append_own _ rfl _ _ 26 rfl wr.heap.size 5 iu (.int .u8 0) 1 1 Try.underlying26 hiu hz0 hz1 hz2 rfl (by decide) _ _ _ rfl hown ⟨gv, 0, none⟩ l.length cv (l.map bv) rfl HLM.out HC3.out (oneCell_bv _) ?c1 ?c2 ?c3 ?_)
      case c1 => unfold maxLen; omega
      case c2 => omega
      case c3 => simp
      intro v' w8 hown8 hg8 _
      go_wp2
      go_ret2
      rw [← HLE.out]
      refine ⟨_, rfl, .inr ((own_bytes (l := l) (by simpa using hown8) (by omega)).mono fun g hg => Nat.le_trans HBl.out.size hg), ?_⟩
      refine (HBl.out.alloc HBl.out.size _).grown hg8 (Nat.le_trans HBl.out.size (by simp)) fun k hk => ?_
      have hk : wr.heap.size = k := by simpa [Value.ownBlock] using hk
      rw [← hk]
      exact HBl.out.size

end Go.Proofs.Ytbgiklkpinflaaa.Ref
