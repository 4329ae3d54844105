/- The reference's disk in memory: all its calls; Spoil of both disks. -/
import Derived.Test.YtbgiklkpinflaaaGreatCrashA
import Derived.IntWalk

namespace Go.Proofs.YtbgiklkpinflaaaGreat.Ref
open Go.RowKit Go.Shelf
open Go.Proofs.YtbgiklkpinflaaaGreat hiding DiskRep DiskAt After PenSlice Settling Crashing

/-- How a disk lies in memory: its struct in block b, its list of blocks in block g1, its pending writes in the slice pv. -/
structure DiskRep (P : Nat → Prop) (w : World) (b : Nat) (D : Dsk) (g1 : Nat) (cur1 : Array Value) (pv : Value) (ps : List (Nat × Value)) : Prop where
  hb : Blk w b 149 #[.slice (some ⟨g1, 0, none⟩) D.blocks.length cur1.size, pv, .int .i64 (D.armed : Int), .bool D.down, .int .i64 (D.life : Int)]
  hg : Blk w g1 89 cur1
  le : D.blocks.length ≤ cur1.size
  bl : ∀ (i : Nat) (l : List UInt8), D.blocks[i]? = some l → ∃ v : Value, cur1[i]? = some v ∧ BytesAt P w v l
  own : w.ownsRow 0 178 2 pv D.pending.length (penCells ps)
  pb : ps.map (fun q => q.1) = D.pending.map (fun q => q.1)
  pl : ∀ (i : Nat) (p : Nat × List UInt8), D.pending[i]? = some p → ∃ v : Value, ps[i]? = some (p.1, v) ∧ BytesAt P w v p.2
  fresh : ∀ k, w.heap.size ≤ k → P k
/-- The disk D lies in memory at block b; S: the blocks that it may write. -/
def DiskAt (P : Nat → Prop) (w : World) (b : Nat) (D : Dsk) (S : List Nat) : Prop :=
  DskOk D ∧ ∃ g1 cur1 pv ps, S = b :: g1 :: pv.ownBlock.toList ∧ DiskRep P w b D g1 cur1 pv ps
section
variable {P : Nat → Prop} {w w' : World} {b : Nat} {D : Dsk} {g1 : Nat} {cur1 : Array Value} {pv : Value} {ps : List (Nat × Value)}
theorem DiskRep.c0 (h : DiskRep P w b D g1 cur1 pv ps) : w.cell? ⟨b, 0, none⟩ = some (.slice (some ⟨g1, 0, none⟩) D.blocks.length cur1.size) := by rw [h.hb.cell]; rfl
theorem DiskRep.c1 (h : DiskRep P w b D g1 cur1 pv ps) : w.cell? ⟨b, 1, none⟩ = some pv := by rw [h.hb.cell]; rfl
theorem DiskRep.c2 (h : DiskRep P w b D g1 cur1 pv ps) : w.cell? ⟨b, 2, none⟩ = some (.int .i64 (D.armed : Int)) := by rw [h.hb.cell]; rfl
theorem DiskRep.c3 (h : DiskRep P w b D g1 cur1 pv ps) : w.cell? ⟨b, 3, none⟩ = some (.bool D.down) := by rw [h.hb.cell]; rfl
theorem DiskRep.c4 (h : DiskRep P w b D g1 cur1 pv ps) : w.cell? ⟨b, 4, none⟩ = some (.int .i64 (D.life : Int)) := by rw [h.hb.cell]; rfl
theorem DiskRep.pslen (h : DiskRep P w b D g1 cur1 pv ps) : ps.length = D.pending.length := by have := congrArg List.length h.pb; simpa using this
theorem DiskRep.ne1 (h : DiskRep P w b D g1 cur1 pv ps) : b ≠ g1 := h.hb.ne_ h.hg (by decide)
theorem DiskRep.ne2 (h : DiskRep P w b D g1 cur1 pv ps) : pv.ownBlock ≠ some b := own_blk_ne h.own h.hb (by decide)
theorem DiskRep.ne3 (h : DiskRep P w b D g1 cur1 pv ps) : pv.ownBlock ≠ some g1 := own_blk_ne h.own h.hg (by decide)
/-- The disk's own blocks are no blocks of bytes. -/
theorem DiskRep.noBytes (h : DiskRep P w b D g1 cur1 pv ps) : ∀ g cs, g ∈ b :: g1 :: pv.ownBlock.toList → Blk w g 5 cs → False := by
  intro g cs hg hk
  simp only [List.mem_cons, Option.mem_toList] at hg
  rcases hg with rfl | rfl | hg
  · exact hk.ne_ h.hb (by decide) rfl
  · exact hk.ne_ h.hg (by decide) rfl
  · exact own_blk_ne h.own hk (by decide) hg
/-- Nothing of the disk's own is written: the disk is as it was. -/
theorem DiskRep.keeps {F : Nat → Prop} (h : DiskRep P w b D g1 cur1 pv ps) (k : Keeps F w w') (hF : ∀ g, g ∈ b :: g1 :: pv.ownBlock.toList → ¬ F g) (hU : ∀ g cs, F g → P g → Blk w g 5 cs → False) : DiskRep P w' b D g1 cur1 pv ps where
  hb := h.hb.keeps k (hF b (by simp))
  hg := h.hg.keeps k (hF g1 (by simp))
  le := h.le
  bl := fun i l hi => let ⟨v, hv, hB⟩ := h.bl i l hi; ⟨v, hv, hB.keeps k hU⟩
  own := ownsRow_keeps h.own k fun g hg => hF g (by simp [hg])
  pb := h.pb
  pl := fun i p hp => let ⟨v, hv, hB⟩ := h.pl i p hp; ⟨v, hv, hB.keeps k hU⟩
  fresh := fun i hi => h.fresh i (Nat.le_trans k.size hi)
end
/-- Behind a call the disk E lies where D lay; of what was there only the disk's own blocks may have turned. -/
def After (P : Nat → Prop) (w w' : World) (b : Nat) (E : Dsk) (S : List Nat) : Prop :=
  ∃ S', DiskAt P w' b E S' ∧ (∀ k ∈ S', k ∈ S ∨ w.heap.size ≤ k) ∧ Keeps (· ∈ S) w w'
/-- What a write that is noted leaves. -/
theorem write_after {P : Nat → Prop} {w w1 w2 w3 : World} {b : Nat} {E : Dsk} {g1 : Nat} {cur1 : Array Value} {pv : Value} {ps : List (Nat × Value)} {i : Nat} {l : List UInt8} {v : Value} {o : Obj} {gg cap2 : Nat}
    (hr : DiskRep P w1 b E g1 cur1 pv ps) (ho : DskOk E) (hk1 : Keeps (· = b) w w1) (hk2 : Keeps (fun _ => False) w1 w2) (hB : BytesAt P w2 v l) (hl : l.length = 256) (hi : i < E.blocks.length)
    (hown3 : w3.ownsRow 0 178 2 (.slice (some ⟨gg, 0, none⟩) (E.pending.length + 1) cap2) (E.pending.length + 1) (penCells ps ++ [.int .i64 (i : Int), v])) (hgrow : (w2.alloc o).grownBy w3 pv.ownBlock)
    (hat : pv.ownBlock = some gg ∨ gg = w2.heap.size + 1) :
    After P w (w3.setCell ⟨b, 1, none⟩ (.slice (some ⟨gg, 0, none⟩) (E.pending.length + 1) cap2)) b { E with pending := E.pending ++ [(i, l)] } (b :: g1 :: pv.ownBlock.toList) := by
  have hw1 : w.heap.size ≤ w1.heap.size := hk1.size
  have k3 : Keeps (fun k => pv.ownBlock = some k) w1 w3 := (hk2.weaken (F := fun k => pv.ownBlock = some k) (fun _ _ h => h.elim)).alloc o |>.grown hgrow (fun g h _ => h)
  have B3 : Blk w3 b 149 _ := hr.hb.keeps k3 hr.ne2
  have hne : gg ≠ b := fun e => own_blk_ne hown3 B3 (by decide) (by simp [Value.ownBlock, e])
  have k4 : Keeps (fun k => k = b ∨ pv.ownBlock = some k) w1 (w3.setCell ⟨b, 1, none⟩ (.slice (some ⟨gg, 0, none⟩) (E.pending.length + 1) cap2)) :=
    (k3.weaken (fun _ _ h => .inr h)).setCell (p := ⟨b, 1, none⟩) (fun _ => .inl rfl) _
  have k5 : Keeps (fun k => k = b ∨ pv.ownBlock = some k) w2 (w3.setCell ⟨b, 1, none⟩ (.slice (some ⟨gg, 0, none⟩) (E.pending.length + 1) cap2)) :=
    (((Keeps.refl (fun k => pv.ownBlock = some k) w2).alloc o |>.grown hgrow (fun g h _ => h)).weaken (fun _ _ h => .inr h)).setCell (p := ⟨b, 1, none⟩) (fun _ => .inl rfl) _
  have hU : ∀ g cs, (g = b ∨ pv.ownBlock = some g) → P g → Blk w1 g 5 cs → False := fun g cs hg _ hk => hr.noBytes g cs (by rcases hg with rfl | hg <;> simp [*]) hk
  have hU2 : ∀ g cs, (g = b ∨ pv.ownBlock = some g) → P g → Blk w2 g 5 cs → False := fun g cs hg _ hk => by
    have h2 : DiskRep P w2 b E g1 cur1 pv ps := hr.keeps hk2 (fun _ _ => id) (fun _ _ h _ _ => h)
    exact h2.noBytes g cs (by rcases hg with rfl | hg <;> simp [*]) hk
  refine ⟨[b, g1, gg], ⟨⟨ho.blk, ?_, ho.some_, ho.few, ho.armedLe⟩, g1, cur1, .slice (some ⟨gg, 0, none⟩) (E.pending.length + 1) cap2, ps ++ [(i, v)], rfl, ?_⟩, ?_, ?_⟩
  · intro p hp
    rcases List.mem_append.1 hp with h | h
    · exact ho.pen p h
    · simp only [List.mem_singleton] at h
      subst h
      exact ⟨hi, hl⟩
  · refine ⟨B3.set_ 1 _, hr.hg.keeps k4 (by rintro (h | h); exact hr.ne1 h.symm; exact hr.ne3 h), hr.le, ?_, ?_, ?_, ?_, ?_⟩
    · intro k l' hk
      obtain ⟨v', hv', hB'⟩ := hr.bl k l' hk
      exact ⟨v', hv', hB'.keeps k4 hU⟩
    · have h4 := ownsRow_keeps hown3 ((Keeps.refl (· = b) w3).setCell (p := ⟨b, 1, none⟩) (fun _ => rfl) (.slice (some ⟨gg, 0, none⟩) (E.pending.length + 1) cap2)) (by intro g hg e; simp [Value.ownBlock] at hg; omega)
      rw [penCells_append]
      simpa [penCells] using h4
    · simp [hr.pb]
    · intro k p hp
      simp only at hp
      rw [List.getElem?_append] at hp ⊢
      rw [hr.pslen]
      split at hp
      · rename_i hlt
        obtain ⟨v', hv', hB'⟩ := hr.pl k p hp
        rw [if_pos hlt]
        exact ⟨v', hv', hB'.keeps k4 hU⟩
      · rename_i hge
        rw [if_neg hge]
        rcases Nat.eq_zero_or_pos (k - E.pending.length) with h0 | h0
        · rw [h0] at hp ⊢
          simp only [List.getElem?_cons_zero, Option.some.injEq] at hp
          subst hp
          exact ⟨v, rfl, hB.keeps k5 hU2⟩
        · rw [List.getElem?_eq_none (by simp; omega)] at hp
          cases hp
    · exact fun i hi => hr.fresh i (Nat.le_trans k4.size hi)
  · intro k hk
    simp only [List.mem_cons, List.not_mem_nil, or_false] at hk
    rcases hk with rfl | rfl | rfl
    · exact .inl (by simp)
    · exact .inl (by simp)
    · rcases hat with h | h
      · exact .inl (by simp [h])
      · have := hk2.size
        exact .inr (by omega)
  · refine (hk1.weaken (F := (· ∈ b :: g1 :: pv.ownBlock.toList)) (fun k _ h => by simp [h])).trans k4 (fun k _ h => ?_)
    rcases h with rfl | h
    · simp
    · simp [h]
/-- The pending writes ps lie in block g. -/
def PenAt (w : World) (g : Nat) (ps : List (Nat × Value)) : Prop :=
  ∀ j, j < ps.length → w.cell? ⟨g, j * 2, none⟩ = some (.int .i64 ((pen ps j).1 : Int)) ∧ w.cell? ⟨g, j * 2 + 1, none⟩ = some ((pen ps j).2)
theorem PenAt.of_own {w : World} {base n : Nat} {v : Value} {ps : List (Nat × Value)} (h : w.ownsRow base 178 2 v n (penCells ps)) (hn : 0 < n) : ∃ g cap, v = .slice (some ⟨g, 0, none⟩) n cap ∧ n ≤ cap ∧ v.ownBlock = some g ∧ PenAt w g ps ∧ g < w.heap.size := by
  obtain ⟨h1, h2⟩ := h
  rcases h2 with ⟨_, h0, _⟩ | ⟨g, cap, cur, rfl, hb, hg, hnc, hcm, hcs, ht⟩
  · omega
  · have hl := penCells_length ps
    have hps : n = ps.length := by omega
    refine ⟨g, cap, rfl, hnc, by simp [Value.ownBlock], ?_, Blk.lt (t := 178) hg⟩
    have hC : Cells w g 0 (penCells ps) := take_cells hg ht
    intro j hj
    have := penCells_at ps j hj
    have a1 := hC _ _ this.1
    have a2 := hC _ _ this.2
    simp only [Nat.zero_add] at a1 a2
    exact ⟨a1, a2⟩
theorem PenAt.below {w w' : World} {n g : Nat} {ps : List (Nat × Value)} (h : PenAt w g ps) (hb : Below n w w') (hg : g < n) : PenAt w' g ps := fun j hj =>
  ⟨(hb.cell (p := ⟨g, j * 2, none⟩) hg).trans (h j hj).1, (hb.cell (p := ⟨g, j * 2 + 1, none⟩) hg).trans (h j hj).2⟩
/-- The slice value pv holds the pending writes ps, in a block below n₀; or there are none. -/
def PenSlice (n₀ : Nat) (w : World) (pv : Value) (ps : List (Nat × Value)) : Prop :=
  ∃ A cap, pv = .slice A ps.length cap ∧ (0 < ps.length → ∃ g, A = some ⟨g, 0, none⟩ ∧ g < n₀ ∧ PenAt w g ps)
theorem PenSlice.of_own {w : World} {base n : Nat} {v : Value} {ps : List (Nat × Value)} (h : w.ownsRow base 178 2 v n (penCells ps)) (hl : ps.length = n) : PenSlice w.heap.size w v ps := by
  rcases Nat.eq_zero_or_pos n with h0 | h0
  · rcases h.2 with ⟨hv, _⟩ | ⟨g, cap, cur, rfl, hb, hg, hnc, hcm, hcs, ht⟩
    · exact ⟨none, 0, by rw [hv, hl, h0], by omega⟩
    · exact ⟨_, cap, by rw [hl], by omega⟩
  · obtain ⟨g, cap, rfl, _, _, hp, hg⟩ := PenAt.of_own h h0
    exact ⟨_, cap, by rw [hl], fun _ => ⟨g, rfl, hg, hp⟩⟩
theorem PenSlice.below {w w' : World} {n : Nat} {v : Value} {ps : List (Nat × Value)} (h : PenSlice n w v ps) (hb : Below n w w') : PenSlice n w' v ps := by
  obtain ⟨A, cap, hv, hc⟩ := h
  exact ⟨A, cap, hv, fun h0 => let ⟨g, h1, h2, h3⟩ := hc h0; ⟨g, h1, h2, h3.below hb h2⟩⟩
theorem DiskRep.pen_at {P : Nat → Prop} {w : World} {b : Nat} {D : Dsk} {g1 : Nat} {cur1 : Array Value} {pv : Value} {ps : List (Nat × Value)} (h : DiskRep P w b D g1 cur1 pv ps) (j : Nat) (hj : j < ps.length) :
    ∃ l, D.pending[j]? = some ((pen ps j).1, l) ∧ BytesAt P w (pen ps j).2 l := by
  have hj' : j < D.pending.length := by rw [← h.pslen]; exact hj
  obtain ⟨v, hv, hB⟩ := h.pl j D.pending[j] (List.getElem?_eq_getElem hj')
  rw [pen_eq hv]
  exact ⟨_, List.getElem?_eq_getElem hj', hB⟩
theorem PenSlice.mono_ {w : World} {n m : Nat} {v : Value} {ps : List (Nat × Value)} (h : PenSlice n w v ps) (hm : n ≤ m) : PenSlice m w v ps := by
  obtain ⟨A, cap, hv, hc⟩ := h
  exact ⟨A, cap, hv, fun h0 => let ⟨g, h1, h2, h3⟩ := hc h0; ⟨g, h1, Nat.lt_of_lt_of_le h2 hm, h3⟩⟩
theorem After.refl {P : Nat → Prop} {w : World} {b : Nat} {D : Dsk} {S : List Nat} (h : DiskAt P w b D S) : After P w w b D S := ⟨S, h, fun _ hk => .inl hk, Keeps.refl _ _⟩
section
variable {P : Nat → Prop} {w : World} {b : Nat} {E : Dsk} {g1 : Nat} {cur : Array Value} {pv : Value} {ps : List (Nat × Value)}
/-- One block is replaced. -/
theorem DiskRep.setBlock (h : DiskRep P w b E g1 cur pv ps) (i : Nat) (l : List UInt8) (v : Value) (hB : BytesAt P w v l) (hi : i < E.blocks.length) : DiskRep P (w.setCell ⟨g1, i, none⟩ v) b { E with blocks := E.blocks.set i l } g1 (cur.setIfInBounds i v) pv ps := by
  have k1 : Keeps (· = g1) w (w.setCell ⟨g1, i, none⟩ v) := Keeps.set1 w g1 i v
  have hU : ∀ g cs, g = g1 → P g → Blk w g 5 cs → False := fun g cs hg _ hk => h.noBytes g cs (by simp [hg]) hk
  have hle := h.le
  refine ⟨?_, h.hg.set_ i v, by simpa using hle, ?_, ownsRow_keeps h.own k1 (fun g hg e => h.ne3 (by rw [hg, e])), h.pb, ?_, fun k hk => h.fresh k (Nat.le_trans k1.size hk)⟩
  · have := h.hb.keeps k1 h.ne1
    simpa using this
  · intro j l' hj
    simp only at hj
    rw [List.getElem?_set] at hj
    split at hj
    · rename_i e
      subst e
      cases hj
      refine ⟨v, ?_, hB.keeps k1 hU⟩
      rw [Array.getElem?_setIfInBounds_self_of_lt]
      omega
    · rename_i hne
      obtain ⟨v', hv', hB'⟩ := h.bl j l' hj
      exact ⟨v', by rw [Array.getElem?_setIfInBounds_ne hne]; exact hv', hB'.keeps k1 hU⟩
  · intro j p hj
    obtain ⟨v', hv', hB'⟩ := h.pl j p hj
    exact ⟨v', hv', hB'.keeps k1 hU⟩
/-- Nothing waits any more. -/
theorem DiskRep.drop (h : DiskRep P w b E g1 cur pv ps) : DiskRep P (w.setCell ⟨b, 1, none⟩ (.slice none 0 0)) b { E with pending := [] } g1 cur (.slice none 0 0) [] := by
  have k1 : Keeps (· = b) w (w.setCell ⟨b, 1, none⟩ (.slice none 0 0)) := Keeps.set1 w b 1 _
  have hU : ∀ g cs, g = b → P g → Blk w g 5 cs → False := fun g cs hg _ hk => h.noBytes g cs (by simp [hg]) hk
  refine ⟨h.hb.set_ 1 _, h.hg.keeps k1 (Ne.symm h.ne1), h.le, ?_, ⟨rfl, .inl ⟨rfl, rfl⟩⟩, rfl, fun j p hj => by simp at hj, fun k hk => h.fresh k (Nat.le_trans k1.size hk)⟩
  intro j l' hj
  obtain ⟨v', hv', hB'⟩ := h.bl j l' hj
  exact ⟨v', hv', hB'.keeps k1 hU⟩
end
theorem DiskRep.keepsB {P : Nat → Prop} {w w' : World} {b : Nat} {D : Dsk} {g1 : Nat} {cur1 : Array Value} {pv : Value} {ps : List (Nat × Value)} {B : Nat} (h : DiskRep P w b D g1 cur1 pv ps) (hb : Below B w w') (hB : w.heap.size ≤ B) : DiskRep P w' b D g1 cur1 pv ps :=
  h.keeps (F := fun _ => False) (Keeps.of_below (hb.mono hB)) (fun _ _ => id) (fun _ _ h => h.elim)
/-- k of the writes have taken effect. -/
def Settling (P : Nat → Prop) (w1 : World) (b : Nat) (E : Dsk) (g1 : Nat) (cur1 : Array Value) (pv : Value) (ps : List (Nat × Value)) (k : Nat) (wr : World) : Prop :=
  ∃ cur, cur.size = cur1.size ∧ DiskRep P wr b { E with blocks := settle E.blocks (E.pending.take k) } g1 cur pv ps ∧ Keeps (· = g1) w1 wr
theorem Settling.pen_at {P : Nat → Prop} {w1 : World} {b : Nat} {E : Dsk} {g1 : Nat} {cur1 : Array Value} {pv : Value} {ps : List (Nat × Value)} {k : Nat} {wr : World} (h : Settling P w1 b E g1 cur1 pv ps k wr) {j : Nat} (hj : j < ps.length) {gp c1 n : Nat} (hv : pv = .slice (some ⟨gp, 0, none⟩) n c1) :
    wr.cell? ⟨gp, j * 2, none⟩ = some (.int .i64 ((pen ps j).1 : Int)) ∧ wr.cell? ⟨gp, j * 2 + 1, none⟩ = some (pen ps j).2 := by
  obtain ⟨cur, _, hr, _⟩ := h
  obtain ⟨A, c, hA, hp⟩ := PenSlice.of_own hr.own hr.pslen
  obtain ⟨g, rfl, _, hp⟩ := hp (by omega)
  rw [hv] at hA
  cases hA
  exact hp j hj
theorem Settling.has {P : Nat → Prop} {w1 : World} {b : Nat} {E : Dsk} {g1 : Nat} {cur1 : Array Value} {pv : Value} {ps : List (Nat × Value)} {k : Nat} {wr : World} (h : Settling P w1 b E g1 cur1 pv ps k wr) {j : Nat} (hj : j < E.blocks.length) :
    ∃ g n c, wr.cell? ⟨g1, j, none⟩ = some (.slice g n c) := by
  obtain ⟨cur, _, hr, _⟩ := h
  have hjl : j < (settle E.blocks (E.pending.take k)).length := by rw [settle_length]; exact hj
  obtain ⟨v, hv, hB⟩ := hr.bl j _ (List.getElem?_eq_getElem hjl)
  obtain ⟨g, cap, _, rfl, _⟩ := hB
  exact ⟨_, _, _, (hr.hg.cell j).trans hv⟩
theorem Settling.step {P : Nat → Prop} {w1 : World} {b : Nat} {E : Dsk} {g1 : Nat} {cur1 : Array Value} {pv : Value} {ps : List (Nat × Value)} {k : Nat} {wr : World} (h : Settling P w1 b E g1 cur1 pv ps k wr) (hk : k < ps.length) (hE : DskOk E) (o : Obj) :
    Settling P w1 b E g1 cur1 pv ps (k + 1) ((wr.alloc o).setCell ⟨g1, (pen ps k).1, none⟩ (pen ps k).2).drew := by
  obtain ⟨cur, hcs, hr, hkk⟩ := h
  have hr2 : DiskRep P (wr.alloc o).drew b _ g1 cur pv ps := hr.keepsB (B := wr.heap.size) (((Below.refl _ wr).alloc (Nat.le_refl _) o).drew_) (Nat.le_refl _)
  obtain ⟨l, hpk, hB⟩ := hr2.pen_at k hk
  have hpi := hE.pen _ (List.mem_of_getElem? hpk)
  refine ⟨cur.setIfInBounds (pen ps k).1 (pen ps k).2, by simpa using hcs, ?_, ?_⟩
  · have := hr2.setBlock (pen ps k).1 l (pen ps k).2 hB (by simpa [settle_length] using hpi.1)
    rw [settle_take _ _ hpk]
    exact this
  · exact ((hkk.alloc o).drew).trans (Keeps.set1 _ g1 _ _) (fun _ _ h => h)
/-- k blocks are made. -/
def Making (w : World) (k : Nat) (wr : World) : Prop :=
  ∃ sv xs, Blk wr w.heap.size 149 #[sv, .slice none 0 0, .int .i64 0, .bool false, .int .i64 0] ∧ wr.ownsRow (w.heap.size + 1) 89 1 sv k xs ∧ (∀ x ∈ xs, BytesAt (w.heap.size ≤ ·) wr x zeros) ∧ Below w.heap.size w wr
theorem making_step {w wr w3 : World} {k gg cap2 : Nat} {sv : Value} {xs : List Value} (hb : Blk wr w.heap.size 149 #[sv, .slice none 0 0, .int .i64 0, .bool false, .int .i64 0]) (hown : wr.ownsRow (w.heap.size + 1) 89 1 sv k xs) (hxs : ∀ x ∈ xs, BytesAt (w.heap.size ≤ ·) wr x zeros) (hbel : Below w.heap.size w wr) {o : Obj}
    (hown3 : w3.ownsRow (w.heap.size + 1) 89 1 (.slice (some ⟨gg, 0, none⟩) (k + 1) cap2) (k + 1) (xs ++ [.slice (some ⟨wr.heap.size, 0, none⟩) 256 256])) (hgrow : (((wr.alloc (.cells zcells 5)).alloc o).drew).grownBy w3 sv.ownBlock) (_hat : sv.ownBlock = some gg ∨ gg = wr.heap.size + 2) :
    Making w (k + 1) (w3.setCell ⟨w.heap.size, 0, none⟩ (.slice (some ⟨gg, 0, none⟩) (k + 1) cap2)) := by
  have hne : sv.ownBlock ≠ some w.heap.size := own_blk_ne hown hb (by decide)
  have hlt := hb.lt
  have B3 : Blk w3 w.heap.size _ _ := Blk.grown (((hb.alloc (.cells zcells 5)).alloc o).drew) hgrow hne
  have hz : Blk (((wr.alloc (.cells zcells 5)).alloc o).drew) wr.heap.size 5 zcells := ((Blk.new wr _ zcells).alloc o).drew
  have hne2 : gg ≠ w.heap.size := fun e => own_blk_ne hown3 B3 (by decide) (by simp [Value.ownBlock, e])
  have k3 : Keeps (fun k => sv.ownBlock = some k) wr w3 := (((Keeps.refl _ wr).alloc _).alloc _).drew.grown hgrow (fun g h _ => h)
  have kz : Keeps (fun k => sv.ownBlock = some k) (((wr.alloc (.cells zcells 5)).alloc o).drew) w3 := (Keeps.refl _ _).grown hgrow (fun g h _ => h)
  have hu : ∀ {u : World} {g : Nat} {cs : Array Value}, u.ownsRow (w.heap.size + 1) 89 1 sv k xs → sv.ownBlock = some g → Blk u g 5 cs → False := fun h e hk => own_blk_ne h hk (by decide) e
  have k4 := Keeps.set1 w3 w.heap.size 0 (.slice (some ⟨gg, 0, none⟩) (k + 1) cap2)
  refine ⟨_, _, B3.set_ 0 _, ownsRow_keeps hown3 k4 (fun g hg e => by simp [Value.ownBlock] at hg; omega), ?_, ?_⟩
  · intro x hx
    have hy : BytesAt (w.heap.size ≤ ·) w3 x zeros := by
      rcases List.mem_append.1 hx with h | h
      · exact (hxs x h).keeps k3 (fun g cs e _ hk => hu hown e hk)
      · simp only [List.mem_singleton] at h
        subst h
        exact (zcells_blk hz hbel.size).keeps kz (fun g cs e _ hk => hu (((hown.alloc _).alloc _).drew) e hk)
    exact hy.keeps k4 (fun g cs e _ hk => by subst e; exact Blk.ne_ hk B3 (by decide) rfl)
  · exact (((((hbel.alloc hbel.size _).alloc (by simp; omega) o).drew_).grown hgrow (by simp; omega) (fun g e => by
      rcases hown.2 with ⟨hv, _⟩ | ⟨g', cap, cur, hv, hbb, _⟩
      · rw [hv] at e
        simp [Value.ownBlock] at e
      · rw [hv] at e
        simp [Value.ownBlock] at e
        omega))).setCell (p := ⟨w.heap.size, 0, none⟩) (Nat.le_refl _) _
theorem making_end {P : Nat → Prop} {w wr : World} {n : Nat} (hP : ∀ k, w.heap.size ≤ k → P k) (h0 : 0 < n) (h2 : n ≤ 1024) (h : Making w n wr) : ∃ S, DiskAt P wr w.heap.size (Dsk.new n) S ∧ ∀ k ∈ S, w.heap.size ≤ k := by
  obtain ⟨sv, xs, hb, hown, hxs, hbel⟩ := h
  have hl := hown.1
  rcases hown.2 with ⟨_, h0', _⟩ | ⟨g, cap, cur, rfl, hbb, hg, hnc, hcm, hcs, ht⟩
  · omega
  · have hcs' : cur.size = cap := by simpa using hcs
    subst hcs'
    refine ⟨[w.heap.size, g], ⟨⟨?_, fun p hp => by simp [Dsk.new] at hp, by simpa [Dsk.new] using h0, by simpa [Dsk.new] using h2, by simp [Dsk.new]⟩, g, cur, .slice none 0 0, [], rfl, ?_⟩, ?_⟩
    · intro l hl
      simp only [Dsk.new, List.mem_replicate] at hl
      rw [hl.2, zeros_length]
    · refine ⟨by simpa [Dsk.new] using hb, hg, by simpa [Dsk.new] using hnc, ?_, ⟨rfl, .inl ⟨rfl, rfl⟩⟩, rfl, fun j p hj => by simp [Dsk.new] at hj, fun k hk => hP k (Nat.le_trans hbel.size hk)⟩
      intro i l hi
      have hi' : i < n ∧ l = zeros := by
        simp only [Dsk.new, List.getElem?_replicate] at hi
        split at hi
        · rename_i hlt
          exact ⟨hlt, by simpa using hi.symm⟩
        · cases hi
      obtain ⟨hin, rfl⟩ := hi'
      have hxi : i < xs.length := by omega
      have e1 : cur[i]? = some xs[i] := by
        have : (cur.toList.take (n * 1))[i]? = some xs[i] := by rw [ht]; exact List.getElem?_eq_getElem hxi
        rw [List.getElem?_take, if_pos (by omega)] at this
        simpa using this
      exact ⟨_, e1, (hxs _ (List.getElem_mem hxi)).mono hP⟩
    · intro k hk
      simp only [List.mem_cons, List.not_mem_nil, or_false] at hk
      rcases hk with rfl | rfl <;> omega
theorem After.trans {P : Nat → Prop} {w w1 w2 : World} {b : Nat} {E : Dsk} {S S1 : List Nat} (hS : ∀ k ∈ S1, k ∈ S ∨ w.heap.size ≤ k) (k1 : Keeps (· ∈ S) w w1) (h2 : After P w1 w2 b E S1) : After P w w2 b E S := by
  obtain ⟨S2, hD, hS2, k2⟩ := h2
  refine ⟨S2, hD, fun k hk => ?_, k1.trans k2 fun i hi hg => ?_⟩
  · rcases hS2 k hk with h | h
    · exact hS k h
    · exact .inr (Nat.le_trans k1.size h)
  · rcases hS i hg with h | h
    · exact h
    · omega
theorem DiskAt.keeps {P F : Nat → Prop} {w w' : World} {b : Nat} {D : Dsk} {S : List Nat} (h : DiskAt P w b D S) (k : Keeps F w w') (hF : ∀ g, g ∈ S → ¬ F g) (hU : ∀ g cs, F g → P g → Blk w g 5 cs → False) : DiskAt P w' b D S := by
  obtain ⟨ho, g1, cur1, pv, ps, rfl, hr⟩ := h
  exact ⟨ho, g1, cur1, pv, ps, rfl, hr.keeps k hF hU⟩
theorem DiskAt.below {P : Nat → Prop} {w w' : World} {b : Nat} {D : Dsk} {S : List Nat} (h : DiskAt P w b D S) (hb : Below w.heap.size w w') : DiskAt P w' b D S :=
  h.keeps (F := fun _ => False) (Keeps.of_below hb) (fun _ _ => id) (fun _ _ h => h.elim)
theorem DiskAt.lt {P : Nat → Prop} {w : World} {b : Nat} {D : Dsk} {S : List Nat} (h : DiskAt P w b D S) : ∀ k ∈ S, ∃ t cs, Blk w k t cs ∧ (t = 149 ∨ t = 89 ∨ t = 178) := by
  obtain ⟨ho, g1, cur1, pv, ps, rfl, hr⟩ := h
  intro k hk
  simp only [List.mem_cons, Option.mem_toList] at hk
  rcases hk with rfl | rfl | hk
  · exact ⟨_, _, hr.hb, .inl rfl⟩
  · exact ⟨_, _, hr.hg, .inr (.inl rfl)⟩
  · rcases hr.own.2 with ⟨hv, _⟩ | ⟨g, cap, cur, hv, _, hg, _⟩
    · rw [hv] at hk
      simp [Value.ownBlock] at hk
    · rw [hv] at hk
      simp [Value.ownBlock] at hk
      subst hk
      exact ⟨_, _, hg, .inr (.inr rfl)⟩
theorem After.blk {P : Nat → Prop} {w w' : World} {b : Nat} {E D : Dsk} {S : List Nat} (h : After P w w' b E S) (hD : DiskAt P w b D S) {g : Nat} {t : TypeId} {cs : Array Value} (hb : Blk w g t cs) (h1 : t ≠ 149) (h2 : t ≠ 89) (h3 : t ≠ 178) : Blk w' g t cs := by
  obtain ⟨_, _, _, k⟩ := h
  refine hb.keeps k fun hg => ?_
  obtain ⟨t', cs', hk, ht⟩ := hD.lt g hg
  have := (hb.det hk).2
  subst this
  rcases ht with h | h | h
  · exact h1 h
  · exact h2 h
  · exact h3 h
theorem DiskAt.no {P : Nat → Prop} {w : World} {b : Nat} {D : Dsk} {S : List Nat} (h : DiskAt P w b D S) {t : TypeId} (h1 : t ≠ 149) (h2 : t ≠ 89) (h3 : t ≠ 178) {g : Nat} {cs : Array Value} (hg : g ∈ S) (hk : Blk w g t cs) : False := by
  obtain ⟨t', cs', hk', ht⟩ := h.lt g hg
  have := (hk.det hk').2
  subst this
  rcases ht with h | h | h
  · exact h1 h
  · exact h2 h
  · exact h3 h
section
variable {P : Nat → Prop} {w w1 w2 : World} {d : Nat} {D D0 : Dsk} {S : List Nat}
theorem After.next (h : After P w w1 d D S) : ∃ S1, DiskAt P w1 d D S1 ∧ ∀ w2 D2, After P w1 w2 d D2 S1 → After P w w2 d D2 S := by
  obtain ⟨S1, h1, h2, h3⟩ := h
  exact ⟨S1, h1, fun w2 D2 h4 => After.trans h2 h3 h4⟩
theorem After.below (h : After P w w1 d D S) (hb : Below w1.heap.size w1 w2) : After P w w2 d D S := by
  obtain ⟨S1, h1, h2, h3⟩ := h
  exact ⟨S1, h1.below hb, h2, h3.trans (Keeps.of_below (F := fun _ => False) hb) (fun _ _ h => h.elim)⟩
theorem After.of_below (h : DiskAt P w d D S) (hb : Below w.heap.size w w1) : After P w w1 d D S := (After.refl h).below hb
theorem After.at_ (h : After P w w1 d D S) : ∃ S1, DiskAt P w1 d D S1 := let ⟨S1, h1, _⟩ := h; ⟨S1, h1⟩
theorem After.state (h : After P w w1 d D S) (hD : DiskAt P w d D0 S) {a mb : Nat} {st : St} (hs : StateAt w a mb st) : StateAt w1 a mb st := by
  obtain ⟨S1, h1, h2, h3⟩ := h
  refine hs.keeps h3 (fun g t cs hg hb => ?_) (fun hm => ?_)
  · exact ⟨fun e => hD.no (t := 3) (by decide) (by decide) (by decide) hg (e ▸ hb), fun e => hD.no (t := 133) (by decide) (by decide) (by decide) hg (e ▸ hb)⟩
  · obtain ⟨t, cs, hk, _⟩ := hD.lt _ hm
    obtain ⟨_, _, _, _, hM, _⟩ := hs
    exact hM.not_blk hk
theorem After.bytes (h : After P w w1 d D S) (hD : DiskAt P w d D0 S) {Q : Nat → Prop} {v : Value} {l : List UInt8} (hB : BytesAt Q w v l) : BytesAt Q w1 v l := by
  obtain ⟨S1, h1, h2, h3⟩ := h
  exact hB.keeps h3 (fun g cs hg _ hk => hD.no (t := 5) (by decide) (by decide) (by decide) hg hk)
end
theorem handed_new {P : Nat → Prop} {w w' : World} {d : Nat} {D : Dsk} {S : List Nat} {v : Value} {l : List UInt8} (h : DiskAt P w d D S) (hB : BytesAt (w.heap.size ≤ ·) w' v l) : Handed w' S v l := by
  obtain ⟨g, cap, cur, rfl, _, hp, _, hc⟩ := hB.cells
  refine ⟨_, cap, rfl, fun _ => ⟨g, 0, rfl, hc, fun hm => ?_⟩⟩
  obtain ⟨t, cs', hb', _⟩ := h.lt _ hm
  exact Nat.lt_irrefl _ (Nat.lt_of_lt_of_le hb'.lt hp)
section
variable {P : Nat → Prop} {w w1 : World} {d : Nat} {D D0 : Dsk} {S : List Nat}
theorem After.keeps_ (h : After P w w1 d D S) : Keeps (· ∈ S) w w1 := let ⟨_, _, _, k⟩ := h; k
theorem After.map (h : After P w w1 d D S) (hD : DiskAt P w d D0 S) {b : Nat} {M : List (List UInt8 × Value)} (hM : MapAt w b M) : MapAt w1 b M :=
  hM.keeps h.keeps_ fun hm => by
    obtain ⟨t, cs, hk, _⟩ := hD.lt _ hm
    exact hM.not_blk hk
theorem After.nums (h : After P w w1 d D S) (hD : DiskAt P w d D0 S) {v : Value} {l : List Nat} (hN : NumsAt w v l) : NumsAt w1 v l :=
  hN.keeps h.keeps_ fun g cs hg hb => hD.no (by decide) (by decide) (by decide) hg hb
end
theorem DiskAt.life_ {P : Nat → Prop} {w : World} {b : Nat} {D : Dsk} {S : List Nat} (h : DiskAt P w b D S) : w.cell? ⟨b, 4, none⟩ = some (.int .i64 (D.life : Int)) := by
  obtain ⟨ho, g1, cur1, pv, ps, rfl, hr⟩ := h
  exact hr.c4
theorem After.size {P : Nat → Prop} {w w1 : World} {d : Nat} {D : Dsk} {S : List Nat} (h : After P w w1 d D S) : w.heap.size ≤ w1.heap.size := let ⟨_, _, _, k⟩ := h; k.size
/-- k of the two are written. -/
def Wiping (P : Nat → Prop) (w : World) (d : Nat) (S : List Nat) (D : Dsk) (k : Nat) (wr : World) : Prop :=
  ∃ Di, writes (wipes.drop k) Di = writes wipes D ∧ After P w wr d Di S ∧ Small Di (2 - k + 6)
/-- What Format leaves. -/
def FormatPost (P : Nat → Prop) (w : World) (d : Nat) (D : Dsk) (S : List Nat) (e : Ending) (w' : World) : Prop :=
  After P w w' d D.fmt.2 S ∧
  ((D.fmt.1 ≠ 0 ∧ e = .returned (.tuple #[.pointer none, .int .i64 D.fmt.1])) ∨
   (D.fmt.1 = 0 ∧ ∃ s a mb sv, e = .returned (.tuple #[.pointer (some ⟨s, 0, none⟩), .int .i64 0]) ∧ w.heap.size ≤ s ∧ w.heap.size ≤ a ∧ w.heap.size ≤ mb ∧
      Blk w' s 100 #[.pointer (some ⟨d, 0, none⟩), .int .i64 ((writes wipes D).2.sync.2.life : Int), .pointer (some ⟨a, 0, none⟩), .slice none 0 0, .bool false, .map none, .map none] ∧
      StateAt w' a mb St.zero ∧ sv = ()))
theorem wipe_next {P : Nat → Prop} {w wr w1 w2 : World} {d k : Nat} {S Si : List Nat} {D Di : Dsk} {r : Int × Dsk} (hk : k < 2) (hw : writes (wipes.drop k) Di = writes wipes D) (hnx : ∀ w2 D2, After P wr w2 d D2 Si → After P w w2 d D2 S) (hsm : Small Di (2 - k + 6)) (hr : r = Di.write (k : Int) zeros)
    (hb : Below wr.heap.size wr w1) (hAf : After P w1 w2 d r.2 Si) : (r.1 = 0 → Wiping P w d S D (k + 1) w2) ∧ (r.1 ≠ 0 → writes wipes D = r ∧ After P w w2 d r.2 S) := by
  have hA2 : After P w w2 d r.2 S := hnx _ _ (After.trans (fun _ h => .inl h) (Keeps.of_below hb) hAf)
  rw [wipes_drop hk] at hw
  constructor
  · intro hz
    refine ⟨r.2, ?_, hA2, ?_⟩
    · rw [← hw, hr]
      show _ = if _ then _ else _
      rw [← hr, if_pos hz, hr]
    · rw [hr]
      exact Dsk.write_small (hsm.mono (by omega))
  · intro hz
    refine ⟨?_, hA2⟩
    rw [← hw]
    show (if _ then _ else _) = _
    rw [← hr, if_neg hz]
/-- k of the writes have been looked at. -/
def Crashing (P : Nat → Prop) (w1 : World) (b : Nat) (E : Dsk) (f : Nat → Bool) (g1 : Nat) (cur1 : Array Value) (pv : Value) (ps : List (Nat × Value)) (k : Nat) (wr : World) : Prop :=
  ∃ cur, cur.size = cur1.size ∧ DiskRep P wr b { E with blocks := settleIf f E.blocks E.pending k } g1 cur pv ps ∧ Keeps (· = g1) w1 wr
section
variable {P : Nat → Prop} {w1 : World} {b : Nat} {E : Dsk} {f : Nat → Bool} {g1 : Nat} {cur1 : Array Value} {pv : Value} {ps : List (Nat × Value)} {k : Nat} {wr : World}
theorem Crashing.pen_at (h : Crashing P w1 b E f g1 cur1 pv ps k wr) {j : Nat} (hj : j < ps.length) {gp c1 n : Nat} (hv : pv = .slice (some ⟨gp, 0, none⟩) n c1) :
    wr.cell? ⟨gp, j * 2, none⟩ = some (.int .i64 ((pen ps j).1 : Int)) ∧ wr.cell? ⟨gp, j * 2 + 1, none⟩ = some (pen ps j).2 := by
  obtain ⟨cur, _, hr, _⟩ := h
  obtain ⟨A, c, hA, hp⟩ := PenSlice.of_own hr.own hr.pslen
  obtain ⟨g, rfl, _, hp⟩ := hp (by omega)
  rw [hv] at hA
  cases hA
  exact hp j hj
theorem Crashing.has (h : Crashing P w1 b E f g1 cur1 pv ps k wr) {j : Nat} (hj : j < E.blocks.length) : ∃ g n c, wr.cell? ⟨g1, j, none⟩ = some (.slice g n c) := by
  obtain ⟨cur, _, hr, _⟩ := h
  have hjl : j < (settleIf f E.blocks E.pending k).length := by rw [settleIf_length]; exact hj
  obtain ⟨v, hv, hB⟩ := hr.bl j _ (List.getElem?_eq_getElem hjl)
  obtain ⟨g, cap, _, rfl, _⟩ := hB
  exact ⟨_, _, _, (hr.hg.cell j).trans hv⟩
theorem Crashing.skip (h : Crashing P w1 b E f g1 cur1 pv ps k wr) (hf : f k = false) (o : Obj) : Crashing P w1 b E f g1 cur1 pv ps (k + 1) (wr.alloc o) := by
  obtain ⟨cur, hcs, hr, hkk⟩ := h
  refine ⟨cur, hcs, ?_, hkk.alloc o⟩
  have e : settleIf f E.blocks E.pending (k + 1) = settleIf f E.blocks E.pending k := by
    show (if f k then _ else _) = _
    rw [hf, if_neg (by simp)]
  rw [e]
  exact hr.keepsB ((Below.refl _ wr).alloc (Nat.le_refl _) o) (Nat.le_refl _)
theorem Crashing.step (h : Crashing P w1 b E f g1 cur1 pv ps k wr) (hf : f k = true) (hk : k < ps.length) (hE : DskOk E) (o : Obj) :
    Crashing P w1 b E f g1 cur1 pv ps (k + 1) ((wr.alloc o).setCell ⟨g1, (pen ps k).1, none⟩ (pen ps k).2).drew := by
  obtain ⟨cur, hcs, hr, hkk⟩ := h
  have hr2 : DiskRep P (wr.alloc o).drew b _ g1 cur pv ps := hr.keepsB (B := wr.heap.size) (((Below.refl _ wr).alloc (Nat.le_refl _) o).drew_) (Nat.le_refl _)
  obtain ⟨l, hpk, hB⟩ := hr2.pen_at k hk
  have hpk' : E.pending[k]? = some ((pen ps k).1, l) := hpk
  have hpi := hE.pen _ (List.mem_of_getElem? hpk')
  refine ⟨cur.setIfInBounds (pen ps k).1 (pen ps k).2, by simpa using hcs, ?_, ?_⟩
  · have := hr2.setBlock (pen ps k).1 l (pen ps k).2 hB (by simpa [settleIf_length] using hpi.1)
    have e : settleIf f E.blocks E.pending (k + 1) = (settleIf f E.blocks E.pending k).set (pen ps k).1 l := by
      show (if f k then _ else _) = _
      rw [hf, if_pos rfl, hpk']
      rfl
    rw [e]
    exact this
  · exact ((hkk.alloc o).drew).trans (Keeps.set1 _ g1 _ _) (fun _ _ h => h)
theorem Crashing.done (h : Crashing P w1 b E f g1 cur1 pv ps ps.length wr) (hE : DskOk E) : ∃ S', DiskAt P ((((wr.setCell ⟨b, 1, none⟩ (.slice none 0 0)).setCell ⟨b, 2, none⟩ (.int .i64 0)).setCell ⟨b, 3, none⟩ (.bool false)).setCell ⟨b, 4, none⟩ (.int .i64 ((E.life : Int) + 1))) b (E.crash f) S' ∧ S' = [b, g1] ∧
    Keeps (fun i => i = b ∨ i = g1) w1 ((((wr.setCell ⟨b, 1, none⟩ (.slice none 0 0)).setCell ⟨b, 2, none⟩ (.int .i64 0)).setCell ⟨b, 3, none⟩ (.bool false)).setCell ⟨b, 4, none⟩ (.int .i64 ((E.life : Int) + 1))) := by
  obtain ⟨cur, hcs, hr, hkk⟩ := h
  have hpl := hr.pslen
  have hpl : ps.length = E.pending.length := hpl
  have k4 : Keeps (· = b) wr ((((wr.setCell ⟨b, 1, none⟩ (.slice none 0 0)).setCell ⟨b, 2, none⟩ (.int .i64 0)).setCell ⟨b, 3, none⟩ (.bool false)).setCell ⟨b, 4, none⟩ (.int .i64 ((E.life : Int) + 1))) :=
    (((Keeps.set1 _ b 1 _).trans (Keeps.set1 _ b 2 _) (fun _ _ h => h)).trans (Keeps.set1 _ b 3 _) (fun _ _ h => h)).trans (Keeps.set1 _ b 4 _) (fun _ _ h => h)
  have hU : ∀ g cs, g = b → P g → Blk wr g 5 cs → False := fun g cs hg _ hb => hr.noBytes g cs (by simp [hg]) hb
  refine ⟨_, ⟨⟨?_, fun p hp => by simp [Dsk.crash] at hp, by simpa [Dsk.crash, settleIf_length] using hE.some_, by simpa [Dsk.crash, settleIf_length] using hE.few, by simp [Dsk.crash]⟩, g1, cur, .slice none 0 0, [], rfl, ?_⟩, rfl, ?_⟩
  · exact settleIf_all f hE.blk (fun p hp => (hE.pen p hp).2) _ (Nat.le_refl _)
  · refine ⟨?_, hr.hg.keeps k4 (Ne.symm hr.ne1), by simpa [Dsk.crash, settleIf_length] using hr.le, fun i l hi => ?_, ⟨rfl, .inl ⟨rfl, rfl⟩⟩, rfl, fun i p hp => by simp [Dsk.crash] at hp, fun i hi => hr.fresh i (Nat.le_trans k4.size hi)⟩
    · have := (((hr.hb.set_ 1 (.slice none 0 0)).set_ 2 (.int .i64 0)).set_ 3 (.bool false)).set_ 4 (.int .i64 ((E.life : Int) + 1))
      simpa [Dsk.crash, settleIf_length] using this
    · have hi : (settleIf f E.blocks E.pending E.pending.length)[i]? = some l := hi
      rw [← hpl] at hi
      obtain ⟨v, hv, hB⟩ := hr.bl i l hi
      exact ⟨v, hv, hB.keeps k4 hU⟩
  · exact (hkk.weaken (F := fun i => i = b ∨ i = g1) (fun _ _ h => .inr h)).trans k4 (fun _ _ h => .inl h)
end
theorem arm_rep {P : Nat → Prop} {w : World} {b : Nat} {D : Dsk} {S : List Nat} (h : DiskAt P w b D S) {n : Int} (hn : n ≤ 9223372036854775807) {x : Int} (hx : x = (n.toNat : Int)) : After P w (w.setCell ⟨b, 2, none⟩ (.int .i64 x)) b (D.arm n) S := by
  subst hx
  obtain ⟨ho, g1, cur1, pv, ps, rfl, hr⟩ := h
  have k : Keeps (· = b) w (w.setCell ⟨b, 2, none⟩ (.int .i64 (n.toNat : Int))) := Keeps.set1 _ b 2 _
  have hU : ∀ g cs, g = b → P g → Blk w g 5 cs → False := fun g cs hg _ hb => hr.noBytes g cs (by simp [hg]) hb
  refine ⟨_, ⟨⟨ho.blk, ho.pen, ho.some_, ho.few, by simp [Dsk.arm]; omega⟩, g1, cur1, pv, ps, rfl, hr.hb.set_ 2 _, hr.hg.keeps k (Ne.symm hr.ne1), hr.le, fun i l hi => ?_, ownsRow_keeps hr.own k fun g hg e => hr.ne2 (by rw [hg, e]), hr.pb, fun i p hp => ?_, fun i hi => hr.fresh i (Nat.le_trans k.size hi)⟩, fun i hi => .inl hi, k.weaken fun i _ e => by simp [e]⟩
  · obtain ⟨v, hv, hB⟩ := hr.bl i l hi
    exact ⟨v, hv, hB.keeps k hU⟩
  · obtain ⟨v, hv, hB⟩ := hr.pl i p hp
    exact ⟨v, hv, hB.keeps k hU⟩

end Go.Proofs.YtbgiklkpinflaaaGreat.Ref

namespace Go.Proofs.YtbgiklkpinflaaaGreat.Ref
open Go.RowKit Go.Shelf
open Go.Proofs.YtbgiklkpinflaaaGreat hiding DiskRep DiskAt After PenSlice Settling Crashing
attribute [local go_sem ↓] Go.wp_at_zero Go.wp_at_succ

set_option maxRecDepth 100000 in
set_option maxHeartbeats 1000000 in
theorem newDisk_bad (n : Int) (w : World) (h : n < 4 ∨ 1024 < n) :
    Calls Tryz.prog 41 #[.int .i64 n] w fun e w' => e = .returned (.tuple #[.pointer none, .int .i64 2]) ∧ w = w' := by
  by_cases h1 : n < 4
  all_goals
    first
      | (have h2 : decide (n < 4) = true := by simpa using h1)
      | (have h2 : decide (n < 4) = false := by simpa using h1
         have h3 : decide (1024 < n) = true := by simp; omega)
    go_enter Tryz.func41, Tryz.ntmps41
    go_wp2
    go_ret2
    exact ⟨rfl, rfl⟩

theorem grown_drew {a b : World} {row : Option Nat} (h : a.grownBy b row) : a.drew.grownBy b row := ⟨h.os, h.tape, h.output, h.size, h.block⟩

set_option maxRecDepth 100000 in
set_option maxHeartbeats 2000000 in
theorem newDisk_good (P : Nat → Prop) (n : Nat) (w : World) (h1 : 4 ≤ n) (h2 : n ≤ 1024) (hP : ∀ k, w.heap.size ≤ k → P k) :
    Calls Tryz.prog 41 #[.int .i64 (n : Int)] w fun e w' => e = .returned (.tuple #[.pointer (some ⟨w.heap.size, 0, none⟩), .int .i64 0]) ∧ (∃ S, DiskAt P w' w.heap.size (Dsk.new n) S ∧ ∀ k ∈ S, w.heap.size ≤ k) ∧ Below w.heap.size w w' := by
  have t1 : decide ((n : Int) < 4) = false := by simp; omega
  have t2 : decide ((1024 : Int) < n) = false := by simp; omega
  obtain ⟨iw, hiw, hz0, hz1, hz2⟩ := info_parts Tryz.infoBytes
  have hmk := Tryz.make256
  go_enter Tryz.func41, Tryz.ntmps41
  go_wp2
  go_loopw [5, 15] (fun _ i wr => ∃ k : Nat, k ≤ n ∧ i = .int .i64 k ∧ Making w k wr) (fun _ i _ => n - (intOf i).toNat)
  case atStart => exact ⟨0, Nat.zero_le _, rfl, .slice none 0 0, [], Blk.new _ _ _, ⟨rfl, .inl ⟨rfl, rfl⟩⟩, by simp, (Below.refl _ _).alloc (Nat.le_refl _) _⟩
  case round =>
    obtain ⟨k, hk, rfl, hM⟩ := hrel
    by_cases hlt : k < n
    · obtain ⟨sv, xs, hb, hown, hxs, hbel⟩ := hM
      obtain ⟨A, c, rfl, _⟩ := own_slice hown
      have c0 := hb.cell 0
      have f0 := hb.frozen 0
      have hsz0 := hb.lt
      have hne : (Value.slice A k c).ownBlock ≠ some w.heap.size := own_blk_ne hown hb (by decide)
      have HBB := Lib.hid hb
      have c0a : ∀ o, (wr.alloc o).cell? ⟨w.heap.size, 0, none⟩ = some (.slice A k c) := fun o => (HBB.out.alloc o).cell 0
      have HXS := Lib.hid hxs
      clear hxs hb
      go_wp2_with (at_builtin; refine wpList_append_lies _ rfl _ _ 91 rfl (w.heap.size + 1) 89 iw (.slice none 0 0) 1 24 Tryz.underlying91 hiw hz0 hz1 hz2 rfl (by decide) _ _ _ rfl ((hown.alloc _).alloc _) ⟨wr.heap.size + 1, 0, none⟩ 1 1 [.slice (some ⟨wr.heap.size, 0, none⟩) 256 256] rfl rfl ?c1 ?c2 (by decide) ?c3 ?c4 ?c5 (wr.heap.size + 2) ?c8 ?_)
      case c1 =>
        have := cell_one_new (wr.alloc (.cells zcells 5)) (.slice (some ⟨wr.heap.size, 0, none⟩) 256 256) 89
        rw [World.size_alloc] at this
        exact this
      case c2 => simp [Value.oneCell']
      case c3 => unfold maxLen; omega
      case c4 => omega
      case c5 => simp; omega
      case c8 => simp
      intro gg cap2 w3 hown3 hgrow hat hlt3
      have B3 := Blk.grown ((HBB.out.alloc _).alloc _) hgrow hne
      have hc3 : w3.cell? ⟨w.heap.size, 0, none⟩ = some (.slice A k c) := B3.cell 0
      have hf3 := B3.frozen 0
      go_wp2
      go_roundw
      case rel => exact ⟨k + 1, by omega, by go_num, making_step HBB.out hown HXS.out hbel hown3 (grown_drew hgrow) hat⟩
      case measure => simp [intOf]; omega
    · obtain rfl : k = n := by omega
      go_wp2
      go_ret2
      refine ⟨rfl, making_end hP (by omega) h2 hM, ?_⟩
      obtain ⟨_, _, _, _, _, hbel⟩ := hM
      exact hbel

set_option maxRecDepth 100000 in
set_option maxHeartbeats 1000000 in
theorem fails_zero (b : Nat) (w : World) (h2 : w.cell? ⟨b, 2, none⟩ = some (.int .i64 0)) :
    Calls Tryz.prog 127 #[.pointer (some ⟨b, 0, none⟩)] w fun e w' => e = .returned (.bool false) ∧ w = w' := by
  go_enter Tryz.func127, Tryz.ntmps127
  go_wp2
  go_ret
  exact ⟨rfl, rfl⟩

set_option maxRecDepth 100000 in
set_option maxHeartbeats 1000000 in
theorem fails_later (b : Nat) (n : Int) (w : World) (h2 : w.cell? ⟨b, 2, none⟩ = some (.int .i64 n)) (f2 : w.frozen? ⟨b, 2, none⟩ = false) (h3 : w.cell? ⟨b, 3, none⟩ = some (.bool false)) (h : 2 ≤ n) (hb : n ≤ 9223372036854775807) :
    Calls Tryz.prog 127 #[.pointer (some ⟨b, 0, none⟩)] w fun e w' => e = .returned (.bool false) ∧ w' = w.setCell ⟨b, 2, none⟩ (.int .i64 (n - 1)) := by
  have t0 : (n == 0) = false := by rw [beq_eq_false_iff_ne]; omega
  have t1 : (n - 1 == 0) = false := by rw [beq_eq_false_iff_ne]; omega
  go_enter Tryz.func127, Tryz.ntmps127
  go_wp2
  go_ret
  exact ⟨rfl, rfl⟩

set_option maxRecDepth 100000 in
set_option maxHeartbeats 1000000 in
theorem fails_one (b : Nat) (k : Int) (dn : Bool) (w : World) (h2 : w.cell? ⟨b, 2, none⟩ = some (.int .i64 1)) (f2 : w.frozen? ⟨b, 2, none⟩ = false) (h3 : w.cell? ⟨b, 3, none⟩ = some (.bool dn)) (f3 : w.frozen? ⟨b, 3, none⟩ = false) (h4 : w.cell? ⟨b, 4, none⟩ = some (.int .i64 k)) (f4 : w.frozen? ⟨b, 4, none⟩ = false) (hk : 0 ≤ k) (hb : k ≤ 4611686018427387904) :
    Calls Tryz.prog 127 #[.pointer (some ⟨b, 0, none⟩)] w fun e w' => e = .returned (.bool true) ∧ w' = ((w.setCell ⟨b, 2, none⟩ (.int .i64 0)).setCell ⟨b, 3, none⟩ (.bool true)).setCell ⟨b, 4, none⟩ (.int .i64 (k + 1)) := by
  go_enter Tryz.func127, Tryz.ntmps127
  go_wp2
  go_ret
  exact ⟨rfl, rfl⟩

/-- Only the armed, down and life cells turn. -/
theorem fails_calls {P : Nat → Prop} {w : World} {b : Nat} {D : Dsk} {g1 : Nat} {cur1 : Array Value} {pv : Value} {ps : List (Nat × Value)} (h : DiskRep P w b D g1 cur1 pv ps) (ho : DskOk D) (hl : D.life ≤ 4611686018427387904) (hd : D.down = false) :
    Calls Tryz.prog 127 #[.pointer (some ⟨b, 0, none⟩)] w fun e w' => e = .returned (.bool D.fails.1) ∧ DiskRep P w' b D.fails.2 g1 cur1 pv ps ∧ Keeps (· = b) w w' := by
  have hU : ∀ g cs, g = b → P g → Blk w g 5 cs → False := fun g cs hg _ hk => h.noBytes g cs (by simp [hg]) hk
  have kb1 : ∀ u, Keeps (· = b) w (w.setCell ⟨b, 2, none⟩ u) := fun u => (Keeps.refl (· = b) w).setCell (p := ⟨b, 2, none⟩) (fun _ => rfl) u
  have kb3 : ∀ u v x, Keeps (· = b) w (((w.setCell ⟨b, 2, none⟩ u).setCell ⟨b, 3, none⟩ v).setCell ⟨b, 4, none⟩ x) := fun u v x => ((kb1 u).setCell (p := ⟨b, 3, none⟩) (fun _ => rfl) v).setCell (p := ⟨b, 4, none⟩) (fun _ => rfl) x
  have stay : ∀ w' (E : Dsk) cs, Keeps (· = b) w w' → Blk w' b 149 cs → cs = #[.slice (some ⟨g1, 0, none⟩) D.blocks.length cur1.size, pv, .int .i64 (E.armed : Int), .bool E.down, .int .i64 (E.life : Int)] → E.blocks = D.blocks → E.pending = D.pending → DiskRep P w' b E g1 cur1 pv ps := by
    intro w' E cs k hb hcs e1 e2
    subst hcs
    exact ⟨by rw [e1]; exact hb, h.hg.keeps k (Ne.symm h.ne1), by rw [e1]; exact h.le, fun i l hi => by
      rw [e1] at hi
      obtain ⟨v, hv, hB⟩ := h.bl i l hi
      exact ⟨v, hv, hB.keeps k hU⟩, by
      rw [e2]
      exact ownsRow_keeps h.own k fun g hg e => h.ne2 (by rw [hg, e]), by rw [e2]; exact h.pb, fun i p hp => by
      rw [e2] at hp
      obtain ⟨v, hv, hB⟩ := h.pl i p hp
      exact ⟨v, hv, hB.keeps k hU⟩, fun i hi => h.fresh i (Nat.le_trans k.size hi)⟩
  rcases Nat.lt_trichotomy D.armed 1 with h0 | h1 | h2
  · have h0 : D.armed = 0 := by omega
    have c2 := h.c2
    rw [h0] at c2
    refine (fails_zero b w c2).mono ?_
    rintro e w' ⟨rfl, rfl⟩
    have e1 : D.fails = (false, D) := by simp [Dsk.fails, h0]
    rw [e1]
    exact ⟨rfl, h, Keeps.refl _ _⟩
  · have c2 := h.c2
    rw [h1] at c2
    refine (fails_one b _ _ w c2 (h.hb.frozen 2) h.c3 (h.hb.frozen 3) h.c4 (h.hb.frozen 4) (by omega) (by omega)).mono ?_
    rintro e w' ⟨rfl, rfl⟩
    have e1 : D.fails = (true, { D with armed := 0, down := true, life := D.life + 1 }) := by simp [Dsk.fails, h1]
    rw [e1]
    refine ⟨rfl, stay _ _ _ (kb3 _ _ _) (((h.hb.set_ 2 _).set_ 3 _).set_ 4 _) ?_ rfl rfl, ?_⟩
    · simp
    · exact kb3 _ _ _
  · have c3 := h.c3
    rw [hd] at c3
    refine (fails_later b _ w h.c2 (h.hb.frozen 2) c3 (by omega) (by have := ho.armedLe; omega)).mono ?_
    rintro e w' ⟨rfl, rfl⟩
    have e1 : D.fails = (false, { D with armed := D.armed - 1 }) := by
      unfold Dsk.fails
      rw [if_neg (by omega), if_neg (by omega)]
    rw [e1]
    refine ⟨rfl, stay _ _ _ (kb1 _) (h.hb.set_ 2 _) ?_ rfl rfl, kb1 _⟩
    have : ((D.armed - 1 : Nat) : Int) = (D.armed : Int) - 1 := by omega
    simp [this]

end Go.Proofs.YtbgiklkpinflaaaGreat.Ref

namespace Go.Proofs.YtbgiklkpinflaaaGreat.Ref
open Go.RowKit Go.Shelf
open Go.Proofs.YtbgiklkpinflaaaGreat hiding DiskRep DiskAt After PenSlice Settling Crashing
attribute [local go_sem ↓] Go.wp_at_zero Go.wp_at_succ

set_option maxRecDepth 100000 in
set_option maxHeartbeats 1000000 in
theorem read_down (b : Nat) (i : Int) (w : World) (h3 : w.cell? ⟨b, 3, none⟩ = some (.bool true)) :
    Calls Tryz.prog 92 #[.pointer (some ⟨b, 0, none⟩), .int .i64 i] w (ReadPost w (50, [])) := by
  go_enter Tryz.func92, Tryz.ntmps92
  go_wp2
  go_ret2
  exact ⟨_, rfl, .inl ⟨rfl, rfl⟩, Below.refl _ _⟩
set_option maxRecDepth 100000 in
set_option maxHeartbeats 1000000 in
theorem read_bad (b n c : Nat) (A : Option Addr) (i : Int) (w : World) (h0 : w.cell? ⟨b, 0, none⟩ = some (.slice A n c)) (h3 : w.cell? ⟨b, 3, none⟩ = some (.bool false)) (hbad : i < 0 ∨ (n : Int) ≤ i) :
    Calls Tryz.prog 92 #[.pointer (some ⟨b, 0, none⟩), .int .i64 i] w (ReadPost w (51, [])) := by
  by_cases hi : i < 0
  all_goals
    first
      | (have h1 : decide (i < 0) = true := by simpa using hi)
      | (have h1 : decide (i < 0) = false := by simpa using hi
         have h2 : decide ((n : Int) ≤ i) = true := by simp; omega)
    clear hbad
    go_enter Tryz.func92, Tryz.ntmps92
    go_wp2
    go_ret2
    exact ⟨_, rfl, .inl ⟨rfl, rfl⟩, Below.refl _ _⟩

theorem empty_own (w : World) : (w.alloc (.cells #[] 5)).ownsRow w.heap.size 5 1 (.slice (some ⟨w.heap.size, 0, none⟩) 0 0) 0 [] :=
  own_of_blk (Blk.new w _ _) (Nat.le_refl _) (Nat.le_refl _) (Nat.zero_le _) rfl rfl
theorem own_bytes {w : World} {base n : Nat} {v : Value} {l : List UInt8} (h : w.ownsRow base 5 1 v n (l.map bv)) (hl : 0 < l.length) : BytesAt (base ≤ ·) w v l := by
  refine BytesAt.of_own h fun e => ?_
  obtain ⟨h1, h2⟩ := h
  rw [e] at h2
  have hn : l.length = n := by simpa using h1
  rcases h2 with ⟨_, h0⟩ | ⟨g, cap, cur, h3, _⟩
  · omega
  · cases h3
theorem cells_add {w : World} {g : Nat} {xs : List Value} (h : Cells w g 0 xs) : ∀ (j : Nat) (u : Value), xs[j]? = some u → w.cell? ((⟨g, 0, none⟩ : Addr).add j) = some u := by
  intro j u hj
  have e : (⟨g, 0, none⟩ : Addr).add j = ⟨g, 0 + j, none⟩ := by unfold Addr.add; split <;> simp_all
  rw [e]
  exact h j u hj
/-- What is read, with k of the writes looked at. -/
def seeTo (D : Dsk) (i k : Nat) : List UInt8 := (seeIn (D.pending.take k) i).getD (D.blocks[i]?.getD [])
theorem seeTo_all (D : Dsk) (i : Nat) {k : Nat} (h : D.pending.length ≤ k) : seeTo D i k = D.see i := by
  unfold seeTo
  rw [List.take_of_length_le h]
  rfl
theorem seeTo_next (D : Dsk) (i : Nat) {k : Nat} {p : Nat × List UInt8} (h : D.pending[k]? = some p) : seeTo D i (k + 1) = if p.1 = i then p.2 else seeTo D i k := by
  obtain ⟨hk, rfl⟩ := List.getElem?_eq_some_iff.1 h
  unfold seeTo
  rw [List.take_succ_eq_append_getElem hk, seeIn_append, seeIn_one]
  by_cases e : D.pending[k].1 = i
  · rw [if_pos e, if_pos e]
    rfl
  · rw [if_neg e, if_neg e]
    rfl

set_option maxRecDepth 100000 in
set_option maxHeartbeats 2000000 in
theorem read_good {P : Nat → Prop} {b : Nat} {D : Dsk} {g1 : Nat} {cur1 : Array Value} {pv : Value} {ps : List (Nat × Value)} (w : World) (h : DiskRep P w b D g1 cur1 pv ps) (ho : DskOk D) (hd : D.down = false)
    (i : Nat) (hi : i < D.blocks.length) (hn : D.pending.length ≤ 1000000000) :
    Calls Tryz.prog 92 #[.pointer (some ⟨b, 0, none⟩), .int .i64 (i : Int)] w (ReadPost w (0, D.see i)) := by
  have h0 := h.c0
  have h1 := h.c1
  have h3 := h.c3
  rw [hd] at h3
  have hs := ho.some_
  have hf := ho.few
  have t1 : decide ((i : Int) < 0) = false := by simp
  have t2 : decide ((D.blocks.length : Int) ≤ (i : Int)) = false := by simpa using hi
  obtain ⟨v0, hv0, hB0⟩ := h.bl i _ (List.getElem?_eq_getElem hi)
  have q0 : w.cell? ⟨g1, i, none⟩ = some v0 := (h.hg.cell i).trans hv0
  obtain ⟨A1, c1, rfl, hp1⟩ := PenSlice.of_own h.own h.pslen
  have hpl := h.pslen
  have hps : ps.length ≤ 1000000000 := by omega
  have HR := Lib.hid h
  have HO := Lib.hid ho
  have HP := Lib.hid hp1
  have HB0 : Hid (BytesAt P w v0 (seeTo D i 0)) := by
    show BytesAt P w v0 _
    have e : seeTo D i 0 = D.blocks[i] := by
      unfold seeTo
      rw [List.take_zero, List.getElem?_eq_getElem hi]
      rfl
    rw [e]
    exact hB0
  clear hp1 hB0 hv0 h ho
  go_enter Tryz.func92, Tryz.ntmps92
  go_wp2
  go_loopw [6, 8, 36] (fun v _ x wr => ∃ k : Nat, k ≤ ps.length ∧ x = .int .i64 k ∧ BytesAt P wr v (seeTo D i k) ∧ Below w.heap.size w wr) (fun _ _ x _ => ps.length - (intOf x).toNat)
  case atStart => exact ⟨0, Nat.zero_le _, rfl, HB0.out, Below.refl _ _⟩
  case round =>
    obtain ⟨k, hk, rfl, hBk, hbel⟩ := hrel
    by_cases hlt : k < ps.length
    · have hr := HR.out.keepsB hbel (Nat.le_refl _)
      obtain ⟨l, hpk, hB⟩ := hr.pen_at k hlt
      obtain ⟨A2, c2, hA2, hp2⟩ := PenSlice.of_own hr.own hr.pslen
      obtain ⟨gp, rfl, _, hp3⟩ := hp2 (by omega)
      cases hA2
      obtain ⟨q1, q2⟩ := hp3 k hlt
      obtain ⟨gx, cx, _, hvx, _⟩ := id hB
      have HX := Lib.hid hvx
      rw [hvx] at q2
      have tk : decide ((k : Int) < (ps.length : Int)) = true := by simp; omega
      have hnx := seeTo_next D i hpk
      have HBl := Lib.hid hbel
      have hbv := fun o => hBk.below_ ((Below.refl _ wr).alloc (Nat.le_refl _) o)
      rw [hvx] at hB
      have hBl := fun o => hB.below_ ((Below.refl _ wr).alloc (Nat.le_refl _) o)
      have HBV := Lib.hid hbv
      have HBL := Lib.hid hBl
      clear hbv hBl hB hBk hbel hr hp3 hvx hp2
      by_cases he : (pen ps k).1 = i
      · rw [if_pos he] at hnx
        have te : (((pen ps k).1 : Int) == (i : Int)) = true := by simp [he]
        have HNX := Lib.hid hnx
        have HPK := Lib.hid hpk
        clear hnx hpk
        go_wp2
        go_roundw
        case rel => exact ⟨k + 1, by omega, by go_num, by rw [HNX.out]; exact HBL.out _, HBl.out.alloc HBl.out.size _⟩
        case measure => simp [intOf]; omega
      · rw [if_neg he] at hnx
        have te : (((pen ps k).1 : Int) == (i : Int)) = false := by rw [beq_eq_false_iff_ne]; omega
        have HNX := Lib.hid hnx
        have HPK := Lib.hid hpk
        clear hnx hpk
        go_wp2
        go_roundw
        case rel => exact ⟨k + 1, by omega, by go_num, by rw [HNX.out]; exact HBV.out _, HBl.out.alloc HBl.out.size _⟩
        case measure => simp [intOf]; omega
    · obtain rfl : k = ps.length := by omega
      have tk : decide ((ps.length : Int) < ps.length) = false := by simp
      rw [seeTo_all D i (by omega)] at hBk
      have hl := D.see_length HO.out hi
      obtain ⟨gv, cv, cur, rfl, hcv, _, hbv, hcl⟩ := hBk.cells
      have hc3 : Cells (wr.alloc (.cells #[] 5)) gv 0 ((D.see i).map bv) := Cells.keeps hcl (F := fun _ => False) ((Keeps.refl _ wr).alloc _) id
      obtain ⟨l, hle⟩ : ∃ l, l = D.see i := ⟨_, rfl⟩
      rw [← hle] at hl hc3 hcv ⊢
      have HC3 : Hid (∀ (j : Nat) (u : Value), (l.map bv)[j]? = some u → (wr.alloc (.cells #[] 5)).cell? ((⟨gv, 0, none⟩ : Addr).add j) = some u) := cells_add hc3
      have HBl := Lib.hid hbel
      have hlm : (l.map bv).length = l.length * 1 := by simp
      have HLM := Lib.hid hlm
      have HLE := Lib.hid hle
      clear hc3 hbel hBk hcl hbv hle hlm
      have hown := empty_own wr
      obtain ⟨iu, hiu, hz0, hz1, hz2⟩ := info_parts Tryz.infoU8
      go_wp2_with (at_builtin; refine wpList_append_own _ rfl _ _ 89 rfl wr.heap.size 5 iu (.int .u8 0) 1 1 Tryz.underlying89 hiu hz0 hz1 hz2 rfl (by decide) _ _ _ rfl hown ⟨gv, 0, none⟩ l.length cv (l.map bv) rfl HLM.out HC3.out (oneCell_bv _) ?c1 ?c2 ?c3 ?_)
      case c1 => unfold maxLen; omega
      case c2 => omega
      case c3 => simp
      intro v' w8 hown8 hg8 _
      go_wp2
      go_ret2
      rw [← HLE.out]
      refine ⟨_, rfl, .inr ((own_bytes (l := l) (by simpa using hown8) (by omega)).mono fun g hg => Nat.le_trans HBl.out.size hg), ?_⟩
      refine (HBl.out.alloc HBl.out.size _).grown hg8 (Nat.le_trans HBl.out.size (by simp)) fun k hk => ?_
      have hk : wr.heap.size = k := by simpa [Value.ownBlock] using hk
      rw [← hk]
      exact HBl.out.size

end Go.Proofs.YtbgiklkpinflaaaGreat.Ref

namespace Go.Proofs.YtbgiklkpinflaaaGreat.Ref
open Go.RowKit Go.Shelf
open Go.Proofs.YtbgiklkpinflaaaGreat hiding DiskRep DiskAt After PenSlice Settling Crashing
attribute [local go_sem ↓] Go.wp_at_zero Go.wp_at_succ

theorem read_any {P : Nat → Prop} {b : Nat} {D : Dsk} {S : List Nat} (w : World) (h : DiskAt P w b D S) (hn : D.pending.length ≤ 1000000000) (i : Int) :
    Calls Tryz.prog 92 #[.pointer (some ⟨b, 0, none⟩), .int .i64 i] w (ReadPost w (D.read i)) := by
  obtain ⟨ho, g1, cur1, pv, ps, rfl, hr⟩ := h
  have h3 := hr.c3
  cases hd : D.down
  · rw [hd] at h3
    by_cases hi : i < 0 ∨ (D.blocks.length : Int) ≤ i
    · have e : D.read i = (51, []) := by unfold Dsk.read; rw [hd, if_neg (by simp), if_pos hi]
      rw [e]
      exact read_bad b _ _ _ i w hr.c0 h3 hi
    · have e : D.read i = (0, D.see i.toNat) := by unfold Dsk.read; rw [hd, if_neg (by simp), if_neg hi]
      rw [e]
      obtain ⟨k, rfl⟩ : ∃ k : Nat, i = (k : Int) := ⟨i.toNat, by omega⟩
      exact read_good w hr ho hd k (by omega) hn
  · rw [hd] at h3
    have e : D.read i = (50, []) := by unfold Dsk.read; rw [hd, if_pos rfl]
    rw [e]
    exact read_down b i w h3

theorem Tryz.infoNote : (Tryz.prog.info? 178).map (fun i => (i.zero, i.size, i.bytes)) = some (some (.agg #[.int .i64 0, .slice none 0 0]), 2, 32) := by kernel_rfl

set_option maxRecDepth 100000 in
set_option maxHeartbeats 1000000 in
theorem write_down (b : Nat) (i : Int) (v : Value) (w : World) (h3 : w.cell? ⟨b, 3, none⟩ = some (.bool true)) :
    Calls Tryz.prog 90 #[.pointer (some ⟨b, 0, none⟩), .int .i64 i, v] w fun e w' => e = .returned (.int .i64 50) ∧ w = w' := by
  go_enter Tryz.func90, Tryz.ntmps90
  go_wp2
  go_ret
  exact ⟨rfl, rfl⟩

set_option maxRecDepth 100000 in
set_option maxHeartbeats 1000000 in
theorem write_bad (b n c m k : Nat) (A B : Option Addr) (i : Int) (w : World) (h0 : w.cell? ⟨b, 0, none⟩ = some (.slice A n c)) (h3 : w.cell? ⟨b, 3, none⟩ = some (.bool false))
    (hbad : i < 0 ∨ (n : Int) ≤ i ∨ m ≠ 256) :
    Calls Tryz.prog 90 #[.pointer (some ⟨b, 0, none⟩), .int .i64 i, .slice B m k] w fun e w' => e = .returned (.int .i64 51) ∧ w = w' := by
  by_cases hi : i < 0
  · have hi' : decide (i < 0) = true := by simpa using hi
    clear hbad
    go_enter Tryz.func90, Tryz.ntmps90
    go_wp2
    go_ret
    exact ⟨rfl, rfl⟩
  · by_cases hj : (n : Int) ≤ i
    · have hi' : decide (i < 0) = false := by simpa using hi
      have hj' : decide ((n : Int) ≤ i) = true := by simpa using hj
      clear hbad
      go_enter Tryz.func90, Tryz.ntmps90
      go_wp2
      go_ret
      exact ⟨rfl, rfl⟩
    · have hi' : decide (i < 0) = false := by simpa using hi
      have hj' : decide ((n : Int) ≤ i) = false := by simpa using hj
      have hk : ((m : Int) != 256) = true := by rw [bne_iff_ne]; omega
      clear hbad
      go_enter Tryz.func90, Tryz.ntmps90
      go_wp2
      go_ret
      exact ⟨rfl, rfl⟩

theorem note_keeps {w1 w2 : World} {o : Obj} (h : (w1.drew.alloc o).grownBy w2 (some w1.heap.size)) : Keeps (fun _ => False) w1 w2 :=
  (((Keeps.refl (fun _ => False) w1).drew).alloc o).grown h fun g e hg => by
    injection e with e
    omega
set_option maxHeartbeats 4000000 in
set_option maxRecDepth 100000 in
/-- The write is noted, unless the call is the one that fails. -/
theorem write_good {P : Nat → Prop} {b : Nat} {D : Dsk} {g1 : Nat} {cur1 : Array Value} {pv : Value} {ps : List (Nat × Value)} (w : World) (h : DiskRep P w b D g1 cur1 pv ps) (ho : DskOk D) (hl : D.life ≤ 4611686018427387904) (hd : D.down = false)
    (i : Nat) (hi : i < D.blocks.length) (hn : D.pending.length ≤ 1000000000) (gb cb : Nat) (l : List UInt8) (hb : l.length = 256) (hc : Cells w gb 0 (l.map bv)) (hgb : gb ≠ b) :
    Calls Tryz.prog 90 #[.pointer (some ⟨b, 0, none⟩), .int .i64 (i : Int), .slice (some ⟨gb, 0, none⟩) 256 cb] w fun e w' =>
      e = .returned (.int .i64 (D.write i l).1) ∧ After P w w' b (D.write i l).2 (b :: g1 :: pv.ownBlock.toList) := by
  have hf := ho.few
  have hs := ho.some_
  have h0 := h.c0
  have h3 := h.c3
  rw [hd] at h3
  have i0 : decide ((i : Int) < 0) = false := by simp
  have i1 : decide ((D.blocks.length : Int) ≤ (i : Int)) = false := by simpa using hi
  have HF := Lib.hid (fails_calls h ho hl hd)
  have HE : Hid (D.write i l = if D.fails.1 then (50, D.fails.2) else (0, { D.fails.2 with pending := D.fails.2.pending ++ [(i, l)] })) := by
    show D.write i l = _
    unfold Dsk.write
    rw [hd, if_neg (by simp), if_neg (by simp; omega)]
    simp
  have h256 : (((256 : Nat) : Int) != 256) = false := by decide
  have HC : Hid (Cells w gb 0 (l.map bv)) := hc
  clear hc
  obtain ⟨iw, hiw, hz0, hz1, hz2⟩ := info_parts Tryz.infoNote
  obtain ⟨iu, hiu, uz0, uz1, uz2⟩ := info_parts Tryz.infoU8
  cases hff : D.fails.1
  · rw [hff] at HF HE
    simp only [Bool.false_eq_true, if_false] at HE
    go_enter Tryz.func90, Tryz.ntmps90
    go_wp2_with (go_at_call 127; refine HF.out.mono ?_; rintro e w1 ⟨rfl, hr1, hk1⟩; clear HF)
    have h1 := hr1.c1
    have f1 := hr1.hb.frozen 1
    have hbl := hr1.hb.lt
    have HC1 : Hid (Cells w1 gb 0 (l.map bv)) := HC.out.keeps hk1 hgb
    have hpl : D.fails.2.pending = D.pending := by unfold Dsk.fails; split; rfl; split <;> rfl
    have HP := Lib.hid hpl
    have hbk : D.fails.2.blocks = D.blocks := by unfold Dsk.fails; split; rfl; split <;> rfl
    have HBk := Lib.hid hbk
    clear hbk
    clear hpl
    have hn1 : D.fails.2.pending.length ≤ 1000000000 := by rw [HP.out]; exact hn
    have HR := Lib.hid hr1
    clear hr1
    have HL := Lib.hid hb
    clear hb
    have hlm : (l.map bv).length = 256 * 1 := by rw [List.length_map, HL.out]
    have HLM := Lib.hid hlm
    clear hlm
    have HCA : Hid (∀ (j : Nat) (u : Value), (l.map bv)[j]? = some u → (w1.drew.alloc (.cells #[] 5)).cell? ((⟨gb, 0, none⟩ : Addr).add j) = some u) := cells_add (Cells.keeps HC1.out (F := fun _ => False) ((Keeps.refl _ w1).drew.alloc _) id)
    have HCB : Hid (∀ o, (w1.drew.alloc o).cell? ⟨b, 1, none⟩ = some pv) := fun o => (Blk.alloc HR.out.hb.drew o).cell 1
    have hcb := HCB.out
    have hbo : (Value.slice (some ⟨w1.heap.size, 0, none⟩) 0 0).ownBlock ≠ some b := by
      intro e
      have e : w1.heap.size = b := by simpa [Value.ownBlock] using e
      omega
    go_region_law
      (first
        | (refine step_append_lies _ (by rfl) _ _ _ (by rfl) w1.heap.size 5 iu _ 1 1 Tryz.underlying89 hiu uz0 uz1 uz2 rfl (by omega) (.slice (some ⟨w1.heap.size, 0, none⟩) 0 0) 0 [] (by rfl) (empty_own w1.drew)
            ⟨gb, 0, none⟩ 256 cb (l.map bv) (by rfl) HLM.out HCA.out (oneCell_bv _)
            (by omega) (by unfold maxLen; omega) (by omega) (by simp) (w1.heap.size + 1) (by simp) ?_; intro g2 cap w2 hown2 hgrow2 hat2 hlt2; have B2 := Blk.grown (Blk.alloc HR.out.hb.drew _) hgrow2 hbo; have hc2 : w2.cell? ⟨b, 1, none⟩ = some pv := B2.cell 1; have hc2a : ∀ o, (w2.alloc o).cell? ⟨b, 1, none⟩ = some pv := fun o => (B2.alloc o).cell 1; have hf2 := B2.frozen 1; have HKW : Hid (Keeps (fun _ => False) w1 w2) := note_keeps hgrow2)
        | (refine step_append_lies _ (by rfl) _ _ _ (by rfl) 0 178 iw _ 2 32 Tryz.underlying147 hiw hz0 hz1 hz2 rfl (by omega) pv D.fails.2.pending.length (penCells ps) (by rfl) (((ownsRow_keeps HR.out.own HKW.out (fun _ _ h => h)).alloc _).drew)
            ⟨w2.heap.size, 0, none⟩ 1 1 [.int .i64 (i : Int), .slice (some ⟨g2, 0, none⟩) (0 + 256) cap] (by rfl) (by rfl) (World.news_of_block (cs := #[.int .i64 (i : Int), .slice (some ⟨g2, 0, none⟩) (0 + 256) cap]) (t := 178) (fr := (0, 0)) (heap_alloc_new _ _)) (by simp [Value.oneCell'])
            (by omega) (by unfold maxLen; omega) (by omega) (by omega) (w2.heap.size + 1) (by simp) ?_; intro gg cap2 w3 hown3 hgrow hat hlt3; have B3 := (B2.alloc _).grown hgrow HR.out.ne2; have hc3 := (B3.at1 1 _ rfl).1; have hf3 := B3.frozen 1))
    all_goals
      have HB2 := Lib.hid ((own_bytes (l := l) (by simpa using hown2) (by rw [HL.out]; decide)).mono HR.out.fresh)
      have HW3 := Lib.hid hown3
      have HG3 := Lib.hid hgrow
      have HT3 := Lib.hid hat
      clear hown2 hgrow2 hat2 hown3 hgrow hat
      go_wp2
      go_ret
      rw [HE.out]
      exact ⟨rfl, write_after HR.out ho.fails hk1 HKW.out HB2.out HL.out (by rw [HBk.out]; exact hi) HW3.out ⟨HG3.out.os, HG3.out.tape, HG3.out.output, HG3.out.size, HG3.out.block⟩ HT3.out⟩
  · rw [hff] at HF HE
    simp only [if_true] at HE
    go_enter Tryz.func90, Tryz.ntmps90
    go_wp2_with (go_at_call 127; refine HF.out.mono ?_; rintro e w1 ⟨rfl, hr1, hk1⟩; clear HF)
    go_ret
    rw [HE.out]
    refine ⟨rfl, b :: g1 :: pv.ownBlock.toList, ⟨ho.fails, g1, cur1, pv, ps, rfl, hr1⟩, fun k hk => .inl hk, hk1.weaken ?_⟩
    intro k _ e
    simp [e]

theorem write_any {P Q : Nat → Prop} {b : Nat} {D : Dsk} {S : List Nat} (w : World) (h : DiskAt P w b D S) (hl : D.life ≤ 4611686018427387904) (hn : D.pending.length ≤ 1000000000) (i : Int) (v : Value) (l : List UInt8) (hv : BytesAt Q w v l) :
    Calls Tryz.prog 90 #[.pointer (some ⟨b, 0, none⟩), .int .i64 i, v] w fun e w' => e = .returned (.int .i64 (D.write i l).1) ∧ After P w w' b (D.write i l).2 S := by
  obtain ⟨ho, g1, cur1, pv, ps, rfl, hr⟩ := h
  have hD : DiskAt P w b D (b :: g1 :: pv.ownBlock.toList) := ⟨ho, g1, cur1, pv, ps, rfl, hr⟩
  have h3 := hr.c3
  cases hd : D.down
  · rw [hd] at h3
    obtain ⟨gb, cb, cur, rfl, _, _, hbk, hc⟩ := hv.cells
    by_cases hbad : i < 0 ∨ (D.blocks.length : Int) ≤ i ∨ l.length ≠ 256
    · have e : D.write i l = (51, D) := by unfold Dsk.write; rw [hd, if_neg (by simp), if_pos hbad]
      rw [e]
      refine (write_bad b _ _ l.length cb _ _ i w hr.c0 h3 hbad).mono ?_
      rintro e w' ⟨rfl, rfl⟩
      exact ⟨rfl, After.refl hD⟩
    · obtain ⟨k, rfl⟩ : ∃ k : Nat, i = (k : Int) := ⟨i.toNat, by omega⟩
      have hl2 : l.length = 256 := by omega
      rw [hl2]
      exact write_good w hr ho hl hd k (by omega) hn gb cb l hl2 hc (fun e => absurd (Blk.det (e ▸ hbk) hr.hb).2 (by decide))
  · rw [hd] at h3
    have e : D.write i l = (50, D) := by unfold Dsk.write; rw [hd, if_pos rfl]
    rw [e]
    refine (write_down b i v w h3).mono ?_
    rintro e w' ⟨rfl, rfl⟩
    exact ⟨rfl, After.refl hD⟩

end Go.Proofs.YtbgiklkpinflaaaGreat.Ref

namespace Go.Proofs.YtbgiklkpinflaaaGreat.Ref
open Go.RowKit Go.Shelf
open Go.Proofs.YtbgiklkpinflaaaGreat hiding DiskRep DiskAt After PenSlice Settling Crashing
attribute [local go_sem ↓] Go.wp_at_zero Go.wp_at_succ

set_option maxRecDepth 100000 in
set_option maxHeartbeats 4000000 in
theorem settles_all {P : Nat → Prop} {b : Nat} {D : Dsk} {g1 : Nat} {cur1 : Array Value} {pv : Value} {ps : List (Nat × Value)} (w : World) (h : DiskRep P w b D g1 cur1 pv ps) (ho : DskOk D) (_hl : D.life ≤ 4611686018427387904) (hn : D.pending.length ≤ 1000000000)
    :
    Calls Tryz.prog 129 #[.pointer (some ⟨b, 0, none⟩), .slice none 0 0, .bool true] w fun e w' => e = .returned (.tuple #[]) ∧ ∃ cur, DiskRep P w' b { D with blocks := settleIf (fun _ => true) D.blocks D.pending D.pending.length, pending := [] } g1 cur (.slice none 0 0) [] ∧ Keeps (fun i => i = b ∨ i = g1) w w' := by
  have h0 := h.c0
  have hf := ho.few
  have hs := ho.some_
  have h1 := h.c1
  obtain ⟨A1, c1, rfl, hp1⟩ := PenSlice.of_own h.own h.pslen
  have hpl := h.pslen
  have hpsr : ps.length ≤ 1000000000 := by omega
  have HR := Lib.hid h
  have HO := Lib.hid ho
  have HP := Lib.hid hp1
  have hpl2 : (D.pending.length : Int) = (ps.length : Int) := by omega
  clear hp1 h ho
  go_enter Tryz.func129, Tryz.ntmps129
  go_wp2
  go_loopw [6, 7, 13] (fun _ _ i wr => ∃ k : Nat, k ≤ ps.length ∧ i = .int .i64 k ∧ Crashing P w b D ((fun _ => true)) g1 cur1 (.slice A1 ps.length c1) ps k wr) (fun _ _ i _ => ps.length - (intOf i).toNat)
  case atStart => exact ⟨0, Nat.zero_le _, rfl, cur1, rfl, HR.out, Keeps.refl _ _⟩
  case round =>
    obtain ⟨k, hk, rfl, hset⟩ := hrel
    by_cases hlt : k < ps.length
    · obtain ⟨gp, rfl, _, hpen⟩ := HP.out (by omega)
      obtain ⟨q1, q2⟩ := hset.pen_at hlt rfl
      obtain ⟨cur, hcs, hr, hkk⟩ := id hset
      obtain ⟨l, hpk, hB⟩ := hr.pen_at k hlt
      obtain ⟨gx, cx, _, hvx, _⟩ := id hB
      have hpk' : D.pending[k]? = some ((pen ps k).1, l) := hpk
      have hpi := HO.out.pen _ (List.mem_of_getElem? hpk')
      obtain ⟨hpi1, hll⟩ := hpi
      have hpi1 : (pen ps k).1 < D.blocks.length := hpi1
      have q3 := hr.c0
      simp only [settleIf_length] at q3
      have q4 := hr.hg.frozen (pen ps k).1
      obtain ⟨go, no, co, q5⟩ := hset.has hpi1
      have HX := Lib.hid hvx
      rw [hvx] at q2
      have q3a : ∀ o, (wr.alloc o).cell? ⟨b, 0, none⟩ = some (.slice (some ⟨g1, 0, none⟩) D.blocks.length cur.size) := fun o => Lib.cell?_alloc_some _ q3
      have q5a : ∀ o, (wr.alloc o).cell? ⟨g1, (pen ps k).1, none⟩ = some (.slice go no co) := fun o => Lib.cell?_alloc_some _ q5
      have q4a : ∀ o, (wr.alloc o).frozen? ⟨g1, (pen ps k).1, none⟩ = false := fun o => by rw [World.frozen?_alloc_old _ _ _ (Nat.ne_of_lt hr.hg.lt)]; exact q4
      have HS := Lib.hid hset
      have hlt2 : (pen ps k).1 < D.blocks.length := hpi1
      have tk : decide ((k : Int) < (ps.length : Int)) = true := by simp; omega
      have HKK := Lib.hid hkk
      clear hset hpk hpk' hvx hll hB hr hkk hcs hpen
      go_wp2
      go_region
      all_goals
        go_wp2
        go_roundw
        case rel =>
          have hst := HS.out.step rfl hlt HO.out (.cells #[.int .i64 ((pen ps k).1 : Int), (pen ps k).2] 178)
          rw [HX.out] at hst
          exact ⟨k + 1, by omega, by go_num, hst⟩
        case measure => simp [intOf]; omega
    · obtain rfl : k = ps.length := by omega
      have tk : decide ((ps.length : Int) < ps.length) = false := by simp
      obtain ⟨cur, hcs, hr, hkk⟩ := hset
      have q1 := hr.c1
      have f1 := hr.hb.frozen 1
      have HD2 := Lib.hid hr.drop
      have HKK := Lib.hid hkk
      clear hr hkk hcs
      go_wp2
      go_end0
      refine ⟨rfl, ⟨cur, ?_⟩, (HKK.out.weaken (F := fun i => i = b ∨ i = g1) (fun _ _ h => .inr h)).trans (Keeps.set1 _ b 1 _) (fun _ _ h => .inl h)⟩
      have := HD2.out
      rw [← hpl]
      exact this

set_option maxRecDepth 100000 in
set_option maxHeartbeats 4000000 in
theorem settles_some {P : Nat → Prop} {b : Nat} {D : Dsk} {g1 : Nat} {cur1 : Array Value} {pv : Value} {ps : List (Nat × Value)} (w : World) (h : DiskRep P w b D g1 cur1 pv ps) (ho : DskOk D) (_hl : D.life ≤ 4611686018427387904) (hn : D.pending.length ≤ 1000000000)
    (v : Value) (ks : List Bool) (hv : KeepAt w [b, g1] v ks) :
    Calls Tryz.prog 129 #[.pointer (some ⟨b, 0, none⟩), v, .bool false] w fun e w' => e = .returned (.tuple #[]) ∧ ∃ cur, DiskRep P w' b { D with blocks := settleIf (keepOf ks) D.blocks D.pending D.pending.length, pending := [] } g1 cur (.slice none 0 0) [] ∧ Keeps (fun i => i = b ∨ i = g1) w w' := by
  have h0 := h.c0
  have hf := ho.few
  have hs := ho.some_
  have h1 := h.c1
  obtain ⟨A1, c1, rfl, hp1⟩ := PenSlice.of_own h.own h.pslen
  obtain ⟨AK, cK, rfl, hkl, hks⟩ := hv
  have hpl := h.pslen
  have hpsr : ps.length ≤ 1000000000 := by omega
  have HR := Lib.hid h
  have HO := Lib.hid ho
  have HK := Lib.hid hks
  have HP := Lib.hid hp1
  have hpl2 : (D.pending.length : Int) = (ps.length : Int) := by omega
  clear hp1 hks h ho
  go_enter Tryz.func129, Tryz.ntmps129
  go_wp2
  go_loopw [6, 7, 13] (fun _ _ i wr => ∃ k : Nat, k ≤ ps.length ∧ i = .int .i64 k ∧ Crashing P w b D (keepOf ks) g1 cur1 (.slice A1 ps.length c1) ps k wr) (fun _ _ i _ => ps.length - (intOf i).toNat)
  case atStart => exact ⟨0, Nat.zero_le _, rfl, cur1, rfl, HR.out, Keeps.refl _ _⟩
  case round =>
    obtain ⟨k, hk, rfl, hset⟩ := hrel
    by_cases hlt : k < ps.length
    · obtain ⟨gp, rfl, _, hpen⟩ := HP.out (by omega)
      obtain ⟨q1, q2⟩ := hset.pen_at hlt rfl
      obtain ⟨cur, hcs, hr, hkk⟩ := id hset
      obtain ⟨l, hpk, hB⟩ := hr.pen_at k hlt
      obtain ⟨gx, cx, _, hvx, _⟩ := id hB
      have hpk' : D.pending[k]? = some ((pen ps k).1, l) := hpk
      have hpi := HO.out.pen _ (List.mem_of_getElem? hpk')
      obtain ⟨hpi1, hll⟩ := hpi
      have hpi1 : (pen ps k).1 < D.blocks.length := hpi1
      have q3 := hr.c0
      simp only [settleIf_length] at q3
      have q4 := hr.hg.frozen (pen ps k).1
      obtain ⟨go, no, co, q5⟩ := hset.has hpi1
      have HX := Lib.hid hvx
      rw [hvx] at q2
      have q3a : ∀ o, (wr.alloc o).cell? ⟨b, 0, none⟩ = some (.slice (some ⟨g1, 0, none⟩) D.blocks.length cur.size) := fun o => Lib.cell?_alloc_some _ q3
      have q5a : ∀ o, (wr.alloc o).cell? ⟨g1, (pen ps k).1, none⟩ = some (.slice go no co) := fun o => Lib.cell?_alloc_some _ q5
      have q4a : ∀ o, (wr.alloc o).frozen? ⟨g1, (pen ps k).1, none⟩ = false := fun o => by rw [World.frozen?_alloc_old _ _ _ (Nat.ne_of_lt hr.hg.lt)]; exact q4
      have HS := Lib.hid hset
      have hlt2 : (pen ps k).1 < D.blocks.length := hpi1
      have tk : decide ((k : Int) < (ps.length : Int)) = true := by simp; omega
      have HKK := Lib.hid hkk
      clear hset hpk hpk' hvx hll hB hr hkk hcs hpen
      cases hkv : ks[k]? with
      | none =>
        have hfk : keepOf ks k = false := by unfold keepOf; rw [hkv]; rfl
        have hge : ks.length ≤ k := by rcases Nat.lt_or_ge k ks.length with h | h; rw [List.getElem?_eq_getElem h] at hkv; cases hkv; exact h
        have tg : decide ((k : Int) < (ks.length : Int)) = false := by simp; omega
        clear hkv
        go_wp2
        go_roundw
        case rel => exact ⟨k + 1, by omega, by go_num, HS.out.skip hfk _⟩
        case measure => simp [intOf]; omega
      | some x =>
        have hfk : keepOf ks k = x := by unfold keepOf; rw [hkv]; rfl
        have hkl2 : k < ks.length := (List.getElem?_eq_some_iff.1 hkv).1
        have tg : decide ((k : Int) < (ks.length : Int)) = true := by simp; omega
        obtain ⟨a, rfl, ha, hc⟩ := HK.out k x hkv
        have hc2 : ∀ o, (wr.alloc o).cell? (a.add k) = some (.bool x) := fun o => Lib.cell?_alloc_some _ (HKK.out.cell hc (by rw [add_block]; intro e; exact ha (by simp [e])))
        clear hkv hc
        have HA := Lib.hid ha
        clear ha
        cases x
        · go_wp2
          go_roundw
          case rel => exact ⟨k + 1, by omega, by go_num, HS.out.skip hfk _⟩
          case measure => simp [intOf]; omega
        · go_wp2
          go_region
          all_goals
            go_wp2
            go_roundw
            case rel =>
              have hst := HS.out.step hfk hlt HO.out (.cells #[.int .i64 ((pen ps k).1 : Int), (pen ps k).2] 178)
              rw [HX.out] at hst
              exact ⟨k + 1, by omega, by go_num, hst⟩
            case measure => simp [intOf]; omega
    · obtain rfl : k = ps.length := by omega
      have tk : decide ((ps.length : Int) < ps.length) = false := by simp
      obtain ⟨cur, hcs, hr, hkk⟩ := hset
      have q1 := hr.c1
      have f1 := hr.hb.frozen 1
      have HD2 := Lib.hid hr.drop
      have HKK := Lib.hid hkk
      clear hr hkk hcs
      go_wp2
      go_end0
      refine ⟨rfl, ⟨cur, ?_⟩, (HKK.out.weaken (F := fun i => i = b ∨ i = g1) (fun _ _ h => .inr h)).trans (Keeps.set1 _ b 1 _) (fun _ _ h => .inl h)⟩
      have := HD2.out
      rw [← hpl]
      exact this

end Go.Proofs.YtbgiklkpinflaaaGreat.Ref

namespace Go.Proofs.YtbgiklkpinflaaaGreat.Ref
open Go.RowKit Go.Shelf
open Go.Proofs.YtbgiklkpinflaaaGreat hiding DiskRep DiskAt After PenSlice Settling Crashing
attribute [local go_sem ↓] Go.wp_at_zero Go.wp_at_succ

theorem settleIf_true (B : List (List UInt8)) (ps : List (Nat × List UInt8)) : ∀ k, k ≤ ps.length → settleIf (fun _ => true) B ps k = settle B (ps.take k)
  | 0, _ => rfl
  | k + 1, h => by
    have hk : ps[k]? = some ps[k] := List.getElem?_eq_getElem (by omega)
    rw [settle_take B ps hk, ← settleIf_true B ps k (by omega)]
    show (if true then (settleIf (fun _ => true) B ps k).set ((ps[k]?.getD (0, [])).1) ((ps[k]?.getD (0, [])).2) else _) = _
    rw [if_pos rfl, hk]
    rfl
theorem sync_ok {D : Dsk} (ho : DskOk D) : DskOk { D with blocks := settle D.blocks D.pending, pending := [] } :=
  ⟨Go.Proofs.YtbgiklkpinflaaaGreat.settle_all ho.blk fun p hp => (ho.pen p hp).2, fun p hp => by simp at hp, by simpa [settle_length] using ho.some_, by simpa [settle_length] using ho.few, ho.armedLe⟩
set_option maxRecDepth 100000 in
set_option maxHeartbeats 2000000 in
theorem sync_any {P : Nat → Prop} {b : Nat} {D : Dsk} {S : List Nat} (w : World) (h : DiskAt P w b D S) (hl : D.life ≤ 4611686018427387904) (hn : D.pending.length ≤ 1000000000) :
    Calls Tryz.prog 94 #[.pointer (some ⟨b, 0, none⟩)] w fun e w' => e = .returned (.int .i64 D.sync.1) ∧ After P w w' b D.sync.2 S := by
  obtain ⟨ho, g1, cur1, pv, ps, rfl, hr⟩ := h
  have hD : DiskAt P w b D (b :: g1 :: pv.ownBlock.toList) := ⟨ho, g1, cur1, pv, ps, rfl, hr⟩
  have h3 := hr.c3
  cases hd : D.down
  · rw [hd] at h3
    have HF := Lib.hid (fails_calls hr ho hl hd)
    cases hff : D.fails.1
    · have HE : Hid (D.sync = (0, { D.fails.2 with blocks := settle D.blocks D.pending, pending := [] })) := by
        show D.sync = _
        unfold Dsk.sync
        rw [hd, hff]
        rfl
      rw [hff] at HF
      have HO := Lib.hid ho
      have hl2 : D.fails.2.life ≤ 4611686018427387904 := by
        unfold Dsk.fails at hff ⊢
        split
        · exact hl
        · split
          · rename_i h1 h2
            rw [if_neg h1, if_pos h2] at hff
            cases hff
          · exact hl
      have hn2 : D.fails.2.pending.length ≤ 1000000000 := by rw [D.fails_pending]; exact hn
      clear hr hD
      go_enter Tryz.func94, Tryz.ntmps94
      go_wp2_with (go_at_call 127; refine HF.out.mono ?_; rintro e w1 ⟨rfl, hr1, hk1⟩; clear HF; have HR1 := Lib.hid hr1; have HK1 := Lib.hid hk1; clear hr1 hk1)
      refine (settles_all _ HR1.out HO.out.fails hl2 hn2).mono ?_
      rintro e w2 ⟨rfl, cur, hr2, hk2⟩
      have HR2 := Lib.hid hr2
      have HK2 := Lib.hid hk2
      clear hr2 hk2
      go_wp2
      go_ret
      rw [HE.out]
      have hr2 := HR2.out
      rw [settleIf_true _ _ _ (Nat.le_refl _), List.take_length, D.fails_blocks, D.fails_pending] at hr2
      have hok := sync_ok HO.out.fails
      rw [D.fails_blocks, D.fails_pending] at hok
      refine ⟨rfl, [b, g1], ⟨hok, g1, cur, .slice none 0 0, [], rfl, hr2⟩, fun i hi => .inl ?_, ((HK1.out.weaken (F := (· ∈ b :: g1 :: pv.ownBlock.toList)) fun i _ e => by simp [e]).trans HK2.out fun i _ e => ?_)⟩
      · simp only [List.mem_cons, List.not_mem_nil, or_false] at hi
        rcases hi with h | h <;> simp [h]
      · rcases e with h | h <;> simp [h]
    · have HE : Hid (D.sync = (50, D.fails.2)) := by
        show D.sync = _
        unfold Dsk.sync
        rw [hd, hff]
        rfl
      rw [hff] at HF
      have HO := Lib.hid ho
      clear hr hD
      go_enter Tryz.func94, Tryz.ntmps94
      go_wp2_with (go_at_call 127; refine HF.out.mono ?_; rintro e w1 ⟨rfl, hr1, hk1⟩; clear HF; have HR1 := Lib.hid hr1; have HK1 := Lib.hid hk1; clear hr1 hk1)
      go_ret
      rw [HE.out]
      refine ⟨rfl, b :: g1 :: pv.ownBlock.toList, ⟨HO.out.fails, g1, cur1, pv, ps, rfl, HR1.out⟩, fun k hk => .inl hk, HK1.out.weaken ?_⟩
      intro k _ e
      simp [e]
  · rw [hd] at h3
    have HE : Hid (D.sync = (50, D)) := by
      show D.sync = _
      unfold Dsk.sync
      rw [if_pos hd]
    have HD := Lib.hid hD
    clear hr hD
    go_enter Tryz.func94, Tryz.ntmps94
    go_wp2
    go_ret
    rw [HE.out]
    exact ⟨rfl, After.refl HD.out⟩

set_option maxRecDepth 100000 in
set_option maxHeartbeats 2000000 in
theorem crash_any {P : Nat → Prop} {b : Nat} {D : Dsk} {S : List Nat} (w : World) (h : DiskAt P w b D S) (hl : D.life ≤ 4611686018427387904) (hn : D.pending.length ≤ 1000000000) (v : Value) (ks : List Bool) (hv : KeepAt w S v ks) :
    Calls Tryz.prog 96 #[.pointer (some ⟨b, 0, none⟩), v] w fun e w' => e = .returned (.tuple #[]) ∧ After P w w' b (D.crash (keepOf ks)) S := by
  obtain ⟨ho, g1, cur1, pv, ps, rfl, hr⟩ := h
  have HS := Lib.hid (settles_some w hr ho hl hn v ks (hv.mono fun k hk => by
    simp only [List.mem_cons, List.not_mem_nil, or_false] at hk
    rcases hk with h | h
    · simp [h]
    · simp [h]))
  have HO := Lib.hid ho
  clear hr hv ho
  go_enter Tryz.func96, Tryz.ntmps96
  go_wp2_with (go_at_call 129; refine HS.out.mono ?_; rintro e w2 ⟨rfl, cur, hr2, hk2⟩; have HR2 := Lib.hid hr2; have HK2 := Lib.hid hk2; have c2 := hr2.c2; have c3 := hr2.c3; have c4 := hr2.c4; have f2 := hr2.hb.frozen 2; have f3 := hr2.hb.frozen 3; have f4 := hr2.hb.frozen 4; clear hr2 hk2)
  go_end0
  have hr := HR2.out
  have k4 : Keeps (· = b) w2 (((w2.setCell ⟨b, 3, none⟩ (.bool false)).setCell ⟨b, 2, none⟩ (.int .i64 0)).setCell ⟨b, 4, none⟩ (.int .i64 ((D.life : Int) + 1))) :=
    ((Keeps.set1 _ b 3 _).trans (Keeps.set1 _ b 2 _) (fun _ _ h => h)).trans (Keeps.set1 _ b 4 _) (fun _ _ h => h)
  have hU : ∀ g cs, g = b → P g → Blk w2 g 5 cs → False := fun g cs hg _ hb => hr.noBytes g cs (by simp [hg]) hb
  refine ⟨rfl, [b, g1], ⟨⟨?_, fun p hp => by simp [Dsk.crash] at hp, by simpa [Dsk.crash, settleIf_length] using HO.out.some_, by simpa [Dsk.crash, settleIf_length] using HO.out.few, by simp [Dsk.crash]⟩, g1, cur, .slice none 0 0, [], rfl, ?_⟩, fun i hi => .inl ?_, (HK2.out.weaken (F := (· ∈ b :: g1 :: pv.ownBlock.toList)) fun i _ e => by rcases e with h | h <;> simp [h]).trans k4 fun i _ e => by simp [e]⟩
  · exact settleIf_all _ HO.out.blk (fun p hp => (HO.out.pen p hp).2) _ (Nat.le_refl _)
  · refine ⟨?_, hr.hg.keeps k4 (Ne.symm hr.ne1), hr.le, fun i l hi => ?_, ⟨rfl, .inl ⟨rfl, rfl⟩⟩, rfl, fun i p hp => by simp [Dsk.crash] at hp, fun i hi => hr.fresh i (Nat.le_trans k4.size hi)⟩
    · have := ((hr.hb.set_ 3 (.bool false)).set_ 2 (.int .i64 0)).set_ 4 (.int .i64 ((D.life : Int) + 1))
      simpa [Dsk.crash, settleIf_length] using this
    · obtain ⟨v, hv, hB⟩ := hr.bl i l hi
      exact ⟨v, hv, hB.keeps k4 hU⟩
  · simp only [List.mem_cons, List.not_mem_nil, or_false] at hi
    rcases hi with h | h <;> simp [h]

set_option maxRecDepth 100000 in
set_option maxHeartbeats 1000000 in
theorem arm_any {P : Nat → Prop} {b : Nat} {D : Dsk} {S : List Nat} (w : World) (h : DiskAt P w b D S) (n : Int) (hn : n ≤ 9223372036854775807) :
    Calls Tryz.prog 95 #[.pointer (some ⟨b, 0, none⟩), .int .i64 n] w fun e w' => e = .returned (.tuple #[]) ∧ After P w w' b (D.arm n) S := by
  have hA := fun x hx => arm_rep h hn (x := x) hx
  obtain ⟨ho, g1, cur1, pv, ps, rfl, hr⟩ := h
  have h2 := hr.c2
  have f2 := hr.hb.frozen 2
  have HA := Lib.hid hA
  clear hr ho hA
  go_enter Tryz.func95, Tryz.ntmps95
  go_wp2
  go_end0
  refine ⟨rfl, HA.out _ ?_⟩
  omega

end Go.Proofs.YtbgiklkpinflaaaGreat.Ref

namespace Go.Proofs.YtbgiklkpinflaaaGreat
open Go.RowKit Go.Shelf
attribute [local go_sem ↓] Go.wp_at_zero Go.wp_at_succ

set_option maxRecDepth 100000 in
set_option maxHeartbeats 1000000 in
theorem spoil1_calls (w : World) (p i : Nat) (A : Option Addr) (n c cb : Nat) (hc : w.cell? ⟨cb, 0, none⟩ = some (.int .i64 (i : Int))) :
    Calls Tryz.prog 85 #[.agg #[.int .i64 (p : Int), .slice A n c], .pointer (some ⟨cb, 0, none⟩)] w fun e w' => e = .returned (.bool (p == i)) ∧ Below w.heap.size w w' := by
  have hca : ∀ o, (w.alloc o).cell? ⟨cb, 0, none⟩ = some (.int .i64 (i : Int)) := fun o => Lib.cell?_alloc_some _ hc
  have he : ((p : Int) == (i : Int)) = (p == i) := by
    rw [Bool.eq_iff_iff]
    simp
    omega
  go_enter Tryz.func85, Tryz.ntmps85
  go_wp2
  go_ret
  refine ⟨?_, (Below.refl _ w).alloc (Nat.le_refl _) _⟩
  simp

/-- The place of the first write to block i from place k on. -/
def firstAt (ps : List (Nat × Value)) (i : Nat) : Option Nat := ps.findIdx? fun p => p.1 == i
set_option maxRecDepth 100000 in
set_option maxHeartbeats 2000000 in
theorem waitidx_calls (w : World) (ps : List (Nat × Value)) (i cb : Nat) (A : Option Addr) (c : Nat) (hc : w.cell? ⟨cb, 0, none⟩ = some (.int .i64 (i : Int))) (hl : ps.length ≤ 1000000000) (hv : ∀ p ∈ ps, ∃ B n c, p.2 = .slice B n c)
    (hp : 0 < ps.length → ∃ g, A = some ⟨g, 0, none⟩ ∧ ∀ j, j < ps.length → w.cell? ⟨g, j * 2, none⟩ = some (.int .i64 ((pen ps j).1 : Int)) ∧ w.cell? ⟨g, j * 2 + 1, none⟩ = some (pen ps j).2) :
    Calls Tryz.prog 123 #[.slice A ps.length c, .func (.func 85) #[] #[.pointer (some ⟨cb, 0, none⟩)]] w fun e w' =>
      Below w.heap.size w w' ∧ ((e = .returned (.int .i64 (-1)) ∧ ∀ j, j < ps.length → (pen ps j).1 ≠ i) ∨ ∃ k : Nat, e = .returned (.int .i64 (k : Int)) ∧ k < ps.length ∧ (pen ps k).1 = i ∧ ∀ j, j < k → (pen ps j).1 ≠ i) := by
  have HP := Lib.hid hp
  have HV := Lib.hid hv
  clear hp hv
  go_enter Tryz.func123, Tryz.ntmps123
  go_wp2
  go_loopw [5, 8] (fun _ x wr => ∃ k : Nat, k ≤ ps.length ∧ x = .int .i64 k ∧ Below w.heap.size w wr ∧ ∀ j, j < k → (pen ps j).1 ≠ i) (fun _ x _ => ps.length - (intOf x).toNat)
  case atStart => exact ⟨0, Nat.zero_le _, rfl, Below.refl _ _, fun j hj => by omega⟩
  case round =>
    obtain ⟨k, hk, rfl, hB, hne⟩ := hrel
    by_cases hlt : k < ps.length
    · have tk : decide ((k : Int) < (ps.length : Int)) = true := by simp; omega
      obtain ⟨g, rfl, hq⟩ := HP.out (by omega)
      obtain ⟨q1, q2⟩ := hq k hlt
      have hpk : pen ps k ∈ ps := by rw [pen_eq (List.getElem?_eq_getElem hlt)]; exact List.getElem_mem hlt
      obtain ⟨B, n2, c2, hv2⟩ := HV.out _ hpk
      rw [hv2] at q2
      have q1 : wr.cell? ⟨g, k * 2, none⟩ = some (.int .i64 ((pen ps k).1 : Int)) := (hB.cell (World.block_lt_of_cell? w _ q1)).trans q1
      have q2 : wr.cell? ⟨g, k * 2 + 1, none⟩ = some (.slice B n2 c2) := (hB.cell (World.block_lt_of_cell? w _ q2)).trans q2
      have qc : wr.cell? ⟨cb, 0, none⟩ = some (.int .i64 (i : Int)) := (hB.cell (World.block_lt_of_cell? w _ hc)).trans hc
      have HB := Lib.hid hB
      have HNE := Lib.hid hne
      clear hB hne hq hpk hv2
      by_cases he : (pen ps k).1 = i
      · have he2 : ((pen ps k).1 == i) = true := by simpa using he
        have HE := Lib.hid he
        clear he
        go_wp2_with (go_at_call 85; refine (spoil1_calls _ _ i _ _ _ cb qc).mono ?_; rw [he2]; rintro e w2 ⟨rfl, hb2⟩; have HB2 := Lib.hid hb2; clear hb2)
        go_ret
        exact ⟨HB.out.trans (HB2.out.mono HB.out.size), .inr ⟨k, rfl, hlt, HE.out, HNE.out⟩⟩
      · have he2 : ((pen ps k).1 == i) = false := by simpa using he
        have HE := Lib.hid he
        clear he
        go_wp2_with (go_at_call 85; refine (spoil1_calls _ _ i _ _ _ cb qc).mono ?_; rw [he2]; rintro e w2 ⟨rfl, hb2⟩; have HB2 := Lib.hid hb2; clear hb2)
        go_roundw
        case rel =>
          refine ⟨k + 1, by omega, by go_num, HB.out.trans (HB2.out.mono HB.out.size), fun j hj => ?_⟩
          rcases Nat.lt_or_ge j k with h | h
          · exact HNE.out j h
          · have : j = k := by omega
            rw [this]
            exact HE.out
        case measure => simp [intOf]; omega
    · obtain rfl : k = ps.length := by omega
      have tk : decide ((ps.length : Int) < ps.length) = false := by simp
      go_wp2
      go_ret
      exact ⟨hB, .inl ⟨rfl, hne⟩⟩

end Go.Proofs.YtbgiklkpinflaaaGreat

namespace Go.Proofs.YtbgiklkpinflaaaGreat
open Go.RowKit Go.Shelf
attribute [local go_sem ↓] Go.wp_at_zero Go.wp_at_succ

/-- The writes to other blocks, of the first j. -/
def keptTo (ps : List (Nat × Value)) (i j : Nat) : List (Nat × Value) := (ps.take j).filter fun p => !(p.1 == i)
theorem keptTo_le (ps : List (Nat × Value)) (i j : Nat) : (keptTo ps i j).length ≤ j := Nat.le_trans (List.length_filter_le _ _) (by rw [List.length_take]; omega)
theorem keptTo_skip {ps : List (Nat × Value)} {i j : Nat} (h : j < ps.length) (he : ps[j].1 = i) : keptTo ps i (j + 1) = keptTo ps i j := by
  unfold keptTo
  rw [List.take_succ_eq_append_getElem h, List.filter_append]
  simp [he]
theorem keptTo_keep {ps : List (Nat × Value)} {i j : Nat} (h : j < ps.length) (he : ps[j].1 ≠ i) : keptTo ps i (j + 1) = keptTo ps i j ++ [ps[j]] := by
  unfold keptTo
  rw [List.take_succ_eq_append_getElem h, List.filter_append]
  simp [he]
theorem keptTo_none {ps : List (Nat × Value)} {i : Nat} : ∀ {j : Nat}, j ≤ ps.length → (∀ t, t < j → (pen ps t).1 ≠ i) → keptTo ps i j = ps.take j
  | 0, _, _ => rfl
  | j + 1, h, hn => by
    have hj : j < ps.length := by omega
    have e := hn j (by omega)
    rw [pen_eq (List.getElem?_eq_getElem hj)] at e
    rw [keptTo_keep hj e, keptTo_none (by omega) fun t ht => hn t (by omega), List.take_succ_eq_append_getElem hj]
/-- The row of pending writes, where j of them have been looked at. -/
def Deleting (w : World) (gp cap : Nat) (ps : List (Nat × Value)) (i j : Nat) (wr : World) : Prop :=
  (∃ cur : Array Value, Blk wr gp 138 cur ∧ cur.size = cap * 2 ∧
    (∀ t, t < (keptTo ps i j).length → cur[t * 2]? = some (.int .i64 ((pen (keptTo ps i j) t).1 : Int)) ∧ cur[t * 2 + 1]? = some (pen (keptTo ps i j) t).2) ∧
    (∀ t, j ≤ t → t < ps.length → cur[t * 2]? = some (.int .i64 ((pen ps t).1 : Int)) ∧ cur[t * 2 + 1]? = some (pen ps t).2)) ∧ Keeps (· = gp) w wr
theorem Deleting.at_ {w wr : World} {gp cap i j t : Nat} {ps : List (Nat × Value)} (h : Deleting w gp cap ps i j wr) (h1 : j ≤ t) (h2 : t < ps.length) : wr.cell? ⟨gp, t * 2, none⟩ = some (.int .i64 ((pen ps t).1 : Int)) ∧ wr.cell? ⟨gp, t * 2 + 1, none⟩ = some (pen ps t).2 := by
  obtain ⟨⟨cur, hb, _, _, hc⟩, _⟩ := h
  exact ⟨(hb.cell _).trans (hc t h1 h2).1, (hb.cell _).trans (hc t h1 h2).2⟩
theorem Deleting.has {w wr : World} {gp cap i j t : Nat} {ps : List (Nat × Value)} (h : Deleting w gp cap ps i j wr) (ht : t < cap * 2) : (∃ v, wr.cell? ⟨gp, t, none⟩ = some v) ∧ wr.frozen? ⟨gp, t, none⟩ = false := by
  obtain ⟨⟨cur, hb, hs, _⟩, _⟩ := h
  exact ⟨⟨_, (hb.cell t).trans (Array.getElem?_eq_getElem (by omega))⟩, hb.frozen t⟩
theorem Deleting.below {w wr w2 : World} {gp cap i j : Nat} {ps : List (Nat × Value)} (h : Deleting w gp cap ps i j wr) (hb : Below wr.heap.size wr w2) : Deleting w gp cap ps i j w2 := by
  obtain ⟨⟨cur, h1, h2⟩, k⟩ := h
  exact ⟨⟨cur, h1.below hb h1.lt, h2⟩, k.trans (Keeps.of_below (F := fun _ => False) hb) (fun _ _ h => h.elim)⟩
theorem Deleting.skip {w wr : World} {gp cap i j : Nat} {ps : List (Nat × Value)} (h : Deleting w gp cap ps i j wr) (hj : j < ps.length) (he : (pen ps j).1 = i) : Deleting w gp cap ps i (j + 1) wr := by
  rw [pen_eq (List.getElem?_eq_getElem hj)] at he
  obtain ⟨⟨cur, h1, h2, h3, h4⟩, k⟩ := h
  refine ⟨⟨cur, h1, h2, ?_, fun t ht => h4 t (by omega)⟩, k⟩
  rw [keptTo_skip hj he]
  exact h3
theorem Deleting.keep {w wr : World} {gp cap i j : Nat} {ps : List (Nat × Value)} (h : Deleting w gp cap ps i j wr) (hj : j < ps.length) (hcap : ps.length ≤ cap) (he : (pen ps j).1 ≠ i) :
    Deleting w gp cap ps i (j + 1) ((wr.setCell ⟨gp, (keptTo ps i j).length * 2, none⟩ (.int .i64 ((pen ps j).1 : Int))).setCell ⟨gp, (keptTo ps i j).length * 2 + 1, none⟩ (pen ps j).2) := by
  have he' := he
  rw [pen_eq (List.getElem?_eq_getElem hj)] at he'
  have hq := keptTo_le ps i j
  obtain ⟨⟨cur, h1, h2, h3, h4⟩, k⟩ := h
  obtain ⟨q, hqe⟩ : ∃ q, q = (keptTo ps i j).length := ⟨_, rfl⟩
  rw [← hqe] at hq ⊢
  refine ⟨⟨_, (h1.set_ (q * 2) _).set_ (q * 2 + 1) _, by simpa using h2, ?_, ?_⟩, (k.setCell (p := ⟨gp, q * 2, none⟩) (fun _ => rfl) _).setCell (p := ⟨gp, q * 2 + 1, none⟩) (fun _ => rfl) _⟩
  · intro t ht
    rw [keptTo_keep hj he'] at ht ⊢
    rw [List.length_append, List.length_singleton, ← hqe] at ht
    rcases Nat.lt_or_ge t q with h | h
    · have e : pen (keptTo ps i j ++ [ps[j]]) t = pen (keptTo ps i j) t := by
        have h5 : (keptTo ps i j)[t]? = some (keptTo ps i j)[t] := List.getElem?_eq_getElem (by omega)
        rw [pen_eq h5]
        exact pen_eq (by rw [List.getElem?_append_left (by omega)]; exact h5)
      rw [e]
      obtain ⟨a, b⟩ := h3 t (by omega)
      constructor
      · rw [Array.getElem?_setIfInBounds_ne (by omega), Array.getElem?_setIfInBounds_ne (by omega)]
        exact a
      · rw [Array.getElem?_setIfInBounds_ne (by omega), Array.getElem?_setIfInBounds_ne (by omega)]
        exact b
    · have e0 : t = q := by omega
      subst e0
      have e : pen (keptTo ps i j ++ [ps[j]]) t = pen ps j := by
        rw [pen_eq (List.getElem?_eq_getElem hj)]
        exact pen_eq (by rw [List.getElem?_append_right (by omega)]; simp [hqe])
      rw [e]
      constructor
      · rw [Array.getElem?_setIfInBounds_ne (by omega), Array.getElem?_setIfInBounds_self_of_lt (by omega)]
      · rw [Array.getElem?_setIfInBounds_self_of_lt (by simp; omega)]
  · intro t ht ht2
    obtain ⟨a, b⟩ := h4 t (by omega) ht2
    constructor
    · rw [Array.getElem?_setIfInBounds_ne (by omega), Array.getElem?_setIfInBounds_ne (by omega)]
      exact a
    · rw [Array.getElem?_setIfInBounds_ne (by omega), Array.getElem?_setIfInBounds_ne (by omega)]
      exact b

end Go.Proofs.YtbgiklkpinflaaaGreat

namespace Go.Proofs.YtbgiklkpinflaaaGreat
open Go.RowKit Go.Shelf
attribute [local go_sem ↓] Go.wp_at_zero Go.wp_at_succ

/-- clear, of writes. -/
theorem clear_run (w : World) (g o m c : Nat) (hm : 0 < m) (hc : ∀ j, j < m * 2 → (∃ v, w.cell? ⟨g, o + j, none⟩ = some v) ∧ w.frozen? ⟨g, o + j, none⟩ = false) :
    ∃ vs, ∀ ty : TypeId, (Builtin.clear_ #[92] ty #[.slice (some ⟨g, o, none⟩) m c]).run Tryz.prog w = .ok (.tuple #[]) (w.setCells g o vs) := by
  refine ⟨(Builtin.zeroCells (Value.agg #[.int .i64 0, .slice none 0 0]).cells m).toList, fun ty => ?_⟩
  have hl : (Builtin.zeroCells (Value.agg #[.int .i64 0, .slice none 0 0]).cells m).toList.length = m * 2 := by
    simp [Builtin.zeroCells, Value.cells]
  have h1 : ∀ v ∈ (Builtin.zeroCells (Value.agg #[.int .i64 0, .slice none 0 0]).cells m).toList, v.oneCell' = true := by
    intro v hv
    simp only [Builtin.zeroCells, Value.cells, Array.toList_map, List.mem_map] at hv
    obtain ⟨k, _, rfl⟩ := hv
    rcases Nat.mod_two_eq_zero_or_one k with h | h <;> simp [h, Value.oneCell']
  have hst := run_storeCells_cells (P := Tryz.prog) g o (Builtin.zeroCells (Value.agg #[.int .i64 0, .slice none 0 0]).cells m).toList 0 w (fun j hj => by obtain ⟨⟨v, e⟩, _⟩ := hc j (by omega); simp [e]) (fun j hj => (hc j (by omega)).2) h1
  simp only [Nat.add_zero] at hst
  have hv := Tryz.zeroValue138
  have ht := Tryz.underlying92
  obtain ⟨m, rfl⟩ : ∃ k, m = k + 1 := ⟨m - 1, by omega⟩
  simp [Builtin.clear_, run_underlying ht, hv, hst]

/-- The row as slices.DeleteFunc finds it. -/
structure RowAt (w : World) (gp cap : Nat) (ps : List (Nat × Value)) : Prop where
  blk : ∃ cur, Blk w gp 138 cur ∧ cur.size = cap * 2 ∧ ∀ t, t < ps.length → cur[t * 2]? = some (.int .i64 ((pen ps t).1 : Int)) ∧ cur[t * 2 + 1]? = some (pen ps t).2
theorem RowAt.at_ {w : World} {gp cap : Nat} {ps : List (Nat × Value)} (h : RowAt w gp cap ps) : ∀ j, j < ps.length → w.cell? ⟨gp, j * 2, none⟩ = some (.int .i64 ((pen ps j).1 : Int)) ∧ w.cell? ⟨gp, j * 2 + 1, none⟩ = some (pen ps j).2 := by
  obtain ⟨cur, hb, _, hc⟩ := h.blk
  exact fun j hj => ⟨(hb.cell _).trans (hc j hj).1, (hb.cell _).trans (hc j hj).2⟩
theorem Deleting.start {w w1 : World} {gp cap i k : Nat} {ps : List (Nat × Value)} (h : RowAt w gp cap ps) (hb : Below w.heap.size w w1) (hk : k < ps.length) (he : (pen ps k).1 = i) (hn : ∀ j, j < k → (pen ps j).1 ≠ i) : Deleting w gp cap ps i (k + 1) w1 ∧ (keptTo ps i (k + 1)).length = k := by
  obtain ⟨cur, h1, h2, h3⟩ := h.blk
  rw [pen_eq (List.getElem?_eq_getElem hk)] at he
  have e : keptTo ps i (k + 1) = ps.take k := by rw [keptTo_skip hk he, keptTo_none (by omega) hn]
  have hl : (ps.take k).length = k := by rw [List.length_take]; omega
  refine ⟨⟨⟨cur, h1.below hb h1.lt, h2, ?_, fun t _ ht => h3 t ht⟩, Keeps.of_below hb⟩, by rw [e, hl]⟩
  rw [e]
  intro t ht
  rw [hl] at ht
  have e2 : pen (ps.take k) t = pen ps t := by
    unfold pen
    rw [List.getElem?_take, if_pos ht]
  rw [e2]
  exact h3 t (by omega)

set_option maxRecDepth 100000 in
set_option maxHeartbeats 2000000 in
theorem delete_none (w : World) (ps : List (Nat × Value)) (i cb : Nat) (A : Option Addr) (c : Nat) (hc : w.cell? ⟨cb, 0, none⟩ = some (.int .i64 (i : Int))) (hl : ps.length ≤ 1000000000) (hv : ∀ p ∈ ps, ∃ B n c, p.2 = .slice B n c)
    (hp : 0 < ps.length → ∃ g, A = some ⟨g, 0, none⟩ ∧ ∀ j, j < ps.length → w.cell? ⟨g, j * 2, none⟩ = some (.int .i64 ((pen ps j).1 : Int)) ∧ w.cell? ⟨g, j * 2 + 1, none⟩ = some (pen ps j).2) (hall : ∀ j, j < ps.length → (pen ps j).1 ≠ i) :
    Calls Tryz.prog 84 #[.slice A ps.length c, .func (.func 85) #[] #[.pointer (some ⟨cb, 0, none⟩)]] w fun e w' => e = .returned (.slice A ps.length c) ∧ Below w.heap.size w w' := by
  have HI : Hid (Calls Tryz.prog 123 #[.slice A ps.length c, .func (.func 85) #[] #[.pointer (some ⟨cb, 0, none⟩)]] w fun e w' => e = .returned (.int .i64 (-1)) ∧ Below w.heap.size w w') :=
    (waitidx_calls w ps i cb A c hc hl hv hp).mono fun e w' ⟨hb, h⟩ => by
      rcases h with ⟨rfl, _⟩ | ⟨k, _, hk, he, _⟩
      · exact ⟨rfl, hb⟩
      · exact absurd he (hall k hk)
  clear hv hp hall
  go_enter Tryz.func84, Tryz.ntmps84
  go_wp2_with (go_at_call 123; refine HI.out.mono ?_; rintro e w1 ⟨rfl, hb1⟩; have HB1 := Lib.hid hb1; clear hb1)
  go_ret
  exact ⟨rfl, HB1.out⟩

set_option maxRecDepth 100000 in
set_option maxHeartbeats 4000000 in
theorem delete_some (w : World) (ps : List (Nat × Value)) (i cb gp cap k0 : Nat) (hc : w.cell? ⟨cb, 0, none⟩ = some (.int .i64 (i : Int))) (hcg : cb ≠ gp) (hl : ps.length ≤ 1000000000) (hv : ∀ p ∈ ps, ∃ B n c, p.2 = .slice B n c) (hr : RowAt w gp cap ps) (hcap : ps.length ≤ cap)
    (hk : k0 < ps.length) (he : (pen ps k0).1 = i) (hn : ∀ j, j < k0 → (pen ps j).1 ≠ i) :
    Calls Tryz.prog 84 #[.slice (some ⟨gp, 0, none⟩) ps.length cap, .func (.func 85) #[] #[.pointer (some ⟨cb, 0, none⟩)]] w fun e w' =>
      e = .returned (.slice (some ⟨gp, 0, none⟩) (keptTo ps i ps.length).length cap) ∧ RowAt w' gp cap (keptTo ps i ps.length) ∧ Keeps (· = gp) w w' := by
  have HI : Hid (Calls Tryz.prog 123 #[.slice (some ⟨gp, 0, none⟩) ps.length cap, .func (.func 85) #[] #[.pointer (some ⟨cb, 0, none⟩)]] w fun e w' => e = .returned (.int .i64 (k0 : Int)) ∧ Below w.heap.size w w') :=
    (waitidx_calls w ps i cb _ cap hc (by omega) hv (fun _ => ⟨gp, rfl, hr.at_⟩)).mono fun e w' ⟨hb, h⟩ => by
      rcases h with ⟨_, h⟩ | ⟨k, rfl, hk2, he2, hn2⟩
      · exact absurd he (h k0 hk)
      · have : k = k0 := by
          rcases Nat.lt_trichotomy k k0 with h | h | h
          · exact absurd he2 (hn k h)
          · exact h
          · exact absurd he (hn2 k0 h)
        rw [this]
        exact ⟨rfl, hb⟩
  have HST := Lib.hid (fun w1 (hb : Below w.heap.size w w1) => Deleting.start hr hb hk he hn)
  have HV := Lib.hid hv
  have HE := Lib.hid he
  have t0 : ((k0 : Int) == -1) = false := by rw [beq_eq_false_iff_ne]; omega
  clear hv hr he hn
  go_enter Tryz.func84, Tryz.ntmps84
  go_wp2_with (go_at_call 123; refine HI.out.mono ?_; rintro e w1 ⟨rfl, hb1⟩; have HB1 := Lib.hid hb1; clear hb1)
  go_loopw [5, 6, 7] (fun q x _ wr => ∃ j : Nat, k0 < j ∧ j ≤ ps.length ∧ x = .int .i64 j ∧ q = .int .i64 ((keptTo ps i j).length : Int) ∧ (keptTo ps i j).length < j ∧ Deleting w gp cap ps i j wr) (fun _ x _ _ => ps.length - (intOf x).toNat)
  case atStart =>
    obtain ⟨h1, h2⟩ := HST.out w1 HB1.out
    exact ⟨k0 + 1, by omega, by omega, by go_num, by rw [h2], by omega, h1⟩
  case round =>
    obtain ⟨j, hj0, hj, rfl, rfl, hq, hD⟩ := hrel
    have hcr : wr.cell? ⟨cb, 0, none⟩ = some (.int .i64 (i : Int)) := hD.2.cell hc hcg
    have hgl : gp < wr.heap.size := by
      obtain ⟨⟨cur, hb, _⟩, _⟩ := hD
      exact hb.lt
    by_cases hlt : j < ps.length
    · have tk : decide ((j : Int) < (ps.length : Int)) = true := by simp; omega
      obtain ⟨q1, q2⟩ := hD.at_ (Nat.le_refl _) hlt
      have hpk : pen ps j ∈ ps := by rw [pen_eq (List.getElem?_eq_getElem hlt)]; exact List.getElem_mem hlt
      obtain ⟨B, n2, c2, hv2⟩ := HV.out _ hpk
      have HV2 := Lib.hid hv2
      rw [hv2] at q2
      have hcra : ∀ o, (wr.alloc o).cell? ⟨cb, 0, none⟩ = some (.int .i64 (i : Int)) := fun o => Lib.cell?_alloc_some _ hcr
      obtain ⟨o, ho⟩ : ∃ o : Obj, o = .cells #[.int .i64 ((pen ps j).1 : Int), .slice B n2 c2] 138 := ⟨_, rfl⟩
      have hbo : Blk (wr.alloc o) wr.heap.size 138 #[.int .i64 ((pen ps j).1 : Int), .slice B n2 c2] := by rw [ho]; exact Blk.new wr _ _
      have hDa : Deleting w gp cap ps i j (wr.alloc o) := hD.below ((Below.refl _ wr).alloc (Nat.le_refl _) o)
      have HDA := Lib.hid hDa
      have HBO := Lib.hid hbo
      rw [ho] at hbo hDa HDA HBO
      obtain ⟨q, hqe⟩ : ∃ q, q = (keptTo ps i j).length := ⟨_, rfl⟩
      have HQ := Lib.hid hqe
      rw [← hqe] at hq ⊢
      clear hpk hv2 hD ho hbo hDa hqe
      by_cases he : (pen ps j).1 = i
      · have he2 : ((pen ps j).1 == i) = true := by simpa using he
        have HEJ := Lib.hid he
        clear he
        go_wp2_with (go_at_call 85; refine (spoil1_calls _ _ i _ _ _ cb (hcra _)).mono ?_; rw [he2]; rintro e w2 ⟨rfl, hb2⟩; have HB2 := Lib.hid hb2; clear hb2)
        go_roundw
        case rel => exact ⟨j + 1, by omega, by omega, by go_num, by rw [HQ.out, keptTo_skip hlt (by have := HEJ.out; rw [pen_eq (List.getElem?_eq_getElem hlt)] at this; exact this)], by rw [keptTo_skip hlt (by have := HEJ.out; rw [pen_eq (List.getElem?_eq_getElem hlt)] at this; exact this), ← HQ.out]; omega, (HDA.out.skip hlt HEJ.out).below HB2.out⟩
        case measure => simp [intOf]; omega
      · have he2 : ((pen ps j).1 == i) = false := by simpa using he
        have HEJ := Lib.hid he
        have hwr2 : IntKind.i64.wrap ((q : Int) + 1) = (q : Int) + 1 := IntWalk.i64_in _ (by omega)
        clear he
        go_wp2_with (go_at_call 85; refine (spoil1_calls _ _ i _ _ _ cb (hcra _)).mono ?_; rw [he2]; rintro e w2 ⟨rfl, hb2⟩; have HD2 := Lib.hid (HDA.out.below hb2); have HBO2 := Lib.hid (HBO.out.below hb2 HBO.out.lt); have z0 : w2.cell? ⟨wr.heap.size, 0, none⟩ = some (.int .i64 ((pen ps j).1 : Int)) := HBO2.out.cell 0; have z1 : w2.cell? ⟨wr.heap.size, 1, none⟩ = some (.slice B n2 c2) := HBO2.out.cell 1; obtain ⟨⟨y0, x0⟩, f0⟩ := HD2.out.has (t := q * 2) (by omega); obtain ⟨⟨y1, x1⟩, f1⟩ := HD2.out.has (t := q * 2 + 1) (by omega); clear hb2)
        go_roundw
        case rel =>
          have hkp := HD2.out.keep hlt hcap HEJ.out
          have hln : (keptTo ps i (j + 1)).length = q + 1 := by
            have := HEJ.out
            rw [pen_eq (List.getElem?_eq_getElem hlt)] at this
            rw [keptTo_keep hlt this, List.length_append, ← HQ.out]
            rfl
          rw [← HQ.out, HV2.out] at hkp
          exact ⟨j + 1, by omega, by omega, by go_num, by rw [hln]; go_num, by rw [hln]; omega, hkp⟩
        case measure => simp [intOf]; omega
    · obtain rfl : j = ps.length := by omega
      have tk : decide ((ps.length : Int) < ps.length) = false := by simp
      obtain ⟨q, hqe⟩ : ∃ q, q = (keptTo ps i ps.length).length := ⟨_, rfl⟩
      have HQ := Lib.hid hqe
      rw [← hqe] at hq ⊢
      have hqc : ¬ cap = q := by omega
      obtain ⟨vs, hcl⟩ : ∃ vs, ∀ ty, (Builtin.clear_ #[92] ty #[.slice (some ⟨gp, q * 2, none⟩) (ps.length - q) (cap - q)]).run Tryz.prog wr = .ok (.tuple #[]) (wr.setCells gp (q * 2) vs) := by
        exact clear_run wr gp (q * 2) (ps.length - q) (cap - q) (by omega) (fun t ht => hD.has (by omega))
      have HD := Lib.hid hD
      clear hD hqe
      go_wp2
      go_ret
      have hqe := HQ.out
      subst hqe
      obtain ⟨⟨cur, h1, h2, h3, _⟩, k⟩ := HD.out
      obtain ⟨cur', d1, d2, d3⟩ := Blk.setCells vs ((keptTo ps i ps.length).length * 2) h1
      exact ⟨rfl, ⟨cur', d1, by rw [d2, h2], fun t ht => ⟨(d3 (t * 2) (by omega)).trans (h3 t ht).1, (d3 (t * 2 + 1) (by omega)).trans (h3 t ht).2⟩⟩, k.trans (Keeps.setCells gp vs _ wr) (fun _ _ h => h)⟩

end Go.Proofs.YtbgiklkpinflaaaGreat

namespace Go.Proofs.YtbgiklkpinflaaaGreat
open Go.RowKit Go.Shelf
attribute [local go_sem ↓] Go.wp_at_zero Go.wp_at_succ

/-- Is the k-th of the writes to block i? -/
def hits (D : Dsk) (i k : Nat) : Bool := (D.pending[k]?.getD (i + 1, [])).1 == i
theorem settleIf_hits (D : Dsk) {i : Nat} (hi : i < D.blocks.length) : ∀ k, k ≤ D.pending.length → settleIf (hits D i) D.blocks D.pending k = D.blocks.set i (Ref.seeTo D i k)
  | 0, _ => by
    have e : Ref.seeTo D i 0 = D.blocks[i] := by
      unfold Ref.seeTo
      rw [List.take_zero, List.getElem?_eq_getElem hi]
      rfl
    rw [e, List.set_getElem_self]
    rfl
  | k + 1, h => by
    have hk : D.pending[k]? = some D.pending[k] := List.getElem?_eq_getElem (by omega)
    have ih := settleIf_hits D hi k (by omega)
    rw [Ref.seeTo_next D i hk]
    unfold settleIf
    rw [ih]
    unfold hits
    rw [hk]
    simp only [Option.getD_some]
    by_cases he : D.pending[k].1 = i
    · rw [if_pos (by simpa using he), if_pos he, he, List.set_set]
    · rw [if_neg (by simpa using he), if_neg he]
theorem settleIf_spoil (D : Dsk) {i : Nat} (hi : i < D.blocks.length) : settleIf (hits D i) D.blocks D.pending D.pending.length = D.blocks.set i (D.see i) := by
  rw [settleIf_hits D hi _ (Nat.le_refl _), Ref.seeTo_all D i (Nat.le_refl _)]

def spoilB (l : List UInt8) (k : Nat) (y : Int) : List UInt8 := l.set k (UInt8.ofNat (bits BinOp.xor IntKind.u8 ((l[k]?.getD 0).toNat : Int) y).toNat)
def Dsk.spoil (D : Dsk) (i k : Int) (y : Int) : Int × Dsk :=
  if D.down then (50, D) else if i < 0 ∨ (D.blocks.length : Int) ≤ i then (51, D) else if k < 0 ∨ 256 ≤ k then (2, D)
  else (0, { D with blocks := D.blocks.set i.toNat (spoilB (D.see i.toNat) k.toNat y), pending := D.pending.filter fun p => !(p.1 == i.toNat) })

end Go.Proofs.YtbgiklkpinflaaaGreat

namespace Go.Proofs.YtbgiklkpinflaaaGreat
open Go.RowKit Go.Shelf
attribute [local go_sem ↓] Go.wp_at_zero Go.wp_at_succ

set_option maxRecDepth 100000 in
set_option maxHeartbeats 2000000 in
theorem spoil_bad {P : Nat → Prop} {b : Nat} {D : Dsk} {S : List Nat} (w : World) (h : DiskAt P w b D S) (i k y : Int) (hbad : (D.spoil i k y).1 ≠ 0) :
    Calls Tryz.prog 34 #[.pointer (some ⟨b, 0, none⟩), .int .i64 i, .int .i64 k, .int .u8 y] w fun e w' => e = .returned (.int .i64 (D.spoil i k y).1) ∧ (D.spoil i k y).2 = D ∧ Below w.heap.size w w' := by
  obtain ⟨ho, g1, cur1, pv, ps, rfl, hr⟩ := h
  have hs := ho.some_
  have hf := ho.few
  have h0 : ∀ o, (w.alloc o).cell? ⟨b, 0, none⟩ = some (.slice (some ⟨g1, 0, none⟩) D.blocks.length cur1.size) := fun o => Lib.cell?_alloc_some _ hr.c0
  have h3 : ∀ o, (w.alloc o).cell? ⟨b, 3, none⟩ = some (.bool D.down) := fun o => Lib.cell?_alloc_some _ hr.c3
  have HD : Hid (∀ o, Calls Tryz.prog 82 #[.pointer (some ⟨b, 0, none⟩)] (w.alloc o) fun e w' => e = .returned (.bool D.down) ∧ w.alloc o = w') := fun o => down_any b _ _ _ D.down _ (h0 o) hs hf (h3 o)
  obtain ⟨R, hR⟩ : ∃ R, R = D.spoil i k y := ⟨_, rfl⟩
  rw [← hR] at hbad ⊢
  clear hr ho
  cases hd : D.down
  · rw [hd] at HD
    by_cases h1 : i < 0
    · have t1 : decide (i < 0) = true := by simpa using h1
      have e : R = (51, D) := by rw [hR]; unfold Dsk.spoil; rw [hd, if_neg (by simp), if_pos (.inl h1)]
      rw [e]
      clear hR hbad e
      go_enter Tryz.func34, Tryz.ntmps34
      go_wp2_with (go_at_call 82; refine (HD.out _).mono ?_; rintro e w1 ⟨rfl, rfl⟩)
      go_quiet (fail)
      go_wp2
      go_ret
      exact ⟨rfl, trivial, ((Below.refl _ w).alloc (Nat.le_refl _) _).drewN_ nq⟩
    · by_cases h2 : (D.blocks.length : Int) ≤ i
      · have t1 : decide (i < 0) = false := by simpa using h1
        have t2 : decide ((D.blocks.length : Int) ≤ i) = true := by simpa using h2
        have e : R = (51, D) := by rw [hR]; unfold Dsk.spoil; rw [hd, if_neg (by simp), if_pos (.inr h2)]
        rw [e]
        clear hR hbad e
        go_enter Tryz.func34, Tryz.ntmps34
        go_wp2_with (go_at_call 82; refine (HD.out _).mono ?_; rintro e w1 ⟨rfl, rfl⟩)
        go_quiet (fail)
        go_wp2
        go_ret
        exact ⟨rfl, trivial, ((Below.refl _ w).alloc (Nat.le_refl _) _).drewN_ nq⟩
      · have hk : k < 0 ∨ 256 ≤ k := by
          rcases Int.lt_or_le k 0 with h | h
          · exact .inl h
          · rcases Int.lt_or_le k 256 with h5 | h5
            · exfalso
              refine hbad ?_
              rw [hR]
              unfold Dsk.spoil
              rw [hd, if_neg (by simp), if_neg (by omega), if_neg (by omega)]
            · exact .inr h5
        have t1 : decide (i < 0) = false := by simpa using h1
        have t2 : decide ((D.blocks.length : Int) ≤ i) = false := by simpa using h2
        have e : R = (2, D) := by rw [hR]; unfold Dsk.spoil; rw [hd, if_neg (by simp), if_neg (by omega), if_pos hk]
        rw [e]
        clear hR hbad e
        by_cases h5 : k < 0
        all_goals
          first
            | (have t3 : decide (k < 0) = true := by simpa using h5)
            | (have t3 : decide (k < 0) = false := by simpa using h5
               have t4 : decide ((256 : Int) ≤ k) = true := by simp; omega)
          go_enter Tryz.func34, Tryz.ntmps34
          go_wp2_with (go_at_call 82; refine (HD.out _).mono ?_; rintro e w1 ⟨rfl, rfl⟩)
          go_quiet (fail)
          go_wp2
          go_ret
          exact ⟨rfl, trivial, ((Below.refl _ w).alloc (Nat.le_refl _) _).drewN_ nq⟩
  · have e : R = (50, D) := by rw [hR]; unfold Dsk.spoil; rw [hd, if_pos rfl]
    rw [e]
    rw [hd] at HD
    clear hR hbad e
    go_enter Tryz.func34, Tryz.ntmps34
    go_wp2_with (go_at_call 82; refine (HD.out _).mono ?_; rintro e w1 ⟨rfl, rfl⟩)
    go_ret
    exact ⟨rfl, trivial, (Below.refl _ w).alloc (Nat.le_refl _) _⟩

end Go.Proofs.YtbgiklkpinflaaaGreat

namespace Go.Proofs.YtbgiklkpinflaaaGreat
open Go.RowKit Go.Shelf

theorem kept_pl (R : Value → List UInt8 → Prop) (i : Nat) : ∀ {ps : List (Nat × Value)} {qs : List (Nat × List UInt8)}, ps.map (·.1) = qs.map (·.1) → (∀ (j : Nat) (p : Nat × List UInt8), qs[j]? = some p → ∃ v, ps[j]? = some (p.1, v) ∧ R v p.2) →
    (ps.filter fun p => !(p.1 == i)).map (·.1) = (qs.filter fun p => !(p.1 == i)).map (·.1) ∧ ∀ (j : Nat) (p : Nat × List UInt8), (qs.filter fun p => !(p.1 == i))[j]? = some p → ∃ v, (ps.filter fun p => !(p.1 == i))[j]? = some (p.1, v) ∧ R v p.2
  | [], [], _, _ => ⟨rfl, fun j p h => by simp at h⟩
  | [], q :: qs, h, _ => by simp at h
  | p :: ps, [], h, _ => by simp at h
  | p :: ps, q :: qs, h, hp => by
    simp only [List.map_cons, List.cons.injEq] at h
    obtain ⟨v, hv, hR⟩ := hp 0 q rfl
    simp only [List.getElem?_cons_zero, Option.some.injEq] at hv
    subst hv
    obtain ⟨a, c⟩ := kept_pl R i h.2 (fun j x hx => by
      have := hp (j + 1) x (by simpa using hx)
      simpa using this)
    by_cases he : q.1 = i
    · have e1 : (!(q.1 == i)) = false := by simp [he]
      simp only [List.filter_cons, e1, Bool.false_eq_true, if_false]
      exact ⟨a, c⟩
    · have e1 : (!(q.1 == i)) = true := by simp [he]
      simp only [List.filter_cons, e1, if_true, List.map_cons]
      refine ⟨by rw [a], fun j x hx => ?_⟩
      cases j with
      | zero =>
        simp only [List.getElem?_cons_zero, Option.some.injEq] at hx
        subst hx
        exact ⟨v, rfl, hR⟩
      | succ j =>
        simp only [List.getElem?_cons_succ] at hx ⊢
        exact c j x hx
theorem keptTo_end (ps : List (Nat × Value)) (i : Nat) : keptTo ps i ps.length = ps.filter fun p => !(p.1 == i) := by
  unfold keptTo
  rw [List.take_length]
theorem penCells_get (ps : List (Nat × Value)) (cur : Array Value) (h : ∀ t, t < ps.length → cur[t * 2]? = some (.int .i64 ((pen ps t).1 : Int)) ∧ cur[t * 2 + 1]? = some (pen ps t).2) : cur.toList.take (ps.length * 2) = penCells ps := by
  apply List.ext_getElem?
  intro m
  rcases Nat.lt_or_ge m (ps.length * 2) with hm | hm
  · rw [List.getElem?_take, if_pos hm, Array.getElem?_toList]
    obtain ⟨a, c⟩ := h (m / 2) (by omega)
    obtain ⟨a', c'⟩ := penCells_at ps (m / 2) (by omega)
    rcases Nat.mod_two_eq_zero_or_one m with e | e
    · have e2 : m / 2 * 2 = m := by omega
      rw [e2] at a a'
      rw [a, a']
    · have e2 : m / 2 * 2 + 1 = m := by omega
      rw [e2] at c c'
      rw [c, c']
  · rw [List.getElem?_take, if_neg (by omega), List.getElem?_eq_none (by rw [penCells_length]; exact hm)]

/-- The row has been struck, and the disk has its new slice. -/
theorem DiskRep.strike {P : Nat → Prop} {w w3 : World} {b : Nat} {E : Dsk} {g1 : Nat} {cur : Array Value} {gp n cap i : Nat} {ps : List (Nat × Value)} (h : DiskRep P w b E g1 cur (.slice (some ⟨gp, 0, none⟩) n cap) ps) (k : Keeps (· = gp) w w3) (hr : RowAt w3 gp cap (keptTo ps i ps.length))
    (hcap : ps.length ≤ cap) (hmax : cap ≤ maxLen) :
    DiskRep P (w3.setCell ⟨b, 1, none⟩ (.slice (some ⟨gp, 0, none⟩) (keptTo ps i ps.length).length cap)) b { E with pending := E.pending.filter fun p => !(p.1 == i) } g1 cur (.slice (some ⟨gp, 0, none⟩) (keptTo ps i ps.length).length cap) (keptTo ps i ps.length) := by
  have hgb : gp ≠ b := fun e => h.ne2 (by rw [e]; rfl)
  have hgg : gp ≠ g1 := fun e => h.ne3 (by rw [e]; rfl)
  have k2 : Keeps (fun x => x = gp ∨ x = b) w (w3.setCell ⟨b, 1, none⟩ (.slice (some ⟨gp, 0, none⟩) (keptTo ps i ps.length).length cap)) :=
    (k.weaken (F := fun x => x = gp ∨ x = b) (fun _ _ h => .inl h)).trans (Keeps.set1 w3 b 1 _) (fun _ _ h => .inr h)
  have hU : ∀ g cs, (g = gp ∨ g = b) → P g → Blk w g 5 cs → False := fun g cs hg _ hb => h.noBytes g cs (by
    rcases hg with e | e
    · simp [e, Value.ownBlock]
    · simp [e]) hb
  obtain ⟨hm, hq⟩ := kept_pl (fun v l => BytesAt P w v l) i h.pb (fun j p hp => h.pl j p hp)
  have hle := keptTo_le ps i ps.length
  have hlen : (keptTo ps i ps.length).length = (E.pending.filter fun p => !(p.1 == i)).length := by
    have := congrArg List.length hm
    rw [keptTo_end]
    simpa using this
  obtain ⟨cur', hb', hs', hc'⟩ := hr.blk
  refine ⟨?_, h.hg.keeps k2 (by rintro (e | e); exact hgg e.symm; exact h.ne1 e.symm), h.le, fun j l hj => ?_, ?_, ?_, fun j p hp => ?_, fun j hj => h.fresh j (Nat.le_trans k2.size hj)⟩
  · exact (h.hb.keeps k (Ne.symm hgb)).set_ 1 _
  · obtain ⟨v, hv, hB⟩ := h.bl j l hj
    exact ⟨v, hv, hB.keeps k2 hU⟩
  · have hb4 : Blk (w3.setCell ⟨b, 1, none⟩ (.slice (some ⟨gp, 0, none⟩) (keptTo ps i ps.length).length cap)) gp 138 cur' := hb'.far (p := ⟨b, 1, none⟩) hgb _
    rw [← hlen]
    refine ⟨by rw [penCells_length], .inr ⟨gp, cap, cur', rfl, Nat.zero_le _, hb4, by omega, hmax, hs', ?_⟩⟩
    exact penCells_get _ _ hc'
  · show List.map (fun q => q.1) (keptTo ps i ps.length) = List.map (fun q => q.1) (E.pending.filter fun p => !(p.1 == i))
    rw [keptTo_end]
    exact hm
  · obtain ⟨v, hv, hB⟩ := hq j p hp
    refine ⟨v, ?_, hB.keeps k2 hU⟩
    rw [keptTo_end]
    exact hv

end Go.Proofs.YtbgiklkpinflaaaGreat

namespace Go.Proofs.YtbgiklkpinflaaaGreat
open Go.RowKit Go.Shelf

theorem DiskRep.row {P : Nat → Prop} {w : World} {b : Nat} {E : Dsk} {g1 : Nat} {cur : Array Value} {pv : Value} {ps : List (Nat × Value)} (h : DiskRep P w b E g1 cur pv ps) (h0 : 0 < ps.length) : ∃ gp cap, pv = .slice (some ⟨gp, 0, none⟩) ps.length cap ∧ ps.length ≤ cap ∧ cap ≤ maxLen ∧ RowAt w gp cap ps := by
  have hpl := h.pslen
  rcases h.own.2 with ⟨_, hn⟩ | ⟨gp, cap, cu, e, _, hb, hn, hm, hs, ht⟩
  · omega
  · refine ⟨gp, cap, by rw [e, hpl], by omega, hm, ⟨cu, hb, hs, fun t htl => ?_⟩⟩
    obtain ⟨a, c⟩ := penCells_at ps t htl
    rw [← ht] at a c
    rw [List.getElem?_take] at a c
    constructor
    · split at a
      · simpa using a
      · cases a
    · split at c
      · simpa using c
      · cases c
theorem DiskRep.slices {P : Nat → Prop} {w : World} {b : Nat} {E : Dsk} {g1 : Nat} {cur : Array Value} {pv : Value} {ps : List (Nat × Value)} (h : DiskRep P w b E g1 cur pv ps) : ∀ p ∈ ps, ∃ B n c, p.2 = .slice B n c := by
  intro p hp
  obtain ⟨j, hj, rfl⟩ := List.getElem_of_mem hp
  have hj' : j < E.pending.length := by rw [← h.pslen]; exact hj
  obtain ⟨v, hv, g, cap, _, e, _⟩ := h.pl j _ (List.getElem?_eq_getElem hj')
  rw [List.getElem?_eq_getElem hj] at hv
  injection hv with hv
  rw [hv]
  exact ⟨_, _, _, e⟩
theorem delete_rep {P : Nat → Prop} {w : World} {b : Nat} {E : Dsk} {g1 : Nat} {cur : Array Value} {pv : Value} {ps : List (Nat × Value)} (h : DiskRep P w b E g1 cur pv ps) (hn : ps.length ≤ 1000000) {i cb : Nat} (hcb : Blk w cb 3 #[.int .i64 (i : Int)]) :
    Calls Tryz.prog 84 #[pv, .func (.func 85) #[] #[.pointer (some ⟨cb, 0, none⟩)]] w fun e w' =>
      ∃ A n c ps', e = .returned (.slice A n c) ∧ (Value.slice A n c).ownBlock = pv.ownBlock ∧ Keeps (fun x => pv.ownBlock = some x) w w' ∧ DiskRep P (w'.setCell ⟨b, 1, none⟩ (.slice A n c)) b { E with pending := E.pending.filter fun p => !(p.1 == i) } g1 cur (.slice A n c) ps' := by
  have hc : w.cell? ⟨cb, 0, none⟩ = some (.int .i64 (i : Int)) := hcb.cell 0
  by_cases hall : ∀ j, j < ps.length → (pen ps j).1 ≠ i
  · obtain ⟨A, c, rfl, hp⟩ := PenSlice.of_own h.own h.pslen
    refine (delete_none w ps i cb A c hc (by omega) h.slices (fun h0 => let ⟨g, e, _, hp⟩ := hp h0; ⟨g, e, hp⟩) hall).mono ?_
    rintro e w' ⟨rfl, hb⟩
    refine ⟨A, ps.length, c, ps, rfl, rfl, Keeps.of_below hb, ?_⟩
    have hflt : (ps.filter fun p => !(p.1 == i)) = ps := by
      rw [← keptTo_end, keptTo_none (Nat.le_refl _) hall, List.take_length]
    obtain ⟨hm, hq⟩ := kept_pl (fun v l => BytesAt P w v l) i h.pb (fun j p hp => h.pl j p hp)
    have h' := h.keepsB hb (Nat.le_refl _)
    have k4 : Keeps (· = b) w' (w'.setCell ⟨b, 1, none⟩ (.slice A ps.length c)) := Keeps.set1 _ b 1 _
    have hU : ∀ g cs, g = b → P g → Blk w' g 5 cs → False := fun g cs hg _ hb => h'.noBytes g cs (by simp [hg]) hb
    have hlen : (E.pending.filter fun p => !(p.1 == i)).length = E.pending.length := by
      have := congrArg List.length hm
      rw [hflt] at this
      rw [← h.pslen]
      simpa using this.symm
    refine ⟨h'.hb.set_ 1 _, h'.hg.keeps k4 (Ne.symm h'.ne1), h'.le, fun j l hj => ?_, ?_, ?_, fun j p hp => ?_, fun j hj => h'.fresh j (Nat.le_trans k4.size hj)⟩
    · obtain ⟨v, hv, hB⟩ := h'.bl j l hj
      exact ⟨v, hv, hB.keeps k4 hU⟩
    · show World.ownsRow _ _ _ _ _ (E.pending.filter fun p => !(p.1 == i)).length _
      rw [hlen]
      exact ownsRow_keeps h'.own k4 fun g hg e => h'.ne2 (by rw [hg, e])
    · show List.map (fun q => q.1) ps = List.map (fun q => q.1) (E.pending.filter fun p => !(p.1 == i))
      rw [hflt] at hm
      exact hm
    · obtain ⟨v, hv, hB⟩ := hq j p hp
      rw [hflt] at hv
      exact ⟨v, hv, (hB.keeps (Keeps.of_below (F := fun _ => False) hb) (fun _ _ h => h.elim)).keeps k4 hU⟩
  · have hex : ∃ k0, k0 < ps.length ∧ (pen ps k0).1 = i ∧ ∀ j, j < k0 → (pen ps j).1 ≠ i := by
      have hex : ∃ k, k < ps.length ∧ (pen ps k).1 = i := by
        rcases Classical.not_forall.1 hall with ⟨k, hk⟩
        obtain ⟨h1, h2⟩ := Classical.not_imp.1 hk
        exact ⟨k, h1, Classical.not_not.1 h2⟩
      obtain ⟨k, hk⟩ := hex
      induction k using Nat.strongRecOn with
      | ind k ih =>
        by_cases hl : ∃ j, j < k ∧ (pen ps j).1 = i
        · obtain ⟨j, hj, he⟩ := hl
          exact ih j hj ⟨by omega, he⟩
        · exact ⟨k, hk.1, hk.2, fun j hj he => hl ⟨j, hj, he⟩⟩
    obtain ⟨k0, hk0, he, hne⟩ := hex
    obtain ⟨gp, cap, rfl, hcap, hmax, hr⟩ := h.row (by omega)
    have hcg : cb ≠ gp := by
      obtain ⟨cu, hb, _⟩ := hr.blk
      exact hcb.ne_ hb (by decide)
    refine (delete_some w ps i cb gp cap k0 hc hcg (by omega) h.slices hr hcap hk0 he hne).mono ?_
    rintro e w' ⟨rfl, hr', k⟩
    refine ⟨_, _, _, keptTo ps i ps.length, rfl, rfl, k.weaken fun x _ e => ?_, h.strike k hr' hcap hmax⟩
    rw [e]
    rfl

end Go.Proofs.YtbgiklkpinflaaaGreat

namespace Go.Proofs.YtbgiklkpinflaaaGreat
open Go.RowKit Go.Shelf

theorem bv_ofNat {x : Int} (h0 : 0 ≤ x) (h1 : x < 256) : bv (UInt8.ofNat x.toNat) = .int .u8 x := by
  unfold bv
  rw [UInt8.toNat_ofNat_of_lt' (by simp [UInt8.size]; omega)]
  congr 1
  omega
/-- One byte of bytes that lie whole in a block is set. -/
theorem BytesAt.set_ {Q : Nat → Prop} {w : World} {g cap : Nat} {l : List UInt8} (h : BytesAt Q w (.slice (some ⟨g, 0, none⟩) l.length cap) l) (k : Nat) (x : UInt8) :
    BytesAt Q (w.setCell ⟨g, k, none⟩ (bv x)) (.slice (some ⟨g, 0, none⟩) l.length cap) (l.set k x) := by
  obtain ⟨g', cap', cur, hv, hq, hb, h1, h2, h3, h4⟩ := h
  injection hv with ha _ hc
  injection ha with ha
  injection ha with ha _ _
  subst ha hc
  refine ⟨g, cap, cur.setIfInBounds k (bv x), by rw [List.length_set], hq, hb.set_ k _, by rw [List.length_set]; exact h1, h2, by rw [Array.size_setIfInBounds]; exact h3, ?_⟩
  rw [List.length_set, Array.toList_setIfInBounds, List.take_set, h4, List.map_set]
/-- A new copy l of block i takes its place, and one byte of the copy is set behind it. -/
theorem DiskRep.spoiled {P : Nat → Prop} {w w2 : World} {b : Nat} {E : Dsk} {g1 : Nat} {cur : Array Value} {pv : Value} {ps : List (Nat × Value)} (h : DiskRep P w b E g1 cur pv ps) (k2 : Keeps (fun _ => False) w w2) {g cap : Nat} {l : List UInt8}
    (hB : BytesAt (w.heap.size ≤ ·) w2 (.slice (some ⟨g, 0, none⟩) l.length cap) l) {i : Nat} (hi : i < E.blocks.length) (k : Nat) (x : UInt8) :
    DiskRep P ((w2.setCell ⟨g1, i, none⟩ (.slice (some ⟨g, 0, none⟩) l.length cap)).setCell ⟨g, k, none⟩ (bv x)) b { E with blocks := E.blocks.set i (l.set k x) } g1 (cur.setIfInBounds i (.slice (some ⟨g, 0, none⟩) l.length cap)) pv ps := by
  have hgs : w.heap.size ≤ g := by
    obtain ⟨g', cap', cur', hv, hq, _⟩ := hB
    injection hv with ha _ _
    injection ha with ha
    injection ha with ha _ _
    rw [ha]; exact hq
  have hlt : ∀ q, q ∈ b :: g1 :: pv.ownBlock.toList → q < w.heap.size := by
    intro q hq
    simp only [List.mem_cons, Option.mem_toList] at hq
    rcases hq with rfl | rfl | hq
    · exact h.hb.lt
    · exact h.hg.lt
    · rcases h.own.2 with ⟨hv, _⟩ | ⟨gq, _, _, hv, _, hg, _⟩
      · rw [hv] at hq; simp [Value.ownBlock] at hq
      · rw [hv] at hq; simp [Value.ownBlock] at hq
        subst hq
        exact Blk.lt (t := 138) hg
  have hne : g1 ≠ g := fun e => by have := hlt g1 (by simp); omega
  have ka : Keeps (· = g) w (w2.setCell ⟨g, k, none⟩ (bv x)) := (k2.weaken (F := (· = g)) (fun _ _ h => h.elim)).setCell (p := ⟨g, k, none⟩) (fun _ => rfl) _
  have ra : DiskRep P (w2.setCell ⟨g, k, none⟩ (bv x)) b E g1 cur pv ps := h.keeps ka (fun q hq e => by have := hlt q hq; omega) (fun q cs e _ hk => by have := hk.lt; omega)
  have rb := ra.setBlock i (l.set k x) (.slice (some ⟨g, 0, none⟩) l.length cap) ((hB.set_ k x).mono fun q hq => h.fresh q hq) hi
  refine rb.keeps (F := fun _ => False) ⟨rfl, rfl, rfl, by simp [World.setCell], fun q hq _ => ?_⟩ (fun _ _ => id) (fun _ _ h => h.elim)
  by_cases e1 : q = g1
  · subst e1
    rw [Below.heap_setCell _ _ _ _ hne]
    simp [World.setCell, Array.getElem?_modify, Ne.symm hne]
  · rw [Below.heap_setCell (w2.setCell ⟨g, k, none⟩ (bv x)) ⟨g1, i, none⟩ _ q e1]
    by_cases e2 : q = g
    · subst e2
      simp [World.setCell, Array.getElem?_modify, hne]
    · rw [Below.heap_setCell w2 ⟨g, k, none⟩ (bv x) q e2, Below.heap_setCell (w2.setCell ⟨g1, i, none⟩ (.slice (some ⟨g, 0, none⟩) l.length cap)) ⟨g, k, none⟩ (bv x) q e2, Below.heap_setCell w2 ⟨g1, i, none⟩ _ q e1]

end Go.Proofs.YtbgiklkpinflaaaGreat

namespace Go.Proofs.YtbgiklkpinflaaaGreat.Ref
open Go.RowKit Go.Shelf
open Go.Proofs.YtbgiklkpinflaaaGreat hiding DiskRep DiskAt After PenSlice Settling Crashing

/-- k of the writes have been looked at; those to other blocks are in the slice v. -/
def Spoiling (P : Nat → Prop) (w : World) (b : Nat) (D : Dsk) (i g1 : Nat) (cur1 : Array Value) (pv : Value) (ps : List (Nat × Value)) (k : Nat) (v : Value) (wr : World) : Prop :=
  Crashing P w b D (hits D i) g1 cur1 pv ps k wr ∧ wr.ownsRow w.heap.size 178 2 v (keptTo ps i k).length (penCells (keptTo ps i k))

section
variable {P : Nat → Prop} {w : World} {b : Nat} {D : Dsk} {i g1 : Nat} {cur1 : Array Value} {pv : Value} {ps : List (Nat × Value)} {k : Nat} {v : Value} {wr : World}
theorem Spoiling.start (h : DiskRep P w b D g1 cur1 pv ps) : Spoiling P w b D i g1 cur1 pv ps 0 (.slice none 0 0) w :=
  ⟨⟨cur1, rfl, h, Keeps.refl _ _⟩, rfl, .inl ⟨rfl, rfl⟩⟩
theorem Spoiling.hit (h : Spoiling P w b D i g1 cur1 pv ps k v wr) (hf : hits D i k = true) (hk : k < ps.length) (he : (pen ps k).1 = i) (hE : DskOk D) (o : Obj) : Spoiling P w b D i g1 cur1 pv ps (k + 1) v ((wr.alloc o).setCell ⟨g1, i, none⟩ (pen ps k).2).drew := by
  have hst := h.1.step hf hk hE o
  rw [he] at hst
  refine ⟨hst, ?_⟩
  have he' := he
  rw [pen_eq (List.getElem?_eq_getElem hk)] at he'
  rw [keptTo_skip hk he']
  obtain ⟨cur, _, hr, _⟩ := h.1
  exact (ownsRow_keeps h.2 (((Keeps.refl (fun _ => False) wr).alloc o).weaken (F := (· = g1)) (fun _ _ h => h.elim) |>.setCell (p := ⟨g1, i, none⟩) (fun _ => rfl) _) (fun g hg e => own_blk_ne h.2 hr.hg (by decide) (by rw [hg, e]))).drew
theorem Crashing.keeps {f : Nat → Bool} {w2 : World} (h : Crashing P w b D f g1 cur1 pv ps k wr) (hw : ∀ q, q ∈ b :: g1 :: pv.ownBlock.toList → q < w.heap.size) {F : Nat → Prop} (k2 : Keeps F wr w2) (hF : ∀ q, F q → w.heap.size ≤ q) (hU : ∀ g cs, F g → Blk wr g 5 cs → False) : Crashing P w b D f g1 cur1 pv ps k w2 := by
  obtain ⟨cur, hs, hr, hk⟩ := h
  refine ⟨cur, hs, hr.keeps k2 (fun q hq hq2 => by have := hw q hq; have := hF q hq2; omega) (fun g cs h _ hb => hU g cs h hb), hk.trans k2 (fun q hq h => by have := hF q h; omega)⟩
theorem Crashing.pass {f : Nat → Bool} (h : Crashing P w b D f g1 cur1 pv ps k wr) (hf : f k = false) : Crashing P w b D f g1 cur1 pv ps (k + 1) wr := by
  obtain ⟨cur, hcs, hr, hkk⟩ := h
  refine ⟨cur, hcs, ?_, hkk⟩
  have e : settleIf f D.blocks D.pending (k + 1) = settleIf f D.blocks D.pending k := by
    show (if f k then _ else _) = _
    rw [hf, if_neg (by simp)]
  rw [e]
  exact hr
theorem DiskRep.blks (h : DiskRep P w b D g1 cur1 pv ps) : ∀ q, q ∈ b :: g1 :: pv.ownBlock.toList → q < w.heap.size := by
  intro q hq
  simp only [List.mem_cons, Option.mem_toList] at hq
  rcases hq with rfl | rfl | hq
  · exact h.hb.lt
  · exact h.hg.lt
  · rcases h.own.2 with ⟨hv, _⟩ | ⟨gq, _, _, hv, _, hg, _⟩
    · rw [hv] at hq; simp [Value.ownBlock] at hq
    · rw [hv] at hq; simp [Value.ownBlock] at hq
      subst hq
      exact Blk.lt (t := 178) hg
theorem Spoiling.other {w3 : World} {gg cap2 : Nat} {o1 o2 : Obj} (h : Spoiling P w b D i g1 cur1 pv ps k v wr) (hw : ∀ q, q ∈ b :: g1 :: pv.ownBlock.toList → q < w.heap.size) (hf : hits D i k = false) (hk : k < ps.length) (he : (pen ps k).1 ≠ i)
    (hown : w3.ownsRow w.heap.size 178 2 (.slice (some ⟨gg, 0, none⟩) ((keptTo ps i k).length + 1) cap2) ((keptTo ps i k).length + 1) (penCells (keptTo ps i k) ++ [.int .i64 ((pen ps k).1 : Int), (pen ps k).2])) (hgrow : ((wr.alloc o1).alloc o2).grownBy w3 v.ownBlock) :
    Spoiling P w b D i g1 cur1 pv ps (k + 1) (.slice (some ⟨gg, 0, none⟩) ((keptTo ps i k).length + 1) cap2) w3 := by
  have k3 : Keeps (fun q => v.ownBlock = some q) wr w3 := (((Keeps.refl _ wr).alloc o1).alloc o2).grown hgrow (fun g h _ => h)
  have hvb : ∀ q, v.ownBlock = some q → w.heap.size ≤ q := by
    intro q hq
    rcases h.2.2 with ⟨hv, _⟩ | ⟨g, _, _, hv, hb, _⟩
    · rw [hv] at hq; simp [Value.ownBlock] at hq
    · rw [hv] at hq; simp [Value.ownBlock] at hq
      omega
  refine ⟨(h.1.keeps hw k3 hvb (fun g cs e hb => own_blk_ne h.2 hb (by decide) e)).pass hf, ?_⟩
  have he' := he
  rw [pen_eq (List.getElem?_eq_getElem hk)] at he'
  rw [pen_eq (List.getElem?_eq_getElem hk)] at hown
  rw [keptTo_keep hk he', penCells_append, List.length_append]
  simpa [penCells] using hown
/-- The list of what is left has been stored. -/
theorem Spoiling.stored (h : Spoiling P w b D i g1 cur1 pv ps ps.length v wr) (hi : i < D.blocks.length) :
    ∃ cur, DiskRep P (wr.setCell ⟨b, 1, none⟩ v) b { D with blocks := D.blocks.set i (D.see i), pending := D.pending.filter fun p => !(p.1 == i) } g1 cur v (keptTo ps i ps.length) ∧ Keeps (fun q => q = b ∨ q = g1) w (wr.setCell ⟨b, 1, none⟩ v) := by
  obtain ⟨⟨cur, hs, hr, hk⟩, hown⟩ := h
  have hpl : ps.length = D.pending.length := hr.pslen
  rw [hpl, settleIf_spoil D hi] at hr
  have k4 : Keeps (· = b) wr (wr.setCell ⟨b, 1, none⟩ v) := Keeps.set1 _ b 1 _
  have hU : ∀ g cs, g = b → P g → Blk wr g 5 cs → False := fun g cs hg _ hb => hr.noBytes g cs (by simp [hg]) hb
  obtain ⟨hm, hq⟩ := kept_pl (fun v l => BytesAt P wr v l) i hr.pb (fun j p hp => hr.pl j p hp)
  have hflt : keptTo ps i ps.length = ps.filter fun p => !(p.1 == i) := keptTo_end ps i
  have hlen : (keptTo ps i ps.length).length = (D.pending.filter fun p => !(p.1 == i)).length := by
    have := congrArg List.length hm
    rw [hflt]
    simpa using this
  refine ⟨cur, ⟨?_, hr.hg.keeps k4 (Ne.symm hr.ne1), hr.le, fun j l hj => ?_, ?_, ?_, fun j p hj => ?_, fun j hj => hr.fresh j (Nat.le_trans k4.size hj)⟩, (hk.weaken (F := fun q => q = b ∨ q = g1) (fun _ _ h => .inr h)).trans k4 (fun _ _ h => .inl h)⟩
  · exact hr.hb.set_ 1 v
  · obtain ⟨v', hv, hB⟩ := hr.bl j l hj
    exact ⟨v', hv, hB.keeps k4 hU⟩
  · show World.ownsRow _ _ _ _ _ (D.pending.filter fun p => !(p.1 == i)).length _
    rw [← hlen]
    have h4 := ownsRow_keeps hown k4 fun g hg e => own_blk_ne hown hr.hb (by decide) (by rw [hg, e])
    refine ⟨h4.1, h4.2.imp id ?_⟩
    rintro ⟨g, cap, c, e, _, r⟩
    exact ⟨g, cap, c, e, Nat.zero_le _, r⟩
  · show List.map (fun q : Nat × Value => q.1) _ = List.map (fun q : Nat × List UInt8 => q.1) (D.pending.filter fun p => !(p.1 == i))
    rw [hflt]
    exact hm
  · obtain ⟨v', hv, hB⟩ := hq j p hj
    rw [hflt]
    exact ⟨v', hv, hB.keeps k4 hU⟩
end
theorem filter_ok {D : Dsk} {i : Nat} (ho : DskOk D) (l : List UInt8) (hl : l.length = 256) : DskOk { D with blocks := D.blocks.set i l, pending := D.pending.filter fun p => !(p.1 == i) } :=
  ⟨fun x hx => by
    rcases List.mem_or_eq_of_mem_set hx with h | h
    · exact ho.blk x h
    · rw [h]; exact hl, fun p hp => by
    have := ho.pen p (List.mem_filter.1 hp).1
    simpa using this, by simpa using ho.some_, by simpa using ho.few, ho.armedLe⟩
theorem see_length {D : Dsk} (ho : DskOk D) {i : Nat} (hi : i < D.blocks.length) : (D.see i).length = 256 := by
  unfold Dsk.see
  cases hf : D.pending.reverse.find? (fun p => p.1 == i) with
  | none =>
    rw [List.getElem?_eq_getElem hi]
    exact ho.blk _ (List.getElem_mem hi)
  | some p =>
    exact (ho.pen p (by simpa using List.mem_of_find?_eq_some hf)).2
theorem spoilB_length (l : List UInt8) (k : Nat) (y : Int) : (spoilB l k y).length = l.length := by unfold spoilB; exact List.length_set
/-- A new block with the bytes of block i, one of them changed, takes its place. -/
theorem DiskRep.placed {P : Nat → Prop} {w w2 : World} {b : Nat} {E : Dsk} {g1 : Nat} {cur : Array Value} {pv : Value} {ps : List (Nat × Value)} (h : DiskRep P w b E g1 cur pv ps) (k2 : Keeps (fun _ => False) w w2) {g cap : Nat} {l : List UInt8}
    (hB : BytesAt (w.heap.size ≤ ·) w2 (.slice (some ⟨g, 0, none⟩) l.length cap) l) {i : Nat} (hi : i < E.blocks.length) (k : Nat) (x : UInt8) :
    DiskRep P ((w2.setCell ⟨g, k, none⟩ (bv x)).setCell ⟨g1, i, none⟩ (.slice (some ⟨g, 0, none⟩) l.length cap)) b { E with blocks := E.blocks.set i (l.set k x) } g1 (cur.setIfInBounds i (.slice (some ⟨g, 0, none⟩) l.length cap)) pv ps := by
  have hgs : w.heap.size ≤ g := by
    obtain ⟨g', cap', cur', hv, hq, _⟩ := hB
    injection hv with ha _ _
    injection ha with ha
    injection ha with ha _ _
    rw [ha]; exact hq
  have hlt := h.blks
  have ka : Keeps (· = g) w (w2.setCell ⟨g, k, none⟩ (bv x)) := (k2.weaken (F := (· = g)) (fun _ _ h => h.elim)).setCell (p := ⟨g, k, none⟩) (fun _ => rfl) _
  have ra : DiskRep P (w2.setCell ⟨g, k, none⟩ (bv x)) b E g1 cur pv ps := h.keeps ka (fun q hq e => by have := hlt q hq; omega) (fun q cs e _ hk => by have := hk.lt; omega)
  exact ra.setBlock i (l.set k x) (.slice (some ⟨g, 0, none⟩) l.length cap) ((hB.set_ k x).mono fun q hq => h.fresh q hq) hi

end Go.Proofs.YtbgiklkpinflaaaGreat.Ref

namespace Go.Proofs.YtbgiklkpinflaaaGreat
open Go.RowKit Go.Shelf

theorem After.drew_ {P : Nat → Prop} {w w1 : World} {b : Nat} {E : Dsk} {S : List Nat} (h : After P w w1 b E S) : After P w w1.drew b E S := h.below ((Below.refl _ w1).drew_)
theorem spoil_fine {D : Dsk} (hd : D.down = false) {i k : Nat} (y : Int) (hi : i < D.blocks.length) (hk : k < 256) : D.spoil i k y = (0, { D with blocks := D.blocks.set i (spoilB (D.see i) k y), pending := D.pending.filter fun p => !(p.1 == i) }) := by
  unfold Dsk.spoil
  rw [hd, if_neg (by simp), if_neg (by omega), if_neg (by omega)]
  simp
theorem spoil_end {P : Nat → Prop} {w W4 w5 : World} {b g1 g5 cap5 i k : Nat} {D : Dsk} {cur : Array Value} {pv pv3 : Value} {ps3 : List (Nat × Value)} {l : List UInt8} {y : Int} (hr4 : DiskRep P W4 b { D with blocks := D.blocks.set i l, pending := D.pending.filter fun p => !(p.1 == i) } g1 cur pv3 ps3) (hk5 : Keeps (fun _ => False) W4 w5)
    (hb5 : BytesAt (W4.heap.size ≤ ·) w5 (.slice (some ⟨g5, 0, none⟩) l.length cap5) l) (ho : DskOk D) (hi : i < D.blocks.length) (hd : D.down = false) (hk : k < 256) (hl : l = D.see i) (hkw : Keeps (fun q => q = b ∨ q = g1 ∨ pv.ownBlock = some q) w W4) (hpv : pv3.ownBlock = pv.ownBlock) :
    After P w ((w5.setCell ⟨g1, i, none⟩ (.slice (some ⟨g5, 0, none⟩) l.length cap5)).setCell ⟨g5, k, none⟩ (.int .u8 (bits BinOp.xor IntKind.u8 ((l[k]?.getD 0).toNat : Int) y))) b (D.spoil i k y).2 (b :: g1 :: pv.ownBlock.toList) := by
  have hsp := DiskRep.spoiled hr4 hk5 hb5 (i := i) (by simpa using hi) k (UInt8.ofNat (bits BinOp.xor IntKind.u8 ((l[k]?.getD 0).toNat : Int) y).toNat)
  rw [bv_ofNat (bits_lo_u8 _ _ _) (by have := bits_hi_u8 BinOp.xor ((l[k]?.getD 0).toNat : Int) y; omega)] at hsp
  have hg5 : W4.heap.size ≤ g5 := by
    obtain ⟨g', cap', cur', hv, hq, _⟩ := hb5
    injection hv with ha _ _
    injection ha with ha
    injection ha with ha _ _
    rw [ha]; exact hq
  have e : (D.spoil i k y).2 = { D with blocks := (D.blocks.set i l).set i (l.set k (UInt8.ofNat (bits BinOp.xor IntKind.u8 ((l[k]?.getD 0).toNat : Int) y).toNat)), pending := D.pending.filter fun p => !(p.1 == i) } := by
    rw [spoil_fine hd y hi hk, List.set_set, hl]
    rfl
  have hok : DskOk (D.spoil i k y).2 := by
    rw [spoil_fine hd y hi hk]
    exact Ref.filter_ok ho _ (by rw [Ref.spoilB_length, Ref.see_length ho hi])
  rw [e] at hok ⊢
  refine ⟨b :: g1 :: pv3.ownBlock.toList, ⟨hok, g1, _, pv3, ps3, rfl, hsp⟩, fun q hq => .inl (by rw [← hpv]; exact hq), ?_⟩
  · have k1 : Keeps (fun q => q ∈ b :: g1 :: pv.ownBlock.toList) w W4 := hkw.weaken fun q _ h => by
      rcases h with h | h | h <;> simp [h]
    have hs := hkw.size
    exact ((k1.trans hk5 (fun _ _ h => h.elim)).setCell (p := ⟨g1, i, none⟩) (fun _ => by simp) _).setCell (p := ⟨g5, k, none⟩) (fun h => by have h : g5 < w.heap.size := h; omega) _

end Go.Proofs.YtbgiklkpinflaaaGreat

namespace Go.Proofs.YtbgiklkpinflaaaGreat
open Go.RowKit Go.Shelf
attribute [local go_sem ↓] Go.wp_at_zero Go.wp_at_succ

set_option maxRecDepth 100000 in
set_option maxHeartbeats 4000000 in
theorem spoil_good {P : Nat → Prop} {b : Nat} {D : Dsk} {g1 : Nat} {cur1 : Array Value} {pv : Value} {ps : List (Nat × Value)} (w : World) (h : DiskRep P w b D g1 cur1 pv ps) (ho : DskOk D) (hd : D.down = false) (hn : D.pending.length ≤ 1000000)
    (i k : Nat) (y : Int) (hi : i < D.blocks.length) (hk : k < 256) :
    Calls Tryz.prog 34 #[.pointer (some ⟨b, 0, none⟩), .int .i64 (i : Int), .int .i64 (k : Int), .int .u8 y] w fun e w' => e = .returned (.int .i64 0) ∧ After P w w' b (D.spoil i k y).2 (b :: g1 :: pv.ownBlock.toList) := by
  have hs := ho.some_
  have hf := ho.few
  have h3 : ∀ o, (w.alloc o).cell? ⟨b, 3, none⟩ = some (.bool false) := fun o => by rw [← hd]; exact Lib.cell?_alloc_some _ h.c3
  have h0 : ∀ o, (w.alloc o).cell? ⟨b, 0, none⟩ = some (.slice (some ⟨g1, 0, none⟩) D.blocks.length cur1.size) := fun o => Lib.cell?_alloc_some _ h.c0
  have HD : Hid (∀ o, Calls Tryz.prog 82 #[.pointer (some ⟨b, 0, none⟩)] (w.alloc o) fun e w' => e = .returned (.bool false) ∧ w.alloc o = w') := fun o => down_any b _ _ _ false _ (h0 o) hs hf (h3 o)
  obtain ⟨A1, c1, rfl, hp1⟩ := PenSlice.of_own h.own h.pslen
  have h1 : ∀ o, (w.alloc o).cell? ⟨b, 1, none⟩ = some (.slice A1 ps.length c1) := fun o => Lib.cell?_alloc_some _ h.c1
  have hpl := h.pslen
  have hpsr : ps.length ≤ 1000000 := by omega
  have t1 : decide ((i : Int) < 0) = false := by simp
  have t2 : decide ((D.blocks.length : Int) ≤ (i : Int)) = false := by simp; omega
  have t3 : decide ((k : Int) < 0) = false := by simp
  have t4 : decide ((256 : Int) ≤ (k : Int)) = false := by simp; omega
  have HR := Lib.hid h
  have HO := Lib.hid ho
  have HP := Lib.hid hp1
  clear hp1 h ho
  go_enter Tryz.func34, Tryz.ntmps34
  go_wp2_with (go_at_call 82; refine (HD.out _).mono ?_; rintro e w1 ⟨rfl, rfl⟩)
  go_quiet (fail)
  have hB0 : Below w.heap.size w ((w.alloc (.cells #[.int .i64 (i : Int)] 3)).drewN nq) := ((Below.refl _ w).alloc (Nat.le_refl _) _).drewN_ nq
  have hbs : Blk ((w.alloc (.cells #[.int .i64 (i : Int)] 3)).drewN nq) w.heap.size 3 #[.int .i64 (i : Int)] := (Blk.new w _ _).drewN nq
  obtain ⟨W0, hW0⟩ : ∃ W0, W0 = (w.alloc (.cells #[.int .i64 (i : Int)] 3)).drewN nq := ⟨_, rfl⟩
  rw [← hW0] at hB0 hbs ⊢
  have e1 : W0.cell? ⟨b, 1, none⟩ = some (.slice A1 ps.length c1) := by rw [hW0]; exact h1 _
  have hR0 : DiskRep P W0 b D g1 cur1 (.slice A1 ps.length c1) ps := HR.out.keepsB hB0 (Nat.le_refl _)
  have HR0 := Lib.hid hR0
  have HBS := Lib.hid hbs
  have HB0 := Lib.hid hB0
  clear hW0 h0 h1 h3 hR0 hbs hB0
  go_wp2
  go_loopw [10, 38] (fun _ x wr => ∃ j : Nat, j ≤ ps.length ∧ x = .int .i64 j ∧ Crashing P W0 b D (hits D i) g1 cur1 (.slice A1 ps.length c1) ps j wr) (fun _ x _ => ps.length - (intOf x).toNat)
  case atStart => exact ⟨0, Nat.zero_le _, rfl, cur1, rfl, HR0.out, Keeps.refl _ _⟩
  case round =>
    obtain ⟨j, hj, rfl, hset⟩ := hrel
    have hbr : Blk wr w.heap.size 3 #[.int .i64 (i : Int)] := by
      obtain ⟨cur, _, hr, hkk⟩ := hset
      exact HBS.out.keeps hkk (HBS.out.ne_ HR0.out.hg (by decide))
    have qs : wr.cell? ⟨w.heap.size, 0, none⟩ = some (.int .i64 (i : Int)) := hbr.cell 0
    have qsa : ∀ o, (wr.alloc o).cell? ⟨w.heap.size, 0, none⟩ = some (.int .i64 (i : Int)) := fun o => Lib.cell?_alloc_some _ qs
    by_cases hlt : j < ps.length
    · obtain ⟨gp, rfl, _, hpen⟩ := HP.out (by omega)
      obtain ⟨q1, q2⟩ := hset.pen_at hlt rfl
      obtain ⟨cur, hcs, hr, hkk⟩ := id hset
      obtain ⟨l, hpk, hB⟩ := hr.pen_at j hlt
      obtain ⟨gx, cx, _, hvx, _⟩ := id hB
      have hpk' : D.pending[j]? = some ((pen ps j).1, l) := hpk
      have q3 := hr.c0
      simp only [settleIf_length] at q3
      have q4 := hr.hg.frozen i
      obtain ⟨go, no, co, q5⟩ := hset.has hi
      have HX := Lib.hid hvx
      rw [hvx] at q2
      have q3a : ∀ o, (wr.alloc o).cell? ⟨b, 0, none⟩ = some (.slice (some ⟨g1, 0, none⟩) D.blocks.length cur.size) := fun o => Lib.cell?_alloc_some _ q3
      have q5a : ∀ o, (wr.alloc o).cell? ⟨g1, i, none⟩ = some (.slice go no co) := fun o => Lib.cell?_alloc_some _ q5
      have q4a : ∀ o, (wr.alloc o).frozen? ⟨g1, i, none⟩ = false := fun o => by rw [World.frozen?_alloc_old _ _ _ (Nat.ne_of_lt hr.hg.lt)]; exact q4
      have HS := Lib.hid hset
      have tk : decide ((j : Int) < (ps.length : Int)) = true := by simp; omega
      have hht : hits D i j = ((pen ps j).1 == i) := by unfold hits; rw [hpk']; rfl
      have HHT := Lib.hid hht
      clear hset hpk hpk' hvx hB hr hkk hcs hpen hht hbr
      by_cases he : (pen ps j).1 = i
      · have he2 : (((pen ps j).1 : Int) == (i : Int)) = true := by simp [he]
        have hf2 : hits D i j = true := by rw [HHT.out]; simpa using he
        have HE := Lib.hid he
        clear he
        go_wp2
        go_region
        all_goals
          go_wp2
          go_roundw
          case rel =>
            have hst := HS.out.step hf2 hlt HO.out (.cells #[.int .i64 ((pen ps j).1 : Int), (pen ps j).2] 138)
            rw [HX.out] at hst
            rw [HE.out] at hst ⊢
            exact ⟨j + 1, by omega, by go_num, hst⟩
          case measure => simp [intOf]; omega
      · have he2 : (((pen ps j).1 : Int) == (i : Int)) = false := by rw [beq_eq_false_iff_ne]; omega
        have hf2 : hits D i j = false := by rw [HHT.out]; simpa using he
        clear he
        go_wp2
        go_roundw
        case rel => exact ⟨j + 1, by omega, by go_num, HS.out.skip hf2 _⟩
        case measure => simp [intOf]; omega
    · obtain rfl : j = ps.length := by omega
      have tk : decide ((ps.length : Int) < ps.length) = false := by simp
      obtain ⟨cur, hcs, hr, hkk⟩ := hset
      rw [hpl, settleIf_spoil D hi] at hr
      have q1 := hr.c1
      have HRJ := Lib.hid hr
      have HBR := Lib.hid hbr
      have HKK := Lib.hid hkk
      have hDl := delete_rep hr hpsr hbr
      have HDl := Lib.hid hDl
      clear hr hbr hkk hDl
      go_upto_region 14 with (go_at_call 84; refine HDl.out.mono ?_; rintro e w3 ⟨A3, n3, c3, ps3, rfl, hob, hk3, hr3⟩; have HR3 := Lib.hid hr3; have HK3 := Lib.hid hk3; have HOB := Lib.hid hob; have z1 : ∃ v, w3.cell? ⟨b, 1, none⟩ = some v := ⟨_, (HRJ.out.hb.keeps hk3 HRJ.out.ne2).cell 1⟩; obtain ⟨v3, z1⟩ := z1; have zf := (HRJ.out.hb.keeps hk3 HRJ.out.ne2).frozen 1; clear hr3 hk3 hob)
      have HOK : Hid (Value.ownBlock (.slice A1 D.pending.length c1) ≠ some w.heap.size) := own_blk_ne HRJ.out.own HBR.out (by decide)
      obtain ⟨W4, hW4⟩ : ∃ W4, W4 = w3.setCell ⟨b, 1, none⟩ (.slice A3 n3 c3) := ⟨_, rfl⟩
      have hbi4 : Blk W4 w.heap.size 3 #[.int .i64 (i : Int)] := by rw [hW4]; exact (HBR.out.keeps HK3.out HOK.out).far (p := ⟨b, 1, none⟩) (HBR.out.ne_ HRJ.out.hb (by decide)) _
      have hr4 := HR3.out
      have HW4 := Lib.hid hW4
      rw [← hW4] at hr4 ⊢
      clear hW4
      obtain ⟨vq, hvq, hBq⟩ := hr4.bl i (D.see i) (by rw [List.getElem?_set_self hi])
      obtain ⟨gq, cq, curq, rfl, _, _, _, hcq⟩ := hBq.cells
      have HCQ := Lib.hid hcq
      have q40 := hr4.c0
      simp only [List.length_set] at q40
      have q4i : W4.cell? ⟨w.heap.size, 0, none⟩ = some (.int .i64 (i : Int)) := hbi4.cell 0
      have q4g : W4.cell? ⟨g1, i, none⟩ = some (.slice (some ⟨gq, 0, none⟩) (D.see i).length cq) := (hr4.hg.cell i).trans hvq
      have f4g := hr4.hg.frozen i
      have HSL := Lib.hid (Ref.see_length HO.out hi)
      have hl2 : (D.see i).length ≤ 70368744177664 := by rw [HSL.out]; decide
      have HR4 := Lib.hid hr4
      have HBI4 := Lib.hid hbi4
      clear hr4 hbi4 hcq hBq hvq
      obtain ⟨l4, hl4⟩ : ∃ l4, l4 = D.see i := ⟨_, rfl⟩
      rw [← hl4] at q4g hl2 HSL HCQ
      have HL4 := Lib.hid hl4
      clear hl4
      go_cut [] from 64 to 77 (fun wx => ∃ w5 g5 cap5, wx = w5.setCell ⟨g1, i, none⟩ (.slice (some ⟨g5, 0, none⟩) l4.length cap5) ∧ Keeps (fun _ => False) W4 w5 ∧ BytesAt (W4.heap.size ≤ ·) w5 (.slice (some ⟨g5, 0, none⟩) l4.length cap5) l4)
      case first =>
        go_region_law
          (go_simp; go_at_call 86; refine (clone_bytes gq 0 l4.length cq l4 _ rfl hl2 ?_).mono ?_; exact HCQ.out; rintro e w5 ⟨g5, cap5, rfl, hB5, hbel5⟩; have HB5 := Lib.hid hB5; have HK5 : Hid (Keeps (fun _ => False) W4 w5) := Keeps.of_belowD hbel5; have q50 := HK5.out.cell q40 id; have q5i := HK5.out.cell q4i id; have q5g := HK5.out.cell q4g id; have f5g := (HR4.out.hg.keeps HK5.out id).frozen i; clear hB5 hbel5)
        all_goals
          go_wp2_with fail
          go_meet
          exact ⟨_, _, _, rfl, HK5.out, HB5.out⟩
      case rest =>
        obtain ⟨w5, g5, cap5, rfl, hk5, hb5⟩ := hcut
        have hr4 := HR4.out
        rw [← HL4.out] at hr4
        have HR4L := Lib.hid hr4
        have HB5L := Lib.hid hb5
        obtain ⟨g5', cap5', cur5, hv5, hq5, hb5', _, _, hs5, ht5⟩ := hb5
        injection hv5 with ha _ hc5
        injection ha with ha
        injection ha with ha _ _
        subst ha hc5
        obtain ⟨W6, hW6⟩ : ∃ W6, W6 = w5.setCell ⟨g1, i, none⟩ (.slice (some ⟨g5, 0, none⟩) l4.length cap5) := ⟨_, rfl⟩
        have hg16 := (hr4.hg.keeps hk5 id).set_ i (.slice (some ⟨g5, 0, none⟩) l4.length cap5)
        have hb6 := (hr4.hb.keeps hk5 id).far (p := ⟨g1, i, none⟩) hr4.ne1 (.slice (some ⟨g5, 0, none⟩) l4.length cap5)
        have hi6 := (HBI4.out.keeps hk5 id).far (p := ⟨g1, i, none⟩) (HBI4.out.ne_ hr4.hg (by decide)) (.slice (some ⟨g5, 0, none⟩) l4.length cap5)
        have h56 := hb5'.far (p := ⟨g1, i, none⟩) (fun e => by have := hr4.hg.lt; have e : g5 = g1 := e; omega) (.slice (some ⟨g5, 0, none⟩) l4.length cap5)
        rw [← hW6] at hg16 hb6 hi6 h56
        have s0 : W6.cell? ⟨b, 0, none⟩ = some (.slice (some ⟨g1, 0, none⟩) D.blocks.length cur.size) := by have := hb6.cell 0; simpa using this
        have si : W6.cell? ⟨w.heap.size, 0, none⟩ = some (.int .i64 (i : Int)) := hi6.cell 0
        have sg : W6.cell? ⟨g1, i, none⟩ = some (.slice (some ⟨g5, 0, none⟩) l4.length cap5) := (hg16.cell i).trans (by have := hr4.le; simp at this; rw [Array.getElem?_setIfInBounds_self_of_lt]; omega)
        have hl4 : l4.length = 256 := HSL.out
        obtain ⟨x8, hx8⟩ : ∃ x : Int, x = ((l4[k]?.getD 0).toNat : Int) := ⟨_, rfl⟩
        have sk : W6.cell? ⟨g5, k, none⟩ = some (.int .u8 x8) := (h56.cell k).trans (by
          rw [hx8]
          have hk4 : k < l4.length := by omega
          have := congrArg (fun z => z[k]?) ht5
          simp only [List.getElem?_take, if_pos hk4, List.getElem?_map, List.getElem?_eq_getElem hk4, Array.getElem?_toList] at this
          rw [this, List.getElem?_eq_getElem hk4]
          rfl)
        have sf := h56.frozen k
        rw [hl4] at sg
        have HW6 := Lib.hid hW6
        rw [← hW6]
        clear hW6 hg16 hb6 hi6 h56 hl4 ht5 hs5 hb5' hr4
        have HKW : Hid (Keeps (fun q => q = b ∨ q = g1 ∨ (Value.slice A1 D.pending.length c1).ownBlock = some q) w W4) := by
          have ka : Keeps (fun q => q = b ∨ q = g1 ∨ (Value.slice A1 D.pending.length c1).ownBlock = some q) w W0 := Keeps.of_below HB0.out
          have kb := ka.trans HKK.out fun q _ h => .inr (.inl h)
          have kc := kb.trans HK3.out fun q _ h => .inr (.inr h)
          rw [HW4.out]
          exact kc.setCell (p := ⟨b, 1, none⟩) (fun _ => .inl rfl) _
        have HEND := Lib.hid (spoil_end (y := y) HR4L.out hk5 HB5L.out HO.out hi hd hk HL4.out HKW.out HOB.out)
        rw [← hx8, ← HW6.out] at HEND
        clear hx8
        go_wp2
        go_region
        all_goals
          go_wp2
          go_ret
          have hend := HEND.out.drew_
          rw [← hpl] at hend
          exact ⟨rfl, hend⟩

end Go.Proofs.YtbgiklkpinflaaaGreat
