/- The disk as data, and how it lies in memory. -/
import Derived.Test.YtbgiklkpinflaaaBytes
import Derived.Test.YtbgiklkpinflaaaDisk1
namespace Go.Proofs.Ytbgiklkpinflaaa
open Go.RowKit

/-- A disk. -/
structure Dsk where
  blocks : List (List UInt8)
  pending : List (Nat × List UInt8)
  armed : Nat
  down : Bool
  life : Nat

/-- What every disk that was made keeps to. -/
structure DskOk (D : Dsk) : Prop where
  blk : ∀ l ∈ D.blocks, l.length = 256
  pen : ∀ p ∈ D.pending, p.1 < D.blocks.length ∧ p.2.length = 256
  some_ : 0 < D.blocks.length
  few : D.blocks.length ≤ 1024
  armedLe : D.armed ≤ 9223372036854775807

/-- The cells of pending writes. -/
def penCells (ps : List (Nat × Value)) : List Value := ps.flatMap fun p => [.int .i64 (p.1 : Int), p.2]
theorem penCells_append (ps qs : List (Nat × Value)) : penCells (ps ++ qs) = penCells ps ++ penCells qs := by simp [penCells]
theorem penCells_length (ps : List (Nat × Value)) : (penCells ps).length = ps.length * 2 := by
  induction ps with
  | nil => rfl
  | cons p ps ih => simp only [penCells, List.flatMap_cons, List.length_append, List.length_cons, List.length_nil] at ih ⊢; omega

/-- How a disk lies in memory: its struct in block b, its list of blocks in block g1, its pending writes in the slice pv. -/
structure DiskRep (P : Nat → Prop) (w : World) (b : Nat) (D : Dsk) (g1 : Nat) (cur1 : Array Value) (pv : Value) (ps : List (Nat × Value)) : Prop where
  hb : Blk w b 99 #[.slice (some ⟨g1, 0, none⟩) D.blocks.length cur1.size, pv, .int .i64 (D.armed : Int), .bool D.down, .int .i64 (D.life : Int)]
  hg : Blk w g1 26 cur1
  le : D.blocks.length ≤ cur1.size
  bl : ∀ (i : Nat) (l : List UInt8), D.blocks[i]? = some l → ∃ v : Value, cur1[i]? = some v ∧ BytesAt P w v l
  own : w.ownsRow 0 109 2 pv D.pending.length (penCells ps)
  pb : ps.map (fun q => q.1) = D.pending.map (fun q => q.1)
  pl : ∀ (i : Nat) (p : Nat × List UInt8), D.pending[i]? = some p → ∃ v : Value, ps[i]? = some (p.1, v) ∧ BytesAt P w v p.2
  fresh : ∀ k, w.heap.size ≤ k → P k

/-- The disk D lies in memory at block b; S: the blocks that it may write. -/
def DiskAt (P : Nat → Prop) (w : World) (b : Nat) (D : Dsk) (S : List Nat) : Prop :=
  DskOk D ∧ ∃ g1 cur1 pv ps, S = b :: g1 :: pv.ownBlock.toList ∧ DiskRep P w b D g1 cur1 pv ps

/-- The counted call fails or not. -/
def Dsk.fails (D : Dsk) : Bool × Dsk :=
  if D.armed = 0 then (false, D)
  else if D.armed = 1 then (true, { D with armed := 0, down := true, life := D.life + 1 })
  else (false, { D with armed := D.armed - 1 })

def Dsk.write (D : Dsk) (i : Int) (l : List UInt8) : Int × Dsk :=
  if D.down then (50, D)
  else if i < 0 ∨ (D.blocks.length : Int) ≤ i ∨ l.length ≠ 256 then (51, D)
  else if D.fails.1 then (50, D.fails.2)
  else (0, { D.fails.2 with pending := D.fails.2.pending ++ [(i.toNat, l)] })

section
variable {P : Nat → Prop} {w w' : World} {b : Nat} {D : Dsk} {g1 : Nat} {cur1 : Array Value} {pv : Value} {ps : List (Nat × Value)}
theorem DiskRep.c0 (h : DiskRep P w b D g1 cur1 pv ps) : w.cell? ⟨b, 0, none⟩ = some (.slice (some ⟨g1, 0, none⟩) D.blocks.length cur1.size) := by rw [h.hb.cell]; rfl
theorem DiskRep.c1 (h : DiskRep P w b D g1 cur1 pv ps) : w.cell? ⟨b, 1, none⟩ = some pv := by rw [h.hb.cell]; rfl
theorem DiskRep.c2 (h : DiskRep P w b D g1 cur1 pv ps) : w.cell? ⟨b, 2, none⟩ = some (.int .i64 (D.armed : Int)) := by rw [h.hb.cell]; rfl
theorem DiskRep.c3 (h : DiskRep P w b D g1 cur1 pv ps) : w.cell? ⟨b, 3, none⟩ = some (.bool D.down) := by rw [h.hb.cell]; rfl
theorem DiskRep.c4 (h : DiskRep P w b D g1 cur1 pv ps) : w.cell? ⟨b, 4, none⟩ = some (.int .i64 (D.life : Int)) := by rw [h.hb.cell]; rfl
theorem DiskRep.pslen (h : DiskRep P w b D g1 cur1 pv ps) : ps.length = D.pending.length := by have := congrArg List.length h.pb; simpa using this
theorem DiskRep.ne1 (h : DiskRep P w b D g1 cur1 pv ps) : b ≠ g1 := h.hb.ne_ h.hg (by decide)
theorem own_blk_ne {base g n : Nat} {e t : TypeId} {size : Nat} {v : Value} {xs : List Value} {cs : Array Value} (h : w.ownsRow base e size v n xs) (hg : Blk w g t cs) (hne : e ≠ t) : v.ownBlock ≠ some g := by
  rcases h.2 with ⟨rfl, _⟩ | ⟨g', cap, cur, rfl, _, hh, _⟩
  · simp [Value.ownBlock]
  · intro he
    have : g' = g := by simpa [Value.ownBlock] using he
    subst this
    exact Blk.ne_ (t := e) hh hg hne rfl
theorem DiskRep.ne2 (h : DiskRep P w b D g1 cur1 pv ps) : pv.ownBlock ≠ some b := own_blk_ne h.own h.hb (by decide)
theorem DiskRep.ne3 (h : DiskRep P w b D g1 cur1 pv ps) : pv.ownBlock ≠ some g1 := own_blk_ne h.own h.hg (by decide)
theorem ownsRow_keeps {F : Nat → Prop} {base n : Nat} {e : TypeId} {size : Nat} {v : Value} {xs : List Value} (h : w.ownsRow base e size v n xs) (k : Keeps F w w') (hF : ∀ g, v.ownBlock = some g → ¬ F g) : w'.ownsRow base e size v n xs := by
  refine ⟨h.1, ?_⟩
  rcases h.2 with hn | ⟨g, cap, cur, rfl, hb, hgg, rest⟩
  · exact .inl hn
  · exact .inr ⟨g, cap, cur, rfl, hb, Blk.keeps (t := e) hgg k (hF g (by simp [Value.ownBlock])), rest⟩
/-- The disk's own blocks are no blocks of bytes. -/
theorem DiskRep.noBytes (h : DiskRep P w b D g1 cur1 pv ps) : ∀ g cs, g ∈ b :: g1 :: pv.ownBlock.toList → Blk w g 5 cs → False := by
  intro g cs hg hk
  simp only [List.mem_cons, Option.mem_toList] at hg
  rcases hg with rfl | rfl | hg
  · exact hk.ne_ h.hb (by decide) rfl
  · exact hk.ne_ h.hg (by decide) rfl
  · exact own_blk_ne h.own hk (by decide) hg
/-- Nothing of the disk's own is written: the disk is as it was. -/
theorem DiskRep.keeps {F : Nat → Prop} (h : DiskRep P w b D g1 cur1 pv ps) (k : Keeps F w w') (hF : ∀ g, g ∈ b :: g1 :: pv.ownBlock.toList → ¬ F g) (hU : ∀ g cs, F g → P g → Blk w g 5 cs → False) : DiskRep P w' b D g1 cur1 pv ps where
  hb := h.hb.keeps k (hF b (by simp))
  hg := h.hg.keeps k (hF g1 (by simp))
  le := h.le
  bl := fun i l hi => let ⟨v, hv, hB⟩ := h.bl i l hi; ⟨v, hv, hB.keeps k hU⟩
  own := ownsRow_keeps h.own k fun g hg => hF g (by simp [hg])
  pb := h.pb
  pl := fun i p hp => let ⟨v, hv, hB⟩ := h.pl i p hp; ⟨v, hv, hB.keeps k hU⟩
  fresh := fun i hi => h.fresh i (Nat.le_trans k.size hi)
end

end Go.Proofs.Ytbgiklkpinflaaa
