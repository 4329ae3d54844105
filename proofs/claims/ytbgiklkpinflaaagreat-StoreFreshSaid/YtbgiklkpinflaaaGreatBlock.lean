/- block. -/
import Derived.Test.YtbgiklkpinflaaaGreatPut
namespace Go.Proofs.YtbgiklkpinflaaaGreat
open Go.RowKit Go.Shelf

/-- A block of the disk: its bytes, and the next block's number. -/
def blockOf (l : List UInt8) (next : Nat) : List UInt8 := ((splice zeros 0 l).set 240 (byteOf next 1)).set 241 (byteOf next 0)
theorem blockOf_length (l : List UInt8) (next : Nat) (h : l.length ≤ 256) : (blockOf l next).length = 256 := by
  simp only [blockOf, List.length_set]
  rw [length_splice, zeros_length]
  rw [zeros_length]
  omega
theorem splice_map {α β : Type} (f : α → β) (L : List α) (o : Nat) (cs : List α) : splice (L.map f) o (cs.map f) = (splice L o cs).map f := by
  simp [splice]
/-- The bytes of a block that are used. -/
theorem blockOf_take (l : List UInt8) (next : Nat) (h : l.length ≤ 240) : (blockOf l next).take 240 = l ++ List.replicate (240 - l.length) 0 := by
  unfold blockOf
  rw [List.take_set_of_le (by omega), List.take_set_of_le (by omega)]
  simp only [splice, zeros, List.take_zero, List.nil_append, Nat.zero_add, List.drop_replicate]
  rw [List.take_append, List.take_of_length_le (by omega), List.take_replicate]
  congr 1
  congr 1
  omega
theorem Tryz.sizeU8 : (Tryz.prog.info? 5).map (·.size) = some 1 := by kernel_rfl

set_option maxRecDepth 100000 in
set_option maxHeartbeats 2000000 in
theorem block_calls (A : Option Addr) (n c : Nat) (l : List UInt8) (next : Nat) (w : World) (hn : n = l.length) (hl : l.length ≤ 240) (hx : next ≤ 65535) (hc : 0 < l.length → ∃ g o, A = some ⟨g, o, none⟩ ∧ Cells w g o (l.map bv)) :
    Calls Tryz.prog 75 #[.slice A n c, .int .i64 (next : Int)] w fun e w' => e = .returned (.slice (some ⟨w.heap.size, 0, none⟩) 256 256) ∧ BytesAt (w.heap.size ≤ ·) w' (.slice (some ⟨w.heap.size, 0, none⟩) 256 256) (blockOf l next) ∧ Below w.heap.size w w' := by
  subst hn
  have hmk := Tryz.make256
  have H1 : Hid ((l.map bv).length = Nat.min l.length 256) := by
    show (l.map bv).length = min l.length 256
    rw [List.length_map]
    omega
  have H2 : Hid (0 < (l.map bv).length → some (⟨w.heap.size, 0, none⟩ : Addr) = some ⟨w.heap.size, 0, none⟩ ∧ ∃ ad, A = some ad ∧ ∀ j v, (l.map bv)[j]? = some v → (w.alloc (.cells zcells 5)).cell? (ad.add j) = some v) := by
    intro h0
    obtain ⟨g, o, rfl, hcl⟩ := hc (by simpa using h0)
    refine ⟨rfl, _, rfl, fun j v hj => ?_⟩
    rw [Addr.add_lit]
    exact Lib.cell?_alloc_some _ (hcl j v hj)
  have H3 : Hid (0 + (l.map bv).length ≤ (zeros.map bv).length) := by
    show 0 + (l.map bv).length ≤ (zeros.map bv).length
    rw [List.length_map, List.length_map, zeros_length]
    omega
  clear hc
  go_enter Tryz.func75, Tryz.ntmps75
  go_wp2_with (with_reducible refine wpList_copy_splice rfl _ _ _ _ rfl 5 Tryz.underlying89 Tryz.sizeU8 (some ⟨w.heap.size, 0, none⟩) A 256 256 l.length c rfl rfl w.heap.size 0 (zeros.map bv) 5 (heap_alloc_new _ _) (l.map bv) H1.out H2.out H3.out (oneCell_bv l) w.heap.size w ((Below.refl _ w).alloc (Nat.le_refl _) _) (Nat.le_refl _) ?_)
  intro w1 hb1 hbel
  have B1 : Blk w1 w.heap.size 5 (((splice zeros 0 l).map bv).toArray) := by rw [← splice_map]; exact hb1
  have hlen : (splice zeros 0 l).length = 256 := by rw [length_splice, zeros_length]; rw [zeros_length]; omega
  have g1 : ∀ i, i < 256 → ∃ x : Int, w1.cell? ⟨w.heap.size, i, none⟩ = some (.int .u8 x) := by
    intro i hi
    rw [B1.cell]
    refine ⟨((splice zeros 0 l)[i].toNat : Int), ?_⟩
    simp [hlen, hi, bv]
  obtain ⟨x1, q1⟩ := g1 240 (by decide)
  obtain ⟨x2, q2⟩ := g1 241 (by decide)
  have f1 := B1.frozen 240
  have f2 := B1.frozen 241
  have HL := Lib.hid hlen
  have hx' : (next : Int) ≤ 65535 := by omega
  clear g1 hb1 hlen
  go_wp2
  go_ret
  have e1 : ((next : Int) / 256) = ((byteOf next 1).toNat : Int) := by rw [← byteOf_int]; simp only [Nat.mul_one]; omega
  have e2 : ((next : Int) % 256) = ((byteOf next 0).toNat : Int) := by rw [← byteOf_int]; simp
  have B2 := (B1.set_ 240 (.int .u8 ((next : Int) / 256))).set_ 241 (.int .u8 ((next : Int) % 256))
  have e3 : (((((splice zeros 0 l).map bv).toArray).setIfInBounds 240 (.int .u8 ((next : Int) / 256))).setIfInBounds 241 (.int .u8 ((next : Int) % 256))) = ((blockOf l next).map bv).toArray := by
    rw [e1, e2]
    apply Array.ext'
    simp [blockOf, bv, List.map_set]
  rw [e3] at B2
  have hbl := blockOf_length l next (by omega)
  refine ⟨rfl, ⟨w.heap.size, 256, _, by rw [hbl], Nat.le_refl _, B2, by omega, by unfold maxLen; omega, by simp [hbl], by rw [hbl]; exact List.take_of_length_le (by simp [hbl])⟩, ?_⟩
  exact (hbel.setCell (p := ⟨w.heap.size, 240, none⟩) (Nat.le_refl _) _).setCell (p := ⟨w.heap.size, 241, none⟩) (Nat.le_refl _) _

theorem block_calls0 (A : Option Addr) (n c : Nat) (l : List UInt8) (w : World) (hn : n = l.length) (hl : l.length ≤ 240) (hc : 0 < l.length → ∃ g o, A = some ⟨g, o, none⟩ ∧ Cells w g o (l.map bv)) :
    Calls Tryz.prog 75 #[.slice A n c, .int .i64 0] w fun e w' => e = .returned (.slice (some ⟨w.heap.size, 0, none⟩) 256 256) ∧ BytesAt (w.heap.size ≤ ·) w' (.slice (some ⟨w.heap.size, 0, none⟩) 256 256) (blockOf l 0) ∧ Below w.heap.size w w' :=
  block_calls A n c l 0 w hn hl (by decide) hc

end Go.Proofs.YtbgiklkpinflaaaGreat
