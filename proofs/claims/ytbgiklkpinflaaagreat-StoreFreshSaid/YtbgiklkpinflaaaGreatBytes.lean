/- Bytes in memory; slices.Clone at []byte. -/
import Derived.Test.YtbgiklkpinflaaaGreatMem
import Derived.Deep.RegionHeld3
import Derived.Deep.RegionLaw
import Derived.Deep.RegionWith
import Derived.Deep.QuietTactic
import Derived.BigQuiet
import Derived.Deep.AppendLies
import Derived.Deep.DrawnRows
import Derived.Lib.Hide
import Derived.Lib.Walk
import Derived.Lib.SliceRun
namespace Go.Proofs.YtbgiklkpinflaaaGreat
open Go.RowKit

theorem _root_.Go.RowKit.Below.drewN_ {B : Nat} {a w : World} (h : Below B a w) (n : Nat) : Below B a (w.drewN n) := ⟨h.os, h.tape, h.output, h.size, h.block⟩
theorem _root_.Go.RowKit.Below.drew_ {B : Nat} {a w : World} (h : Below B a w) : Below B a w.drew := ⟨h.os, h.tape, h.output, h.size, h.block⟩

/-- A byte as a cell. -/
def bv (b : UInt8) : Value := .int .u8 (b.toNat : Int)
/-- The cells xs lie in block g from offset o on. -/
def Cells (w : World) (g o : Nat) (xs : List Value) : Prop := ∀ j u, xs[j]? = some u → w.cell? ⟨g, o + j, none⟩ = some u
theorem oneCell_bv (l : List UInt8) : ∀ u ∈ l.map bv, u.oneCell' = true := by
  intro u hu
  obtain ⟨b, _, rfl⟩ := List.mem_map.1 hu
  rfl
theorem Cells.keeps {F : Nat → Prop} {w w' : World} {g o : Nat} {xs : List Value} (h : Cells w g o xs) (k : Keeps F w w') (hF : ¬ F g) : Cells w' g o xs := fun j u hj => k.cell (h j u hj) hF
theorem Cells.at_ {w : World} {g o : Nat} {xs : List Value} (h : Cells w g o xs) (j : Nat) (hj : j < xs.length) : w.cell? ⟨g, o + j, none⟩ = some xs[j] := h j _ (List.getElem?_eq_getElem hj)
theorem Cells.nil_ {w : World} {g o : Nat} : Cells w g o [] := fun j u h => by simp at h

/-- The slice v, with the whole of a block behind it, holds the bytes l. -/
def BytesAt (P : Nat → Prop) (w : World) (v : Value) (l : List UInt8) : Prop :=
  ∃ g cap cur, v = .slice (some ⟨g, 0, none⟩) l.length cap ∧ P g ∧ Blk w g 5 cur ∧ l.length ≤ cap ∧ cap ≤ maxLen ∧ cur.size = cap ∧ cur.toList.take l.length = l.map bv

theorem BytesAt.keeps {P F : Nat → Prop} {w w' : World} {v : Value} {l : List UInt8} (h : BytesAt P w v l) (k : Keeps F w w') (hF : ∀ g cs, F g → P g → Blk w g 5 cs → False) : BytesAt P w' v l := by
  obtain ⟨g, cap, cur, hv, hp, hb, h1, h2, h3, h4⟩ := h
  exact ⟨g, cap, cur, hv, hp, hb.keeps k (fun hg => hF g cur hg hp hb), h1, h2, h3, h4⟩
theorem BytesAt.mono {P Q : Nat → Prop} {w : World} {v : Value} {l : List UInt8} (h : BytesAt P w v l) (hQ : ∀ g, P g → Q g) : BytesAt Q w v l := by
  obtain ⟨g, cap, cur, hv, hp, r⟩ := h
  exact ⟨g, cap, cur, hv, hQ g hp, r⟩

theorem take_cells {w : World} {g : Nat} {t : TypeId} {cur : Array Value} {n : Nat} {xs : List Value} (hb : Blk w g t cur) (h : cur.toList.take n = xs) : Cells w g 0 xs := by
  intro j u hj
  rw [Nat.zero_add, hb.cell]
  rw [← h, List.getElem?_take] at hj
  split at hj
  · simpa using hj
  · cases hj

theorem BytesAt.cells {P : Nat → Prop} {w : World} {v : Value} {l : List UInt8} (h : BytesAt P w v l) : ∃ g cap cur, v = .slice (some ⟨g, 0, none⟩) l.length cap ∧ l.length ≤ cap ∧ P g ∧ Blk w g 5 cur ∧ Cells w g 0 (l.map bv) := by
  obtain ⟨g, cap, cur, hv, hp, hb, h1, h2, h3, h4⟩ := h
  exact ⟨g, cap, cur, hv, h1, hp, hb, take_cells hb h4⟩

theorem BytesAt.of_own {w : World} {base n : Nat} {v : Value} {l : List UInt8} (h : w.ownsRow base 5 1 v n (l.map bv)) (hn : v ≠ .slice none 0 0) : BytesAt (base ≤ ·) w v l := by
  obtain ⟨h1, h2⟩ := h
  have hl : l.length = n := by simpa using h1
  subst hl
  rcases h2 with ⟨hv, _⟩ | ⟨g, cap, cur, rfl, hb, hg, hnc, hcm, hcs, ht⟩
  · exact absurd hv hn
  · exact ⟨g, cap, cur, rfl, hb, hg, hnc, hcm, by omega, by simpa using ht⟩

theorem Tryz.infoU8 : (Tryz.prog.info? 5).map (fun i => (i.zero, i.size, i.bytes)) = some (some (.int .u8 0), 1, 1) := by kernel_rfl

set_option maxHeartbeats 2000000 in
/-- slices.Clone of bytes that are not nil: the same bytes in a new block. -/
theorem clone_bytes (g o n c : Nat) (l : List UInt8) (w : World) (hl : n = l.length) (hn : l.length ≤ 70368744177664) (hc : Cells w g o (l.map bv)) :
    Calls Tryz.prog 86 #[.slice (some ⟨g, o, none⟩) n c] w fun e w' => ∃ g' cap, e = .returned (.slice (some ⟨g', 0, none⟩) l.length cap) ∧ BytesAt (w.heap.size ≤ ·) w' (.slice (some ⟨g', 0, none⟩) l.length cap) l ∧ Below w.heap.size w w' := by
  subst hl
  obtain ⟨i0, hi, hz0, hz1, hz2⟩ := info_parts Tryz.infoU8
  have q : ∀ (w : World) (a : Option Addr) (n c n' c' : Nat), (binOp .eql 89 (.slice a n c) (.slice none n' c')).run Tryz.prog w = .ok (.bool a.isNone) w := fun w a n c n' c' => Lib.run_eql_slice_nil w _ _ a n c n' c' Tryz.underlying89
  have A : Hid (Cells w g o (l.map bv)) := hc
  clear hc
  go_enter Tryz.func86, Tryz.ntmps86
  go_wp2_with (at_builtin; refine wpList_append_own _ rfl _ _ 89 rfl w.heap.size 5 i0 (.int .u8 0) 1 1 Tryz.underlying89 hi hz0 hz1 hz2 rfl (by decide) _ _ _ rfl (World.ownsRow_made w #[] 0 (Nat.le_refl _) (Nat.zero_le _) (by simp)) ⟨g, o, none⟩ l.length c (l.map bv) rfl ?qc1 ?qc2 ?qc3 ?qc4 ?qc5 ?qc6 ?_)
  case qc1 => simp
  case qc2 =>
    intro j u hj
    rw [Addr.add_lit]
    exact Lib.cell?_alloc_some _ (A.out j u hj)
  case qc3 => exact oneCell_bv l
  case qc4 => unfold maxLen; omega
  case qc5 => omega
  case qc6 => simp
  intro v' w1 hown hgrow hnil
  go_wp2
  go_ret
  have hne : v' ≠ .slice none 0 0 := hnil
  have hown' : w1.ownsRow w.heap.size 5 1 v' l.length (l.map bv) := by simpa using hown
  have hb := BytesAt.of_own hown' hne
  have hb' := hb
  obtain ⟨g', cap, cur, rfl, _⟩ := hb'
  refine ⟨g', cap, rfl, hb, ?_⟩
  exact ((Below.refl _ w).alloc (Nat.le_refl _) _).grown hgrow (by simp) (by intro k hk; simp [Value.ownBlock] at hk; omega)

end Go.Proofs.YtbgiklkpinflaaaGreat
