/- root. -/
import Derived.Test.YtbgiklkpinflaaaGreatSpread
import Derived.Lib.SlBytesConst
namespace Go.Proofs.YtbgiklkpinflaaaGreat
open Go.RowKit Go.Shelf

theorem own_of_blk {w : World} {g base n cap : Nat} {cur : Array Value} {xs : List Value} {t : TypeId} (hb : Blk w g t cur) (hB : base ≤ g) (hn : n ≤ cap) (hc : cap ≤ maxLen) (hs : cur.size = cap) (ht : cur.toList.take n = xs) : w.ownsRow base t 1 (.slice (some ⟨g, 0, none⟩) n cap) n xs := by
  refine ⟨?_, .inr ⟨g, cap, cur, rfl, hB, hb, hn, hc, by omega, by simpa using ht⟩⟩
  rw [← ht]
  simp
  omega

/-- The bytes of a root, up to its checksum. -/
def rootHead (gen first : Nat) (b : List UInt8) : List UInt8 := [65, 82, 67, 86] ++ be gen 8 ++ be first 2 ++ be b.length 4 ++ be (crc b).toNat 4
def rootOf (gen first : Nat) (b : List UInt8) : List UInt8 := blockOf (rootHead gen first b ++ be (crc (rootHead gen first b)).toNat 4) 0
theorem rootHead_length (gen first : Nat) (b : List UInt8) : (rootHead gen first b).length = 22 := by simp [rootHead, be_length]

theorem rootHead_eq {gen first x : Nat} {b : List UInt8} (h : x = (crc b).toNat) : rootHead gen first b = [65, 82, 67, 86] ++ be gen 8 ++ be first 2 ++ be b.length 4 ++ be x 4 := by
  subst h
  rfl

/-- The bytes of an owned row, as a slice of bytes. -/
theorem own_cells {w : World} {base : Nat} {v : Value} {l : List UInt8} (h : w.ownsRow base 5 1 v l.length (l.map bv)) : ∃ A c, v = .slice A l.length c ∧ (0 < l.length → ∃ g o, A = some ⟨g, o, none⟩ ∧ Cells w g o (l.map bv)) := by
  rcases h.2 with h1 | ⟨g, cap, cur, rfl, hb, hg, hnc, hcm, hcs, ht⟩
  · have h0 := h1.2
    exact ⟨none, 0, by rw [h1.1, h0], fun h => by omega⟩
  · exact ⟨_, cap, rfl, fun _ => ⟨g, 0, rfl, take_cells hg (by simpa using ht)⟩⟩

set_option maxRecDepth 100000 in
set_option maxHeartbeats 4000000 in
theorem root_calls {a : Nat} {gen : Nat} {mv iv : Value} {index : List Nat} (w : World) (hs : Blk w a 133 #[.int .i64 (gen : Int), mv, iv]) (hi : NumsAt w iv index) (h0 : 0 < index.length) (hgen : gen ≤ 4611686018427387904) (hi1 : index[0] ≤ 65535)
    (l : List UInt8) (v : Value) (hv : ∃ A c, v = .slice A l.length c ∧ (0 < l.length → ∃ g o, A = some ⟨g, o, none⟩ ∧ Cells w g o (l.map bv))) (hl : l.length ≤ 1000000000) :
    Calls Tryz.prog 120 #[.pointer (some ⟨a, 0, none⟩), v] w fun e w' => ∃ g, e = .returned (.slice (some ⟨g, 0, none⟩) 256 256) ∧ BytesAt (w.heap.size ≤ ·) w' (.slice (some ⟨g, 0, none⟩) 256 256) (rootOf gen index[0] l) ∧ Below w.heap.size w w' := by
  obtain ⟨A, c, rfl, hA⟩ := hv
  obtain ⟨Ai, ci, rfl, _⟩ := id hi
  obtain ⟨gi, rfl, hci⟩ := hi.cell h0
  have q0 := hci 0 h0
  have c0 : w.cell? ⟨a, 0, none⟩ = some (.int .i64 (gen : Int)) := hs.cell 0
  have c2 : w.cell? ⟨a, 2, none⟩ = some (.slice (some ⟨gi, 0, none⟩) index.length ci) := hs.cell 2
  have c0a : ∀ o, (w.alloc o).cell? ⟨a, 0, none⟩ = some (.int .i64 (gen : Int)) := fun o => Lib.cell?_alloc_some _ c0
  have hgi : (gen : Int) ≤ 4611686018427387904 := by omega
  have hxi : (index[0] : Int) ≤ 65535 := by omega
  have HA : Hid (∀ w', Below w.heap.size w w' → (0 < l.length → ∃ g o, A = some ⟨g, o, none⟩ ∧ Cells w' g o (l.map bv))) := fun w' hb h => by
    obtain ⟨g, o, hg, hc⟩ := hA h
    refine ⟨g, o, hg, fun j u hj => ?_⟩
    have := hc j u hj
    exact (hb.cell (p := ⟨g, o + j, none⟩) (World.block_lt_of_cell? w _ this)).trans this
  have HW : Hid (∀ w', Below w.heap.size w w' → w'.cell? ⟨a, 0, none⟩ = some (.int .i64 (gen : Int)) ∧ w'.cell? ⟨a, 2, none⟩ = some (.slice (some ⟨gi, 0, none⟩) index.length ci) ∧ w'.cell? ⟨gi, 0, none⟩ = some (.int .i64 (index[0] : Int))) := fun w' hb =>
    ⟨(hb.cell (p := ⟨a, 0, none⟩) (World.block_lt_of_cell? w _ c0)).trans c0, (hb.cell (p := ⟨a, 2, none⟩) (World.block_lt_of_cell? w _ c2)).trans c2, (hb.cell (p := ⟨gi, 0, none⟩) (World.block_lt_of_cell? w _ q0)).trans q0⟩
  clear hA hci
  have kc := fun (w : World) (C : Array Value) (n c : Nat) => Lib.run_convert_bytes_const (P := Tryz.prog) w 89 5 C n c Tryz.underlying89 Tryz.underlying5
  go_enter Tryz.func120, Tryz.ntmps120
  go_wp2_with fail
  refine (put_calls w.heap.size _ [65, 82, 67, 86] gen 8 _ (.inl ⟨w.heap.size, rfl, ?_⟩) (by simp) (by omega) (by decide) (by decide) (by decide)).mono ?_
  · intro j u hj
    rw [Nat.zero_add]
    have : (w.alloc (.cells #[.int .u8 65, .int .u8 82, .int .u8 67, .int .u8 86] 5 (4, 5))).cell? ⟨w.heap.size, j, none⟩ = (#[Value.int .u8 65, .int .u8 82, .int .u8 67, .int .u8 86])[j]? := cell_of_row _ _ _ _ _ _ (heap_alloc_new _ _)
    have e : (#[Value.int .u8 65, .int .u8 82, .int .u8 67, .int .u8 86] : Array Value) = (([65, 82, 67, 86] : List UInt8).map bv).toArray := by kernel_rfl
    rw [this, ← hj, e]
    simp
  rintro e w1 ⟨v1, rfl, hown1, hbel1⟩
  have B1 : Below w.heap.size w w1 := ((Below.refl _ w).alloc (Nat.le_refl _) _).trans hbel1
  obtain ⟨d0, d2, d3⟩ := HW.out w1 B1
  have H1 := Lib.hid hown1
  clear hown1 hbel1
  go_wp2_with fail
  refine (put_calls w.heap.size _ _ index[0] 2 _ (.inr H1.out) B1.size (by omega) (by decide) (by decide) (by simp [be_length])).mono ?_
  rintro e w2 ⟨v2, rfl, hown2, hbel2⟩
  have B2 : Below w.heap.size w w2 := B1.trans hbel2
  have H2 := Lib.hid hown2
  clear hown2 hbel2
  go_wp2_with fail
  refine (put_calls w.heap.size _ _ l.length 4 _ (.inr H2.out) B2.size (by omega) (by decide) (by decide) (by simp [be_length])).mono ?_
  rintro e w3 ⟨v3, rfl, hown3, hbel3⟩
  have B3 : Below w.heap.size w w3 := B2.trans hbel3
  have H3 := Lib.hid hown3
  clear hown3 hbel3
  go_wp2_with fail
  refine (checksum_calls A _ c l _ rfl hl (HA.out w3 B3)).mono ?_
  rintro e w4 ⟨rfl, hbel4⟩
  have B4 : Below w.heap.size w w4 := B3.trans (hbel4.mono B3.size)
  have H4 := Lib.hid (ownsRow_keeps H3.out (Keeps.of_below (F := fun _ => False) hbel4) (fun _ _ => id))
  clear hbel4
  obtain ⟨x1, hx1⟩ : ∃ x1, x1 = (crc l).toNat := ⟨_, rfl⟩
  have ex1 : crc l = (x1 : Int) := by have := crc_le l; omega
  have lx1 : (x1 : Int) ≤ 4294967295 := by have := crc_le l; omega
  rw [ex1]
  have HX1 := Lib.hid hx1
  clear hx1 ex1
  go_wp2_with fail
  refine (put_calls w.heap.size _ _ x1 4 _ (.inr H4.out) B4.size (by omega) (by decide) (by decide) (by simp [be_length])).mono ?_
  rintro e w5 ⟨v5, rfl, hown5, hbel5⟩
  have B5 : Below w.heap.size w w5 := B4.trans hbel5
  rw [← rootHead_eq HX1.out] at hown5
  obtain ⟨A5, c5, rfl, hA5⟩ := own_cells hown5
  have H5 := Lib.hid hown5
  have HA5 := Lib.hid hA5
  clear hown5 hbel5 hA5
  go_wp2_with fail
  refine (checksum_calls A5 _ c5 _ _ rfl (by rw [rootHead_length]; decide) HA5.out).mono ?_
  rintro e w6 ⟨rfl, hbel6⟩
  have B6 : Below w.heap.size w w6 := B5.trans (hbel6.mono B5.size)
  have H6 := Lib.hid (ownsRow_keeps H5.out (Keeps.of_below (F := fun _ => False) hbel6) (fun _ _ => id))
  clear hbel6
  obtain ⟨x2, hx2⟩ : ∃ x2, x2 = (crc (rootHead gen index[0] l)).toNat := ⟨_, rfl⟩
  have ex2 : crc (rootHead gen index[0] l) = (x2 : Int) := by have := crc_le (rootHead gen index[0] l); omega
  have lx2 : (x2 : Int) ≤ 4294967295 := by have := crc_le (rootHead gen index[0] l); omega
  rw [ex2]
  have HX2 := Lib.hid hx2
  clear hx2 ex2
  go_wp2_with fail
  refine (put_calls w.heap.size _ _ x2 4 _ (.inr H6.out) B6.size (by omega) (by decide) (by decide) (by rw [rootHead_length]; decide)).mono ?_
  rintro e w7 ⟨v7, rfl, hown7, hbel7⟩
  have B7 : Below w.heap.size w w7 := B6.trans hbel7
  obtain ⟨A7, c7, rfl, hA7⟩ := own_cells hown7
  have HA7 := Lib.hid hA7
  clear hown7 hbel7 hA7
  go_wp2_with fail
  refine (block_calls0 A7 _ c7 _ _ rfl (by rw [List.length_append, rootHead_length, be_length]; decide) HA7.out).mono ?_
  rintro e w8 ⟨rfl, hB8, hbel8⟩
  have B8 : Below w.heap.size w w8 := B7.trans (hbel8.mono B7.size)
  go_wp2
  go_ret
  refine ⟨_, rfl, ?_, B8⟩
  rw [HX2.out] at hB8
  exact hB8.mono (fun g hg => Nat.le_trans B7.size hg)

end Go.Proofs.YtbgiklkpinflaaaGreat
