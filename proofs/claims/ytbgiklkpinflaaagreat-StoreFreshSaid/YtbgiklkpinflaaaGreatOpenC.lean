/- load: the pieces of its walk. -/
import Derived.Test.YtbgiklkpinflaaaGreatOpenB
import Derived.Test.YtbgiklkpinflaaaGreatKeptA
namespace Go.Proofs.YtbgiklkpinflaaaGreat
open Go.RowKit Go.Shelf Go.Maps
attribute [local go_sem ↓] Go.wp_at_zero Go.wp_at_succ

/-- A slice of n bytes that holds l. -/
structure SlAt (w : World) (A : Option Addr) (n c : Nat) (l : List UInt8) : Prop where
  len : l.length = n
  cap : n ≤ c
  cells : 0 < n → ∃ g o, A = some ⟨g, o, none⟩ ∧ Cells w g o (l.map bv)
theorem SlAt.below {w w' : World} {A : Option Addr} {n c : Nat} {l : List UInt8} (h : SlAt w A n c l) (hb : Below w.heap.size w w') : SlAt w' A n c l :=
  ⟨h.len, h.cap, fun h0 => by
    obtain ⟨g, o, hA, hc⟩ := h.cells h0
    refine ⟨g, o, hA, fun j u hj => ?_⟩
    have := hc j u hj
    exact (hb.cell (World.block_lt_of_cell? w _ this)).trans this⟩
theorem cells_sub {w : World} {g o : Nat} {l : List UInt8} (h : Cells w g o (l.map bv)) (a m : Nat) : Cells w g (o + a) (((l.drop a).take m).map bv) := by
  intro j u hj
  rw [List.map_take, List.getElem?_take] at hj
  split at hj
  · rw [List.map_drop, List.getElem?_drop] at hj
    have := h (a + j) u hj
    rw [← Nat.add_assoc] at this
    exact this
  · cases hj
set_option maxRecDepth 100000 in
/-- l[lo:hi]. -/
theorem sl_mid {w : World} {A : Option Addr} {n c lo hi : Nat} {l : List UInt8} (h : SlAt w A n c l) (h1 : lo ≤ hi) (h2 : hi ≤ n) :
    ∃ A', (∀ wx, (Instr.slice 89 (.slice A n c) (some (.int .i64 (lo : Int))) (some (.int .i64 (hi : Int))) none).run Tryz.prog wx = .ok (.slice A' (hi - lo) (c - lo)) wx) ∧ SlAt w A' (hi - lo) (c - lo) ((l.drop lo).take (hi - lo)) := by
  have hc := h.cap
  refine ⟨if c = lo then A else A.map (·.add lo), fun wx => ?_, ?_, by omega, fun h0 => ?_⟩
  · have hs := Tryz.sizeOf5 wx
    have := run_slice_lh (P := Tryz.prog) (w := wx) 89 A n c Tryz.underlying89 .i64 .i64 (lo : Int) (hi : Int) (by omega) (by omega) (by omega)
    rw [this]
    have e : Tryz.prog.elem 89 = 5 := by kernel_rfl
    rw [e, hs]
    simp [Result.andThen, sliced]
  · rw [List.length_take, List.length_drop, h.len]
    omega
  · obtain ⟨g, o, rfl, hcl⟩ := h.cells (by omega)
    rw [if_neg (by omega)]
    exact ⟨g, o + lo, by simp [Addr.add_lit], cells_sub hcl lo _⟩

set_option maxRecDepth 100000 in
/-- l[lo:]. -/
theorem sl_from {w : World} {A : Option Addr} {n c lo : Nat} {l : List UInt8} (h : SlAt w A n c l) (h1 : lo ≤ n) :
    ∃ A', (∀ wx, (Instr.slice 89 (.slice A n c) (some (.int .i64 (lo : Int))) none none).run Tryz.prog wx = .ok (.slice A' (n - lo) (c - lo)) wx) ∧ SlAt w A' (n - lo) (c - lo) (l.drop lo) := by
  have hc := h.cap
  refine ⟨if c = lo then A else A.map (·.add lo), fun wx => ?_, ?_, by omega, fun h0 => ?_⟩
  · have hs := Tryz.sizeOf5 wx
    have := run_slice_l (P := Tryz.prog) (w := wx) 89 A n c Tryz.underlying89 .i64 (lo : Int) (by omega) (by omega)
    rw [this]
    have e : Tryz.prog.elem 89 = 5 := by kernel_rfl
    rw [e, hs]
    simp [Result.andThen, sliced]
  · rw [List.length_drop, h.len]
  · obtain ⟨g, o, rfl, hcl⟩ := h.cells (by omega)
    rw [if_neg (by omega)]
    refine ⟨g, o + lo, by simp [Addr.add_lit], ?_⟩
    have := cells_sub hcl lo (l.drop lo).length
    rwa [List.take_length] at this
theorem get_sl {w : World} {A : Option Addr} {n c : Nat} {l : List UInt8} (h : SlAt w A n c l) (k : Nat) (hk0 : 0 < k) (hk : k ≤ 8) (hkn : k ≤ n) :
    Calls Tryz.prog 124 #[.slice A n c, .int .i64 (k : Int)] w fun e w' => e = .returned (.int .u64 ((numAt l 0 k : Nat) : Int)) ∧ w = w' := by
  obtain ⟨g, o, rfl, hc⟩ := h.cells (by omega)
  exact get_num g o n c l k w hk hkn h.cap (by rw [h.len]; exact hkn) hc
theorem numAt_drop (l : List UInt8) (a n : Nat) : numAt (l.drop a) 0 n = numAt l a n := by unfold numAt; rw [List.drop_zero]
theorem conv_sl {w : World} {A : Option Addr} {n c : Nat} {l : List UInt8} (h : SlAt w A n c l) : (convert 89 9 (.slice A n c)).run Tryz.prog w = .ok (.string ⟨l.toArray⟩) w := by
  have hl := h.len
  subst hl
  rcases Nat.eq_zero_or_pos l.length with h0 | h0
  · have e : l = [] := List.eq_nil_of_length_eq_zero h0
    subst e
    cases A with
    | none => exact run_convert_bytes_nil (P := Tryz.prog) w 89 5 Tryz.underlying89 Tryz.underlying5 0 c 9 Tryz.underlying9
    | some a => exact run_convert_bytes_back (P := Tryz.prog) w 89 9 5 a c [] Tryz.underlying89 Tryz.underlying5 Tryz.underlying9 fun j hj => by simp at hj
  · obtain ⟨g, o, rfl, hc⟩ := h.cells h0
    refine run_convert_bytes_back (P := Tryz.prog) w 89 9 5 ⟨g, o, none⟩ c l Tryz.underlying89 Tryz.underlying5 Tryz.underlying9 fun j hj => ?_
    rw [Addr.add_lit]
    exact hc j (bv l[j]) (by simp [hj])
theorem SlAt.crc {w : World} {A : Option Addr} {n c : Nat} {l : List UInt8} (h : SlAt w A n c l) (hn : n ≤ 1000000000) : Calls Tryz.prog 112 #[.slice A n c] w fun e w' => e = .returned (.int .u32 (crc l)) ∧ Below w.heap.size w w' :=
  checksum_calls A n c l w h.len.symm (by rw [h.len]; exact hn) fun h0 => h.cells (by rw [← h.len]; exact h0)

theorem sl_fromZ {w : World} {A : Option Addr} {n c : Nat} {l : List UInt8} (h : SlAt w A n c l) (lo : Nat) (z : Int) (hz : z = (lo : Int)) (h1 : lo ≤ n) :
    ∃ A', (∀ wx, (Instr.slice 89 (.slice A n c) (some (.int .i64 z)) none none).run Tryz.prog wx = .ok (.slice A' (n - lo) (c - lo)) wx) ∧ SlAt w A' (n - lo) (c - lo) (l.drop lo) := by
  subst hz
  exact sl_from h h1
set_option maxRecDepth 100000 in
/-- l[:hi]. -/
theorem sl_toZ {w : World} {A : Option Addr} {n c : Nat} {l : List UInt8} (h : SlAt w A n c l) (hi : Nat) (z : Int) (hz : z = (hi : Int)) (h2 : hi ≤ n) :
    (∀ wx, (Instr.slice 89 (.slice A n c) none (some (.int .i64 z)) none).run Tryz.prog wx = .ok (.slice A hi c) wx) ∧ SlAt w A hi c (l.take hi) := by
  subst hz
  have hc := h.cap
  refine ⟨fun wx => ?_, ?_, by omega, fun h0 => ?_⟩
  · have hs := Tryz.sizeOf5 wx
    have := run_slice_h (P := Tryz.prog) (w := wx) 89 A n c Tryz.underlying89 .i64 (hi : Int) (by omega) (by omega)
    rw [this]
    have e : Tryz.prog.elem 89 = 5 := by kernel_rfl
    rw [e, hs]
    cases A <;> simp [Result.andThen, sliced, Addr.add]
  · rw [List.length_take, h.len]
    omega
  · obtain ⟨g, o, rfl, hcl⟩ := h.cells (by omega)
    refine ⟨g, o, rfl, ?_⟩
    have := cells_sub hcl 0 hi
    rwa [List.drop_zero] at this

end Go.Proofs.YtbgiklkpinflaaaGreat
