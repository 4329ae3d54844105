/- Disks that are nil or zero: every call. -/
import Derived.Test.YtbgiklkpinflaaaGreatDiskA
namespace Go.Proofs.YtbgiklkpinflaaaGreat
open Go.RowKit
attribute [local go_sem ↓] Go.wp_at_zero Go.wp_at_succ

/-- A disk that was made by no call: nil, or a struct of zeros. -/
def NoDisk (w : World) (v : Value) : Prop := v = .pointer none ∨ ∃ b, v = .pointer (some ⟨b, 0, none⟩) ∧ w.cell? ⟨b, 0, none⟩ = some (.slice none 0 0)
theorem NoDisk.below {w w' : World} {v : Value} (h : NoDisk w v) (hb : Below w.heap.size w w') : NoDisk w' v :=
  h.imp id fun ⟨b, e, hc⟩ => ⟨b, e, (hb.cell (World.block_lt_of_cell? w _ hc)).trans hc⟩
theorem NoDisk.alloc {w : World} {v : Value} (h : NoDisk w v) (o : Obj) : NoDisk (w.alloc o) v := h.below ((Below.refl _ w).alloc (Nat.le_refl _) o)

set_option maxRecDepth 100000 in
set_option maxHeartbeats 1000000 in
theorem none_none {w : World} {v : Value} (h : NoDisk w v) : Calls Tryz.prog 79 #[v] w fun e w' => e = .returned (.bool true) ∧ w = w' := by
  rcases h with rfl | ⟨b, rfl, hc⟩
  · go_enter Tryz.func79, Tryz.ntmps79
    go_wp2
    go_ret
    exact ⟨rfl, rfl⟩
  · go_enter Tryz.func79, Tryz.ntmps79
    go_wp2
    go_ret
    exact ⟨rfl, rfl⟩

set_option maxRecDepth 100000 in
set_option maxHeartbeats 1000000 in
theorem none_down {w : World} {v : Value} (h : NoDisk w v) : Calls Tryz.prog 82 #[v] w fun e w' => e = .returned (.bool true) ∧ w = w' := by
  have HN := Lib.hid (none_none h)
  clear h
  go_enter Tryz.func82, Tryz.ntmps82
  go_wp2_with (go_at_call 79; refine HN.out.mono ?_; rintro e wx ⟨rfl, rfl⟩)
  go_ret
  exact ⟨rfl, rfl⟩

set_option maxRecDepth 100000 in
set_option maxHeartbeats 1000000 in
theorem none_arm {w : World} {v : Value} (h : NoDisk w v) (i : Int) :
    Calls Tryz.prog 28 #[v, .int .i64 i] w fun e w' => e = .returned (.tuple #[]) ∧ Below w.heap.size w w' := by
  have HN := Lib.hid (none_none h)
  clear h
  go_enter Tryz.func28, Tryz.ntmps28
  go_wp2_with (go_at_call 79; refine HN.out.mono ?_; rintro e wx ⟨rfl, rfl⟩)
  go_end0
  exact ⟨rfl, Below.refl _ _⟩

set_option maxRecDepth 100000 in
set_option maxHeartbeats 1000000 in
theorem none_crash {w : World} {v : Value} (h : NoDisk w v) (A : Option Addr) (n c : Nat) :
    Calls Tryz.prog 25 #[v, .slice A n c] w fun e w' => e = .returned (.tuple #[]) ∧ Below w.heap.size w w' := by
  have HN := Lib.hid (none_none h)
  clear h
  go_enter Tryz.func25, Tryz.ntmps25
  go_wp2_with (go_at_call 79; refine HN.out.mono ?_; rintro e wx ⟨rfl, rfl⟩)
  refine bodyPost_ret (v := .tuple #[]) (by simp [results, Tryz.f25, go_sem]) rfl ⟨rfl, Below.refl _ _⟩

set_option maxRecDepth 100000 in
set_option maxHeartbeats 1000000 in
theorem none_read {w : World} {v : Value} (h : NoDisk w v) (i : Int) :
    Calls Tryz.prog 91 #[v, .int .i64 i] w fun e w' => e = .returned (.tuple #[.slice none 0 0, .int .i64 50]) ∧ Below w.heap.size w w' := by
  have HN : Hid (∀ o1 o2 o3, Calls Tryz.prog 82 #[v] (((w.alloc o1).alloc o2).alloc o3) fun e w' => e = .returned (.bool true) ∧ ((w.alloc o1).alloc o2).alloc o3 = w') := fun o1 o2 o3 => none_down (((h.alloc o1).alloc o2).alloc o3)
  clear h
  go_enter Tryz.func91, Tryz.ntmps91
  go_wp2_with (go_at_call 82; refine (HN.out _ _ _).mono ?_; rintro e wx ⟨rfl, rfl⟩)
  refine bodyPost_ret (v := .tuple #[.slice none 0 0, .int .i64 50]) (by simp [results, Tryz.f91, go_sem]) rfl ⟨rfl, ?_⟩
  exact (((Below.refl _ w).alloc (Nat.le_refl _) _).alloc (by simp) _).alloc (by simp; omega) _

set_option maxRecDepth 100000 in
set_option maxHeartbeats 1000000 in
theorem none_format {w : World} {v : Value} (h : NoDisk w v) :
    Calls Tryz.prog 43 #[v] w fun e w' => e = .returned (.tuple #[.pointer none, .int .i64 50]) ∧ Below w.heap.size w w' := by
  have HN := Lib.hid (none_down h)
  clear h
  go_enter Tryz.func43, Tryz.ntmps43
  go_wp2_with (go_at_call 82; refine HN.out.mono ?_; rintro e wx ⟨rfl, rfl⟩)
  go_ret2
  exact ⟨rfl, Below.refl _ _⟩

set_option maxRecDepth 100000 in
set_option maxHeartbeats 1000000 in
theorem none_open {w : World} {v : Value} (h : NoDisk w v) :
    Calls Tryz.prog 36 #[v] w fun e w' => e = .returned (.tuple #[.pointer none, .int .i64 50]) ∧ Below w.heap.size w w' := by
  have HN := Lib.hid (none_down h)
  clear h
  go_enter Tryz.func36, Tryz.ntmps36
  go_wp2_with (go_at_call 82; refine HN.out.mono ?_; rintro e wx ⟨rfl, rfl⟩)
  go_ret2
  exact ⟨rfl, Below.refl _ _⟩

set_option maxRecDepth 100000 in
set_option maxHeartbeats 1000000 in
theorem none_blocks {w : World} {v : Value} (h : NoDisk w v) :
    Calls Tryz.prog 98 #[v] w fun e w' => e = .returned (.int .i64 0) ∧ Below w.heap.size w w' := by
  have HN := Lib.hid (none_none h)
  clear h
  go_enter Tryz.func98, Tryz.ntmps98
  go_wp2_with (go_at_call 79; refine HN.out.mono ?_; rintro e wx ⟨rfl, rfl⟩)
  go_ret
  exact ⟨rfl, Below.refl _ _⟩

set_option maxRecDepth 100000 in
set_option maxHeartbeats 1000000 in
theorem none_pending {w : World} {v : Value} (h : NoDisk w v) :
    Calls Tryz.prog 99 #[v] w fun e w' => e = .returned (.int .i64 0) ∧ Below w.heap.size w w' := by
  have HN := Lib.hid (none_none h)
  clear h
  go_enter Tryz.func99, Tryz.ntmps99
  go_wp2_with (go_at_call 79; refine HN.out.mono ?_; rintro e wx ⟨rfl, rfl⟩)
  go_ret
  exact ⟨rfl, Below.refl _ _⟩

set_option maxRecDepth 100000 in
set_option maxHeartbeats 1000000 in
theorem none_write {w : World} {v : Value} (h : NoDisk w v) (i : Int) (A : Option Addr) (n c : Nat) :
    Calls Tryz.prog 74 #[v, .int .i64 i, .slice A n c] w fun e w' => e = .returned (.int .i64 50) ∧ Below w.heap.size w w' := by
  have HN := Lib.hid (none_down h)
  clear h
  go_enter Tryz.func74, Tryz.ntmps74
  go_wp2_with (go_at_call 82; refine HN.out.mono ?_; rintro e wx ⟨rfl, rfl⟩)
  go_ret
  exact ⟨rfl, Below.refl _ _⟩

set_option maxRecDepth 100000 in
set_option maxHeartbeats 1000000 in
theorem none_sync {w : World} {v : Value} (h : NoDisk w v) :
    Calls Tryz.prog 93 #[v] w fun e w' => e = .returned (.int .i64 50) ∧ Below w.heap.size w w' := by
  have HN := Lib.hid (none_down h)
  clear h
  go_enter Tryz.func93, Tryz.ntmps93
  go_wp2_with (go_at_call 82; refine HN.out.mono ?_; rintro e wx ⟨rfl, rfl⟩)
  go_ret
  exact ⟨rfl, Below.refl _ _⟩

set_option maxRecDepth 100000 in
set_option maxHeartbeats 1000000 in
theorem none_copy {w : World} {v : Value} (h : NoDisk w v) :
    Calls Tryz.prog 100 #[v] w fun e w' => e = .returned (.pointer none) ∧ Below w.heap.size w w' := by
  have HN := Lib.hid (none_none h)
  clear h
  go_enter Tryz.func100, Tryz.ntmps100
  go_wp2_with (go_at_call 79; refine HN.out.mono ?_; rintro e wx ⟨rfl, rfl⟩)
  go_ret
  exact ⟨rfl, Below.refl _ _⟩

set_option maxRecDepth 100000 in
set_option maxHeartbeats 1000000 in
theorem none_spoil {w : World} {v : Value} (h : NoDisk w v) (i k y : Int) :
    Calls Tryz.prog 34 #[v, .int .i64 i, .int .i64 k, .int .u8 y] w fun e w' => e = .returned (.int .i64 50) ∧ Below w.heap.size w w' := by
  have HN : Hid (∀ o, Calls Tryz.prog 82 #[v] (w.alloc o) fun e w' => e = .returned (.bool true) ∧ w.alloc o = w') := fun o => none_down (h.alloc o)
  clear h
  go_enter Tryz.func34, Tryz.ntmps34
  go_wp2_with (go_at_call 82; refine (HN.out _).mono ?_; rintro e wx ⟨rfl, rfl⟩)
  go_ret
  exact ⟨rfl, (Below.refl _ w).alloc (Nat.le_refl _) _⟩

end Go.Proofs.YtbgiklkpinflaaaGreat
