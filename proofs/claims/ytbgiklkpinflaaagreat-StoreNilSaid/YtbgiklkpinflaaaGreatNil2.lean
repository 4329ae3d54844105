/- Stores and snapshots that are nil or zero: every call. -/
import Derived.Test.YtbgiklkpinflaaaGreatNil1
namespace Go.Proofs.YtbgiklkpinflaaaGreat
open Go.RowKit
attribute [local go_sem ↓] Go.wp_at_zero Go.wp_at_succ

/-- A store that was made by no call. -/
def NoStore (w : World) (v : Value) : Prop := v = .pointer none ∨ ∃ b, v = .pointer (some ⟨b, 0, none⟩) ∧ w.cell? ⟨b, 2, none⟩ = some (.pointer none)
theorem NoStore.below {w w' : World} {v : Value} (h : NoStore w v) (hb : Below w.heap.size w w') : NoStore w' v :=
  h.imp id fun ⟨b, e, hc⟩ => ⟨b, e, (hb.cell (World.block_lt_of_cell? w _ hc)).trans hc⟩
/-- A snapshot that was made by no call. -/
def NoSnap (w : World) (v : Value) : Prop := v = .pointer none ∨ ∃ b, v = .pointer (some ⟨b, 0, none⟩) ∧ w.cell? ⟨b, 1, none⟩ = some (.pointer none)
theorem NoSnap.below {w w' : World} {v : Value} (h : NoSnap w v) (hb : Below w.heap.size w w') : NoSnap w' v :=
  h.imp id fun ⟨b, e, hc⟩ => ⟨b, e, (hb.cell (World.block_lt_of_cell? w _ hc)).trans hc⟩

set_option maxRecDepth 100000 in
set_option maxHeartbeats 1000000 in
theorem nil_dead {w : World} {v : Value} (h : NoStore w v) : Calls Tryz.prog 60 #[v] w fun e w' => e = .returned (.bool true) ∧ Below w.heap.size w w' := by
  rcases h with rfl | ⟨b, rfl, hc⟩
  all_goals
    go_enter Tryz.func60, Tryz.ntmps60
    go_wp2
    go_quiet (fail)
    go_wp2
    go_ret
    exact ⟨rfl, (Below.refl _ w).drewN_ nq⟩

set_option maxRecDepth 100000 in
set_option maxHeartbeats 1000000 in
theorem shut_ready {w : World} {v : Value} (h : NoSnap w v) : Calls Tryz.prog 106 #[v] w fun e w' => e = .returned (.int .i64 56) ∧ Below w.heap.size w w' := by
  rcases h with rfl | ⟨b, rfl, hc⟩
  all_goals
    go_enter Tryz.func106, Tryz.ntmps106
    go_wp2
    go_ret
    exact ⟨rfl, Below.refl _ w⟩

set_option maxRecDepth 100000 in
set_option maxHeartbeats 1000000 in
theorem nil_ready {w : World} {v : Value} (h : NoStore w v) :
    Calls Tryz.prog 70 #[v] w fun e w' => e = .returned (.int .i64 50) ∧ Below w.heap.size w w' := by
  have HN := Lib.hid (nil_dead h)
  clear h
  go_enter Tryz.func70, Tryz.ntmps70
  go_wp2_with (go_at_call 60; refine HN.out.mono ?_; rintro e wx ⟨rfl, hb⟩; have HB := Lib.hid hb; clear hb)
  go_ret
  exact ⟨rfl, HB.out⟩

set_option maxRecDepth 100000 in
set_option maxHeartbeats 1000000 in
theorem nil_begin {w : World} {v : Value} (h : NoStore w v) :
    Calls Tryz.prog 32 #[v] w fun e w' => e = .returned (.int .i64 50) ∧ Below w.heap.size w w' := by
  have HN := Lib.hid (nil_dead h)
  clear h
  go_enter Tryz.func32, Tryz.ntmps32
  go_wp2_with (go_at_call 60; refine HN.out.mono ?_; rintro e wx ⟨rfl, hb⟩; have HB := Lib.hid hb; clear hb)
  go_ret
  exact ⟨rfl, HB.out⟩

set_option maxRecDepth 100000 in
set_option maxHeartbeats 1000000 in
theorem nil_generation {w : World} {v : Value} (h : NoStore w v) :
    Calls Tryz.prog 38 #[v] w fun e w' => e = .returned (.int .i64 0) ∧ Below w.heap.size w w' := by
  have HN := Lib.hid (nil_dead h)
  clear h
  go_enter Tryz.func38, Tryz.ntmps38
  go_wp2_with (go_at_call 60; refine HN.out.mono ?_; rintro e wx ⟨rfl, hb⟩; have HB := Lib.hid hb; clear hb)
  go_ret
  exact ⟨rfl, HB.out⟩

set_option maxRecDepth 100000 in
set_option maxHeartbeats 1000000 in
theorem nil_free {w : World} {v : Value} (h : NoStore w v) :
    Calls Tryz.prog 19 #[v] w fun e w' => e = .returned (.int .i64 0) ∧ Below w.heap.size w w' := by
  have HN := Lib.hid (nil_dead h)
  clear h
  go_enter Tryz.func19, Tryz.ntmps19
  go_wp2_with (go_at_call 60; refine HN.out.mono ?_; rintro e wx ⟨rfl, hb⟩; have HB := Lib.hid hb; clear hb)
  go_ret
  exact ⟨rfl, HB.out⟩

set_option maxRecDepth 100000 in
set_option maxHeartbeats 1000000 in
theorem nil_keys {w : World} {v : Value} (h : NoStore w v) :
    Calls Tryz.prog 37 #[v] w fun e w' => e = .returned (.tuple #[.slice none 0 0, .int .i64 50]) ∧ Below w.heap.size w w' := by
  have HN := Lib.hid (nil_dead h)
  clear h
  go_enter Tryz.func37, Tryz.ntmps37
  go_wp2_with (go_at_call 60; refine HN.out.mono ?_; rintro e wx ⟨rfl, hb⟩; have HB := Lib.hid hb; clear hb)
  go_ret2
  exact ⟨rfl, HB.out⟩

set_option maxRecDepth 100000 in
set_option maxHeartbeats 1000000 in
theorem nil_get {w : World} {v : Value} (h : NoStore w v) (k : ByteArray) :
    Calls Tryz.prog 50 #[v, .string k] w fun e w' => e = .returned (.tuple #[.slice none 0 0, .int .i64 50]) ∧ Below w.heap.size w w' := by
  have HN := Lib.hid (nil_dead h)
  clear h
  go_enter Tryz.func50, Tryz.ntmps50
  go_wp2_with (go_at_call 60; refine HN.out.mono ?_; rintro e wx ⟨rfl, hb⟩; have HB := Lib.hid hb; clear hb)
  go_ret2
  exact ⟨rfl, HB.out⟩

set_option maxRecDepth 100000 in
set_option maxHeartbeats 1000000 in
theorem nil_snapshot {w : World} {v : Value} (h : NoStore w v) :
    Calls Tryz.prog 14 #[v] w fun e w' => e = .returned (.tuple #[.pointer none, .int .i64 50]) ∧ Below w.heap.size w w' := by
  have HN := Lib.hid (nil_dead h)
  clear h
  go_enter Tryz.func14, Tryz.ntmps14
  go_wp2_with (go_at_call 60; refine HN.out.mono ?_; rintro e wx ⟨rfl, hb⟩; have HB := Lib.hid hb; clear hb)
  go_ret2
  exact ⟨rfl, HB.out⟩

set_option maxRecDepth 100000 in
set_option maxHeartbeats 1000000 in
theorem nil_put {w : World} {v : Value} (h : NoStore w v) (k : ByteArray) (A : Option Addr) (n c : Nat) :
    Calls Tryz.prog 49 #[v, .string k, .slice A n c] w fun e w' => e = .returned (.int .i64 50) ∧ Below w.heap.size w w' := by
  have HN := Lib.hid (nil_ready h)
  clear h
  go_enter Tryz.func49, Tryz.ntmps49
  go_wp2_with (go_at_call 70; refine HN.out.mono ?_; rintro e wx ⟨rfl, hb⟩; have HB := Lib.hid hb; clear hb)
  go_ret
  exact ⟨rfl, HB.out⟩

set_option maxRecDepth 100000 in
set_option maxHeartbeats 1000000 in
theorem nil_delete {w : World} {v : Value} (h : NoStore w v) (k : ByteArray) :
    Calls Tryz.prog 53 #[v, .string k] w fun e w' => e = .returned (.int .i64 50) ∧ Below w.heap.size w w' := by
  have HN := Lib.hid (nil_ready h)
  clear h
  go_enter Tryz.func53, Tryz.ntmps53
  go_wp2_with (go_at_call 70; refine HN.out.mono ?_; rintro e wx ⟨rfl, hb⟩; have HB := Lib.hid hb; clear hb)
  go_ret
  exact ⟨rfl, HB.out⟩

set_option maxRecDepth 100000 in
set_option maxHeartbeats 1000000 in
theorem nil_commit {w : World} {v : Value} (h : NoStore w v) :
    Calls Tryz.prog 21 #[v] w fun e w' => e = .returned (.int .i64 50) ∧ Below w.heap.size w w' := by
  have HN := Lib.hid (nil_ready h)
  clear h
  go_enter Tryz.func21, Tryz.ntmps21
  go_wp2_with (go_at_call 70; refine HN.out.mono ?_; rintro e wx ⟨rfl, hb⟩; have HB := Lib.hid hb; clear hb)
  go_ret
  exact ⟨rfl, HB.out⟩

set_option maxRecDepth 100000 in
set_option maxHeartbeats 1000000 in
theorem nil_abort {w : World} {v : Value} (h : NoStore w v) :
    Calls Tryz.prog 55 #[v] w fun e w' => e = .returned (.int .i64 50) ∧ Below w.heap.size w w' := by
  have HN := Lib.hid (nil_ready h)
  clear h
  go_enter Tryz.func55, Tryz.ntmps55
  go_wp2_with (go_at_call 70; refine HN.out.mono ?_; rintro e wx ⟨rfl, hb⟩; have HB := Lib.hid hb; clear hb)
  go_ret
  exact ⟨rfl, HB.out⟩

set_option maxRecDepth 100000 in
set_option maxHeartbeats 1000000 in
theorem nil_damaged {w : World} {v : Value} (h : NoStore w v) :
    Calls Tryz.prog 77 #[v] w fun e w' => e = .returned (.tuple #[.slice none 0 0, .int .i64 50]) ∧ Below w.heap.size w w' := by
  have HN : Hid (∀ o, Calls Tryz.prog 37 #[v] (w.alloc o) fun e w' => e = .returned (.tuple #[.slice none 0 0, .int .i64 50]) ∧ Below (w.alloc o).heap.size (w.alloc o) w') := fun o => nil_keys (h.below ((Below.refl _ w).alloc (Nat.le_refl _) o))
  have HA : Hid (∀ o, Below w.heap.size w (w.alloc o)) := fun o => (Below.refl _ w).alloc (Nat.le_refl _) o
  obtain ⟨A, rfl⟩ : ∃ A, v = .pointer A := by
    rcases h with rfl | ⟨b, rfl, _⟩
    · exact ⟨_, rfl⟩
    · exact ⟨_, rfl⟩
  clear h
  go_enter Tryz.func77, Tryz.ntmps77
  go_wp2_with (go_at_call 37; refine (HN.out _).mono ?_; rintro e wx ⟨rfl, hb⟩; have HB := Lib.hid hb; clear hb)
  go_ret2
  exact ⟨rfl, (HA.out _).trans (HB.out.mono (HA.out _).size)⟩

set_option maxRecDepth 100000 in
set_option maxHeartbeats 1000000 in
theorem shut_generation {w : World} {v : Value} (h : NoSnap w v) :
    Calls Tryz.prog 62 #[v] w fun e w' => e = .returned (.int .i64 0) ∧ Below w.heap.size w w' := by
  have HN := Lib.hid (shut_ready h)
  clear h
  go_enter Tryz.func62, Tryz.ntmps62
  go_wp2_with (go_at_call 106; refine HN.out.mono ?_; rintro e wx ⟨rfl, hb⟩; have HB := Lib.hid hb; clear hb)
  go_ret
  exact ⟨rfl, HB.out⟩

set_option maxRecDepth 100000 in
set_option maxHeartbeats 1000000 in
theorem shut_keys {w : World} {v : Value} (h : NoSnap w v) :
    Calls Tryz.prog 61 #[v] w fun e w' => e = .returned (.tuple #[.slice none 0 0, .int .i64 56]) ∧ Below w.heap.size w w' := by
  have HN := Lib.hid (shut_ready h)
  clear h
  go_enter Tryz.func61, Tryz.ntmps61
  go_wp2_with (go_at_call 106; refine HN.out.mono ?_; rintro e wx ⟨rfl, hb⟩; have HB := Lib.hid hb; clear hb)
  go_ret2
  exact ⟨rfl, HB.out⟩

set_option maxRecDepth 100000 in
set_option maxHeartbeats 1000000 in
theorem shut_get {w : World} {v : Value} (h : NoSnap w v) (k : ByteArray) :
    Calls Tryz.prog 63 #[v, .string k] w fun e w' => e = .returned (.tuple #[.slice none 0 0, .int .i64 56]) ∧ Below w.heap.size w w' := by
  have HN := Lib.hid (shut_ready h)
  clear h
  go_enter Tryz.func63, Tryz.ntmps63
  go_wp2_with (go_at_call 106; refine HN.out.mono ?_; rintro e wx ⟨rfl, hb⟩; have HB := Lib.hid hb; clear hb)
  go_ret2
  exact ⟨rfl, HB.out⟩

set_option maxRecDepth 100000 in
set_option maxHeartbeats 1000000 in
theorem shut_release {w : World} {v : Value} (h : NoSnap w v) : Calls Tryz.prog 18 #[v] w fun e w' => e = .returned (.int .i64 56) ∧ Below w.heap.size w w' := by
  rcases h with rfl | ⟨b, rfl, hc⟩
  · go_enter Tryz.func18, Tryz.ntmps18
    go_wp2
    go_ret
    exact ⟨rfl, (Below.refl _ w).alloc (Nat.le_refl _) _⟩
  · have hca : ∀ o, (w.alloc o).cell? ⟨b, 1, none⟩ = some (.pointer none) := fun o => Lib.cell?_alloc_some _ hc
    go_enter Tryz.func18, Tryz.ntmps18
    go_wp2
    go_ret
    exact ⟨rfl, (Below.refl _ w).alloc (Nat.le_refl _) _⟩

end Go.Proofs.YtbgiklkpinflaaaGreat
