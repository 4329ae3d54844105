/- The disk: its small functions. -/
import Derived.Test.YtbgiklkpinflaaaMem
namespace Go.Proofs.Ytbgiklkpinflaaa
open Go.RowKit

set_option maxHeartbeats 400000 in
theorem none_nil (w : World) : Calls Try.prog 57 #[.pointer none] w fun e w' => e = .returned (.bool true) ∧ w = w' := by
  go_enter Try.func57, Try.ntmps57
  go_wp2
  go_ret
  exact ⟨rfl, rfl⟩

set_option maxHeartbeats 400000 in
theorem none_not (b n c : Nat) (A : Option Addr) (w : World) (h0 : w.cell? ⟨b, 0, none⟩ = some (.slice A n c)) (hn : 0 < n) (hm : n ≤ 1024) :
    Calls Try.prog 57 #[.pointer (some ⟨b, 0, none⟩)] w fun e w' => e = .returned (.bool false) ∧ w = w' := by
  have h1 : ((n : Int) == 0) = false := by rw [beq_eq_false_iff_ne]; omega
  go_enter Try.func57, Try.ntmps57
  go_wp2
  go_ret
  exact ⟨rfl, rfl⟩

set_option maxHeartbeats 400000 in
theorem down_any (b n c : Nat) (A : Option Addr) (dn : Bool) (w : World) (h0 : w.cell? ⟨b, 0, none⟩ = some (.slice A n c)) (hn : 0 < n) (hm : n ≤ 1024) (h3 : w.cell? ⟨b, 3, none⟩ = some (.bool dn)) :
    Calls Try.prog 55 #[.pointer (some ⟨b, 0, none⟩)] w fun e w' => e = .returned (.bool dn) ∧ w = w' := by
  go_enter Try.func55, Try.ntmps55
  go_wp2_with (go_at_call 57; refine (none_not b n c A _ h0 hn hm).mono ?_; rintro e w' ⟨rfl, rfl⟩)
  go_ret
  exact ⟨rfl, rfl⟩

set_option maxHeartbeats 400000 in
theorem fails_zero (b : Nat) (w : World) (h2 : w.cell? ⟨b, 2, none⟩ = some (.int .i64 0)) :
    Calls Try.prog 67 #[.pointer (some ⟨b, 0, none⟩)] w fun e w' => e = .returned (.bool false) ∧ w = w' := by
  go_enter Try.func67, Try.ntmps67
  go_wp2
  go_ret
  exact ⟨rfl, rfl⟩

set_option maxHeartbeats 400000 in
theorem fails_later (b : Nat) (n : Int) (w : World) (h2 : w.cell? ⟨b, 2, none⟩ = some (.int .i64 n)) (f2 : w.frozen? ⟨b, 2, none⟩ = false) (h : 2 ≤ n) (hb : n ≤ 9223372036854775807) :
    Calls Try.prog 67 #[.pointer (some ⟨b, 0, none⟩)] w fun e w' => e = .returned (.bool false) ∧ w' = w.setCell ⟨b, 2, none⟩ (.int .i64 (n - 1)) := by
  go_enter Try.func67, Try.ntmps67
  go_wp2
  go_ret
  exact ⟨rfl, rfl⟩

set_option maxHeartbeats 400000 in
theorem fails_one (b : Nat) (k : Int) (dn : Bool) (w : World) (h2 : w.cell? ⟨b, 2, none⟩ = some (.int .i64 1)) (f2 : w.frozen? ⟨b, 2, none⟩ = false) (h3 : w.cell? ⟨b, 3, none⟩ = some (.bool dn)) (f3 : w.frozen? ⟨b, 3, none⟩ = false) (h4 : w.cell? ⟨b, 4, none⟩ = some (.int .i64 k)) (f4 : w.frozen? ⟨b, 4, none⟩ = false) (hk : 0 ≤ k) (hb : k ≤ 4611686018427387904) :
    Calls Try.prog 67 #[.pointer (some ⟨b, 0, none⟩)] w fun e w' => e = .returned (.bool true) ∧ w' = ((w.setCell ⟨b, 2, none⟩ (.int .i64 0)).setCell ⟨b, 3, none⟩ (.bool true)).setCell ⟨b, 4, none⟩ (.int .i64 (k + 1)) := by
  go_enter Try.func67, Try.ntmps67
  go_wp2
  go_ret
  exact ⟨rfl, rfl⟩

end Go.Proofs.Ytbgiklkpinflaaa
