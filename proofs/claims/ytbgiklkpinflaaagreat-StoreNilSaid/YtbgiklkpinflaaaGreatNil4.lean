/- StoreNil: the walk of the law. -/
import Derived.Test.YtbgiklkpinflaaaGreatNil3
import Derived.Test.YtbgiklkpinflaaaGreatLaw
namespace Go.Proofs.YtbgiklkpinflaaaGreat
open Go.RowKit Go.Shelf
attribute [local go_sem ↓] Go.wp_at_zero Go.wp_at_succ

set_option maxRecDepth 100000 in
set_option maxHeartbeats 4000000 in
theorem nil_calls (w : World) (i : Int) (A : Option Addr) (n c : Nat) (k : ByteArray) :
    Calls Tryz.prog 10 #[.int .i64 i, .slice A n c, .string k] w fun e w' => e = .returned (.bool true) ∧ Below w.heap.size w w' := by
  have HB0 := Lib.hid (Below.refl w.heap.size w)
  go_enter Tryz.func10, Tryz.ntmps10
  go_wp2_with (first
    | (go_at_call 12; refine (awake_calls _).mono ?_; rintro e w7 ⟨rfl, hb7⟩; have HB7 := Lib.hid (below_next HB6.out hb7); clear hb7)
    | (have HB5' := HB5; go_at_call 47; refine (noSnap_calls (noSnap_new w5) k).mono ?_; rintro e w6 ⟨rfl, hb6⟩; have HB6 := Lib.hid (below_next (below_alloc HB5.out _) hb6); clear hb6)
    | (go_at_call 47; refine (noSnap_calls (.inl rfl) k).mono ?_; rintro e w5 ⟨rfl, hb5⟩; have HB5 := Lib.hid (below_next HB4.out hb5); clear hb5)
    | (have HB3' := HB3; go_at_call 46; refine (noStore_calls (noStore_new w3) k A n c).mono ?_; rintro e w4 ⟨rfl, hb4⟩; have HB4 := Lib.hid (below_next (below_alloc HB3.out _) hb4); clear hb4)
    | (go_at_call 46; refine (noStore_calls (.inl rfl) k A n c).mono ?_; rintro e w3 ⟨rfl, hb3⟩; have HB3 := Lib.hid (below_next HB2.out hb3); clear hb3)
    | (have HB1' := HB1; go_at_call 45; refine (noDisk_calls (noDisk_new w1) i A n c).mono ?_; rintro e w2 ⟨rfl, hb2⟩; have HB2 := Lib.hid (below_next (below_alloc HB1.out _) hb2); clear hb2)
    | (go_at_call 45; refine (noDisk_calls (.inl rfl) i A n c).mono ?_; rintro e w1 ⟨rfl, hb1⟩; have HB1 := Lib.hid (below_next HB0.out hb1); clear hb1))
  go_ret
  exact ⟨rfl, HB7.out⟩

end Go.Proofs.YtbgiklkpinflaaaGreat
